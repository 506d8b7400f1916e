/- Texts in a row: BkSpoilt. -/
import Derived.Test.YtnhgfhbicaiilaaMgSpoF
/- The walk of BookSpoilt. -/
namespace Go.Proofs.Ytnhgfhbicaiilaa
open Go.RowKit Book Reel
set_option linter.unusedVariables false

/-- how many bytes stand ahead of the last -/
def AheadOf (L : List (List ByteArray)) (h : Nat) : Prop := (L = [] ∧ h = 0) ∨ ∃ M rs, L = M ++ [rs] ∧ h = (deedsL crcP (M.map lists)).length
/-- where the law stands ahead of a round -/
def SpoiltAt (B : Nat) (w0 w : World) (p b : Nat) (wv : Value) (n : Nat) (i h : Nat) : Prop :=
  ∃ (K : Nat → Prop) (S : St) (L : List (List ByteArray)), Mid B w0 w p b K S n S.life false ∧ Wanted B w0 w K wv L ∧ Calm S (L.map lists) ∧ L.length ≤ i ∧ AheadOf L h
theorem turned_at (a : Int) (h z : Nat) (h1 : h + 8 ≤ z) (h2 : z ≤ 4194304) : ∃ k : Nat, wrap64 ((h : Int) + 4 + wrap64 ((IntKind.u64.wrap a).tmod ((z : Int) - h - 4))) = k ∧ h + 4 ≤ k ∧ k < z := by
  have hp : (0 : Int) < (z : Int) - h - 4 := by omega
  have hw : 0 ≤ IntKind.u64.wrap a := by rw [IntKind.wrap_u64]; omega
  have r0 := Int.tmod_nonneg ((z : Int) - h - 4) hw
  have r1 := Int.tmod_lt_of_pos (IntKind.u64.wrap a) hp
  obtain ⟨r, hr⟩ : ∃ r, (IntKind.u64.wrap a).tmod ((z : Int) - h - 4) = r := ⟨_, rfl⟩
  rw [hr] at r0 r1 ⊢
  have e1 : wrap64 r = r := by unfold wrap64; omega
  rw [e1]
  have e2 : wrap64 ((h : Int) + 4 + r) = h + 4 + r := by unfold wrap64; omega
  rw [e2]
  exact ⟨(h + 4 + r).toNat, by omega, by omega, by omega⟩
theorem bx_get (T : List UInt8) (k : Nat) (h : k < (bx T).size) (h' : k < T.length) : (bx T)[k] = T[k] := rfl
theorem want_cap {w0 w : World} {B n c : Nat} {a : Option Addr} {L : List (List ByteArray)} (h : Want w0 w B (.slice a n c) L) (h0 : L.length ≠ 0) : n ≤ c ∧ ∃ g, a = some ⟨g, 0, none⟩ := by
  obtain ⟨vs, h1, -⟩ := h
  rcases h1.2 with ⟨e, e0⟩ | ⟨g, cap, cur, e, hb, hg, hn, hc, hsz, htk⟩
  · exact absurd e0 h0
  · injection e with e1 e2 e3
    exact ⟨by omega, g, e1⟩
theorem GridIn.front {G : Nat → Prop} {w : World} {a : Option Addr} {n : Nat} {M : List (List ByteArray)} {rs : List ByteArray} (h : GridIn G w a n (M ++ [rs])) : GridIn G w a M.length M := by
  obtain ⟨h1, h2, h3⟩ := h
  rw [List.length_append] at h1
  simp only [List.length_cons, List.length_nil] at h1
  refine ⟨rfl, by omega, ?_⟩
  by_cases h0 : M.length = 0
  · exact .inl h0
  obtain ⟨b, off, ha, hb, hc⟩ := h3.resolve_left (by omega)
  refine .inr ⟨b, off, ha, hb, fun j hj => ?_⟩
  have e : (M ++ [rs])[j]'(by rw [List.length_append]; omega) = M[j] := List.getElem_append_left hj
  have := hc j (by rw [List.length_append]; omega)
  rw [e] at this
  exact this
theorem GridIn.lies {G : Nat → Prop} {w : World} {a : Option Addr} {n : Nat} {L : List (List ByteArray)} (h : GridIn G w a n L) : GridIn (fun k => k < w.heap.size) w a n L := by
  obtain ⟨h1, h2, h3⟩ := h
  refine ⟨h1, h2, ?_⟩
  by_cases h0 : n = 0
  · exact .inl h0
  obtain ⟨b, off, ha, hb, hc⟩ := h3.resolve_left h0
  refine .inr ⟨b, off, ha, ?_, fun j hj => ?_⟩
  · obtain ⟨a', c', e, -⟩ := hc 0 (by omega)
    exact World.block_lt_of_cell? w _ e
  · obtain ⟨a', c', e, hs, -⟩ := hc j hj
    refine ⟨a', c', e, hs, fun hn b' off' ha' => ?_⟩
    obtain ⟨b2, off2, ha2, hc2⟩ := hs.2.2.resolve_left hn
    rw [ha'] at ha2
    injection ha2 with ha2
    injection ha2 with e1 e2 e3
    subst e1 e2
    exact World.block_lt_of_cell? w _ (hc2 0 (by omega))
theorem ownsRow_one (w : World) (v : Value) (e : TypeId) : ((w.alloc (.cells #[v] e)).drew).ownsRow w.heap.size e 1 (.slice (some ⟨w.heap.size, 0, none⟩) 1 1) 1 [v] :=
  ⟨rfl, .inr ⟨w.heap.size, 1, #[v], rfl, Nat.le_refl _, heap_alloc_new w _, Nat.le_refl _, by unfold maxLen; omega, rfl, rfl⟩⟩
set_option maxRecDepth 100000 in
set_option maxHeartbeats 8000000 in
theorem walk_BookSpoilt (a0 : Option Addr) (n0 c0 : Nat) (at_ by_ : Int) (w : World) (h0 : DeedsAt w a0 n0) (h1 : -9223372036854775808 ≤ at_ ∧ at_ ≤ 9223372036854775807) (h2 : 0 ≤ by_ ∧ by_ ≤ 255) :
    Calls Try.prog 4 #[.slice a0 n0 c0, .int .i64 at_, .int .u8 by_] w fun e w' => e = .returned (.bool true) ∧ Below w.heap.size w w' := by
  obtain ⟨B, hB⟩ : ∃ B, w.heap.size = B := ⟨_, rfl⟩
  have HBW := hid hB
  have HW0 := hid h0
  have hn0 := h0.1
  rw [hB]; clear hB h0
  obtain ⟨h1a, h1b⟩ := h1
  obtain ⟨y, rfl⟩ : ∃ y : UInt8, by_ = (y.toNat : Int) := ⟨UInt8.ofNat by_.toNat, by rw [UInt8.toNat_ofNat']; omega⟩
  clear h2
  obtain ⟨i0, hi0, hz0, hz1, hz2⟩ := info_parts Try.infoSl
  go_enter Try.func4, Try.ntmps4
  go_wp2_with fail
  refine (awake17_any _).mono ?_; rintro e w1 ⟨rfl, b1⟩
  have L1 : Hid (Below B w w1) := by rw [HBW.out] at b1; exact b1
  have B1 : B ≤ w1.heap.size := by have := L1.out.size; rw [HBW.out] at this; exact this
  clear b1
  by_cases hby : y.toNat = 0
  · have hb0 : (y.toNat : Int) = 0 := by omega
    go_wp2_with fail
    go_ret
    exact ⟨rfl, L1.out⟩
  have hbb : ((y.toNat : Int) == 0) = false := by rw [beq_eq_false_iff_ne]; omega
  have HY := hid hby
  clear hby
  go_wp2_with fail
  refine (new_K (K := fun k => k < B) 4194304 (fun k h => Nat.lt_of_lt_of_le h B1)).mono ?_; rintro e w2 ⟨p, rfl, d0, b1⟩
  have L2 : Hid (Below B w w2) := L1.out.trans (b1.mono B1)
  have B2 : B ≤ w2.heap.size := Nat.le_trans B1 b1.size
  have D0 := hid d0
  have C0 := hid (calm_new 4194304)
  have F0 : Hid ((new 4194304).Fits 0) := ⟨Nat.le_refl _, Nat.le_refl _, by show (0 : Nat) ≤ _; omega⟩
  clear d0 b1 L1 B1
  obtain ⟨S0, hS0⟩ : ∃ S0, new 4194304 = S0 := ⟨_, rfl⟩
  rw [hS0] at D0 C0 F0
  clear hS0
  go_wp2_with fail
  refine (open_K (fun k => k < B) p S0 J w2 0 F0.out (by decide) D0.out (by decide)).mono ?_
  rintro e w3 ⟨hp, ho⟩
  have hco := calm_open C0.out
  rcases hp with ⟨-, b, a, c, G, rfl, hd, hbk, hGb, hgr, hG⟩ | ⟨h1, -⟩
  case inr => exact absurd (by rw [hco]) h1
  rw [hco] at hd hbk hgr ⊢
  simp only at hd hbk hgr ⊢
  have L3 : Hid (Below B w w3) := Only.low1 L2.out B2 ho (fun k h => h)
  have B3 : B ≤ w3.heap.size := Nat.le_trans B2 ho.size
  have hBb : B ≤ b := Nat.le_trans B2 (hG b hGb).1
  have HM3 : Hid (Mid B w w3 p b (fun k => k < B ∨ G k) S0 4 S0.life false) := ⟨⟨hd, hbk, .inr hGb⟩, fits_more F0.out (by omega), fun k hk => .inl hk, hBb, L3.out, B3⟩
  clear hd hbk hGb hgr hG ho hco D0 L2 B2 L3 F0
  go_upto_block 0 with fail
  go_cut [11, 12] (fun s11 s12 wx => ∃ (i h : Nat), i ≤ 30 ∧ s12 = .int .i64 h ∧ Hid (SpoiltAt B w wx p b s11 (4 * i + 4) i h))
  case first =>
    go_wp2_with fail
    go_loopw [11, 12, 13] (fun wv hv iv wr => ∃ i h : Nat, i ≤ n0 ∧ i ≤ 30 ∧ iv = .int .i64 i ∧ hv = .int .i64 h ∧ Hid (SpoiltAt B w wr p b wv (4 * i + 4) i h)) (fun _ _ iv _ => n0 - (intOf iv).toNat)
    case atStart =>
      exact ⟨0, 0, Nat.zero_le _, Nat.zero_le _, rfl, rfl, _, S0, [], HM3.out.alloc _, Wanted.made B3 (.bool true) rfl, C0.out, Nat.le_refl _, .inl ⟨rfl, rfl⟩⟩
    case round =>
      obtain ⟨i, h, hi, hi30, rfl, rfl, hg⟩ := hrel
      obtain ⟨K, S, L, hm, hw, hc, hLi, hah⟩ := hg.out
      have HM := hid hm; have HW := hid hw; have HC := hid hc; have HA := hid hah
      have hBr : B ≤ wr.heap.size := hm.size
      obtain ⟨wa, wc, rfl⟩ := wanted_slice hw
      clear hc hm hw hg hah HM3 B3 C0
      by_cases hgo : i < n0 ∧ i < 30
      · obtain ⟨hin, hi3⟩ := hgo
        have g1 : (i : Int) < n0 := by omega
        have g2 : (i : Int) < 30 := by omega
        have g0 : (0 : Int) ≤ (i : Int) := by omega
        obtain ⟨ab, aoff, ra, rn, rc, rs, rnew, rfl, hab, hd0, hd1, hds, hdz⟩ := deeds_get HW0.out hin
        have lift : ∀ wq, Below B w wq → ∀ (o : Nat) (v : Value), w.cell? ⟨ab, o, none⟩ = some v → wq.cell? ⟨ab, o, none⟩ = some v := fun wq hq o v h => (hq.cell (by have := HBW.out; show ab < B; omega)).trans h
        have HL := hid (fun wq (hq : Below B w wq) => lift wq hq _ _ hd0)
        obtain rfl : rs.length = rn := hds.1
        have HDS := hid hds; have HDZ := hid hdz
        have q0 : wr.cell? ⟨ab, aoff + i * 2, none⟩ = some (.slice ra rs.length rc) := HL.out wr HM.out.bel
        have HS1 : Hid (StrsAt wr ra rs.length rs) := HDS.out.later (by rw [HBW.out]; exact HM.out.bel)
        have HDZ2 : Hid (∀ x ∈ rs, x.size ≤ 9223372036854775807) := fun x hx => by have := HDZ.out x hx; omega
        have HLS : Hid (S.life ≤ 9223372036854775807) := by have := HM.out.fits; show _ ≤ _; unfold St.Fits at this; omega
        clear lift hd0 hd1 hds hdz
        go_wp2_with fail
        refine (great_any _ _ _ rs wr HS1.out HDZ.out).mono ?_; rintro e w' ⟨rfl, rfl⟩
        cases hgr : greatB rs
        case true =>
          go_wp2_with fail
          go_ret
          exact ⟨rfl, HM.out.bel⟩
        case false =>
        clear hgr
        go_wp2_with fail
        refine (bsize_K HM.out.on.disk HM.out.on.book).mono ?_; rintro e wq ⟨rfl, bq⟩
        rw [calm_size HC.out]
        obtain ⟨H, hH⟩ : ∃ H, (deedsL crcP (L.map lists)).length = H := ⟨_, rfl⟩
        have HH := hid hH
        rw [hH]
        have HMq := hid (HM.out.step (G := NoF) (Only.of_below bq NoF) (fun k e => e.elim))
        have HWq := hid (HW.out.only (G := NoF) (K' := Grew K wr wq) (Only.of_below bq NoF) (fun k _ e => e) (fun k hk => .inl hk))
        have HSq : Hid (StrsAt wq ra rs.length rs) := HDS.out.later (by rw [HBW.out]; exact HMq.out.bel)
        have q1 := HL.out wq HMq.out.bel
        clear bq hH HM HW HS1 q0
        go_wp2_with fail
        refine (add_E _ _ _ rs HMq.out.on HMq.out.fits (by unfold big; omega) HLS.out (by decide) HSq.out HDZ2.out).mono ?_
        rintro e wx ⟨rfl, he, ho⟩
        have hp := calm_add HC.out (lists rs)
        have hf := add_fits HMq.out.fits J S.life false (lists rs)
        obtain ⟨r, hr⟩ : ∃ r, addB S J S.life false (lists rs) = r := ⟨_, rfl⟩
        rw [hr] at he hp hf ⊢
        obtain ⟨hdead, hp⟩ := hp
        rw [hdead] at he
        have hw := HWq.out.deed HMq.out.on.book ho
        have hm := HMq.out.deed he ho hf
        have HW2 := hid hw
        have q2 := HL.out wx hm.bel
        rcases hp with ⟨e1, -, e3, e4⟩ | ⟨e1, e2, e3⟩
        · rw [e1]
          rw [← e4] at hm
          have e3 : Calm r.1 ((L ++ [rs]).map lists) := by rw [List.map_append]; exact e3
          have HM2 := hid hm; have HC2 := hid e3
          obtain ⟨vs, hv1, hv2⟩ := hw.1
          have HV1 := hid hv1; have HV2 := hid hv2
          have hsz : B ≤ wx.heap.size := hm.size
          clear he hf hr hdead hw hm ho e1 e3 e4 hv1 hv2 HMq HWq HSq q1
          go_wp2_with (at_builtin; refine wpList_append_own_at _ rfl (.tmp 61) (.tmp 67) 29 rfl B 33 i0 (.slice none 0 0) 1 24 Try.underlying29 hi0 hz0 hz1 hz2 rfl (by decide) (.slice wa L.length wc) _ _ rfl (HV1.out.alloc _) _ 1 1 [.slice ra rs.length rc] rfl rfl (cellNew1 _ _ _) (one_bytes rfl) (by unfold maxLen; omega) (by omega) (by simp; omega) ?_; intro v' w7 hown' hgrow _ hat; have HO7 := hid hown'; have HG7 := hid hgrow; have HA7 := hid hat; clear hown' hgrow hat)
          go_roundw
          case rel =>
            repeat apply Exists.intro
            refine ⟨?_, rfl⟩
            exact ⟨i + 1, H, by omega, by omega, by go_num, rfl, _, r.1, L ++ [rs], (by have h := HM2.out.pushed HW2.out.2 HV1.out HG7.out; rwa [show 4 * i + 4 + 4 = 4 * (i + 1) + 4 by omega] at h), HW2.out.pushed HV2.out HV1.out HDS.out HO7.out HG7.out HA7.out, HC2.out, by simp; omega, .inr ⟨L, rs, rfl, HH.out.symm⟩⟩
          case measure => simp [intOf]; omega
        · have hne : (r.2.1 == 0) = false := by simpa using e1
          rw [e2] at hm
          have HM2 := hid hm
          clear he hf hr hdead hw hm ho e2 e3 HMq HWq HSq q1
          go_wp2_with fail
          go_roundw
          case rel =>
            repeat apply Exists.intro
            refine ⟨?_, rfl⟩
            exact ⟨i + 1, h, by omega, by omega, by go_num, rfl, _, S, L, (by have h := HM2.out; rwa [show 4 * i + 4 + 4 = 4 * (i + 1) + 4 by omega] at h), HW2.out, HC.out, by omega, HA.out⟩
          case measure => simp [intOf]; omega
      · have gn : ¬ (i : Int) < n0 ∨ (i : Int) < n0 ∧ ¬ (i : Int) < 30 := by omega
        rcases gn with gn | ⟨gn, gn2⟩
        all_goals
          go_wp2_with fail
          go_meet
          case rel => exact ⟨i, h, hi30, rfl, K, S, L, HM.out, HW.out, HC.out, hLi, HA.out⟩
  case rest =>
    obtain ⟨i, h, hi30, rfl, K, S, L, hm, hw, hc, hLi, hah⟩ := hcut
    have HM := hid hm; have HW := hid hw; have HC := hid hc
    obtain ⟨wa, wcc, rfl⟩ := wanted_slice hw
    clear hm hw hc HM3 B3 C0
    rcases hah with ⟨rfl, rfl⟩ | ⟨M, rs, rfl, hhh⟩
    · go_wp2_with fail
      go_ret
      exact ⟨rfl, HM.out.bel⟩
    obtain ⟨n, hn⟩ : ∃ n, (M ++ [rs]).length = n := ⟨_, rfl⟩
    have hn1 : n = M.length + 1 := by rw [← hn]; simp
    have hML : Hid (M.length + 1 = n) := hn1.symm
    rw [hn] at HW hLi ⊢
    have hnz : ((n : Int) == 0) = false := by rw [beq_eq_false_iff_ne]; omega
    obtain ⟨cr, crl⟩ := calm_read HC.out (by simp)
    have cl := snoc_len (M.map lists) (lists rs)
    have hval := HC.out.valid
    have ems : (M ++ [rs]).map lists = M.map lists ++ [lists rs] := List.map_append
    rw [ems] at cr crl hval
    obtain ⟨T, hT⟩ : ∃ T, deedsL crcP (M.map lists ++ [lists rs]) = T := ⟨_, rfl⟩
    rw [hT] at cr crl cl
    rw [← hhh] at cl
    have HT := hid hT; have HVAL := hid hval; have HHH := hid hhh
    have hbz : (bx T).size = T.length := bx_size T
    have HCR : Hid (∀ v, DK K v p S → Calls Try.prog 14 #[.pointer (some ⟨p, 0, none⟩), .string J] v fun e w' => e = .returned (.tuple #[.string (bx T), .int .i64 0]) ∧ v = w') := fun v hv => by have := read_K J hv; rwa [cr] at this
    obtain ⟨Z, hZ⟩ : ∃ Z, bx T = Z := ⟨_, rfl⟩
    have HZ := hid hZ
    rw [hZ] at hbz HCR
    have t1 : h + 8 ≤ Z.size := by omega
    have t2 : Z.size ≤ 4194304 := by omega
    have HTL : Hid (T.length = Z.size) := hbz.symm
    clear hT hval hhh hbz hZ cr crl cl hn hn1 ems
    go_wp2_with fail
    refine (HCR.out _ HM.out.on.disk).mono ?_; rintro e w' ⟨rfl, rfl⟩
    go_upto_region 26 with fail
    obtain ⟨k, hk, k1, k2⟩ : ∃ k : Nat, wrap64 ((h : Int) + 4 + wrap64 ((IntKind.u64.wrap at_).tmod ((Z.size : Int) - h - 4))) = k ∧ h + 4 ≤ k ∧ k < Z.size := turned_at at_ h Z.size (by omega) t2
    rw [hk]
    have HK := hid k1
    have j0 : (0 : Int) ≤ (k : Int) := by omega
    have j1 : (k : Int) < (Z.size : Int) := by omega
    have j2 : (k : Int) ≤ (Z.size : Int) := by omega
    have j3 : (k : Int) + 1 ≤ (Z.size : Int) := by omega
    clear hk k1
    obtain ⟨q, hq⟩ : ∃ q, Z[k] ^^^ y = q := ⟨_, rfl⟩
    have hx : bits .xor .u8 (Z[k].toNat : Int) (y.toNat : Int) = (q.toNat : Int) := by
      rw [u8_xor_nat _ _ (Z[k]).toNat_lt y.toNat_lt, ← hq, UInt8.toNat_xor]
    have hconv := conv_own (w := (wc.alloc (.cells #[.int .u8 (q.toNat : Int)] 5)).drew) (B := wc.heap.size) (l := [q]) (v := .slice (some ⟨wc.heap.size, 0, none⟩) 1 1) (ownsRow_one wc _ _)
    have HQ := hid hq
    have hcc : ¬ 9223372036854775807 < (Z.extract 0 k).size + 1 := by rw [ByteArray.size_extract]; omega
    have hcd : ¬ 9223372036854775807 < (Z.extract 0 k ++ ⟨#[q]⟩).size + (Z.extract (k + 1) Z.size).size := by rw [ByteArray.size_append, ByteArray.size_extract, ByteArray.size_extract]; show ¬ _ < _ + 1 + _; omega
    clear hq
    go_cut [17] (fun s17 wx => s17 = .string (Z.extract 0 k ++ ⟨#[q]⟩ ++ Z.extract (k + 1) Z.size) ∧ Hid (Below wc.heap.size wc wx))
    case first =>
      go_region
      all_goals
        go_wp2_with fail
        go_meet
        case rel => exact ⟨rfl, ((Below.refl _ _).alloc (Nat.le_refl _) _).drew⟩
    case rest =>
    obtain ⟨rfl, HBC⟩ := hcut
    have hkT : k < T.length := by rw [HTL.out]; exact k2
    have hgz : Z[k] = T[k] := by
      subst Z
      exact bx_get T k k2 hkT
    have hturn : Z.extract 0 k ++ ⟨#[q]⟩ ++ Z.extract (k + 1) Z.size = bx (T.set k q) := by
      rw [← HZ.out, bx_size]; exact turned T k q hkT
    have hqne : q ≠ T[k] := by
      rw [← HQ.out, hgz]
      intro e
      have e2 : y = 0 := by
        have := congrArg (fun z => T[k] ^^^ z) e
        simpa [← UInt8.xor_assoc] using this
      exact HY.out (by rw [e2]; rfl)
    have hread : readR crcP (T.set k q) = (M.map lists, h) := by
      subst T
      rw [HHH.out]
      exact read_spoilt (M.map lists) (lists rs) HVAL.out k q (by rw [← HHH.out]; exact HK.out) hkT hqne
    obtain ⟨U, hU⟩ : ∃ U, T.set k q = U := ⟨_, rfl⟩
    have hul : U.length = Z.size := by rw [← hU, List.length_set]; exact HTL.out
    rw [hU] at hturn hread
    obtain ⟨Y, hY⟩ : ∃ Y, bx U = Y := ⟨_, rfl⟩
    have hyz : Y.size ≤ 4194304 := by rw [← hY, bx_size]; omega
    have hyd : Y.data.toList = U := by rw [← hY, bx_list]
    rw [hturn, hY]
    obtain ⟨f1, f2, f3, f4, f5⟩ := append_fresh Y hyz
    rw [hyd] at f2
    obtain ⟨o1, o2, o3, o4, o5⟩ := open_part (sf := 0) f2 f3 f4 (upd_other _ _ J_tilde) (upd_self _ _ _) hread (by omega)
    have o6 := open_part_size (sf := 0) f2 f3 f4 (upd_other _ _ J_tilde) (upd_self _ _ _) hread (by omega)
    have FN : Hid ((new 4194304).Fits 0) := ⟨Nat.le_refl _, Nat.le_refl _, by show (0 : Nat) ≤ _; omega⟩
    have FA : Hid ((appendS (new 4194304) J Y).1.Fits 1) := (append_near _ J Y).fits FN.out
    obtain ⟨S1, hS1⟩ : ∃ S1, (appendS (new 4194304) J Y) = S1 := ⟨_, rfl⟩
    have HS1 := hid hS1
    rw [hS1] at f1 o1 o6 FA
    clear hU hul hY hyd hturn hread hgz hqne f2 f3 f4 f5 o2 o3 o4 o5 hS1
    have HBX : Hid (Below B w wc) := HM.out.bel.trans (HBC.out.mono HM.out.size)
    have HWX : Hid (Want w wc B (.slice wa n wcc) (M ++ [rs])) := want_only HW.out.1 (Only.of_below HBC.out NoF) (fun k _ e => e)
    have HSX : B ≤ wc.heap.size := Nat.le_trans HM.out.size HBC.out.size
    clear HM HW HBC HC
    go_wp2_with fail
    refine (new_K (K := fun k => k < wc.heap.size) 4194304 (fun k h => h)).mono ?_; rintro e wd ⟨pc, rfl, dd, bd⟩
    have HBD : Hid (Below B w wd) := HBX.out.trans (bd.mono HSX)
    have HSD : B ≤ wd.heap.size := Nat.le_trans HSX bd.size
    have HD := hid dd; have HBW2 := hid bd
    clear dd bd
    go_wp2_with fail
    refine (append_K 0 J Y HD.out FN.out (by decide) (by decide) (by omega)).mono ?_; rintro e we ⟨rfl, de, oe⟩
    rw [HS1.out] at de ⊢
    rw [f1]
    have HBE : Hid (Below B w we) := Only.low1 HBD.out HSD oe (fun k hk => Nat.lt_of_lt_of_le hk HSX)
    have HSE : B ≤ we.heap.size := Nat.le_trans HSD oe.size
    have HDE := hid de; have HOE := hid oe
    clear de oe HD
    go_wp2_with fail
    refine (open_K _ pc S1.1 J we 1 FA.out (by decide) HDE.out (by decide)).mono ?_
    rintro e wf ⟨hp, ho⟩
    rcases hp with ⟨-, b4, a4, c4, G4, rfl, hd, hbk, hGb, hgr, hG⟩ | ⟨h1, -⟩
    case inr => exact absurd (by rw [o1]) h1
    rw [o1] at hgr ⊢
    simp only at hgr ⊢
    rw [grid_lists, List.length_map] at hgr
    have HBF : Hid (Below B w wf) := Only.low1 HBE.out HSE ho (fun k hk => Nat.lt_of_lt_of_le hk HSX)
    have HSF : B ≤ wf.heap.size := Nat.le_trans HSE ho.size
    have HGR5 := hid hgr
    have hw1 := HWX.out.grid (by simp; exact hML.out.symm) (by omega) (by rw [HBW.out]; exact HBX.out)
    obtain ⟨hcap, g, rfl⟩ := want_cap HWX.out (by simp)
    have hon : Only (fun k => ¬ k < wc.heap.size) wc wf := ((Only.of_below HBW2.out _).then HOE.out).then ho
    have hw2 : GridIn (fun k => k < wc.heap.size) wf (some ⟨g, 0, none⟩) n (M ++ [rs]) := by
      exact hw1.lies.only hon (fun k hk e => e hk)
    have HWG := hid hw2.front
    have HDF := hid hd
    have HO6 := hid o6
    have z1 : (n : Int) - 1 = M.length := by have := hML.out; omega
    have z2 : (0 : Int) ≤ M.length := by omega
    have z3 : (M.length : Int) ≤ wcc := by have := hML.out; omega
    clear hd hbk hGb hgr hG ho o1 o6 hw1 hw2 hcap hon
    go_upto_region 31 with fail
    go_wp2_with (first
      | (go_at_call 12; refine (same_self M _ HGR5.out HWG.out).mono ?_; rintro e wg ⟨rfl, b5⟩; have HBG : Hid (Below B w wg) := HBF.out.trans (b5.mono HSF); have HDG := hid (HDF.out.below b5); clear b5)
      | (go_at_call 16; refine (size_K J HDG.out).mono ?_; rintro e wh ⟨rfl, rfl⟩; rw [HO6.out]))
    go_ret
    exact ⟨rfl, HBG.out⟩
end Go.Proofs.Ytnhgfhbicaiilaa
