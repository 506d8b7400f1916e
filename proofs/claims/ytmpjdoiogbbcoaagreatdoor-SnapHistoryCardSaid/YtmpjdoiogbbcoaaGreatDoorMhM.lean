/- Texts in a row: LkH. -/
import Derived.Test.YtmpjdoiogbbcoaaGreatDoorMhL
/- Objects that come: sweep.Admit. -/
namespace Go.Proofs.YtmpjdoiogbbcoaaGreatDoor
open Go.RowKit Book Pap Ojt Sn
set_option linter.unusedVariables false
set_option linter.unusedSimpArgs false

theorem dec_ObN {l : List UInt8} {x : Ob} (h : dec l = some x) : ObN x := by
 have hg := dec_good h
 cases l with
 | nil => cases h
 | cons k s =>
  unfold dec at h
  simp only at h
  by_cases h1 : k = 1
  ·rw [if_pos h1] at h
   split at h
   ·cases h
    exact ⟨⟨by show (-9223372036854775808 : Int) ≤ 1; decide, by show (1 : Int) ≤ 9223372036854775807; decide⟩, ⟨by show (-9223372036854775808 : Int) ≤ 0; decide, by show (0 : Int) ≤ 9223372036854775807; decide⟩, Nat.zero_le _⟩
   ·cases h
  ·rw [if_neg h1] at h
   by_cases h2 : k = 2
   ·rw [if_pos h2] at h
    split at h
    ·cases h
     have ht := good_tree hg rfl
     exact ⟨⟨by show (-9223372036854775808 : Int) ≤ 2; decide, by show (2 : Int) ≤ 9223372036854775807; decide⟩, ⟨by show (-9223372036854775808 : Int) ≤ 0; decide, by show (0 : Int) ≤ 9223372036854775807; decide⟩, Nat.le_trans ht.1 (by decide)⟩
    ·cases h
   ·rw [if_neg h2] at h
    by_cases h3 : k = 3
    ·rw [if_pos h3] at h
     split at h
     ·cases h
      have hc := good_commit hg rfl
      exact ⟨⟨by show (-9223372036854775808 : Int) ≤ 3; decide, by show (3 : Int) ≤ 9223372036854775807; decide⟩, ⟨by have := hc.2.2.1; omega, by have := hc.2.2.2.1; omega⟩, Nat.zero_le _⟩
     ·cases h
    ·rw [if_neg h3] at h; cases h
/-- what Admit hands back -/
def AdmitOut (w : World) (r : List Sw.It × Int) (e : Ending) (w' : World) : Prop :=
 ∃ a c, e = .returned (.tuple #[.slice a r.1.length c, .int .i64 r.2]) ∧ FisAt w' a r.1.length (itFi r.1) ∧ Below w.heap.size w w'
theorem admit_none (w w' : World) (er : Int) (hb : Below w.heap.size w w') : AdmitOut w ([], er) (.returned (.tuple #[.slice none 0 0, .int .i64 er])) w' :=
 ⟨none, 0, rfl, ⟨rfl, by show 0 ≤ 9223372036854775807; omega, .inl rfl⟩, hb⟩
theorem itFi_snoc (l : List Sw.It) (x : Sw.It) : itFi (l ++ [x]) = itFi l ++ [⟨x.id, x.data⟩] := by unfold itFi; rw [List.map_append]; rfl
theorem itFi_len (l : List Sw.It) : (itFi l).length = l.length := by unfold itFi; rw [List.length_map]
theorem own_its {w : World} {B : Nat} {a : Option Addr} {n c : Nat} {l : List Fi} (h : w.ownsRow B 80 2 (.slice a n c) n (fivals l)) (hl : l.length = n) (hm : n ≤ 9223372036854775807) : FisAt w a n l := by
 have h' := h
 rcases h.2 with ⟨e, h0⟩ | ⟨g, cap, cur, e, hb, hg, hn, hc, hsz, htk⟩
 ·exact ⟨hl, hm, .inl h0⟩
 ·injection e with e1 e2 e3
  subst e1
  refine ⟨hl, hm, .inr ⟨g, 0, rfl, fun j hj => ?_⟩⟩
  obtain ⟨h1, h2⟩ := fivals_get l j (by omega)
  have c0 := h'.cellAt (j * 2) (by omega)
  have c1 := h'.cellAt (j * 2 + 1) (by omega)
  rw [Nat.zero_add]
  exact ⟨c0.trans h1, c1.trans h2⟩
theorem below_map {g m : Nat} {a w w' : World} (h : Below g a w) (hg : w.grownBy w' (some m)) (hgm : g ≤ m) (hgs : g ≤ w.heap.size) : Below g a w' :=
 h.grown hg hgs (fun j hj => by cases hj; exact hgm)
set_option maxRecDepth 100000 in
set_option maxHeartbeats 16000000 in
theorem admit_any (t : TypeId) (rv : Value) (G : Sw.Src) (hz : SrcSz G) (a : Option Addr) (n c : Nat) (L : List ByteArray) (w : World) (hs : SrcAt w t rv G) (hL : StrsAt w a n L) (hn : n ≤ 1000000) (hLz : ∀ s ∈ L, s.size ≤ 1000000000) :
  Calls Tryz.prog 22 #[.iface t rv, .slice a n c] w (AdmitOut w (Sw.admitS G L)) := by
 obtain ⟨i0, hi0, hz0, hz1, hz2⟩ := info_parts Tryz.infoIt
 have hmk : ∀ (T : TypeId) (W : World), (Instr.makeMap T none).run Tryz.prog W = .ok (.map (some W.heap.size)) (W.alloc (.map #[] 0)) := fun T W => run_makeMap T W
 have HS := hid hs
 have HLs := hid hL
 have HLL := hid hL.1
 have HLZ := hid hLz
 clear hs hL hLz
 have HM1 : Hid (StrMap ((w.alloc (.map #[] 0)).alloc (.cells #[.iface t rv, .map (some w.heap.size)] 140)) w.heap.size 0 (Sw.getI [])) := by
  have h : StrMap (w.alloc (.map #[] 0)) w.heap.size 0 (fun _ => none) := MapFn.made w
  exact h.later ((Below.refl _ _).alloc (Nat.le_refl _) _)
 have HX1 : Hid (Blk ((w.alloc (.map #[] 0)).alloc (.cells #[.iface t rv, .map (some w.heap.size)] 140)) (w.alloc (.map #[] 0)).heap.size 140 #[.iface t rv, .map (some w.heap.size)]) := Blk.new _ _ _
 have HB1 : Hid (Below w.heap.size w ((w.alloc (.map #[] 0)).alloc (.cells #[.iface t rv, .map (some w.heap.size)] 140))) := ((Below.refl _ _).alloc (Nat.le_refl _) _).alloc (by rw [World.size_alloc]; omega) _
 have HZG := hid (World.size_alloc w (.map #[] 0))
 go_enter Tryz.func22, Tryz.ntmps22
 go_upto_region 2 with fail
 generalize ((w.alloc (.map #[] 0)).alloc (.cells #[.iface t rv, .map (some w.heap.size)] 140)) = w1 at HM1 HX1 HB1 ⊢
 rw [HZG.out] at HX1
 obtain ⟨g, hg⟩ : ∃ g, w.heap.size = g := ⟨_, rfl⟩
 have HG := hid hg
 rw [hg] at HM1 HX1 HB1 ⊢
 clear hg HZG
 obtain ⟨gh, hge⟩ : ∃ gh, g + 1 = gh := ⟨_, rfl⟩
 have hgh : g < gh := by omega
 rw [hge] at HX1 ⊢
 clear hge
 go_wp2_with fail
 go_loopw [7, 23] (fun ov iv wr => ∃ (i : Nat) (came out : List Sw.It), i ≤ n ∧ out.length ≤ i ∧ iv = .int .i64 i ∧ Hid (wr.ownsRow g 80 2 ov out.length (fivals (itFi out))) ∧ Hid (Blk wr gh 140 #[.iface t rv, .map (some g)]) ∧ Hid (StrMap wr g i (Sw.getI came)) ∧ Hid (Below g w wr) ∧ Hid (Sw.admitS G L = Sw.admitF G (L.drop i) came out) ∧ Hid (∀ x ∈ came, x.data.size ≤ 1000000000)) (fun _ iv _ => n - (intOf iv).toNat)
 case atStart => exact ⟨0, [], [], Nat.zero_le _, Nat.le_refl _, rfl, World.ownsRow_nil _ _ _ _, HX1, HM1, HB1, rfl, fun x hx => by cases hx⟩
 case round =>
  obtain ⟨i, came, out, hi, hoi, rfl, HO, HX, HM, HB, HE, HC⟩ := hrel
  obtain ⟨oa, oc, rfl, hoc⟩ := own_slice' HO.out
  have hgr : g ≤ wr.heap.size := by have := HB.out.size; rw [HG.out] at this; exact this
  have HBw : Hid (Below w.heap.size w wr) := by rw [HG.out]; exact HB
  by_cases hlt : i < n
  ·have ci : (i : Int) < n := by omega
   have ci0 : (0 : Int) ≤ (i : Int) := by omega
   have h3 := (HLs.out.later HBw.out).2.2
   obtain ⟨pb, poff, rfl, hcell⟩ := h3.resolve_left (by omega)
   have q0 := hcell i hlt
   have hil : i < L.length := by rw [HLL.out]; exact hlt
   have HT : Hid (L.drop i = L.getD i ByteArray.empty :: L.drop (i + 1)) := by
    show _ = _
    rw [List.drop_eq_getElem_cons hil, List.getD_eq_getElem?_getD, List.getElem?_eq_getElem hil]; rfl
   have hsz := HLZ.out (L.getD i ByteArray.empty) (by rw [List.getD_eq_getElem?_getD, List.getElem?_eq_getElem hil]; exact List.getElem_mem hil)
   obtain ⟨s, hs⟩ : ∃ z, L.getD i ByteArray.empty = z := ⟨_, rfl⟩
   rw [hs] at q0 HT hsz
   have HE1 : Hid (Sw.admitS G L = Sw.admitF G (s :: L.drop (i + 1)) came out) := by show _ = _; rw [HE.out, HT.out]
   clear hs HT hil hcell h3 HE
   by_cases hlong : 131072 < s.size
   ·have cl : (131072 : Int) < s.size := by omega
    have HR : Hid (Sw.admitS G L = ([], 5)) := HE1.out.trans (admitF_bad (errAt_long hlong) (by decide))
    go_wp2_with fail
    go_ret2
    rw [HR.out]
    exact admit_none _ _ _ HBw.out
   have cl : ¬ (131072 : Int) < s.size := by omega
   have HDC := hid (decode_any s hsz wr)
   go_wp2_with fail
   refine HDC.out.mono ?_; rintro e w3 ⟨x, ev, pv, er, hdr, rfl, hO3, hb3, hf3⟩
   rw [decO_R] at hdr
   have HO3 := hid hO3
   obtain ⟨ea, en, ec, pa, pn, pc, rfl, -, rfl, -⟩ := hO3
   have HX4 : Hid (Blk (w3.alloc (.cells (obCs x (.slice ea en ec) (.slice pa pn pc)) 98)) w3.heap.size 98 (obCs x (.slice ea en ec) (.slice pa pn pc))) := Blk.new w3 _ _
   have hb4 : Below wr.heap.size wr (w3.alloc (.cells (obCs x (.slice ea en ec) (.slice pa pn pc)) 98)) := hb3.alloc hb3.size _
   have HB4 := hid hb4
   have HO4 : Hid (ObAt (w3.alloc (.cells (obCs x (.slice ea en ec) (.slice pa pn pc)) 98)) (.slice ea en ec) (.slice pa pn pc) x) := HO3.out.later ((Below.refl _ _).alloc (Nat.le_refl _) _)
   unfold obCs at HX4 HB4 HO4
   simp only [obCs]
   clear hb3 hf3 HDC HO3 q0 hb4
   go_upto_region 9 with fail
   generalize (w3.alloc (.cells #[.int .i64 x.kind, .string x.data, .slice ea en ec, .string x.tree, .slice pa pn pc, .int .i64 x.height, .string x.note] 98)) = w4 at HX4 HB4 HO4 ⊢
   generalize w3.heap.size = g4 at HX4 ⊢
   cases hD : Sw.decO s with
   | none =>
    rw [hD] at hdr
    obtain ⟨-, hde⟩ := Prod.mk.inj hdr
    subst hde
    have HR : Hid (Sw.admitS G L = ([], 4)) := HE1.out.trans (admitF_bad (errAt_form hlong hD) (by decide))
    have HBF := hid (below_then HBw.out HB4.out)
    clear hdr hD
    go_wp2_with fail
    go_ret2
    rw [HR.out]
    exact admit_none _ _ _ HBF.out
   | some y =>
    rw [hD] at hdr
    obtain ⟨hdx, hde⟩ := Prod.mk.inj hdr
    subst hde
    subst y
    have HD := hid hD
    have HON : Hid (ObN x) := dec_ObN hD
    have HID := hid (objid_id s hsz w4)
    have HEN : Hid ((Sw.over came G (Sw.idOf s)).isSome = false → Sw.fits (Sw.over came G) x ≠ 0 → Sw.admitS G L = ([], Sw.fits (Sw.over came G) x)) := fun h1 h2 => HE1.out.trans (admitF_bad (errAt_new hlong hD h1) h2)
    have HEA : Hid ((Sw.over came G (Sw.idOf s)).isSome = false → Sw.fits (Sw.over came G) x = 0 → Sw.admitS G L = Sw.admitF G (L.drop (i + 1)) (Sw.took came s) (out ++ [⟨Sw.idOf s, s⟩])) := fun h1 h2 => HE1.out.trans ((admitF_ok ((errAt_new hlong hD h1).trans h2)).trans (by rw [brought_new h1]))
    have HEO : Hid ((Sw.over came G (Sw.idOf s)).isSome = true → Sw.admitS G L = Sw.admitF G (L.drop (i + 1)) (Sw.took came s) out) := fun h1 => HE1.out.trans ((admitF_ok (errAt_old hlong hD h1)).trans (by rw [brought_old h1]))
    have HTN : Hid (Sw.getI came (Sw.idOf s) = none → Sw.getI (Sw.took came s) = fun q => if q = Sw.idOf s then some s else Sw.getI came q) := fun h => getI_took h
    have HTO : Hid (∀ u, Sw.getI came (Sw.idOf s) = some u → Sw.took came s = came) := fun u h => took_old h
    have HTZ : Hid (∀ x ∈ Sw.took came s, x.data.size ≤ 1000000000) := fun z hz => by
     rcases took_mem hz with h | rfl
     ·exact HC.out z h
     ·exact hsz
    have hids : (Sw.idOf s).size = 32 := idOf_size s
    obtain ⟨id, hid'⟩ : ∃ id, Sw.idOf s = id := ⟨_, rfl⟩
    rw [hid'] at HID HEN HEA HEO HTN HTO hids
    obtain ⟨cm, hcm⟩ : ∃ cm, Sw.took came s = cm := ⟨_, rfl⟩
    rw [hcm] at HEA HEO HTN HTO HTZ
    clear hid' hcm hdr hD HE1
    go_wp2_with fail
    refine HID.out.mono ?_; rintro e w5 ⟨rfl, hb5⟩
    have HB5 := hid (below_then HB4.out hb5)
    have HX5 : Hid (Blk w5 gh 140 #[.iface t rv, .map (some g)]) := (HB5.out.block gh (Blk.lt HX.out)).trans HX.out
    have HM5 := hid (HM.out.later HB5.out)
    have HBw5 := hid (below_then HBw.out HB5.out)
    have HGT := hid (hallget_any t rv G g i came id w5 (HS.out.srcIn.later HBw5.out) HM5.out (by omega))
    unfold hallCs at HGT
    have HXb5 := hid ((hb5.block g4 (Blk.lt HX4.out)).trans HX4.out)
    have HOb5 := hid (HO4.out.later hb5)
    have kh0 : w5.cell? ⟨gh, 0, none⟩ = some (.iface t rv) := Blk.cell HX5.out 0
    have kh1 : w5.cell? ⟨gh, 1, none⟩ = some (.map (some g)) := Blk.cell HX5.out 1
    have hgl4 := Blk.lt HX4.out
    have hgl5 : g4 < w5.heap.size := Nat.lt_of_lt_of_le hgl4 hb5.size
    clear hb5 HID HX4 HO4 HB4 hgl4
    go_wp2_with fail
    refine HGT.out.mono ?_; rintro e w6 ⟨rfl, hb6⟩
    have HB6 := hid (below_then HB5.out hb6)
    have HX6 : Hid (Blk w6 gh 140 #[.iface t rv, .map (some g)]) := (HB6.out.block gh (Blk.lt HX.out)).trans HX.out
    have HM6 := hid (HM.out.later HB6.out)
    have HO6 := hid (own_below HO.out HB6.out)
    have HBw6 := hid (below_then HBw.out HB6.out)
    have HXb6 : Hid (Blk w6 g4 98 #[.int .i64 x.kind, .string x.data, .slice ea en ec, .string x.tree, .slice pa pn pc, .int .i64 x.height, .string x.note]) := (hb6.block g4 hgl5).trans HXb5.out
    have HOb6 := hid (HOb5.out.later hb6)
    clear hb6 HGT kh0 kh1 HX5 HM5 HBw5 HXb5 HOb5 HB5
    have kh0 : w6.cell? ⟨gh, 0, none⟩ = some (.iface t rv) := Blk.cell HX6.out 0
    have kh1 : w6.cell? ⟨gh, 1, none⟩ = some (.map (some g)) := Blk.cell HX6.out 1
    have hlk := strMap_get2 HM6.out id (by unfold maxLen; omega)
    have hg6 : g ≤ w6.heap.size := by have := HBw6.out.size; rw [HG.out] at this; exact this
    have HBg6 : Hid (Below g w w6) := by rw [← HG.out]; exact HBw6.out
    have hmaxi : i < maxLen := by unfold maxLen; omega
    have hidm : id.size ≤ maxLen := by unfold maxLen; omega
    clear HB HBw HX HM HO
    obtain ⟨sm, hsm⟩ : ∃ b, (Sw.over came G id).isSome = b := ⟨_, rfl⟩
    have HSM := hid hsm
    rw [hsm] at HEN HEA HEO ⊢
    clear hsm
    cases sm with
    | true =>
     have HR := hid (HEO.out rfl)
     clear HEN HEA HEO
     cases hgc : Sw.getI came id with
     | some u =>
      have HCM : Hid (cm = came) := HTO.out u hgc
      rw [hgc] at hlk
      simp only [Option.getD_some, Option.isSome_some] at hlk
      rw [HCM.out] at HR HTZ
      have HM7 : Hid (StrMap w6 g (i + 1) (Sw.getI came)) := MapFn.more HM6.out (Nat.le_succ i)
      clear hgc HTN HTO HCM
      go_wp2_with fail
      go_roundw
      case rel => first | exact ⟨i + 1, came, out, by omega, by omega, by go_num, HO6, HX6, HM7, HBg6, HR, HTZ⟩ | ((repeat apply Exists.intro); exact ⟨⟨i + 1, came, out, by omega, by omega, by go_num, HO6, HX6, HM7, HBg6, HR, HTZ⟩, rfl⟩)
      case measure => simp [intOf]; omega
     | none =>
      have HCM := hid (HTN.out hgc)
      rw [hgc] at hlk
      simp only [Option.getD_none, Option.isSome_none] at hlk
      clear hgc HTN HTO
      go_wp2_with (first
       | (at_mapUpdate; refine wpList_mapFn_set rfl (.tmp 71) (.tmp 72) (.tmp 73) 132 rfl Tryz.underlying9 Tryz.underlying132 valS_inj HM6.out hmaxi id hidm s rfl rfl rfl ?_; intro w9 hm9 hg9; have HM9 := hid hm9; have HG9 := hid hg9; clear hm9 hg9))
      have HO9 : Hid (Only (· = g) w6 w9) := ⟨HG9.out.os, HG9.out.tape, HG9.out.output, HG9.out.size, fun k hk hne => HG9.out.block k hk (fun e => hne (by cases e; rfl))⟩
      have HX9 : Hid (Blk w9 gh 140 #[.iface t rv, .map (some g)]) := HX6.out.only HO9.out (fun e => map_blk_ne HM6.out HX6.out e)
      have HW9 : Hid (w9.ownsRow g 80 2 (.slice oa out.length oc) out.length (fivals (itFi out))) := own_only HO6.out HO9.out (fun k hk e => map_row_ne HM6.out HO6.out (by rw [hk]; exact congrArg some e))
      have HMn : Hid (StrMap w9 g (i + 1) (Sw.getI cm)) := by rw [HCM.out]; exact HM9.out
      have HBn : Hid (Below g w w9) := below_map HBg6.out HG9.out (Nat.le_refl _) hg6
      go_roundw
      case rel => first | exact ⟨i + 1, cm, out, by omega, by omega, by go_num, HW9, HX9, HMn, HBn, HR, HTZ⟩ | ((repeat apply Exists.intro); exact ⟨⟨i + 1, cm, out, by omega, by omega, by go_num, HW9, HX9, HMn, HBn, HR, HTZ⟩, rfl⟩)
      case measure => simp [intOf]; omega
    | false =>
     have hgc : Sw.getI came id = none := by
      have h := HSM.out
      unfold Sw.over at h
      cases hh : Sw.getI came id with
      | none => rfl
      | some u => rw [hh] at h; cases h
     have HCM := hid (HTN.out hgc)
     rw [hgc] at hlk
     simp only [Option.getD_none, Option.isSome_none] at hlk
     have HGC := hid hgc
     clear hgc HTN HTO HEO
     have HFT := hid (fits_any 140 (.agg (hallCs t rv g)) (Sw.over came G) (over_sz HC.out hz) x (.slice ea en ec) (.slice pa pn pc) w6 (hall_src t rv G g i came w6 (HS.out.srcIn.later HBw6.out) HM6.out) HOb6.out HON.out)
     unfold hallCs obCs FitsOut at HFT
     obtain ⟨er2, her2⟩ : ∃ er2, Sw.fits (Sw.over came G) x = er2 := ⟨_, rfl⟩
     rw [her2] at HFT HEN HEA
     have k0 : w6.cell? ⟨g4, 0, none⟩ = some (.int .i64 x.kind) := Blk.cell HXb6.out 0
     have k1 : w6.cell? ⟨g4, 1, none⟩ = some (.string x.data) := Blk.cell HXb6.out 1
     have k2 : w6.cell? ⟨g4, 2, none⟩ = some (.slice ea en ec) := Blk.cell HXb6.out 2
     have k3 : w6.cell? ⟨g4, 3, none⟩ = some (.string x.tree) := Blk.cell HXb6.out 3
     have k4 : w6.cell? ⟨g4, 4, none⟩ = some (.slice pa pn pc) := Blk.cell HXb6.out 4
     have k5 : w6.cell? ⟨g4, 5, none⟩ = some (.int .i64 x.height) := Blk.cell HXb6.out 5
     have k6 : w6.cell? ⟨g4, 6, none⟩ = some (.string x.note) := Blk.cell HXb6.out 6
     clear her2 hlk
     go_wp2_with fail
     refine HFT.out.mono ?_; rintro e w7 ⟨rfl, hb7⟩
     have HX7 : Hid (Blk w7 gh 140 #[.iface t rv, .map (some g)]) := (hb7.block gh (Blk.lt HX6.out)).trans HX6.out
     have HM7 := hid (HM6.out.later hb7)
     have HO7 := hid (own_below HO6.out hb7)
     have HBg7 : Hid (Below g w w7) := HBg6.out.trans (hb7.mono hg6)
     have hg7 : g ≤ w7.heap.size := Nat.le_trans hg6 hb7.size
     clear hb7 HFT kh0 kh1 k0 k1 k2 k3 k4 k5 k6 HX6 HM6 HO6 HBg6 HBw6 HXb6 HOb6 hg6 HB6
     by_cases he : er2 = 0
     ·subst he
      have HR := hid (HEA.out (by simp) (by simp))
      clear HEA HEN
      go_wp2_with (first
       | (at_builtin; refine wpList_append_own _ rfl (.tmp 55) (.tmp 59) 22 rfl g 80 i0 (.agg #[.string ⟨#[]⟩, .string ⟨#[]⟩]) 2 32 Tryz.underlying22 hi0 hz0 hz1 hz2 rfl (by decide) (.slice oa out.length oc) _ _ rfl (HO7.out.alloc _) ⟨w7.heap.size, 0, none⟩ 1 1 [.string id, .string s] rfl rfl (cellNew2 _ _ _ _) (one2 rfl rfl) (by unfold maxLen; omega) (by omega) (by rw [World.size_alloc]; omega) ?_; intro v' w8 hown' hgrow _; obtain ⟨va', vc', hvv', -⟩ := own_slice' hown'; subst hvv'; have HOWN := hid hown'; have HGR := hid hgrow; clear hown' hgrow; have HX8 : Hid (Blk w8 gh 140 #[.iface t rv, .map (some g)]) := (HX7.out.alloc _).grown HGR.out (fun e => own_blk_ne HO7.out HX7.out (by decide) e.symm); have kh1 : w8.cell? ⟨gh, 1, none⟩ = some (.map (some g)) := Blk.cell HX8.out 1; have HM8 : Hid (StrMap w8 g i (Sw.getI came)) := (MapFn.later HM7.out ((Below.refl _ _).alloc (Nat.le_refl _) _)).kept HGR.out (fun e => map_row_ne HM7.out HO7.out e.symm); have hlk8 := strMap_get2 HM8.out id hidm; rw [HGC.out] at hlk8; simp only [Option.getD_none, Option.isSome_none] at hlk8)
       | (at_mapUpdate; refine wpList_mapFn_set rfl (.tmp 71) (.tmp 72) (.tmp 73) 132 rfl Tryz.underlying9 Tryz.underlying132 valS_inj HM8.out hmaxi id hidm s rfl rfl rfl ?_; intro w9 hm9 hg9; have HM9 := hid hm9; have HG9 := hid hg9; clear hm9 hg9))
      have HO9 : Hid (Only (· = g) w8 w9) := ⟨HG9.out.os, HG9.out.tape, HG9.out.output, HG9.out.size, fun k hk hne => HG9.out.block k hk (fun e => hne (by cases e; rfl))⟩
      have HX9 : Hid (Blk w9 gh 140 #[.iface t rv, .map (some g)]) := HX8.out.only HO9.out (fun e => map_blk_ne HM8.out HX8.out e)
      have HW8 : Hid (w8.ownsRow g 80 2 (.slice va' (out.length + 1) vc') (out ++ [(⟨id, s⟩ : Sw.It)]).length (fivals (itFi (out ++ [(⟨id, s⟩ : Sw.It)])))) := by
       have h := HOWN.out
       rw [itFi_snoc, fivals_append, List.length_append]; exact h
      have HW9 : Hid (w9.ownsRow g 80 2 (.slice va' (out.length + 1) vc') (out ++ [(⟨id, s⟩ : Sw.It)]).length (fivals (itFi (out ++ [(⟨id, s⟩ : Sw.It)])))) := own_only HW8.out HO9.out (fun k hk e => map_row_ne HM8.out HW8.out (by rw [hk]; exact congrArg some e))
      have HMn : Hid (StrMap w9 g (i + 1) (Sw.getI cm)) := by rw [HCM.out]; exact HM9.out
      have HB8 : Hid (Below g w w8) := below_grown1 HBg7.out HO7.out _ hg7 HGR.out
      have hg8 : g ≤ w8.heap.size := by have := HB8.out.size; rw [HG.out] at this; exact this
      have HBn : Hid (Below g w w9) := below_map HB8.out HG9.out (Nat.le_refl _) hg8
      have hol : (out ++ [(⟨id, s⟩ : Sw.It)]).length ≤ i + 1 := by rw [List.length_append]; simp only [List.length_cons, List.length_nil]; omega
      go_roundw
      case rel => first | exact ⟨i + 1, cm, _, by omega, hol, by go_num, HW9, HX9, HMn, HBn, HR, HTZ⟩ | ((repeat apply Exists.intro); exact ⟨⟨i + 1, cm, _, by omega, hol, by go_num, HW9, HX9, HMn, HBn, HR, HTZ⟩, rfl⟩)
      case measure => simp [intOf]; omega
     ·have HR := hid (HEN.out (by simp) he)
      have q1 : (er2 != 0) = true := by simp [he]
      have q2 : (er2 == 0) = false := by simp [he]
      clear he HEA HEN
      go_wp2_with fail
      go_ret2
      rw [HR.out]
      exact admit_none _ _ _ (by rw [HG.out]; exact HBg7.out)
  ·obtain rfl : i = n := by omega
   have ci : ¬ (i : Int) < i := by omega
   have HR : Hid (Sw.admitS G L = (out, 0)) := by
    show _ = _
    rw [HE.out, List.drop_of_length_le (by rw [HLL.out]; exact Nat.le_refl _)]; rfl
   have HFI : Hid (FisAt wr oa out.length (itFi out)) := own_its HO.out (itFi_len out) (by omega)
   go_wp2_with fail
   go_ret2
   rw [HR.out]
   exact ⟨oa, oc, rfl, HFI.out, HBw.out⟩
end Go.Proofs.YtmpjdoiogbbcoaaGreatDoor
