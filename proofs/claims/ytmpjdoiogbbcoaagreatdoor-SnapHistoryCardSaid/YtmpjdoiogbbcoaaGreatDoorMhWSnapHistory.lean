/- The walk of SnapHistory. -/
import Derived.Test.YtmpjdoiogbbcoaaGreatDoorMhM
namespace Go.Proofs.YtmpjdoiogbbcoaaGreatDoor
open Go.RowKit Book Pap Ojt Sn
set_option linter.unusedVariables false
set_option linter.unusedSimpArgs false

theorem RowInts.later {w w' : World} {a : Option Addr} {n : Nat} {l : List Int} (h : RowInts w a n l) (hb : Below w.heap.size w w') : RowInts w' a n l := by
 obtain ⟨h1, h2, h3, h4⟩ := h
 refine ⟨h1, h2, h3, h4.imp id ?_⟩
 rintro ⟨b, off, e, hc⟩
 exact ⟨b, off, e, fun j hj => (hb.cell (p := ⟨b, off + j, none⟩) (World.block_lt_of_cell? w _ (hc j hj))).trans (hc j hj)⟩
theorem RowsAt.later {w w' : World} {a : Option Addr} {n : Nat} (h : RowsAt w a n) (hb : Below w.heap.size w w') : RowsAt w' a n := by
 obtain ⟨h1, h2⟩ := h
 refine ⟨h1, h2.imp id ?_⟩
 rintro ⟨b, off, e, hc⟩
 refine ⟨b, off, e, fun j hj => ?_⟩
 obtain ⟨aj, nj, cj, l, g1, g2⟩ := hc j hj
 exact ⟨aj, nj, cj, l, (hb.cell (p := ⟨b, off + j, none⟩) (World.block_lt_of_cell? w _ g1)).trans g1, g2.later hb⟩
set_option maxRecDepth 100000 in
set_option maxHeartbeats 16000000 in
theorem walk_SnapHistory (a0 : Option Addr) (n0 c0 : Nat) (a1 : Option Addr) (n1 c1 : Nat) (l1 : List Fi) (W : World) (w0 : RowsAt W a0 n0) (w1 : FisAt W a1 n1 l1) (nc1 : n1 ≤ c1) (z1 : ∀ f ∈ l1, f.path.size ≤ 140737488355328 ∧ f.data.size ≤ 140737488355328) (hm : MaxAt W) :
  Calls Tryz.prog 4 #[.slice a0 n0 c0, .slice a1 n1 c1] W fun e w' => e = .returned (.bool true) ∧ Below W.heap.size W w' := by
 have HM := hid hm
 have HR := hid w0
 have H0 := hid w1
 have Z0 := hid z1
 have HA := hid (awakeG_any W hm)
 clear hm w0 w1 z1
 go_enter Tryz.func4, Tryz.ntmps4
 go_wp2_with fail
 refine HA.out.mono ?_; rintro e w1 ⟨rfl, hb1⟩
 have HB1 := hid hb1
 have HG0 := hid (great_any a1 n1 c1 l1 w1 (H0.out.later hb1) Z0.out)
 clear hb1 HA
 go_wp2_with fail
 refine HG0.out.mono ?_; rintro e w2 ⟨r0, rfl, hb2, hr0⟩
 have HB2 := hid (below_then HB1.out hb2)
 clear hb2 HG0 HB1
 cases r0 with
 | true =>
  go_wp2_with fail
  go_ret
  exact ⟨rfl, HB2.out⟩
 | false =>
  obtain ⟨hn1, hs1⟩ := hr0 rfl
  have Y0 := hid (sumF_each hs1)
  clear hr0 hs1
  by_cases h8 : 8 < n1
  ·have ci : (8 : Int) < n1 := by omega
   clear h8
   go_wp2_with fail
   go_ret
   exact ⟨rfl, HB2.out⟩
  ·have ci : ¬ (8 : Int) < n1 := by omega
   have HN1 : Hid (n1 ≤ 8) := by unfold Hid; omega
   have HST := hid (HMem.start w2)
   have HB2S : Hid (Below w2.heap.size w2 ((((w2.alloc (.cells #[.slice none 0 0] 31)).alloc (.cells #[] 9)).alloc (.cells #[] 9)).alloc (.cells #[] 50))) := ((((Below.refl _ _).alloc (Nat.le_refl _) _).alloc (by simp) _).alloc (by simp; omega) _).alloc (by simp; omega) _
   clear h8 hn1
   go_wp2_with fail
   go_loopw [6, 7, 8, 9] (fun av iv lv xv wr => ∃ (i : Nat) (c : Nat → Nat) (sv : Value) (U A ids : List ByteArray) (D : List (List ByteArray)) (ps : List Nat), i ≤ n0 ∧ xv = .int .i64 i ∧ Hid (HMem w2.heap.size c wr w2.heap.size sv av iv lv U A ids D ps) ∧ Hid (HInv l1 i U A ids D) ∧ Hid (Below w2.heap.size w2 wr)) (fun _ _ _ xv _ => n0 - (intOf xv).toNat)
   case atStart => exact ⟨0, _, _, [], [], [], [], [], Nat.zero_le _, rfl, HST.out, HInv.start l1, HB2S.out⟩
   case round =>
    obtain ⟨i, c, sv, U, A, ids, D, ps, hi, rfl, HMM, HIV, HBW⟩ := hrel
    clear HST HB2S
    by_cases hlt : i < n0
    ·have cj : (i : Int) < n0 := by omega
     have hi12 := HIV.out.i12
     by_cases h12 : i < 12
     ·have cj2 : (i : Int) < 12 := by omega
      have HO1 := hid (of_any none 0 0 [] wr ⟨rfl, by omega, .inl rfl⟩ (by omega))
      go_wp2_with fail
      refine HO1.out.mono ?_; rintro e w3 ⟨bp, rfl, hp3, hb3⟩
      have HO2 := hid (of_any none 0 0 [] w3 ⟨rfl, by omega, .inl rfl⟩ (by omega))
      have HB3 := hid hb3; have HP3 := hid hp3
      clear hp3 hb3 HO1
      go_wp2_with fail
      refine HO2.out.mono ?_; rintro e w4 ⟨bw, rfl, hp4, hb4⟩
      obtain ⟨c4, hms⟩ := MSets.first HMM.out HP3.out HB3.out hp4 hb4
      have HMS := hid hms
      have HB4 : Hid (Below w2.heap.size w2 w4) := below_then HBW.out (below_then HB3.out hb4)
      have HWI := hid (WInv.start (getF (itemsS U)) ids i)
      clear hms hp4 hb4 HP3 HB3 HO2 HMM HBW
      go_upto_block 2 with fail
      go_cut [11, 12] from 48 to 88 (fun wv kv wx => ∃ (bw' : Nat) (c' : Nat → Nat) (k : Nat) (P want : List ByteArray), wv = .pointer (some ⟨bw', 0, none⟩) ∧ Hid (MSets w2.heap.size c' wx w2.heap.size sv u6 u7 u8 U A ids D ps bp P bw' want) ∧ Hid (WInv (getF (itemsS U)) ids i k P want) ∧ Hid (Below w2.heap.size w2 wx))
      case first =>
       go_wp2_with fail
       go_loopw [11, 12] (fun wv kv wx => ∃ (bw' : Nat) (c' : Nat → Nat) (k : Nat) (P want : List ByteArray), wv = .pointer (some ⟨bw', 0, none⟩) ∧ kv = .int .i64 k ∧ k ≤ 4 ∧ Hid (MSets w2.heap.size c' wx w2.heap.size sv u6 u7 u8 U A ids D ps bp P bw' want) ∧ Hid (WInv (getF (itemsS U)) ids i k P want) ∧ Hid (Below w2.heap.size w2 wx)) (fun _ kv _ => 4 - (intOf kv).toNat)
       case atStart => exact ⟨bw, c4, 0, [], [], rfl, rfl, by omega, HMS.out, HWI.out, HB4.out⟩
       case round =>
        clear HMS HWI HB4
        obtain ⟨bv, c5, k, P, want, rfl, rfl, hk4, HMS, HWI, HB5⟩ := hrel
        have HRW := HR.out.later (below_then HB2.out HB5.out)
        obtain ⟨-, hrw⟩ := HRW
        obtain ⟨b, off, rfl, hc⟩ := hrw.resolve_left (by omega)
        obtain ⟨aj, nj, cc, zs, q0, hzs⟩ := hc i hlt
        have HZS := hid hzs
        clear hrw hc hzs
        by_cases hk : k < nj ∧ k < 4 ∧ 0 < i
        ·obtain ⟨k1, k2, k3⟩ := hk
         have ck1 : (k : Int) < nj := by omega
         have ck2 : (k : Int) < 4 := by omega
         have ck3 : (0 : Int) < i := by omega
         have ck0 : (0 : Int) ≤ (k : Int) := by omega
         have ci0 : (0 : Int) ≤ (i : Int) := by omega
         obtain ⟨-, -, hzb, hz4⟩ := HZS.out
         obtain ⟨b', off', rfl, hcz⟩ := hz4.resolve_left (by omega)
         have q1 := hcz k k1
         obtain ⟨z, hz⟩ : ∃ z, zs.getD k 0 = z := ⟨_, rfl⟩
         rw [hz] at q1
         clear hcz hz4 hzb hz HZS
         obtain ⟨t, ht, het⟩ := at_lt z i k3 (by omega)
         have HET := hid het
         have htn : t < ids.length := by rw [HIV.out.idl]; exact ht
         have htd : t < D.length := by rw [HIV.out.ch.len]; exact htn
         obtain ⟨ia, ic, rfl, hS⟩ := own_texts HMS.out.1.ids (by rw [HIV.out.idl]; omega)
         obtain ⟨ib, io, rfl, hcs⟩ := hS.2.2.resolve_left (by omega)
         have q2 := hcs t htn
         have hil : (ids.length : Int) = i := by rw [HIV.out.idl]
         have ct1 : (t : Int) < ids.length := by omega
         have ct0 : (0 : Int) ≤ (t : Int) := by omega
         obtain ⟨g, gc, rfl, hg1, hg5⟩ := HMS.out.1.logAt htd
         have ct2 : (t : Int) < D.length := by omega
         have HLS := hid (HMS.out.1.sets t htd)
         have HWS := hid (HWI.out.step HIV.out.ch k2 k3 htn)
         have hpl := HWI.out.lp
         obtain ⟨x, hx⟩ : ∃ x, ids.getD t ByteArray.empty = x := ⟨_, rfl⟩
         obtain ⟨T, hT⟩ : ∃ T, D.getD t [] = T := ⟨_, rfl⟩
         obtain ⟨bt, hbt⟩ : ∃ b, ps.getD t 0 = b := ⟨_, rfl⟩
         have htl := (HIV.out.ch.row htn).2.2
         rw [hT] at HLS HWS htl
         rw [hbt] at HLS hg1
         rw [hx] at q2 HWS
         have hwl := HWI.out.len HIV.out.ch
         have hid12 : ids.length ≤ 12 := by rw [HIV.out.idl]; exact hi12
         have HAD := hid (sadd_c x wr HMS.out.2.1 HWI.out.rp (by omega))
         have HG1 := hid hg1; have HG5 := hid hg5
         have HWL : Hid (want.length ≤ 12 ∧ T.length ≤ 12) := ⟨by omega, by omega⟩
         have HKK : Hid (k < 4) := k2
         clear het hS hcs hil hx hT hbt htl hwl hpl htn htd k1 k2 k3 ht hg1 hg5 hid12
         go_upto_region 18 with fail
         rw [HET.out]
         go_wp2_with fail
         refine HAD.out.mono ?_; rintro e w5 ⟨rfl, hs5, ho5⟩
         have HM5 := hid (HMS.out.add hs5 ho5)
         have HB6 : Hid (Below w2.heap.size w2 w5) := HB5.out.trans (HMS.out.belowc ho5 (by omega))
         have HL5 := hid (HLS.out.only ho5 (fun i h6 h8 => by omega))
         have hg5 := ho5.cell HG1.out (by rw [HG5.out]; omega)
         have HUN := hid (sunion_any w5 HM5.out.2.2.at0 HL5.out.at0 (by have := HWL.out.1; omega) (by have := HWL.out.2; omega))
         clear hs5 ho5 HAD HG1 HG5 HLS q0 q1 q2 HMS HB5
         go_wp2_with fail
         refine HUN.out.mono ?_; rintro e w6 ⟨d, rfl, hd6, hb6⟩
         have HM6 := hid (HM5.out.union hd6 hb6)
         have HB7 := hid (below_then HB6.out hb6)
         have hk5 : k + 1 ≤ 4 := HKK.out
         clear hd6 hb6 HUN HM5 HB6 HL5 hg5
         go_wp2_with fail
         go_roundw
         case rel => exact ⟨d, _, k + 1, _, _, rfl, by go_num, hk5, HM6.out, HWS.out, HB7.out⟩
         case measure => simp [intOf]; omega
        ·have HB6 := hid HB5.out
         have HME := hid HMS.out
         have HWE := hid HWI.out
         clear HZS HB5 HMS HWI
         by_cases k1 : k < nj
         ·have ck1 : (k : Int) < nj := by omega
          by_cases k2 : k < 4
          ·have ck2 : (k : Int) < 4 := by omega
           have ck3 : ¬ (0 : Int) < i := by omega
           clear hk k1 k2
           go_wp2_with fail
           go_meet
           exact ⟨bv, c5, k, P, want, rfl, HME.out, HWE.out, HB6.out⟩
          ·have ck2 : ¬ (k : Int) < 4 := by omega
           clear hk k1 k2
           go_wp2_with fail
           go_meet
           exact ⟨bv, c5, k, P, want, rfl, HME.out, HWE.out, HB6.out⟩
         ·have ck1 : ¬ (k : Int) < nj := by omega
          clear hk k1
          go_wp2_with fail
          go_meet
          exact ⟨bv, c5, k, P, want, rfl, HME.out, HWE.out, HB6.out⟩
      case rest =>
       obtain ⟨bv, c5, k, P, want, rfl, HMS, HWI, HB5⟩ := hcut
       rename World => w5
       have hpl := HWI.out.lp
       have hk4 := HWI.out.k4
       have HP4 : Hid (P.length ≤ 4) := by unfold Hid; omega
       have HBF5 := hid (below_then HB2.out HB5.out)
       have hul := HIV.out.uh.len
       have HZG : Hid (SrcSz (getF (itemsS U))) := items_small (fun s hs => by have := HIV.out.uh.size s hs; omega)
       obtain ⟨G, hG⟩ : ∃ G, getF (itemsS U) = G := ⟨_, rfl⟩
       obtain ⟨⟨⟨L, id⟩, er⟩, hrr⟩ : ∃ r, commitS G l1 P (noteN i) = r := ⟨_, rfl⟩
       have HSR := hid (HMS.out.1.src (by omega))
       have hWI0 := hid HWI.out
       rw [hG] at HSR HZG HWI
       have HCO : Hid (∀ (W : World) (pa : Option Addr) (pc : Nat), Below w5.heap.size w5 W → StrsAt W pa P.length P → Calls Tryz.prog 19 #[.iface 29 (.pointer (some ⟨w2.heap.size, 0, none⟩)), .slice a1 n1 c1, .slice pa P.length pc, .string (noteN i)] W fun e w' =>
         ∃ v, e = .returned (.tuple #[v, .string id, .int .i64 er]) ∧ Hid (w'.ownsRow w5.heap.size 9 1 v L.length (svals L) ∧ Below w5.heap.size w5 w')) := by
        intro W pa pc hW hS
        have hWW := below_then HBF5.out hW
        refine (commit_any 29 (.pointer (some ⟨w2.heap.size, 0, none⟩)) G HZG.out a1 n1 c1 l1 pa P.length pc P (noteN i) W (HSR.out.later hW) (H0.out.later hWW) (fun f hf => by have := Y0.out f hf; omega) hS (by rw [noteN_size]; omega) (HM.out.later hWW)).mono ?_
        rintro e w' ⟨h1, v, rfl, h2⟩
        rw [hrr] at h2 ⊢
        exact ⟨v, rfl, own_mono h2 hW.size, below_then hW h1⟩
       have HLI : Hid (∀ W, Below w5.heap.size w5 W → Calls Tryz.prog 20 #[.pointer (some ⟨bp, 0, none⟩)] W fun e w' => ∃ pa pc, e = .returned (.slice pa P.length pc) ∧ Hid (StrsAt w' pa P.length P ∧ Below w5.heap.size w5 w' ∧ Below W.heap.size W w')) := by
        intro W hW
        refine (slist_any W (HMS.out.2.1.later hW).at0 (by omega)).mono ?_
        rintro e w' ⟨v, rfl, h1, h2⟩
        obtain ⟨pa, pc, rfl, hS⟩ := own_strs h1 (by omega)
        exact ⟨pa, pc, rfl, hS, below_then hW h2, h2⟩
       have hcvA : ∀ W : World, (convert 59 9 (.slice (some ⟨W.heap.size, 0, none⟩) 1 1)).run Tryz.prog (W.alloc (.cells #[.int .u8 (i : Int)] 5)) = .ok (.string (noteN i)) (W.alloc (.cells #[.int .u8 (i : Int)] 5)) := fun W => conv_note h12 _ _ (Blk.new W _ _)
       have hcvD : ∀ W : World, (convert 59 9 (.slice (some ⟨W.heap.size, 0, none⟩) 1 1)).run Tryz.prog (W.alloc (.cells #[.int .u8 (i : Int)] 5)).drew = .ok (.string (noteN i)) (W.alloc (.cells #[.int .u8 (i : Int)] 5)).drew := fun W => conv_note h12 _ _ (Blk.new W _ _).drew
       have hw8 : IntKind.u8.wrap (i : Int) = i := by simp [IntKind.wrap, IntKind.bits, IntKind.signed]; omega
       have HCV : Hid (∀ (W : World) (b : Nat), Blk W b 5 #[.int .u8 (i : Int)] → (convert 59 9 (.slice (some ⟨b, 0, none⟩) 1 1)).run Tryz.prog W = .ok (.string (noteN i)) W) := fun W b hb => conv_note h12 W b hb
       have HG := hid hG
       have HRR := hid hrr
       clear hG hrr hpl hk4 hul
       go_upto_region 20 with fail
       generalize hnn : noteN i = nn at hcvA hcvD HCV HCO HRR
       go_cut [14, 15, 16] from 36 to 200 (fun lv dv ev wx => dv = .string id ∧ ev = .int .i64 er ∧ Hid (wx.ownsRow w5.heap.size 9 1 lv L.length (svals L) ∧ Below w5.heap.size w5 wx))
       case first =>
        go_region_with (first
         | (go_at_call 20; refine (HLI.out _ (by first | exact (Below.refl _ _).drew | exact (Below.refl _ _) | exact (Below.refl _ w5).drew.alloc (Nat.le_refl _) _ | exact ((Below.refl _ w5).alloc (Nat.le_refl _) _).drew)).mono ?_; rintro e w6 ⟨pa, pc, rfl, hst⟩; first | (have hcvC := HCV.out w6 _ (by exact (hst.out.2.2.block w5.heap.size (Blk.lt (Blk.new w5 _ _))).trans (Blk.new w5 _ _))) | skip)
         | (go_at_call 19; refine (HCO.out _ _ _ (by first | exact hst.out.2.1 | exact below_then hst.out.2.1 ((Below.refl _ _).alloc (Nat.le_refl _) _)) (by first | exact hst.out.1 | exact hst.out.1.later ((Below.refl _ _).alloc (Nat.le_refl _) _))).mono ?_; rintro e w7 ⟨v, rfl, ho7⟩))
        all_goals go_wp2_with fail
        all_goals go_meet
        all_goals exact ⟨rfl, rfl, ho7⟩
       case rest =>
        obtain ⟨rfl, rfl, HL⟩ := hcut
        rename World => w7
        have HB7 : Hid (Below w2.heap.size w2 w7) := HB5.out.trans (HL.out.2.mono HMS.out.1.size)
        clear hcvA hcvD hw8 HCV HCO HLI HSR HB5 HBF5
        by_cases hok : OkFs l1
        ·obtain ⟨L', id', R⟩ := round_plain HIV.out.uh HIV.out.ch HIV.out.idl h12 hok (by rw [H0.out.1]; have := HN1.out; omega) HWI.out.rp (by have := HP4.out; omega) HWI.out.pin
         have hR := R.commit
         rw [HG.out, hnn, HRR.out] at hR
         injection hR with hR1 hR2
         injection hR1 with hR3 hR4
         subst hR3; subst hR4; subst hR2
         have HR0 := hid R
         have HOK := hid hok
         clear R hok
         obtain ⟨is0, his0, hzs0, hzs1, hzs2⟩ := info_parts Tryz.infoS
         have hM7 := HMS.out.later HL.out.2
         have HM7 := hid hM7
         have hLl := HR0.out.len
         have hAl := HIV.out.alen
         obtain ⟨la, lc, rfl, hS7⟩ := own_texts HL.out.1 (by omega)
         have HS7 := hid hS7
         obtain ⟨ad, rfl, hnl, hnews, hn1⟩ := hS7.news.resolve_left (by omega)
         have HN := hid (⟨hnl, hnews, hn1⟩ : _ ∧ _ ∧ _)
         clear hM7 hS7 hnl hnews hn1
         go_wp2_with (at_builtin; refine wpList_append_own_at _ rfl (.tmp 107) (.tmp 108) 40 rfl 0 9 is0 (.string ⟨#[]⟩) 1 16 Tryz.underlying40 his0 hzs0 hzs1 hzs2 rfl (by decide) u6 A.length (svals A) (by rfl) HM7.out.1.all ad L.length lc (svals L) (by rfl) HN.out.1 HN.out.2.1 HN.out.2.2 (by unfold maxLen; omega) (by omega) (Nat.zero_le _) ?_; intro v8 w8 ho8 hg8 _ hb8; obtain ⟨va, vc, rfl, -⟩ := own_slice' ho8)
         obtain ⟨hM8, hb8'⟩ := HM7.out.putAll ho8 hg8 hb8
         have HM8 := hid hM8
         have HB8 : Hid (Below w2.heap.size w2 w8) := HB7.out.trans hb8'
         have HS8 : Hid (StrsAt w8 (some ad) L.length L) := by
          have o := (Only.refl (fun k => u6.ownBlock = some k) w7).grown hg8 (fun k hk => .inl hk)
          have hrl := own_only HL.out.1 o (fun k hk e => by
           have h1 := own_lt HMS.out.1.all e
           have h2 := (HL.out.1.lt k hk).1
           omega)
          obtain ⟨q0, q1, e0, h⟩ := own_texts hrl (by omega)
          injection e0 with e00
          rw [← e00] at h; exact h
         obtain ⟨q0, q1, e0, hSA⟩ := own_texts hM8.1.all (by rw [List.length_append]; omega)
         injection e0 with e00 e01 e02
         subst e00; subst e02
         rw [List.length_append] at hSA
         have HSH := hid (shown_any va (A.length + L.length) vc (A ++ L) w8 hSA (by omega) (fun s hs => by
          rcases List.mem_append.1 hs with h | h
          ·have := HIV.out.asz s h; omega
          ·have := HR0.out.size s h; omega))
         clear hM8 hb8' hSA e01 ho8 hg8 hb8 HN HS7 HM7 HL HMS HB7 hAl
         refine HSH.out.mono ?_; rintro e w9 ⟨bb, rfl, hbb, hb9⟩
         have HB9 := hid (below_then HB8.out hb9)
         have HM9 := hid (HM8.out.later hb9)
         have HS9 := hid (HS8.out.later hb9)
         clear hb9 HSH HB8 HM8 HS8
         cases bb with
         | true =>
          have HBF := hid (below_then HB2.out HB9.out)
          go_wp2_with fail
          go_ret
          exact ⟨rfl, HBF.out⟩
         | false =>
          obtain ⟨In, had, hU2, hmem, hIl, hmore⟩ := HR0.out.more (apart_less (hbb rfl) (fun t ht => by
           rcases List.mem_append.1 ht with h | h
           ·exact List.mem_append.2 (.inl (HIV.out.sub t h))
           ·exact List.mem_append.2 (.inr h)))
          rw [HG.out] at had
          have hul := HIV.out.uh.len
          have hSR := HM9.out.1.src (by omega)
          rw [HG.out] at hSR
          have HAD := hid (admit_any 29 (.pointer (some ⟨w2.heap.size, 0, none⟩)) G HZG.out (some ad) L.length lc L w9 hSR HS9.out (by omega) (fun s hs => by have := HR0.out.size s hs; omega))
          rw [had] at HAD
          have HU2 := hid hU2; have HMEM := hid hmem; have HMORE := hid hmore
          clear hU2 hmem hmore had hSR hbb HS9
          go_wp2_with fail
          refine HAD.out.mono ?_; rintro e wa ⟨ia, ic, rfl, hIa, hba⟩
          have hitl : (itL In).length = In.length := by unfold itL; rw [List.length_map]
          simp only [hitl, itFi_itL] at hIa ⊢
          clear hitl
          have HMa := hid (HM9.out.later hba)
          have HBa := hid (below_then HB9.out hba)
          obtain ⟨ad2, rfl, hnl, hnews, hn1⟩ := hIa.news.resolve_left (by omega)
          have HN2 := hid (⟨hnl, hnews, hn1⟩ : _ ∧ _ ∧ _)
          obtain ⟨i1, hi1, hx0, hx1, hx2⟩ := info_parts Tryz.infoIt
          clear hnl hnews hn1 hIa hba HAD HM9 HB9
          have kc0 := Blk.cell HMa.out.1.book 0
          go_wp2_with (at_builtin; refine wpList_append_own_at _ rfl (.tmp 125) (.tmp 126) 22 rfl 0 80 i1 (.agg #[.string ⟨#[]⟩, .string ⟨#[]⟩]) 2 32 Tryz.underlying22 hi1 hx0 hx1 hx2 rfl (by decide) sv U.length (fivals (itemsS U)) (by rfl) HMa.out.1.its ad2 In.length ic (fivals (itemsS In)) (by rfl) HN2.out.1 HN2.out.2.1 HN2.out.2.2 (by unfold maxLen; omega) (by omega) (Nat.zero_le _) ?_; intro v11 wb ho11 hg11 _ hb11; obtain ⟨sa, sc, rfl, -⟩ := own_slice' ho11; have HP := hid (HMa.out.putBook ho11 hg11 hb11); clear ho11 hg11 hb11; have kc1 := Blk.cell HP.out.1 0; have kf1 := Blk.frozen HP.out.1 0)
          obtain ⟨-, hMb, hbb⟩ := HP.out
          have HBb : Hid (Below w2.heap.size w2 (wb.setCell ⟨w2.heap.size, 0, none⟩ (.slice sa (U.length + In.length) sc))) := HBa.out.trans hbb
          generalize (wb.setCell ⟨w2.heap.size, 0, none⟩ (.slice sa (U.length + In.length) sc)) = wc at HBb hMb ⊢
          have HMb := hid hMb
          clear hbb hMb HP kc1 kf1 kc0 HN2 HMa HBa HG HZG HRR
          have hwl : want.length ≤ 12 := by
           have h1 := (hWI0.out).len HIV.out.ch
           rw [HIV.out.idl] at h1; omega
          have HAW := hid (sadd_c id wc HMb.out.2.2 HWI.out.rw (by omega))
          refine HAW.out.mono ?_; rintro e wd ⟨rfl, hsd, hod⟩
          have HMd := hid (HMb.out.addw hsd hod)
          have HBd : Hid (Below w2.heap.size w2 wd) := HBb.out.trans (HMb.out.belowc hod (by omega))
          have HCH := hid (HMORE.out (putN want id) (putN_rising HWI.out.rw id) (fun q => by
           rw [mem_putN HWI.out.rw, hWI0.out.wm q]
           exact Or.comm))
          have HAF := hid (after_of HCH.out)
          have hnl := putN_len want id
          obtain ⟨T, hT⟩ : ∃ T, putN want id = T := ⟨_, rfl⟩
          rw [hT] at HMd HCH HAF hnl
          have HU2' := HU2.out.len
          have HZH : Hid (SrcSz (getF (itemsS (U ++ In)))) := items_small (fun s hs => by have := HU2.out.size s hs; omega)
          have HUV := hid (univ_of (itemsS (U ++ In)) (by unfold itemsS; rw [List.length_map]; omega) id)
          have HSRd := hid (HMd.out.1.src (by omega))
          obtain ⟨H, hH⟩ : ∃ H, getF (itemsS (U ++ In)) = H := ⟨_, rfl⟩
          rw [hH] at HZH HUV HSRd HAF
          have HLG := hid (slog_any 29 (.pointer (some ⟨w2.heap.size, 0, none⟩)) H HZH.out id (by rw [HR0.out.idsz]; unfold maxLen; omega) _ HUV.out wd HSRd.out)
          clear hsd hod HAW HMb HBb hT hWI0 HMORE hH HU2'
          go_wp2_with fail
          refine HLG.out.mono ?_; rintro e we ⟨er, S, xa, xn, xc, hsl, rfl, hSt, hbe⟩
          obtain ⟨rfl, ⟨r, hSr⟩, hSl, hSin⟩ := HAF.out.log hsl
          have hSn := hSt.1
          subst hSn
          have hSp : 0 < S.length := by rw [hSr]; simp
          obtain ⟨xb, xo, rfl, hcx⟩ := hSt.2.2.resolve_left (by omega)
          have k0 : we.cell? ⟨xb, xo, none⟩ = some (.string id) := by
           have := hcx 0 hSp
           rw [hSr] at this
           exact this
          have HMe := hid (HMd.out.later hbe)
          have HBe := hid (below_then HBd.out hbe)
          have HSRe := hid (HSRd.out.later hbe)
          have HLN := hid (slen_any we HMe.out.2.2.at0)
          have HOF := hid (of_any (some ⟨xb, xo, none⟩) S.length xc S we hSt (by omega))
          have HSS : Hid ((Sw.setOf S).length ≤ 100000 ∧ T.length ≤ 100000 ∧ ∀ x ∈ Sw.setOf S, x ∈ T) := ⟨by have := setOf_length S; omega, by omega, fun x hx => hSin x (Sw.setOf_mem.1 hx)⟩
          obtain ⟨m, hm⟩ : ∃ m, T.length = m := ⟨_, rfl⟩
          rw [hm] at HLN hSl hnl
          rw [hSl] at HOF hSp ⊢
          have HTM := hid hm
          have cm0 : ¬ (m : Int) = 0 := by omega
          have cm1 : ((m : Int) != m) = false := by simp
          have cm2 : ((m : Int) == 0) = false := by simp; omega
          have cid : (id.toList != id.toList) = false := by simp
          clear hcx hSt hSr hSin hsl hbe HLG HMd HBd hSl hm
          go_wp2_with (first
           | (go_at_call 23; refine HLN.out.mono ?_; rintro e w' ⟨rfl, rfl⟩)
           | (go_at_call 16; refine HOF.out.mono ?_; rintro e wf ⟨d, rfl, hd, hbf⟩; have HBf := hid hbf; have HWT := hid (swithin_any wf hd (HMe.out.later hbf).2.2.at0 HAF.out.rw HSS.out.1 HSS.out.2.1 HSS.out.2.2); clear hd hbf)
           | (go_at_call 24; refine HWT.out.mono ?_; rintro e wg ⟨rfl, hbg⟩))
          have HBfg := hid (below_then HBf.out hbg)
          have HBg := hid (below_then HBe.out HBfg.out)
          have HMg := hid (HMe.out.later HBfg.out)
          have HFA := hid (facts_any 29 (.pointer (some ⟨w2.heap.size, 0, none⟩)) H HZH.out id _ HUV.out wg (HSRe.out.later HBfg.out))
          clear hbg HWT HBf HBe HMe HLN HOF HSRd HSRe HBfg k0 HSS
          refine HFA.out.mono ?_; rintro e wh ⟨er, FL, fa, fn, fc, fs, hfi, rfl, hfc, hff, hbh⟩
          obtain ⟨rfl, hf2⟩ := HAF.out.facts hfi
          obtain ⟨f1, f2⟩ := hf2 _ _ hff
          have hfn : m = fn := by rw [← hfc.1, f1]; exact HTM.out.symm
          subst hfn
          rw [HTM.out] at f2
          have hbe2 := best_any fa m fc fs wh hfc hSp
          obtain ⟨⟨xid, xh, pa, pn, pc⟩, hf⟩ : ∃ f, maxAt fs m = f := ⟨_, rfl⟩
          rw [hf] at hbe2 f2
          have f3 : id = xid := f2.symm
          subst f3
          simp only [valF, fcs] at hbe2
          have HBE := hid hbe2
          have HBh := hid (below_then HBg.out hbh)
          have HMh := hid (HMg.out.later hbh)
          clear hfi hfc hff hbh f1 f2 hf2 hf hbe2 HFA HBg HMg HUV HZH
          go_wp2_with fail
          refine HBE.out.mono ?_; rintro e wi ⟨rfl, hbi⟩
          have HBi := hid (below_then HBh.out hbi)
          have HMi := hid (HMh.out.later hbi)
          clear hbi HBE HBh HMh
          go_upto_region 40 with fail
          have hbj : Below wi.heap.size wi (wi.alloc (.cells #[.string id, .int .i64 xh, .slice pa pn pc] 66)) := (Below.refl _ _).alloc (Nat.le_refl _) _
          have HBj := hid (below_then HBi.out hbj)
          have HMj := hid (HMi.out.later hbj)
          generalize (wi.alloc (.cells #[.string id, .int .i64 xh, .slice pa pn pc] 66)) = wj at HBj HMj ⊢
          have hidl := HIV.out.idl
          have hdl := HIV.out.ch.len
          have hpl := HMj.out.1.plen
          have hb0 := HMj.out.1.size
          obtain ⟨ip0, hip0, hpz0, hpz1, hpz2⟩ := info_parts Tryz.infoPS
          clear hbj HBi HMi
          go_upto_region 41 with (at_builtin; refine wpList_append_own_at _ rfl (.tmp 193) (.tmp 195) 40 rfl 0 9 is0 (.string ⟨#[]⟩) 1 16 Tryz.underlying40 his0 hzs0 hzs1 hzs2 rfl (by decide) u7 ids.length (svals ids) (by rfl) (HMj.out.1.ids.alloc _) ⟨wj.heap.size, 0, none⟩ 1 1 [.string id] (by rfl) rfl (cell_one_new _ _ _) (by simp [Value.oneCell']) (by unfold maxLen; omega) (by omega) (Nat.zero_le _) ?_; intro v12 wk ho12 hg12 _ hb12; have HO12 := hid ho12; have HG12 := hid hg12; have HC12 := hid hb12; clear ho12 hg12 hb12)
          have hbk : Below wj.heap.size wj (wj.alloc (.cells #[.string id] 9)) := (Below.refl _ _).alloc (Nat.le_refl _) _
          have hMk0 := HMj.out.later hbk
          obtain ⟨hMk1, hOk⟩ := hMk0.1.putIds HO12.out HG12.out HC12.out
          have hWk := hMk0.2.2.past hOk (by omega)
          have HBk : Hid (Below w2.heap.size w2 wk) := (below_then HBj.out hbk).trans (hMk0.belowc hOk (by omega))
          have HMk := hid hMk1
          have HWk := hid hWk
          clear hbk hMk0 hMk1 hOk hWk HO12 HG12 HC12 HMj HBj
          go_wp2_with (at_builtin; refine wpList_append_own_at _ rfl (.tmp 197) (.tmp 199) 49 rfl 0 50 ip0 (.pointer none) 1 8 Tryz.underlying49 hip0 hpz0 hpz1 hpz2 rfl (by decide) u8 ps.length (ps.map ptrV) (by rfl) (HMk.out.logs.alloc _) ⟨wk.heap.size, 0, none⟩ 1 1 [ptrV bv] (by rfl) rfl (cell_one_new _ _ _) (by simp [ptrV, Value.oneCell']) (by unfold maxLen; omega) (by omega) (Nat.zero_le _) ?_; intro v13 wl ho13 hg13 _ hb13; have HO13 := hid ho13; have HG13 := hid hg13; have HC13 := hid hb13; clear ho13 hg13 hb13)
          have hbl : Below wk.heap.size wk (wk.alloc (.cells #[.pointer (some ⟨bv, 0, none⟩)] 50)) := (Below.refl _ _).alloc (Nat.le_refl _) _
          have hMl0 := HMk.out.later hbl
          obtain ⟨cl, hMl, hOl⟩ := hMl0.putLogs (HWk.out.later hbl) HO13.out HG13.out HC13.out
          have HMl := hid hMl
          have HBl : Hid (Below w2.heap.size w2 wl) := (below_then HBk.out hbl).trans (hMl0.below hOl (by omega))
          have HNX := hid (HIV.out.next h12 HOK.out HR0.out.size HR0.out.len.2 HU2.out HMEM.out HCH.out)
          clear hbl hMl0 hMl hOl HO13 HG13 HC13 HMk HWk HBk
          go_roundw
          case rel => exact ⟨i + 1, cl, _, _, _, _, _, _, by omega, by go_num, HMl.out, HNX.out, HBl.out⟩
          case measure => simp [intOf]; omega
        ·have hi0 : i = 0 := by
          rcases Nat.eq_zero_or_pos i with h | h
          ·exact h
          ·exact absurd (HIV.out.okf h) hok
         have hP0 := HWI.out.k0 hi0
         have hne := commit_not (G := G) (note := nn) hok
         have hrr := HRR.out
         rw [hP0] at hrr
         rw [hrr] at hne
         have hne2 : ¬ er = 0 := hne
         have q1 : (er != 0) = true := by simp [hne2]
         have q2 : (er == 0) = false := by simp [hne2]
         have q3 : ((i : Int) == 0) = true := by simp [hi0]
         have q4 : (i : Int) = 0 := by omega
         have HBF := hid (below_then HB2.out HB7.out)
         clear hne hne2 hrr hP0 hok hi0 HRR HL HMS HWI HIV
         go_wp2_with fail
         go_ret
         exact ⟨rfl, HBF.out⟩
     ·have cj2 : ¬ (i : Int) < 12 := by omega
      have HBF := hid (below_then HB2.out HBW.out)
      clear HMM HIV
      go_wp2_with fail
      go_ret
      exact ⟨rfl, HBF.out⟩
    ·have cj : ¬ (i : Int) < n0 := by omega
     have HBF := hid (below_then HB2.out HBW.out)
     clear HMM HIV
     go_wp2_with fail
     go_ret
     exact ⟨rfl, HBF.out⟩
end Go.Proofs.YtmpjdoiogbbcoaaGreatDoor
