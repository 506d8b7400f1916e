/- The walk of SnapFolders. -/
import Derived.Test.YtlenfiiocmchdaaGreatDoorMcL
namespace Go.Proofs.YtlenfiiocmchdaaGreatDoor
open Go.RowKit Book Pap Ojt Sn
set_option linter.unusedVariables false
set_option linter.unusedSimpArgs false

set_option maxRecDepth 100000 in
set_option maxHeartbeats 16000000 in
theorem walk_SnapFolders (a0 : Option Addr) (n0 c0 : Nat) (l0 : List Fi) (p : ByteArray) (W : World) (w0 : FisAt W a0 n0 l0) (nc0 : n0 ≤ c0) (z0 : ∀ f ∈ l0, f.path.size ≤ 140737488355328 ∧ f.data.size ≤ 140737488355328)
    (hp : p.size ≤ 140737488355328) (hm : MaxAt W) :
    Calls Tryz.prog 6 #[.slice a0 n0 c0, .string p] W fun e w' => e = .returned (.bool true) ∧ Below W.heap.size W w' := by
  obtain ⟨i0, hi0, hz0, hz1, hz2⟩ := info_parts Tryz.infoFi
  have HM := hid hm
  have H0 := hid w0
  have Z0 := hid z0
  have HA := hid (awake_any W hm)
  clear hm w0 z0
  go_enter Tryz.func6, Tryz.ntmps6
  go_wp2_with fail
  refine HA.out.mono ?_; rintro e w1 ⟨rfl, hb1⟩
  have HB1 := hid hb1
  have HG0 := hid (great_any a0 n0 c0 l0 w1 (H0.out.later hb1) Z0.out)
  clear hb1 HA
  go_wp2_with fail
  refine HG0.out.mono ?_; rintro e w2 ⟨r0, rfl, hb2, hr0⟩
  have HB2 := hid (below_then HB1.out hb2)
  clear hb2 HG0 HB1
  cases r0 with
  | true =>
    go_wp2_with fail
    go_ret
    exact ⟨rfl, HB2.out⟩
  | false =>
    obtain ⟨hn0, hs0⟩ := hr0 rfl
    have Y0 := hid (sumF_each hs0)
    clear hr0
    by_cases hps : 4096 < p.size
    · have ci : (4096 : Int) < p.size := by omega
      go_wp2_with fail
      go_ret
      exact ⟨rfl, HB2.out⟩
    have ci : ¬ (4096 : Int) < p.size := by omega
    have hb3 : Below w2.heap.size w2 (w2.alloc (.cells #[.slice none 0 0] 31)) := (Below.refl _ _).alloc (Nat.le_refl _) _
    have HB3 := hid (below_then HB2.out hb3)
    have HBK : Hid (BookAt (w2.alloc (.cells #[.slice none 0 0] 31)) w2.heap.size []) := ⟨none, 0, 0, Blk.new w2 _ _, rfl, by omega, .inl rfl⟩
    have HCO := hid (commit_any 29 (.pointer (some ⟨w2.heap.size, 0, none⟩)) (getF []) (fun id t h => by cases h) a0 n0 c0 l0 none 0 0 [] ⟨#[]⟩ _ (book_src _ _ _ HBK.out) (H0.out.later HB3.out) (fun f hf => by have := Y0.out f hf; omega) ⟨rfl, by omega, .inl rfl⟩ (by decide) (HM.out.later HB3.out))
    clear hb3 HB2 HBK
    go_wp2_with fail
    generalize (w2.alloc (.cells #[.slice none 0 0] 31)) = w3 at HB3 HCO ⊢
    refine HCO.out.mono ?_; rintro e w4 ⟨hb4, v, rfl, ho4⟩
    have HB4 := hid (below_then HB3.out hb4)
    obtain ⟨va, vc, rfl, hvc⟩ := own_slice' ho4
    have HO4 := hid ho4
    clear hb4 ho4 HCO hvc HB3
    by_cases hok : OkFs l0
    · have HOK := hid hok
      rw [commit_is hok (show (ByteArray.mk #[]).size ≤ 1000 by decide)] at HO4 ⊢
      have hll := comL_len (note := ⟨#[]⟩) hok (by rw [H0.out.1]; exact hn0)
      have HLZ : Hid (∀ s ∈ comL l0 ⟨#[]⟩, s.size ≤ 100000) := comL_size
      have HFN : Hid (Sw.Apart (comL l0 ⟨#[]⟩) → (p.size ≠ 0 → FoldIs l0 p (findS (getF (itemsS (comL l0 ⟨#[]⟩))) (comI l0 ⟨#[]⟩) p)) ∧ (p.size = 0 → findS (getF (itemsS (comL l0 ⟨#[]⟩))) (comI l0 ⟨#[]⟩) p = (⟨ByteArray.empty, 2, tid 64 (l0.map flOf)⟩, 0))) :=
        fun hL => com_find hok (by decide) hL (fun t ht => ht)
      obtain ⟨L, hLe⟩ : ∃ L, comL l0 ⟨#[]⟩ = L := ⟨_, rfl⟩
      obtain ⟨cid, hce⟩ : ∃ c, comI l0 ⟨#[]⟩ = c := ⟨_, rfl⟩
      rw [hLe, hce] at HFN
      rw [hLe] at HLZ hll
      simp only [hLe, hce] at HO4 ⊢
      clear hLe hce hok
      have hS4 := HO4.out
      obtain ⟨q0, q1, e0, hS4⟩ := own_texts hS4 (by omega)
      injection e0 with e00 e01 e02
      subst e00; subst e02
      have HS4 := hid hS4
      have HSH := hid (shown_any va L.length vc L w4 hS4 (by omega) (fun s hs => by have := HLZ.out s hs; omega))
      clear hS4 e01
      go_wp2_with fail
      refine HSH.out.mono ?_; rintro e w5 ⟨bb, rfl, hbb, hb5⟩
      have HB5 := hid (below_then HB4.out hb5)
      have HS5 := hid (HS4.out.later hb5)
      clear hb5 HSH HS4 HO4 HB4
      cases bb with
      | true =>
        go_wp2_with fail
        go_ret
        exact ⟨rfl, HB5.out⟩
      | false =>
        have HF := hid (HFN.out (hbb rfl))
        clear hbb HFN
        have HO6 : Hid ((w5.alloc (.cells #[] 71)).ownsRow w5.heap.size 71 2 (.slice (some ⟨w5.heap.size, 0, none⟩) 0 0) 0 (fivals (inF p (l0.take 0)))) := own_noneFi w5
        have HB6 : Hid (Below w5.heap.size w5 (w5.alloc (.cells #[] 71))) := (Below.refl _ _).alloc (Nat.le_refl _) _
        go_upto_region 9 with fail
        generalize (w5.alloc (.cells #[] 71)) = w6 at HO6 HB6 ⊢
        generalize hg : w5.heap.size = g at HO6 HB6 ⊢
        have HG := hid hg
        clear hg
        go_wp2_with fail
        go_loopw [8, 9, 10] (fun ov fv iv wr => ∃ i m : Nat, i ≤ n0 ∧ m ≤ i ∧ iv = .int .i64 i ∧ fv = .bool (atF p (l0.take i)) ∧ Hid (wr.ownsRow g 71 2 ov m (fivals (inF p (l0.take i)))) ∧ Hid (Below g w5 wr)) (fun _ _ iv _ => n0 - (intOf iv).toNat)
        case atStart => exact ⟨0, 0, Nat.zero_le _, Nat.le_refl _, rfl, rfl, HO6, HB6⟩
        case round =>
          obtain ⟨i, m, hi, hmi, rfl, rfl, HO, HB⟩ := hrel
          obtain ⟨oa, oc, rfl, hoc⟩ := own_slice' HO.out
          by_cases hlt : i < n0
          · have ci2 : (i : Int) < n0 := by omega
            have ci0 : (0 : Int) ≤ (i : Int) := by omega
            have HBR := hid (below_then HB5.out (by rw [HG.out]; exact HB.out))
            obtain ⟨h1, -, h3⟩ := H0.out.later HBR.out
            obtain ⟨b, off, rfl, hc⟩ := h3.resolve_left (by omega)
            obtain ⟨q0, q1⟩ := hc i hlt
            have hbg : b < g := by
              obtain ⟨-, -, k3⟩ := H0.out
              obtain ⟨b', off', he, hc'⟩ := k3.resolve_left (by omega)
              cases he
              have k1 := World.block_lt_of_cell? W _ (hc' i hlt).1
              have k2 := HB5.out.size
              have k4 := HG.out
              simp only at k1
              omega
            have hil : i < l0.length := by omega
            have hsz := Y0.out (l0.getD i noFi) (by rw [List.getD_eq_getElem?_getD, List.getElem?_eq_getElem hil]; exact List.getElem_mem hil)
            have HT : Hid (l0.take (i + 1) = l0.take i ++ [l0.getD i noFi]) := by
              show _ = _
              rw [List.take_succ_eq_append_getElem hil, List.getD_eq_getElem?_getD, List.getElem?_eq_getElem hil]; rfl
            obtain ⟨x, hx⟩ : ∃ x, l0.getD i noFi = x := ⟨_, rfl⟩
            rw [hx] at q0 q1 HT hsz
            obtain ⟨xp, xd⟩ := x
            simp only at q0 q1 hsz
            have HWI := hid (within_any p xp wr (by omega) (by omega) (HM.out.later HBR.out))
            clear hx hc h3 h1
            go_wp2_with fail
            refine HWI.out.mono ?_; rintro e w7 ⟨rfl, hb7⟩
            have q0 := (hb7.cell (World.block_lt_of_cell? wr _ q0)).trans q0
            have q1 := (hb7.cell (World.block_lt_of_cell? wr _ q1)).trans q1
            have HO7 := hid (own_below HO.out hb7)
            have HB7 : Hid (Below g w5 w7) := by have := HB.out; rw [← HG.out] at this ⊢; exact below_then this hb7
            clear hb7 HWI HBR HO HB
            obtain ⟨ft, hft⟩ : ∃ ft, atF p (l0.take i) = ft := ⟨_, rfl⟩
            have HFT : Hid (atF p (l0.take (i + 1)) = (ft || (xp.toList == p.toList))) := by show _ = _; rw [HT.out, atF_snoc, hft]
            have HIN : Hid (fivals (inF p (l0.take (i + 1))) = fivals (inF p (l0.take i)) ++ fivals (if withinR p.data.toList xp.data.toList = true then [stripF p ⟨xp, xd⟩] else [])) := by show _ = _; rw [HT.out, inF_snoc, fivals_append]
            rw [hft]
            clear hft HT
            obtain ⟨wi, hwi⟩ : ∃ wi, withinR p.data.toList xp.data.toList = wi := ⟨_, rfl⟩
            have HWC : Hid (wi = true → p.size + 1 ≤ xp.size) := fun h => within_cut (hwi.trans h)
            rw [hwi] at HIN ⊢
            clear hwi
            have HCC : Hid (w7.cell? ⟨b, off + i * 2, none⟩ = some (.string xp) ∧ w7.cell? ⟨b, off + i * 2 + 1, none⟩ = some (.string xd)) := ⟨q0, q1⟩
            have hgw : g ≤ w7.heap.size := by have := HB7.out.size; rw [HG.out] at this; exact this
            clear q0 q1
            go_upto_if 55 with fail
            go_cut [8] (fun s8 wx => ∃ (m' : Nat) (a' : Option Addr) (c' : Nat), s8 = .slice a' m' c' ∧ m' ≤ i + 1 ∧ Hid (wx.ownsRow g 71 2 (.slice a' m' c') m' (fivals (inF p (l0.take (i + 1))))) ∧ Hid (Below g w5 wx))
            case first =>
              cases wi with
              | true =>
                have hwc := HWC.out rfl
                have e1 : IntKind.i64.wrap ((p.size : Int) + 1) = (p.size : Int) + 1 := by rw [IntKind.wrap_i64]; omega
                obtain ⟨q0, q1⟩ := HCC.out
                have cs : ((p.size : Int) + 1) ≤ xp.size := by omega
                have cs0 : (0 : Int) ≤ (p.size : Int) + 1 := by omega
                go_upto_region 14 with fail
                go_region_law (go_loud (refine step_append_lies _ (by rfl) (.tmp 56) (.tmp 72) 34 (by rfl) g 71 i0 (.agg #[.string ⟨#[]⟩, .string ⟨#[]⟩]) 2 32 Tryz.underlying34 hi0 hz0 hz1 hz2 rfl (by decide) (.slice oa m oc) m (fivals (inF p (l0.take i))) (by simp [Act.eval, Act.put]) (HO7.out.drew.alloc _) ⟨w7.heap.size, 0, none⟩ 1 1 [.string (xp.extract (p.size + 1) xp.size), .string xd] (by simp [Act.eval, Act.put]) rfl (cellNew2 _ _ _ _) (one2 rfl rfl) (by decide) (by unfold maxLen; omega) (by omega) (by simp; omega) (w7.heap.size + 1) (by simp) ?_; intro g1 cap1 wf hown hgrow hat hglt; have HOWN := hid hown; have HGR := hid hgrow; clear hown hgrow hat hglt))
                all_goals
                  have HO9 : Hid (wf.ownsRow g 71 2 (.slice (some ⟨g1, 0, none⟩) (m + 1) cap1) (m + 1) (fivals (inF p (l0.take (i + 1))))) := by
                    show World.ownsRow _ _ _ _ _ _ _
                    rw [HIN.out, if_pos rfl]; exact HOWN.out
                  have HB9 : Hid (Below g w5 wf) := (HB7.out.alloc hgw _).drew.grown HGR.out (by simp; omega) (fun j hj => (HO7.out.lt j hj).1)
                  go_wp2_with fail
                  go_meet
                  case rel => exact ⟨m + 1, _, _, rfl, by omega, HO9, HB9⟩
              | false =>
                go_wp2_with fail
                go_meet
                case rel => exact ⟨m, oa, oc, rfl, by omega, by rw [HIN.out]; show w7.ownsRow _ _ _ _ _ _; rw [if_neg (by decide)]; show w7.ownsRow _ _ _ _ _ (_ ++ []); rw [List.append_nil]; exact HO7.out, HB7⟩
            case rest =>
              obtain ⟨m', a', c', rfl, hm', HO8, HB8⟩ := hcut
              have q0 := (HB8.out.cell (p := ⟨b, off + i * 2, none⟩) hbg).trans (((HB7.out.cell (p := ⟨b, off + i * 2, none⟩) hbg).symm).trans HCC.out.1)
              cases ft with
              | true =>
                have HF1 : Hid (atF p (l0.take (i + 1)) = true) := HFT.out
                go_wp2_with fail
                go_roundw
                case rel => exact ⟨i + 1, m', by omega, by omega, by go_num, by rw [HF1.out], HO8, HB8⟩
                case measure => simp [intOf]; omega
              | false =>
                by_cases hxe : xp.toList = p.toList
                · have HF1 : Hid (atF p (l0.take (i + 1)) = true) := by show _ = _; rw [HFT.out, hxe]; simp
                  go_wp2_with fail
                  go_roundw
                  case rel => exact ⟨i + 1, m', by omega, by omega, by go_num, by rw [HF1.out], HO8, HB8⟩
                  case measure => simp [intOf]; omega
                · have hxf : (xp.toList == p.toList) = false := by rw [beq_eq_false_iff_ne]; exact hxe
                  have HF1 : Hid (atF p (l0.take (i + 1)) = false) := by show _ = _; rw [HFT.out, hxf]; rfl
                  go_wp2_with fail
                  go_roundw
                  case rel => exact ⟨i + 1, m', by omega, by omega, by go_num, by rw [HF1.out], HO8, HB8⟩
                  case measure => simp [intOf]; omega
          · obtain rfl : i = n0 := by omega
            have ci2 : ¬ (i : Int) < i := by omega
            have hall : l0.take i = l0 := List.take_of_length_le (by rw [H0.out.1]; exact Nat.le_refl _)
            rw [hall] at HO ⊢
            clear hall
            have HIN : Hid (m = (inF p l0).length) := by
              have := HO.out.1
              rw [fivals_length] at this
              show _ = _; omega
            have HBR := hid (below_then HB5.out (by rw [HG.out]; exact HB.out))
            have HSR : Hid (StrsAt wr va L.length L) := HS5.out.later (by rw [HG.out]; exact HB.out)
            have hm60 : m ≤ 60 := by omega
            have hOF := HO.out
            obtain ⟨q0, q1, e0, hF0⟩ := own_files hOF (by omega)
            injection e0 with e00 e01 e02
            subst e00; subst e02
            have HFI := hid hF0
            have HIT := hid (items_any va L.length vc L wr HSR.out (by omega) (fun s hs => by have := HLZ.out s hs; omega))
            clear hF0 e01 hOF
            go_wp2_with fail
            refine HIT.out.mono ?_; rintro e w8 ⟨ia, ic, rfl, ho8, hb8⟩
            have HS9 : Hid (SrcAt (w8.alloc (.cells #[.slice ia L.length ic] 31)) 29 (.pointer (some ⟨w8.heap.size, 0, none⟩)) (getF (itemsS L))) := by
              obtain ⟨ia', ic', he, hF⟩ := own_items ho8 (by omega)
              injection he with e1 e2 e3
              subst e1; subst e3
              exact book_src w8.heap.size (itemsS L) _ ⟨ia, L.length, ic, Blk.new w8 _ _, hF.later ((Below.refl _ _).alloc (Nat.le_refl _) _)⟩
            have hb9 : Below w8.heap.size w8 (w8.alloc (.cells #[.slice ia L.length ic] 31)) := (Below.refl _ _).alloc (Nat.le_refl _) _
            have HB9 := hid (below_then (below_then HBR.out hb8) hb9)
            have HI9 := hid ((HFI.out.later hb8).later hb9)
            have HZG : Hid (SrcSz (getF (itemsS L))) := items_small (fun s hs => by have := HLZ.out s hs; omega)
            clear HIT ho8 hb8 hb9 HBR HSR HB HFI HO
            go_upto_region 16 with fail
            go_wp2_with fail
            have HFD := hid (find_any 29 (.pointer (some ⟨w8.heap.size, 0, none⟩)) (getF (itemsS L)) HZG.out cid p (w8.alloc (.cells #[.slice ia L.length ic] 31)) HS9.out (by omega) (HM.out.later HB9.out))
            generalize (w8.alloc (.cells #[.slice ia L.length ic] 31)) = w9 at HB9 HI9 HS9 HFD ⊢
            obtain ⟨⟨⟨xn, xk, xi⟩, xe⟩, hx⟩ : ∃ r, findS (getF (itemsS L)) cid p = r := ⟨_, rfl⟩
            rw [hx] at HFD HF
            clear hx
            refine HFD.out.mono ?_; rintro e wa ⟨rfl, hba⟩
            simp only [entCs]
            have hbb : Below wa.heap.size wa (wa.alloc (.cells #[.string xn, .int .i64 xk, .string xi] 40)) := (Below.refl _ _).alloc (Nat.le_refl _) _
            have HXB : Hid (Blk (wa.alloc (.cells #[.string xn, .int .i64 xk, .string xi] 40)) wa.heap.size 40 #[.string xn, .int .i64 xk, .string xi]) := Blk.new wa _ _
            have HBB := hid (below_then (below_then HB9.out hba) hbb)
            have HIB := hid ((HI9.out.later hba).later hbb)
            clear hba hbb HFD HI9 HB9 HS9 HZG
            go_upto_region 17 with fail
            generalize (wa.alloc (.cells #[.string xn, .int .i64 xk, .string xi] 40)) = wb at HXB HBB HIB ⊢
            generalize wa.heap.size = xb at HXB ⊢
            have x0 : wb.cell? ⟨xb, 0, none⟩ = some (.string xn) := Blk.cell HXB.out 0
            have x1 : wb.cell? ⟨xb, 1, none⟩ = some (.int .i64 xk) := Blk.cell HXB.out 1
            have x2 : wb.cell? ⟨xb, 2, none⟩ = some (.string xi) := Blk.cell HXB.out 2
            by_cases hpz : p.size = 0
            · have hq := HF.out.2 hpz
              obtain ⟨e1, e2⟩ := Prod.mk.inj hq
              obtain ⟨e3, e4, e5⟩ := Ent.mk.inj e1
              subst e2; subst e3; subst e4
              obtain rfl : p = ⟨#[]⟩ := by
                apply ba_ext
                have : p.data.toList.length = 0 := by rw [Array.length_toList]; exact hpz
                rw [List.length_eq_zero_iff.1 this]
              have HBD := hid (Build_any a0 i c0 l0 wb (H0.out.later HBB.out) (fun f hf => by have := Y0.out f hf; omega) (HM.out.later HBB.out))
              have hroot := buildS_root (buildS_ok.2 HOK.out)
              rw [buildS_of HOK.out] at hroot HBD
              obtain ⟨⟨L2, t2⟩, hr2⟩ : ∃ r, treeS 64 (l0.map flOf) [] = r := ⟨_, rfl⟩
              rw [hr2] at hroot HBD
              simp only at hroot
              have HRT : Hid (t2 = xi) := by show _ = _; rw [hroot, e5]
              clear hroot hr2 hq e1 e5 hpz
              go_wp2_with fail
              refine HBD.out.mono ?_; rintro e wc ⟨hbc, v2, rfl, ho2⟩
              have x0 := (hbc.cell (World.block_lt_of_cell? wb _ x0)).trans x0
              have x1 := (hbc.cell (World.block_lt_of_cell? wb _ x1)).trans x1
              have x2 := (hbc.cell (World.block_lt_of_cell? wb _ x2)).trans x2
              have HBC := hid (below_then HBB.out hbc)
              clear hbc ho2 HBD
              have hrt := HRT.out
              subst hrt
              go_wp2_with fail
              go_ret
              exact ⟨rfl, HBC.out⟩
            · have hFI := HF.out.1 hpz
              have hps1 := bstr_some hpz
              have hps2 := bstr_isEmpty hpz
              have HFL := hid hFI
              clear hFI HF hpz
              by_cases hm0 : m = 0
              · have hin0 : inF p l0 = [] := List.length_eq_zero_iff.1 (by rw [← HIN.out]; exact hm0)
                have HI0 := hid hin0
                obtain ⟨ft, hft⟩ : ∃ ft, atF p l0 = ft := ⟨_, rfl⟩
                have hx : (ft = true → xe = 0 ∧ xk = 1) ∧ (ft = false → xe ≠ 0) := by
                  refine ⟨fun h => HFL.out.file hin0 (atF_iff.1 (hft.trans h)), fun h => HFL.out.no hin0 (fun h2 => ?_)⟩
                  rw [atF_iff.2 h2] at hft
                  rw [h] at hft; cases hft
                rw [hft]
                have HX := hid hx
                subst hm0
                clear hin0 hft hx
                cases ft with
                | true =>
                  obtain ⟨rfl, rfl⟩ := HX.out.1 rfl
                  go_wp2_with fail
                  go_ret
                  exact ⟨rfl, HBB.out⟩
                | false =>
                  have hxe := HX.out.2 rfl
                  have hxb : (xe == 0) = false := by rw [beq_eq_false_iff_ne]; exact hxe
                  go_wp2_with fail
                  go_ret
                  exact ⟨by first | rfl | (show Ending.returned (.bool (!(xe == 0))) = _; rw [hxb]; rfl), HBB.out⟩
              · have cm : (0 : Int) < m := by omega
                have hin1 : inF p l0 ≠ [] := fun e => hm0 (by rw [HIN.out, e]; rfl)
                obtain ⟨hk, he, hkd, hid2⟩ := HFL.out.dir hin1
                simp only at he hkd hid2
                subst he; subst hkd
                have HBD := hid (Build_any oa m oc (inF p l0) wb HIB.out (fun f hf => by have := inF_size Y0.out f hf; omega) (HM.out.later HBB.out))
                have hroot := buildS_root (buildS_ok.2 hk)
                rw [buildS_of hk] at hroot HBD
                obtain ⟨⟨L2, t2⟩, hr2⟩ : ∃ r, treeS 64 ((inF p l0).map flOf) [] = r := ⟨_, rfl⟩
                rw [hr2] at hroot HBD
                simp only at hroot
                have HRT : Hid (t2 = xi) := by show _ = _; rw [hroot, hid2]
                clear hroot hr2 hid2 hk hin1 hm0
                go_wp2_with fail
                refine HBD.out.mono ?_; rintro e wc ⟨hbc, v2, rfl, ho2⟩
                have x1 := (hbc.cell (World.block_lt_of_cell? wb _ x1)).trans x1
                have x2 := (hbc.cell (World.block_lt_of_cell? wb _ x2)).trans x2
                have HBC := hid (below_then HBB.out hbc)
                clear hbc ho2 HBD x0
                have hrt := HRT.out
                subst hrt
                go_wp2_with fail
                go_ret
                exact ⟨rfl, HBC.out⟩
    · have hne := commit_not (G := getF []) (note := ⟨#[]⟩) hok
      obtain ⟨er, her⟩ : ∃ er, (commitS (getF []) l0 [] ⟨#[]⟩).2 = er := ⟨_, rfl⟩
      rw [her] at hne ⊢
      go_wp2_with fail
      go_ret
      exact ⟨rfl, HB4.out⟩
end Go.Proofs.YtlenfiiocmchdaaGreatDoor
