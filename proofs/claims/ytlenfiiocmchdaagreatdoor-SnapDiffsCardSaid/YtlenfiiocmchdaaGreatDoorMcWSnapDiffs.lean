/- The walk of SnapDiffs. -/
import Derived.Test.YtlenfiiocmchdaaGreatDoorMcL
namespace Go.Proofs.YtlenfiiocmchdaaGreatDoor
open Go.RowKit Book Pap Ojt Sn
set_option linter.unusedVariables false
set_option linter.unusedSimpArgs false

theorem delN_few (l : List ByteArray) (x : ByteArray) : (delN l x).length ≤ l.length := by
  unfold delN
  split
  · rw [List.length_append, List.length_take, List.length_drop]; omega
  · exact Nat.le_refl _
theorem ChsAt.later {w w' : World} {a : Option Addr} {n : Nat} {l : List Ch} (h : ChsAt w a n l) (hb : Below w.heap.size w w') : ChsAt w' a n l := by
  obtain ⟨h1, h2, h3⟩ := h
  refine ⟨h1, h2, h3.imp id ?_⟩
  rintro ⟨b, off, ha, hc⟩
  refine ⟨b, off, ha, fun j hj => ?_⟩
  obtain ⟨c0, c1, c2⟩ := hc j hj
  exact ⟨(hb.cell (World.block_lt_of_cell? w _ c0)).trans c0, (hb.cell (World.block_lt_of_cell? w _ c1)).trans c1, (hb.cell (World.block_lt_of_cell? w _ c2)).trans c2⟩
set_option maxRecDepth 100000 in
set_option maxHeartbeats 16000000 in
theorem walk_SnapDiffs (a0 : Option Addr) (n0 c0 : Nat) (l0 : List Fi) (a1 : Option Addr) (n1 c1 : Nat) (l1 : List Fi) (W : World) (w0 : FisAt W a0 n0 l0) (nc0 : n0 ≤ c0) (z0 : ∀ f ∈ l0, f.path.size ≤ 140737488355328 ∧ f.data.size ≤ 140737488355328)
    (w1 : FisAt W a1 n1 l1) (nc1 : n1 ≤ c1) (z1 : ∀ f ∈ l1, f.path.size ≤ 140737488355328 ∧ f.data.size ≤ 140737488355328) (hm : MaxAt W) :
    Calls Tryz.prog 7 #[.slice a0 n0 c0, .slice a1 n1 c1] W fun e w' => e = .returned (.bool true) ∧ Below W.heap.size W w' := by
  have HM := hid hm
  have H0 := hid w0
  have H1 := hid w1
  have Z0 := hid z0
  have Z1 := hid z1
  have HA := hid (awake_any W hm)
  clear hm w0 w1 z0 z1
  go_enter Tryz.func7, Tryz.ntmps7
  go_wp2_with fail
  refine HA.out.mono ?_; rintro e w1 ⟨rfl, hb1⟩
  have HB1 := hid hb1
  have HG0 := hid (great_any a0 n0 c0 l0 w1 (H0.out.later hb1) Z0.out)
  clear hb1 HA
  go_wp2_with fail
  refine HG0.out.mono ?_; rintro e w2 ⟨r0, rfl, hb2, hr0⟩
  have HB2 := hid (below_then HB1.out hb2)
  clear hb2 HG0 HB1
  cases r0 with
  | true =>
    go_wp2_with fail
    go_ret
    exact ⟨rfl, HB2.out⟩
  | false =>
    obtain ⟨hn0, hs0⟩ := hr0 rfl
    have HG1 := hid (great_any a1 n1 c1 l1 w2 (H1.out.later HB2.out) Z1.out)
    go_wp2_with fail
    refine HG1.out.mono ?_; rintro e w3 ⟨r1, rfl, hb3, hr1⟩
    have HB3 := hid (below_then HB2.out hb3)
    clear hb3 HG1 HB2
    cases r1 with
    | true =>
      go_wp2_with fail
      go_ret
      exact ⟨rfl, HB3.out⟩
    | false =>
      obtain ⟨hn1, hs1⟩ := hr1 rfl
      have Y0 := hid (sumF_each hs0)
      have Y1 := hid (sumF_each hs1)
      clear hr0 hr1
      have hb4 : Below w3.heap.size w3 (w3.alloc (.cells #[.slice none 0 0] 31)) := (Below.refl _ _).alloc (Nat.le_refl _) _
      have HB4 := hid (below_then HB3.out hb4)
      have HBK : Hid (BookAt (w3.alloc (.cells #[.slice none 0 0] 31)) w3.heap.size []) := ⟨none, 0, 0, Blk.new w3 _ _, rfl, by omega, .inl rfl⟩
      have HCO := hid (commit_any 29 (.pointer (some ⟨w3.heap.size, 0, none⟩)) (getF []) (fun id t h => by cases h) a0 n0 c0 l0 none 0 0 [] ⟨#[97]⟩ _ (book_src _ _ _ HBK.out) (H0.out.later HB4.out) (fun f hf => by have := Y0.out f hf; omega) ⟨rfl, by omega, .inl rfl⟩ (by decide) (HM.out.later HB4.out))
      clear hb4 HB3 HBK
      go_wp2_with fail
      generalize (w3.alloc (.cells #[.slice none 0 0] 31)) = w4 at HB4 HCO ⊢
      refine HCO.out.mono ?_; rintro e w5 ⟨hb5, v, rfl, ho5⟩
      have HB5 := hid (below_then HB4.out hb5)
      obtain ⟨va, vc, rfl, hvc⟩ := own_slice' ho5
      have HO5 := hid ho5
      clear hb5 ho5 HCO hvc HB4
      have hb6 : Below w5.heap.size w5 (w5.alloc (.cells #[.slice none 0 0] 31)) := (Below.refl _ _).alloc (Nat.le_refl _) _
      have HB6 := hid (below_then HB5.out hb6)
      have HBK : Hid (BookAt (w5.alloc (.cells #[.slice none 0 0] 31)) w5.heap.size []) := ⟨none, 0, 0, Blk.new w5 _ _, rfl, by omega, .inl rfl⟩
      have HCO := hid (commit_any 29 (.pointer (some ⟨w5.heap.size, 0, none⟩)) (getF []) (fun id t h => by cases h) a1 n1 c1 l1 none 0 0 [] ⟨#[98]⟩ _ (book_src _ _ _ HBK.out) (H1.out.later HB6.out) (fun f hf => by have := Y1.out f hf; omega) ⟨rfl, by omega, .inl rfl⟩ (by decide) (HM.out.later HB6.out))
      have HO6 := hid (own_below HO5.out hb6)
      clear hb6 HB5 HBK HO5
      go_wp2_with fail
      generalize (w5.alloc (.cells #[.slice none 0 0] 31)) = w6 at HB6 HCO HO6 ⊢
      refine HCO.out.mono ?_; rintro e w7 ⟨hb7, v, rfl, ho7⟩
      have HB7 := hid (below_then HB6.out hb7)
      have HO7 := hid (own_below HO6.out hb7)
      obtain ⟨vb, vd, rfl, hvd⟩ := own_slice' ho7
      have HL7 := hid ho7
      clear hb7 ho7 HCO hvd HB6 HO6
      by_cases hok : OkFs l0
      · by_cases hpk : OkFs l1
        · have HLAW : Hid (∀ L, Sw.Apart L → (∀ t ∈ comL l0 ⟨#[97]⟩, t ∈ L) → (∀ t ∈ comL l1 ⟨#[98]⟩, t ∈ L) → ∃ l m, listS (getF (itemsS L)) (comI l0 ⟨#[97]⟩) = (l, 0) ∧ listS (getF (itemsS L)) (comI l1 ⟨#[98]⟩) = (m, 0) ∧ (∀ D, IsDiff l m D → DiffLaw l m D) ∧ ∀ D R, IsDiff l m D → IsDiff m l R → R = D.map swapC) :=
            fun L hL ia ib => diff_law hok hpk (by rw [H0.out.1]; exact hn0) (by rw [H1.out.1]; exact hn1) (fun f hf => (Y0.out f hf).1) (fun f hf => (Y1.out f hf).1) (by decide) (by decide) hL ia ib
          have hll := comL_len (note := ⟨#[97]⟩) hok (by rw [H0.out.1]; exact hn0)
          have hmm := comL_len (note := ⟨#[98]⟩) hpk (by rw [H1.out.1]; exact hn1)
          have HZ0 : Hid (∀ s ∈ comL l0 ⟨#[97]⟩, s.size ≤ 100000) := comL_size
          have HZ1 : Hid (∀ s ∈ comL l1 ⟨#[98]⟩, s.size ≤ 100000) := comL_size
          rw [commit_is hok (show (ByteArray.mk #[97]).size ≤ 1000 by decide)] at HO7 ⊢
          rw [commit_is hpk (show (ByteArray.mk #[98]).size ≤ 1000 by decide)] at HL7 ⊢
          obtain ⟨L0, hLe⟩ : ∃ L, comL l0 ⟨#[97]⟩ = L := ⟨_, rfl⟩
          obtain ⟨x0, hce⟩ : ∃ c, comI l0 ⟨#[97]⟩ = c := ⟨_, rfl⟩
          obtain ⟨L1, hMe⟩ : ∃ L, comL l1 ⟨#[98]⟩ = L := ⟨_, rfl⟩
          obtain ⟨x1, hde⟩ : ∃ c, comI l1 ⟨#[98]⟩ = c := ⟨_, rfl⟩
          rw [hLe, hce, hMe, hde] at HLAW
          rw [hLe] at HZ0 hll
          rw [hMe] at HZ1 hmm
          simp only [hLe, hce, hMe, hde] at HO7 HL7 ⊢
          clear hLe hce hMe hde hok hpk
          obtain ⟨q0, q1, e0, hS0⟩ := own_texts HO7.out (by omega)
          obtain ⟨q2, q3, e1, hS1⟩ := own_texts HL7.out (by omega)
          injection e0 with e00 e01 e02
          injection e1 with e10 e11 e12
          subst e00; subst e02; subst e10; subst e12
          have HS0 := hid hS0
          have HS1 := hid hS1
          have HBb : Hid (Below w7.heap.size w7 (w7.alloc (.cells #[] 9))) := (Below.refl _ _).alloc (Nat.le_refl _) _
          clear hS0 hS1 e01 e11 HO7 HL7
          go_wp2_with (first
            | (at_builtin; (refine wpList_append_strs (by rfl) (.tmp 59) (.tmp 60) (by rfl) w7.heap.size (.slice (some ⟨w7.heap.size, 0, none⟩) 0 0) 0 [] (by rfl) (own_noneSt w7) va L0.length vc L0 (by rfl) (HS0.out.later HBb.out) (by omega) (by simp) ?_; intro a5 c5 w8 ho8 hb8; rw [Nat.zero_add, List.nil_append] at ho8; have HOx := hid ho8; have HBx := hid (hb8 w7 HBb.out); clear ho8 hb8))
            | (at_builtin; (refine wpList_append_strs (by rfl) (.tmp 61) (.tmp 62) (by rfl) w7.heap.size (.slice a5 L0.length c5) L0.length L0 (by rfl) HOx.out vb L1.length vd L1 (by rfl) (HS1.out.later HBx.out) (by omega) HBx.out.size ?_; intro a6 c6 w9 ho9 hb9; have HOy := hid ho9; have HBy := hid (hb9 w7 HBx.out); clear ho9 hb9)))
          obtain ⟨g5, g6, eg, hS5⟩ := own_texts HOy.out (by omega)
          injection eg with eg0 eg1 eg2
          subst eg0; subst eg2
          have HSM : Hid (∀ s ∈ L0 ++ L1, s.size ≤ 100000) := fun s hs => by
            rcases List.mem_append.1 hs with h | h
            · exact HZ0.out s h
            · exact HZ1.out s h
          have HSY := hid hS5
          have HBZ := hid (below_then HB7.out HBy.out)
          have HSW := hid (shown_any a6 (L0.length + L1.length) c6 (L0 ++ L1) w9 hS5 (by omega) (fun s hs => by have := HSM.out s hs; omega))
          clear hS5 eg1 HBx HBy HOx HOy HBb HS0 HS1 HB7
          refine HSW.out.mono ?_; rintro e wa ⟨bb, rfl, hbb, hba⟩
          have HBA := hid (below_then HBZ.out hba)
          have HSA := hid (HSY.out.later hba)
          clear hba HSW HSY HBZ
          cases bb with
          | true =>
            go_wp2_with fail
            go_ret
            exact ⟨rfl, HBA.out⟩
          | false =>
            obtain ⟨l, m, hl1, hm1, hD, hR⟩ := HLAW.out (L0 ++ L1) (hbb rfl) (fun t ht => List.mem_append.2 (.inl ht)) (fun t ht => List.mem_append.2 (.inr ht))
            have HL1 := hid hl1
            have HM1 := hid hm1
            have HD := hid hD
            have HR := hid hR
            clear hl1 hm1 hD hR hbb HLAW
            have HIT := hid (items_any a6 (L0.length + L1.length) c6 (L0 ++ L1) wa HSA.out (by omega) (fun s hs => by have := HSM.out s hs; omega))
            go_wp2_with fail
            refine HIT.out.mono ?_; rintro e wb ⟨ia, ic, rfl, hob, hbb⟩
            have HSB : Hid (SrcAt (wb.alloc (.cells #[.slice ia (L0.length + L1.length) ic] 31)) 29 (.pointer (some ⟨wb.heap.size, 0, none⟩)) (getF (itemsS (L0 ++ L1)))) := by
              obtain ⟨ia', ic', he, hF⟩ := own_items hob (by omega)
              injection he with e1 e2 e3
              subst e1; subst e3
              exact book_src wb.heap.size (itemsS (L0 ++ L1)) _ ⟨ia, _, ic, Blk.new wb _ _, hF.later ((Below.refl _ _).alloc (Nat.le_refl _) _)⟩
            have hbc : Below wb.heap.size wb (wb.alloc (.cells #[.slice ia (L0.length + L1.length) ic] 31)) := (Below.refl _ _).alloc (Nat.le_refl _) _
            have HBC := hid (below_then (below_then HBA.out hbb) hbc)
            have HZG : Hid (SrcSz (getF (itemsS (L0 ++ L1)))) := items_small (fun s hs => by have := HSM.out s hs; omega)
            clear HIT hob hbb hbc HBA HSA
            go_upto_region 13 with fail
            generalize (wb.alloc (.cells #[.slice ia (L0.length + L1.length) ic] 31)) = wc at HBC HSB ⊢
            generalize wb.heap.size = xb at HSB ⊢
            have HDF := hid (diff_any 29 (.pointer (some ⟨xb, 0, none⟩)) _ HZG.out x0 x1 wc HSB.out (HM.out.later HBC.out))
            go_wp2_with fail
            refine HDF.out.mono ?_; rintro e wd ⟨da, dn, dc, D, de, rfl, hD, hbd, hde⟩
            rw [HL1.out, HM1.out, if_neg (by simp), if_neg (by simp)] at hde
            obtain ⟨rfl, hde⟩ := hde
            have HDE := hid hde
            have HBD := hid (below_then HBC.out hbd)
            have HSD := hid (HSB.out.later hbd)
            have HDD := hid hD
            clear hD hbd hde HDF HSB HBC
            have HDF := hid (diff_any 29 (.pointer (some ⟨xb, 0, none⟩)) _ HZG.out x1 x0 wd HSD.out (HM.out.later HBD.out))
            go_wp2_with fail
            refine HDF.out.mono ?_; rintro e we ⟨ra, rn, rc, R, re, rfl, hR, hbe, hre⟩
            rw [HL1.out, HM1.out, if_neg (by simp), if_neg (by simp)] at hre
            obtain ⟨rfl, hre⟩ := hre
            obtain rfl := HR.out D R HDE.out hre
            have HBE := hid (below_then HBD.out hbe)
            have HSE := hid (HSD.out.later hbe)
            have HDW := hid (HD.out D HDE.out)
            obtain rfl : dn = rn := by have h1 := hR.1; have h2 := HDD.out.1; rw [List.length_map] at h1; omega
            have hDE := ChsAt.later HDD.out hbe
            have HDD2 := hid hDE
            have HRR := hid hR
            clear hR hbe hre HDF HSD HBD HR HD HDD hDE HDE
            have HLI := hid (list_any 29 (.pointer (some ⟨xb, 0, none⟩)) _ HZG.out x0 we HSE.out)
            rw [HL1.out] at HLI
            go_wp2_with fail
            refine HLI.out.mono ?_; rintro e wf ⟨la, ln, lc, rfl, hL, hbf, -, -⟩
            have HBF := hid (below_then HBE.out hbf)
            have HSF := hid (HSE.out.later hbf)
            have HLL := hid hL
            have hDE := ChsAt.later HDD2.out hbf
            have hRE := ChsAt.later HRR.out hbf
            have HDD := hid hDE
            have HRF := hid hRE
            clear hL hbf hDE hRE HDD2 HRR HLI HSE HBE HL1
            have HLI := hid (list_any 29 (.pointer (some ⟨xb, 0, none⟩)) _ HZG.out x1 wf HSF.out)
            rw [HM1.out] at HLI
            go_wp2_with fail
            refine HLI.out.mono ?_; rintro e wg ⟨ma, mn, mc, rfl, hMm, hbg, -, -⟩
            have HBG := hid (below_then HBF.out hbg)
            have HMM := hid hMm
            have HLG := hid (HLL.out.later hbg)
            have hDE := ChsAt.later HDD.out hbg
            have hRE := ChsAt.later HRF.out hbg
            have HDG := hid hDE
            have HRG := hid hRE
            have hln := HLG.out.1
            have hmn := HMM.out.1
            have hdn := HDG.out.1
            simp only at hln hmn
            have hl60 := HDW.out.ll
            have hm60 := HDW.out.lm
            have hd120 := HDW.out.few
            clear hMm hbg hDE hRE HDD HRF HLI HSF HBF HM1 HLL
            have HNW := hid (newTxt_any wg)
            go_wp2_with fail
            refine HNW.out.mono ?_; rintro e wh ⟨rfl, hmp, hbh⟩
            have HMP0 := hid hmp
            have HBH := hid hbh
            have HTO0 : Hid (getO [] [] = idl (l.take 0)) := rfl
            have HFT0 : Hid (∀ k, MapF wg.heap.size (.slice none 0 0) (.slice none 0 0) k → wg.heap.size ≤ k) := fun k hk => by
              rcases hk with h | h | h
              · exact Nat.le_of_eq h.symm
              · cases h
              · cases h
            clear hmp hbh HNW
            generalize hg : wg.heap.size = g at HMP0 HBH HFT0 ⊢
            have HG := hid hg
            clear hg
            go_wp2_with fail
            go_loopw [20] (fun iv wr => ∃ (i : Nat) (kv vv : Value) (ks vs : List ByteArray), i ≤ ln ∧ iv = .int .i64 i ∧ ks.length ≤ i ∧ Hid (MapIsTxt wr g kv vv ks vs) ∧ Hid (∀ k, MapF g kv vv k → g ≤ k) ∧ Hid (getO ks vs = idl (l.take i)) ∧ Hid (Below g wg wr)) (fun iv _ => ln - (intOf iv).toNat)
            case atStart => exact ⟨0, _, _, [], [], Nat.zero_le _, rfl, Nat.le_refl _, HMP0, HFT0, HTO0, HBH⟩
            case round =>
              obtain ⟨i, kv, vv, ks, vs, hi, rfl, hkl, HMP, HFT, HTO, HB⟩ := hrel
              by_cases hlt : i < ln
              · have ci2 : (i : Int) < ln := by omega
                have ci0 : (0 : Int) ≤ (i : Int) := by omega
                obtain ⟨-, -, h3⟩ := HLG.out
                obtain ⟨b, off, rfl, hc⟩ := h3.resolve_left (by omega)
                obtain ⟨q0, q1, q2⟩ := hc i hlt
                have hbg : b < g := by have := World.block_lt_of_cell? wg _ q0; rw [HG.out] at this; exact this
                have q0 := (HB.out.cell (p := ⟨b, off + i * 3, none⟩) hbg).trans q0
                have q2 := (HB.out.cell (p := ⟨b, off + i * 3 + 2, none⟩) hbg).trans q2
                have hil : i < l.length := by omega
                have hgd : l.getD i ⟨ByteArray.empty, 0, ByteArray.empty⟩ = l[i] := by rw [List.getD_eq_getElem?_getD, List.getElem?_eq_getElem hil]; rfl
                have HTN : Hid (idl (l.take (i + 1)) = fun q => if q = l[i].name then some l[i].id else idl (l.take i) q) := by
                  show _ = _
                  rw [List.take_succ_eq_append_getElem hil, idl_snoc (idl_new HDW.out.nl hil)]
                rw [hgd] at q0 q2
                obtain ⟨y, hy⟩ : ∃ y, l[i] = y := ⟨_, rfl⟩
                rw [hy] at q0 q2 HTN
                obtain ⟨yn, yk, yi⟩ := y
                simp only at q0 q2 HTN
                have HPT : Hid (Calls Tryz.prog 36 #[.pointer (some ⟨g, 0, none⟩), .string yn, .string yi] wr.drew fun e w' => e = .returned (.bool (!hasN ks yn)) ∧ ∃ ks' vs', MapIsTxt w' g ks' vs' (putN ks yn) (putVTxt ks vs yn yi) ∧ Only (MapF g kv vv) wr.drew w' ∧ (∀ k, MapF g ks' vs' k → MapF g kv vv k ∨ wr.drew.heap.size ≤ k)) :=
                  putTxt_any g kv vv ks vs yn yi wr.drew HMP.out (by omega)
                clear hc h3 hgd hy
                go_upto_region 23 with fail
                go_region_law (go_simp; go_at_call 36; (refine HPT.out.mono ?_; rintro e wn ⟨rfl, kv', vv', hmp', hon, hft'⟩; have HMP' := hid hmp'; have HON := hid hon; have HFT' := hid hft'; clear hmp' hon hft'))
                all_goals
                  have hgw : g ≤ wr.drew.heap.size := by have := HB.out.size; rw [HG.out] at this; exact this
                  have HF9 : Hid (∀ k, MapF g kv' vv' k → g ≤ k) := fun k hk => (HFT'.out k hk).elim (fun h => HFT.out k h) (fun h => Nat.le_trans hgw h)
                  have HT9 : Hid (getO (putN ks yn) (putVTxt ks vs yn yi) = idl (l.take (i + 1))) := by
                    show _ = _
                    rw [getO_put HMP.out.2.2.2.2.1 HMP.out.2.2.2.1, HTN.out, HTO.out]
                  have HB9 : Hid (Below g wg wn) := HB.out.drew.trans (HON.out.below HFT.out hgw)
                  have hk9 : (putN ks yn).length ≤ i + 1 := by have := putN_len ks yn; omega
                  go_wp2_with fail
                  go_roundw
                  case rel => first | exact ⟨i + 1, kv', vv', _, _, by omega, by go_num, hk9, HMP', HF9, HT9, HB9⟩ | ((repeat apply Exists.intro); exact ⟨⟨i + 1, kv', vv', _, _, by omega, by go_num, hk9, HMP', HF9, HT9, HB9⟩, rfl⟩)
                  case measure => simp [intOf]; omega
              · obtain rfl : i = ln := by omega
                have ci2 : ¬ (i : Int) < i := by omega
                have hall : l.take i = l := List.take_of_length_le (by omega)
                rw [hall] at HTO
                clear hall
                go_wp2_with fail
                go_loopw [21, 22, 23] (fun iv tv ov wx => ∃ (j : Nat) (kv vv : Value) (ks vs : List ByteArray), j ≤ dn ∧ iv = .int .i64 j ∧ ks.length ≤ i + j ∧ Hid (MapIsTxt wx g kv vv ks vs) ∧ Hid (∀ k, MapF g kv vv k → g ≤ k) ∧ Hid (getO ks vs = (D.take j).foldl stepW (idl l)) ∧ Hid (Below g wg wx)) (fun iv _ _ _ => dn - (intOf iv).toNat)
                case atStart => exact ⟨0, kv, vv, ks, vs, Nat.zero_le _, rfl, hkl, HMP, HFT, HTO, HB⟩
                case round =>
                  clear HB HMP HFT HTO hkl kv vv ks vs
                  obtain ⟨j, kv, vv, ks, vs, hj, rfl, hkl, HMP, HFT, HTO, HB⟩ := hrel
                  by_cases hlt2 : j < dn
                  · have cj : (j : Int) < dn := by omega
                    have cj0 : (0 : Int) ≤ (j : Int) := by omega
                    have hjD : j < D.length := by omega
                    have hgd : D.getD j noCh = D[j] := by rw [List.getD_eq_getElem?_getD, List.getElem?_eq_getElem hjD]; rfl
                    have hgr : (D.map swapC).getD j noCh = swapC D[j] := by rw [List.getD_eq_getElem?_getD, List.getElem?_map, List.getElem?_eq_getElem hjD]; rfl
                    obtain ⟨-, -, h3⟩ := HDG.out
                    obtain ⟨db, doff, rfl, hc⟩ := h3.resolve_left (by omega)
                    obtain ⟨-, -, k3⟩ := HRG.out
                    obtain ⟨rb, roff, rfl, kc⟩ := k3.resolve_left (by omega)
                    obtain ⟨d0, d1, d2⟩ := hc j hlt2
                    obtain ⟨r0, r1, r2⟩ := kc j hlt2
                    have hdb : db < g := by have := World.block_lt_of_cell? wg _ d0; rw [HG.out] at this; exact this
                    have hrb : rb < g := by have := World.block_lt_of_cell? wg _ r0; rw [HG.out] at this; exact this
                    have HPV : Hid (∀ k, j = k + 1 → wg.cell? ⟨db, doff + k * 3, none⟩ = some (.string (D.getD k noCh).path) ∧ (D.getD k noCh).path.size ≤ 131072 ∧ compareR (D.getD k noCh).path.data.toList (D.getD j noCh).path.data.toList = -1) := fun k hk => by
                      subst hk
                      refine ⟨(hc k (by omega)).1, ?_, HDW.out.cmp (by omega)⟩
                      rw [List.getD_eq_getElem?_getD, List.getElem?_eq_getElem (by omega)]
                      exact (HDW.out.path (List.getElem_mem (show k < D.length by omega))).2
                    have hps := (HDW.out.path (List.getElem_mem hjD)).2
                    have hne := HDW.out.ne (List.getElem_mem hjD)
                    have hget := HDW.out.get hjD
                    have HTN : Hid ((D.take (j + 1)).foldl stepW (idl l) = stepW ((D.take j).foldl stepW (idl l)) D[j]) := by
                      show _ = _
                      rw [List.take_succ_eq_append_getElem hjD, List.foldl_append]; rfl
                    rw [hgd] at d0 d1 d2 HPV hget
                    rw [hgr] at r0 r1 r2
                    obtain ⟨c, hcc⟩ : ∃ c, D[j] = c := ⟨_, rfl⟩
                    rw [hcc] at d0 d1 d2 r0 r1 r2 HTN HPV hps hne hget
                    obtain ⟨cp, ca, cs⟩ := c
                    simp only [swapC] at d0 d1 d2 r0 r1 r2 HTN HPV hps hne hget
                    have hgv : getVTxt ks vs cp = ca := by rw [getV_O, HTO.out]; exact hget
                    have hnel : ¬ ca.toList = cs.toList := fun e => hne (ba_ext (by rw [← ba_toList, ← ba_toList]; exact e))
                    have hnelb : (ca.toList == cs.toList) = false := by rw [beq_eq_false_iff_ne]; exact hnel
                    have HGV := hid hgv
                    have hgw : g ≤ wr.heap.size := by have := HB.out.size; rw [HG.out] at this; exact this
                    have E0 : ∀ z : After wr, z.val.cell? ⟨db, doff + j * 3, none⟩ = some (.string cp) := fun z => ((z.below.mono hgw).cell (p := ⟨db, doff + j * 3, none⟩) hdb).trans ((HB.out.cell (p := ⟨db, doff + j * 3, none⟩) hdb).trans d0)
                    have E1 : ∀ z : After wr, z.val.cell? ⟨db, doff + j * 3 + 1, none⟩ = some (.string ca) := fun z => ((z.below.mono hgw).cell (p := ⟨db, doff + j * 3 + 1, none⟩) hdb).trans ((HB.out.cell (p := ⟨db, doff + j * 3 + 1, none⟩) hdb).trans d1)
                    have E2 : ∀ z : After wr, z.val.cell? ⟨db, doff + j * 3 + 2, none⟩ = some (.string cs) := fun z => ((z.below.mono hgw).cell (p := ⟨db, doff + j * 3 + 2, none⟩) hdb).trans ((HB.out.cell (p := ⟨db, doff + j * 3 + 2, none⟩) hdb).trans d2)
                    have F0 : ∀ z : After wr, z.val.cell? ⟨rb, roff + j * 3, none⟩ = some (.string cp) := fun z => ((z.below.mono hgw).cell (p := ⟨rb, roff + j * 3, none⟩) hrb).trans ((HB.out.cell (p := ⟨rb, roff + j * 3, none⟩) hrb).trans r0)
                    have F1 : ∀ z : After wr, z.val.cell? ⟨rb, roff + j * 3 + 1, none⟩ = some (.string cs) := fun z => ((z.below.mono hgw).cell (p := ⟨rb, roff + j * 3 + 1, none⟩) hrb).trans ((HB.out.cell (p := ⟨rb, roff + j * 3 + 1, none⟩) hrb).trans r1)
                    have F2 : ∀ z : After wr, z.val.cell? ⟨rb, roff + j * 3 + 2, none⟩ = some (.string ca) := fun z => ((z.below.mono hgw).cell (p := ⟨rb, roff + j * 3 + 2, none⟩) hrb).trans ((HB.out.cell (p := ⟨rb, roff + j * 3 + 2, none⟩) hrb).trans r2)
                    clear hc kc h3 k3 hgd hgr hcc hget hne hgv d0 d1 d2 r0 r1 r2
                    go_upto_region 27 with fail
                    go_cut [214] (fun s214 wz => s214 = .bool false ∧ Hid (Below wr.heap.size wr wz))
                    case first =>
                      rcases Nat.eq_zero_or_pos j with rfl | hj0
                      · have G0 : ∀ z : After wr, z.val.cell? ⟨db, doff, none⟩ = some (.string cp) := E0
                        have G1 : ∀ z : After wr, z.val.cell? ⟨db, doff + 1, none⟩ = some (.string ca) := E1
                        have G2 : ∀ z : After wr, z.val.cell? ⟨db, doff + 2, none⟩ = some (.string cs) := E2
                        have K0 : ∀ z : After wr, z.val.cell? ⟨rb, roff, none⟩ = some (.string cp) := F0
                        have K1 : ∀ z : After wr, z.val.cell? ⟨rb, roff + 1, none⟩ = some (.string cs) := F1
                        have K2 : ∀ z : After wr, z.val.cell? ⟨rb, roff + 2, none⟩ = some (.string ca) := F2
                        clear E0 E1 E2 F0 F1 F2
                        refine wp_region_after (by kernel_rfl) (by kernel_rfl) ?_
                        repeat (go_big_quiet_step (fail))
                        refine wpQuiet_nil ?_
                        intro _ hw'
                        obtain ⟨z, rfl⟩ := hw'
                        go_wp2_with fail
                        go_meet
                        case rel => exact ⟨rfl, z.below⟩
                      · obtain ⟨k, rfl⟩ : ∃ k, j = k + 1 := ⟨j - 1, by omega⟩
                        obtain ⟨p0, psz, pcm⟩ := HPV.out k rfl
                        obtain ⟨pp, hpp⟩ : ∃ pp, (D.getD k noCh).path = pp := ⟨_, rfl⟩
                        rw [hpp] at p0 psz pcm
                        have E3 : ∀ z : After wr, z.val.cell? ⟨db, doff + k * 3, none⟩ = some (.string pp) := fun z => ((z.below.mono hgw).cell (p := ⟨db, doff + k * 3, none⟩) hdb).trans ((HB.out.cell (p := ⟨db, doff + k * 3, none⟩) hdb).trans p0)
                        have HC : Hid (∀ z : After wr, Calls Tryz.prog 37 #[.string pp, .string cp] z.val fun e w' => e = .returned (.int .i64 (-1)) ∧ Below z.val.heap.size z.val w') := fun z => by
                          have := compare_any pp cp z.val (by omega) (by omega) (HM.out.later (below_then (below_then HBG.out (by rw [HG.out]; exact HB.out)) z.below))
                          rwa [pcm] at this
                        have cj1 : (0 : Int) < ((k + 1 : Nat) : Int) := by omega
                        have em : IntKind.i64.wrap (((k + 1 : Nat) : Int) - 1) = (k : Int) := by rw [IntKind.wrap_i64]; omega
                        have ck0 : (0 : Int) ≤ (k : Int) := by omega
                        have ckn : (k : Int) < dn := by omega
                        clear p0 hpp pcm
                        refine wp_region_after (by kernel_rfl) (by kernel_rfl) ?_
                        repeat (go_big_quiet_step ((first | (go_at_call 37; with_reducible exact calls_after (HC.out _)))))
                        refine wpQuiet_nil ?_
                        intro _ hw'
                        obtain ⟨z, rfl⟩ := hw'
                        go_wp2_with fail
                        go_meet
                        case rel => exact ⟨rfl, z.below⟩
                    case rest =>
                      obtain ⟨rfl, hbz⟩ := hcut
                      have HBW : Hid (Below g wg wc) := HB.out.trans (hbz.out.mono hgw)
                      have HMW : Hid (MapIsTxt wc g kv vv ks vs) := by
                        obtain ⟨m1, m2, m3, m4, m5, m6, m7⟩ := HMP.out
                        exact ⟨(hbz.out.block g (Blk.lt m1)).trans m1, own_below m2 hbz.out, own_below m3 hbz.out, m4, m5, m6, m7⟩
                      have d0 := E0 ⟨wc, hbz.out⟩
                      have d1 := E1 ⟨wc, hbz.out⟩
                      have d2 := E2 ⟨wc, hbz.out⟩
                      simp only at d0 d1 d2
                      have hgc : g ≤ wc.heap.size := Nat.le_trans hgw hbz.out.size
                      clear E0 E1 E2 F0 F1 F2 HPV hbz
                      have HGT := hid (getTxt g kv vv ks vs cp wc HMW.out)
                      rw [HGV.out] at HGT
                      have HGT : Hid (Calls Tryz.prog 38 #[.pointer (some ⟨g, 0, none⟩), .string cp] wc fun e w' => e = .returned (.tuple #[.string ca, .bool (hasN ks cp)]) ∧ wc = w') := HGT.out
                      obtain ⟨hs, hhs⟩ : ∃ hs, hasN ks cp = hs := ⟨_, rfl⟩
                      rw [hhs] at HGT
                      go_wp2_with fail
                      refine HGT.out.mono ?_; rintro e w' ⟨rfl, rfl⟩
                      · by_cases hcs : cs.size = 0
                        · have HDL := hid (delTxt_any g kv vv ks vs cp wc HMW.out)
                          obtain rfl : cs = ⟨#[]⟩ := size0 hcs
                          go_wp2_with fail
                          refine HDL.out.mono ?_; rintro e wn ⟨rfl, kv', vv', hmp', hon, hft'⟩
                          have HT9 : Hid (getO (delN ks cp) (delVTxt ks vs cp) = (D.take (j + 1)).foldl stepW (idl l)) := by
                            show _ = _
                            rw [getO_del HMW.out.2.2.2.2.1 HMW.out.2.2.2.1, HTN.out, HTO.out]
                            funext q
                            unfold stepW
                            simp only
                            rw [if_pos hcs]
                          have HMP' := hid hmp'
                          have HF9 : Hid (∀ k, MapF g kv' vv' k → g ≤ k) := fun k hk => HFT.out k (hft' k hk)
                          have HB9 : Hid (Below g wg wn) := HBW.out.trans (hon.below HFT.out hgc)
                          have hk9 : (delN ks cp).length ≤ i + (j + 1) := by have := delN_few ks cp; omega
                          clear hmp' hon hft'
                          go_wp2_with fail
                          go_roundw
                          case rel => first | exact ⟨j + 1, kv', vv', _, _, by omega, by go_num, hk9, HMP', HF9, HT9, HB9⟩ | ((repeat apply Exists.intro); exact ⟨⟨j + 1, kv', vv', _, _, by omega, by go_num, hk9, HMP', HF9, HT9, HB9⟩, rfl⟩)
                          case measure => simp [intOf]; omega
                        · have hcs1 := bstr_some hcs
                          have hcs2 := bstr_isEmpty hcs
                          have HPT : Hid (Calls Tryz.prog 36 #[.pointer (some ⟨g, 0, none⟩), .string cp, .string cs] wc.drew fun e w' => e = .returned (.bool (!hasN ks cp)) ∧ ∃ ks' vs', MapIsTxt w' g ks' vs' (putN ks cp) (putVTxt ks vs cp cs) ∧ Only (MapF g kv vv) wc.drew w' ∧ (∀ k, MapF g ks' vs' k → MapF g kv vv k ∨ wc.drew.heap.size ≤ k)) :=
                            putTxt_any g kv vv ks vs cp cs wc.drew HMW.out (by omega)
                          go_upto_region 34 with fail
                          go_region_law (go_simp; go_at_call 36; (refine HPT.out.mono ?_; rintro e wn ⟨rfl, kv', vv', hmp', hon, hft'⟩; have HMP' := hid hmp'; have HON := hid hon; have HFT' := hid hft'; clear hmp' hon hft'))
                          all_goals
                            have HF9 : Hid (∀ k, MapF g kv' vv' k → g ≤ k) := fun k hk => (HFT'.out k hk).elim (fun h => HFT.out k h) (fun h => Nat.le_trans hgc h)
                            have HT9 : Hid (getO (putN ks cp) (putVTxt ks vs cp cs) = (D.take (j + 1)).foldl stepW (idl l)) := by
                              show _ = _
                              rw [getO_put HMW.out.2.2.2.2.1 HMW.out.2.2.2.1, HTN.out, HTO.out]
                              funext q
                              unfold stepW
                              simp only
                              rw [if_neg hcs]
                            have HB9 : Hid (Below g wg wn) := HBW.out.drew.trans (HON.out.below HFT.out hgc)
                            have hk9 : (putN ks cp).length ≤ i + (j + 1) := by have := putN_len ks cp; omega
                            go_wp2_with fail
                            go_roundw
                            case rel => first | exact ⟨j + 1, kv', vv', _, _, by omega, by go_num, hk9, HMP', HF9, HT9, HB9⟩ | ((repeat apply Exists.intro); exact ⟨⟨j + 1, kv', vv', _, _, by omega, by go_num, hk9, HMP', HF9, HT9, HB9⟩, rfl⟩)
                            case measure => simp [intOf]; omega
                  · obtain rfl : j = dn := by omega
                    have cj : ¬ (j : Int) < j := by omega
                    have hall : D.take j = D := List.take_of_length_le (by omega)
                    rw [hall, HDW.out.last] at HTO
                    clear hall
                    have hkm : ks.length = m.length := keys_len HDW.out.nm HMP.out.2.2.2.2.1 HTO.out
                    have HLN : Hid (Calls Tryz.prog 40 #[.pointer (some ⟨g, 0, none⟩)] wr fun e w' => e = .returned (.int .i64 mn) ∧ wr = w') := by
                      have := lenTxt g kv vv ks vs wr HMP.out
                      rw [hkm, hmn] at this; exact this
                    clear hkm
                    go_wp2_with fail
                    refine HLN.out.mono ?_; rintro e w' ⟨rfl, rfl⟩
                    go_wp2_with fail
                    go_loopw [24, 25, 26] (fun iv tv ov wx => ∃ k : Nat, k ≤ mn ∧ iv = .int .i64 k ∧ wr = wx) (fun iv _ _ _ => mn - (intOf iv).toNat)
                    case atStart => exact ⟨0, Nat.zero_le _, rfl, rfl⟩
                    case round =>
                      obtain ⟨k, hk, rfl, hww⟩ := hrel
                      subst hww
                      by_cases hlt3 : k < mn
                      · have ck : (k : Int) < mn := by omega
                        have ck0 : (0 : Int) ≤ (k : Int) := by omega
                        obtain ⟨-, -, h3⟩ := HMM.out
                        obtain ⟨b, off, rfl, hc⟩ := h3.resolve_left (by omega)
                        obtain ⟨q0, q1, q2⟩ := hc k hlt3
                        have hbg : b < g := by have := World.block_lt_of_cell? wg _ q0; rw [HG.out] at this; exact this
                        have q0 := (HB.out.cell (p := ⟨b, off + k * 3, none⟩) hbg).trans q0
                        have q2 := (HB.out.cell (p := ⟨b, off + k * 3 + 2, none⟩) hbg).trans q2
                        have hil : k < m.length := by omega
                        have hgd : m.getD k ⟨ByteArray.empty, 0, ByteArray.empty⟩ = m[k] := by rw [List.getD_eq_getElem?_getD, List.getElem?_eq_getElem hil]; rfl
                        have hid3 := idl_some HDW.out.nm (List.getElem_mem hil)
                        rw [hgd] at q0 q2
                        obtain ⟨y, hy⟩ : ∃ y, m[k] = y := ⟨_, rfl⟩
                        rw [hy] at q0 q2 hid3
                        obtain ⟨yn, yk, yi⟩ := y
                        simp only at q0 q2 hid3
                        have HGT := hid (getTxt g kv vv ks vs yn wr HMP.out)
                        have hgv : getVTxt ks vs yn = yi := by rw [getV_O, HTO.out, hid3]; rfl
                        rw [hgv] at HGT
                        have HGT : Hid (Calls Tryz.prog 38 #[.pointer (some ⟨g, 0, none⟩), .string yn] wr fun e w' => e = .returned (.tuple #[.string yi, .bool (hasN ks yn)]) ∧ wr = w') := HGT.out
                        obtain ⟨hs, hhs⟩ : ∃ hs, hasN ks yn = hs := ⟨_, rfl⟩
                        rw [hhs] at HGT
                        clear hc h3 hgd hy hid3 hgv hhs
                        go_wp2_with fail
                        refine HGT.out.mono ?_; rintro e w' ⟨rfl, rfl⟩
                        go_wp2_with fail
                        go_roundw
                        case rel => first | exact ⟨k + 1, by omega, by go_num, trivial⟩ | exact ⟨k + 1, by omega, by go_num, rfl⟩ | ((repeat apply Exists.intro); exact ⟨⟨k + 1, by omega, by go_num, rfl⟩, rfl⟩)
                        case measure => simp [intOf]; omega
                      · obtain rfl : k = mn := by omega
                        have ck : ¬ (k : Int) < k := by omega
                        go_wp2_with fail
                        go_ret
                        exact ⟨rfl, below_then HBG.out (by rw [HG.out]; exact HB.out)⟩
        · have hne := commit_not (G := getF []) (note := ⟨#[98]⟩) hpk
          obtain ⟨er, her⟩ : ∃ er, (commitS (getF []) l1 [] ⟨#[98]⟩).2 = er := ⟨_, rfl⟩
          rw [commit_is hok (show (ByteArray.mk #[97]).size ≤ 1000 by decide)]
          rw [her] at hne ⊢
          go_wp2_with fail
          go_ret
          exact ⟨rfl, HB7.out⟩
      · have hne := commit_not (G := getF []) (note := ⟨#[97]⟩) hok
        obtain ⟨er, her⟩ : ∃ er, (commitS (getF []) l0 [] ⟨#[97]⟩).2 = er := ⟨_, rfl⟩
        rw [her] at hne ⊢
        go_wp2_with fail
        go_ret
        exact ⟨rfl, HB7.out⟩
end Go.Proofs.YtlenfiiocmchdaaGreatDoor
