/- Texts in a row: RoO, RoP, RoF. -/
import Derived.Test.YtlenfiiocmchdaaGreatDoorMdK
/- The reference's layer 15: going over a commit's trees: over. -/
namespace Go.Proofs.YtlenfiiocmchdaaGreatDoor
open Go.RowKit Book Pap Ojt Sn
set_option linter.unusedVariables false
set_option linter.unusedSimpArgs false

def rkCs (met : Nat) (v : Value) (er : Int) : Array Value := #[v, .int .i64 met, .int .i64 er]
/-- what over leaves -/
def ROverOut (B : Nat) (w : World) (b : Nat) (v : Value) (r : Wk × Int) (e : Ending) (w' : World) : Prop :=
  ∃ v', e = .returned (.tuple #[]) ∧ Blk w' b 113 (rkCs r.1.met v' r.2) ∧ w'.ownsRow B 40 3 v' r.1.blobs.length (evals r.1.blobs) ∧ r.1.met ≤ 4097 ∧ r.1.blobs.length ≤ r.1.met ∧ Only (WF b v) w w' ∧ (∀ k, v'.ownBlock = some k → v.ownBlock = some k ∨ w.heap.size ≤ k) ∧ (r.2 = 0 → r.1.met ≤ 4096)
theorem pathOf_snoc {l : List ByteArray} (h : l ≠ []) (n : ByteArray) : pathOf (l ++ [n]) = pathOf l ++ ⟨#[47]⟩ ++ n := by
  unfold pathOf
  rw [List.map_append]
  have := joinL_snoc (l.map fun s => s.data.toList) n.data.toList (fun e => h (List.map_eq_nil_iff.1 e))
  rw [List.map_cons, List.map_nil, this]
  apply ba_ext
  rw [ba_append, ba_append]
  show _ = (bz (joinL (l.map fun s => s.data.toList))).data.toList ++ [47] ++ n.data.toList
  unfold bz
  simp
theorem pathOf_one (n : ByteArray) : pathOf ([] ++ [n]) = n := by
  unfold pathOf
  apply ba_ext
  simp [bz, joinL]
theorem pathOf_size (l : List ByteArray) (h : ∀ x ∈ l, x.size ≤ 255) : (pathOf l).size ≤ l.length * 256 := by
  unfold pathOf
  rw [bz_size]
  have := joinL_len (l.map fun s => s.data.toList) 255 (fun x hx => by
    obtain ⟨y, hy, rfl⟩ := List.mem_map.1 hx
    have := h y hy
    have e : y.data.toList.length = y.size := Array.length_toList
    omega)
  rw [List.length_map] at this
  exact this
set_option maxRecDepth 100000 in
set_option maxHeartbeats 16000000 in
theorem rover_any (a : Option Addr) (n c : Nat) (fs : List Fi) (hz : SrcSz (getF fs)) (w0 : World) (hF : FisAt w0 a n fs) : ∀ (d : Nat) (id : ByteArray) (above : List ByteArray) (path : ByteArray) (b : Nat) (v : Value) (s : Wk) (w : World),
    (above ≠ [] → path = pathOf above) → path.size ≤ 20000 → above.length ≤ 64 → 66 ≤ d + above.length → Below w0.heap.size w0 w → Blk w b 113 (rkCs s.met v 0) → w.ownsRow w0.heap.size 40 3 v s.blobs.length (evals s.blobs) → w0.heap.size ≤ b → s.met ≤ 4096 → s.blobs.length ≤ s.met → (∀ x ∈ above, x.size ≤ 255) →
    Calls Tryz.prog 53 #[.pointer (some ⟨b, 0, none⟩), .slice a n c, .string id, .string path, .int .i64 above.length] w (ROverOut w0.heap.size w b v (overS (getF fs) d id above s)) := by
  intro d
  induction d with
  | zero => intro id above path b v s w _ _ hn hd; omega
  | succ d ih =>
    intro id above path b v s w hpath hpsz hn hd hB0 hW1 hW2 hW3 hmet hW5 hsz
    have IH := hid ih
    clear ih
    obtain ⟨B, hB⟩ : ∃ B, w0.heap.size = B := ⟨_, rfl⟩
    have HSW := hid (hF.later hB0)
    have hBw : B ≤ w.heap.size := by rw [← hB]; exact hB0.size
    have HB0 := hid hB0
    have HSZ := hid hsz
    have HPA := hid hpath
    rw [hB] at hW2 hW3
    have HB := hid hB
    rw [hB]
    have hbl := Blk.lt hW1
    have HW1 := hid hW1; have HW2 := hid hW2
    have hvl : ∀ k, v.ownBlock = some k → B ≤ k ∧ k < w.heap.size := fun k hk => hW2.lt k hk
    have HVL := hid hvl
    have HLKS := hid (rlook_any a n c fs id 2 21 w HSW.out hz)
    obtain ⟨m, hm⟩ : ∃ m, above.length = m := ⟨_, rfl⟩
    have HAL := hid hm
    rw [hm] at hn hd ⊢
    obtain ⟨G, hG⟩ : ∃ G, getF fs = G := ⟨_, rfl⟩
    have HGE := hid hG
    rw [hG] at HLKS hz ⊢
    clear hsz hB hW1 hW2 hvl hB0 hm hpath hG
    go_enter Tryz.func53, Tryz.ntmps53
    obtain ⟨x, er, hlk⟩ : ∃ x er, lookK G id 2 21 = (x, er) := ⟨_, _, rfl⟩
    rw [hlk] at HLKS
    go_wp2_with fail
    refine HLKS.out.mono ?_; rintro e w1 ⟨ev, pv, rfl, hO1, hb1, hf1⟩
    simp only at hO1 ⊢
    have HO1 := hid hO1
    obtain ⟨ea, en, ec, pa, pn, pc, rfl, -, rfl, -⟩ := hO1
    have HX2 : Hid (Blk (w1.alloc (.cells (obCs x (.slice ea en ec) (.slice pa pn pc)) 103)) w1.heap.size 103 (obCs x (.slice ea en ec) (.slice pa pn pc))) := Blk.new w1 _ _
    have HL2 : Hid (Below w.heap.size w (w1.alloc (.cells (obCs x (.slice ea en ec) (.slice pa pn pc)) 103))) := hb1.alloc hb1.size _
    have HO2 : Hid (ObAt (w1.alloc (.cells (obCs x (.slice ea en ec) (.slice pa pn pc)) 103)) (.slice ea en ec) (.slice pa pn pc) x) := HO1.out.later ((Below.refl _ _).alloc (Nat.le_refl _) _)
    have HF1 : Hid (∀ k, (Value.slice ea en ec).ownBlock = some k → w.heap.size ≤ k) := fun k hk => hf1 k (.inl hk)
    have hg2w : w.heap.size ≤ w1.heap.size := hb1.size
    unfold obCs at HX2 HL2 HO2
    simp only [obCs]
    clear hb1 hf1 HO1 HLKS
    go_upto_region 1 with fail
    generalize (w1.alloc (.cells #[.int .i64 x.kind, .string x.data, .slice ea en ec, .string x.tree, .slice pa pn pc, .int .i64 x.height, .string x.note] 103)) = w2 at HX2 HL2 HO2 ⊢
    generalize w1.heap.size = g2 at HX2 hg2w ⊢
    have hsz2 : w.heap.size ≤ w2.heap.size := HL2.out.size
    have HWK2 : Hid (Blk w2 b 113 (rkCs s.met v 0)) := (HL2.out.block b hbl).trans HW1.out
    have HOW2 : Hid (w2.ownsRow B 40 3 v s.blobs.length (evals s.blobs)) := own_below HW2.out HL2.out
    have hbg2 : b < g2 := by omega
    by_cases he : er = 0
    · subst he
      obtain ⟨hgd, hkd⟩ := look_good hlk (by decide)
      obtain ⟨hel, hge⟩ := good_tree hgd hkd
      have HGEN := hid hge
      have HOS := hid (overS_ok (d := d) (above := above) (s := s) hlk)
      have hen : x.ents.length = en := by
        obtain ⟨_, _, _, _, _, _, e1, he, -⟩ := HO2.out
        injection e1 with e2 e3 e4
        rw [e3]; exact he.1
      have HEN := hid hen
      have hen2 : en ≤ 256 := by omega
      have HEA : Hid (EntsAt w2 ea en x.ents) := by
        obtain ⟨_, _, _, _, _, _, e1, he, -⟩ := HO2.out
        injection e1 with e2 e3 e4
        rw [e2, e3]; exact he
      clear hlk hgd hkd hge hel hen HO2
      go_wp2_with fail
      go_loopw [12] (fun iv wr => ∃ (i : Nat) (vi : Value) (si : Wk) (ei : Int), i ≤ en ∧ iv = .int .i64 i ∧ Hid (Blk wr b 113 (rkCs si.met vi ei)) ∧ Hid (wr.ownsRow B 40 3 vi si.blobs.length (evals si.blobs)) ∧ Hid (si.met ≤ 4097 ∧ si.blobs.length ≤ si.met ∧ (ei = 0 → si.met ≤ 4096)) ∧ Hid (Only (WF b v) w2 wr) ∧ Hid (∀ k, vi.ownBlock = some k → v.ownBlock = some k ∨ w2.heap.size ≤ k) ∧ Hid (ei = 0 → overE (overS G d) above x.ents s = overE (overS G d) above (x.ents.drop i) si) ∧ Hid (ei ≠ 0 → overE (overS G d) above x.ents s = (si, ei))) (fun iv _ => en - (intOf iv).toNat)
      case atStart => exact ⟨0, v, s, 0, Nat.zero_le _, rfl, HWK2, HOW2, ⟨by omega, hW5, fun _ => hmet⟩, Only.refl _ _, fun k hk => .inl hk, fun _ => rfl, fun h => absurd rfl h⟩
      case round =>
        obtain ⟨i, vi, si, ei, hi, rfl, HK, HOW, HM, HO, HV, HE, HEE⟩ := hrel
        have hszr : w2.heap.size ≤ wr.heap.size := HO.out.size
        have HXr : Hid (Blk wr g2 103 #[.int .i64 x.kind, .string x.data, .slice ea en ec, .string x.tree, .slice pa pn pc, .int .i64 x.height, .string x.note]) := HX2.out.only HO.out (fun hf => by
          rcases hf with hf | hf
          · omega
          · have := (HVL.out _ hf).2; omega)
        have r2 : wr.cell? ⟨g2, 2, none⟩ = some (.slice ea en ec) := Blk.cell HXr.out 2
        have rb2 : wr.cell? ⟨b, 2, none⟩ = some (.int .i64 ei) := Blk.cell HK.out 2
        by_cases hlt : i < en
        · have ci : (i : Int) < en := by omega
          have ci0 : (0 : Int) ≤ (i : Int) := by omega
          by_cases hei : ei = 0
          · subst hei
            have heA : EntsAt wr ea en x.ents := EntsAt.only (c := ec) HEA.out HO.out (fun k hk hl hf => by
              have h1 := HF1.out k hk
              rcases hf with hf | hf
              · omega
              · have := (HVL.out k hf).2; omega)
            obtain ⟨-, -, h3⟩ := heA
            obtain ⟨eb, eoff, rfl, hcell⟩ := h3.resolve_left (by omega)
            obtain ⟨q0, q1, q2⟩ := hcell i hlt
            have hil : i < x.ents.length := by rw [HEN.out]; exact hlt
            have hMem : x.ents.getD i ⟨ByteArray.empty, 0, ByteArray.empty⟩ ∈ x.ents := by
              rw [List.getD_eq_getElem?_getD, List.getElem?_eq_getElem hil]; exact List.getElem_mem hil
            have HT : Hid (x.ents.drop i = x.ents.getD i ⟨ByteArray.empty, 0, ByteArray.empty⟩ :: x.ents.drop (i + 1)) := by
              show _ = _
              rw [List.drop_eq_getElem_cons hil, List.getD_eq_getElem?_getD, List.getElem?_eq_getElem hil]; rfl
            have hgood := HGEN.out _ hMem
            obtain ⟨z, hzz⟩ : ∃ z, x.ents.getD i ⟨ByteArray.empty, 0, ByteArray.empty⟩ = z := ⟨_, rfl⟩
            rw [hzz] at q0 q1 q2 HT hgood
            obtain ⟨nm, kd, yd⟩ := z
            obtain ⟨-, f1, f2, f3⟩ := goodEnt_facts hgood
            simp only at q0 q1 q2 f1 f2 f3
            have HKD := hid f2
            have HE1 : Hid (overE (overS G d) above x.ents s = overE (overS G d) above (⟨nm, kd, yd⟩ :: x.ents.drop (i + 1)) si) := by
              show _ = _
              rw [HE.out rfl, HT.out]
            clear hzz hMem HT hcell h3 hgood HE HEE f2
            obtain ⟨hm1, hm2, hm3⟩ := HM.out
            have hm3 : si.met ≤ 4096 := hm3 rfl
            go_upto_region 7 with fail
            have HXa : Hid (Blk (wr.alloc (.cells #[.string nm, .int .i64 kd, .string yd] 40)) wr.heap.size 40 #[.string nm, .int .i64 kd, .string yd]) := Blk.new wr _ _
            have HKa : Hid (Blk (wr.alloc (.cells #[.string nm, .int .i64 kd, .string yd] 40)) b 113 (rkCs si.met vi 0)) := HK.out.alloc _
            have HOWa : Hid ((wr.alloc (.cells #[.string nm, .int .i64 kd, .string yd] 40)).ownsRow B 40 3 vi si.blobs.length (evals si.blobs)) := HOW.out.alloc _
            have HOa : Hid (Only (WF b v) w2 (wr.alloc (.cells #[.string nm, .int .i64 kd, .string yd] 40))) := HO.out.alloc _
            have hza : (wr.alloc (.cells #[.string nm, .int .i64 kd, .string yd] 40)).heap.size = wr.heap.size + 1 := by simp
            have HVr : Hid (∀ k, vi.ownBlock = some k → k < wr.heap.size) := fun k hk => own_lt HOW.out hk
            clear q0 q1 q2 HK HOW r2 rb2 HXr
            generalize (wr.alloc (.cells #[.string nm, .int .i64 kd, .string yd] 40)) = wa at HXa HKa HOWa HOa hza ⊢
            obtain ⟨e0, he0⟩ : ∃ e0, wr.heap.size = e0 := ⟨_, rfl⟩
            rw [he0] at HXa hza HVr ⊢
            have hbe : b < e0 := by omega
            have k1 : wa.cell? ⟨b, 1, none⟩ = some (.int .i64 si.met) := Blk.cell HKa.out 1
            have f1c := Blk.frozen HKa.out 1
            have e1 : ((si.met + 1 : Nat) : Int) = (si.met : Int) + 1 := by omega
            have hEW0 := e1
            have HEW := hid e1
            have ew : IntKind.i64.wrap ((si.met : Int) + 1) = (si.met : Int) + 1 := by rw [IntKind.wrap_i64]; omega
            have HKb : Hid (Blk (wa.setCell ⟨b, 1, none⟩ (.int .i64 ((si.met : Int) + 1))) b 113 (rkCs (si.met + 1) vi 0)) := by
              have h := Blk.set HKa.out 1 (.int .i64 ((si.met : Int) + 1))
              show Blk _ _ _ _
              unfold rkCs
              rw [hEW0]
              exact h
            have hob : Only (· = b) wa (wa.setCell ⟨b, 1, none⟩ (.int .i64 ((si.met : Int) + 1))) := (Only.refl (· = b) wa).setCell (p := ⟨b, 1, none⟩) (.inl rfl) _
            have HXb : Hid (Blk (wa.setCell ⟨b, 1, none⟩ (.int .i64 ((si.met : Int) + 1))) e0 40 #[.string nm, .int .i64 kd, .string yd]) := HXa.out.only hob (fun e => by have e : e0 = b := e; omega)
            have HOWb : Hid ((wa.setCell ⟨b, 1, none⟩ (.int .i64 ((si.met : Int) + 1))).ownsRow B 40 3 vi si.blobs.length (evals si.blobs)) := own_only HOWa.out hob (fun k hk e => own_blk_ne HOWa.out HKa.out (by decide) (e ▸ hk))
            have HOb : Hid (Only (WF b v) w2 (wa.setCell ⟨b, 1, none⟩ (.int .i64 ((si.met : Int) + 1)))) := HOa.out.setCell (p := ⟨b, 1, none⟩) (.inl (.inl rfl)) _
            have hzb : (wa.setCell ⟨b, 1, none⟩ (.int .i64 ((si.met : Int) + 1))).heap.size = e0 + 1 := by simp [World.setCell, hza]
            clear hob HXa HKa HOWa HOa e1 hEW0 HO
            go_upto_region 8 with fail
            clear k1 f1c
            generalize (wa.setCell ⟨b, 1, none⟩ (.int .i64 ((si.met : Int) + 1))) = wb at HKb HXb HOWb HOb hzb ⊢
            have HZB := hid hzb
            have hw2e : w2.heap.size ≤ e0 := by omega
            have hwle : w.heap.size ≤ e0 := by omega
            have hble : B ≤ e0 := by omega
            clear hzb hza he0
            have km : wb.cell? ⟨b, 1, none⟩ = some (.int .i64 ((si.met : Int) + 1)) := (Blk.cell HKb.out 1).trans (by show some (Value.int .i64 ((si.met + 1 : Nat) : Int)) = _; rw [HEW.out])
            have kb2 : wb.cell? ⟨b, 2, none⟩ = some (.int .i64 0) := Blk.cell HKb.out 2
            have fb2 := Blk.frozen HKb.out 2
            have HERR : Hid (∀ E : Int, E ≠ 0 → overE (overS G d) above x.ents s = ({ si with met := si.met + 1 }, E) → ROverOut B w b v (overE (overS G d) above x.ents s) (.returned (.tuple #[])) (wb.setCell ⟨b, 2, none⟩ (.int .i64 E))) := fun E hE h => by
              rw [h]
              have hob : Only (· = b) wb (wb.setCell ⟨b, 2, none⟩ (.int .i64 E)) := (Only.refl (· = b) wb).setCell (p := ⟨b, 2, none⟩) (.inl rfl) _
              exact ⟨vi, rfl, Blk.set HKb.out 2 _, own_only HOWb.out hob (fun k hk e => own_blk_ne HOWb.out HKb.out (by decide) (e ▸ hk)), by show si.met + 1 ≤ 4097; omega, by show si.blobs.length ≤ si.met + 1; omega, ((Only.of_below HL2.out _).then HOb.out).setCell (p := ⟨b, 2, none⟩) (.inl (.inl rfl)) _, fun k hk => (HV.out k hk).imp (fun e => e) (fun e => by omega), fun h => absurd h hE⟩
            by_cases h4 : 4096 < si.met + 1
            · have c4 : (4096 : Int) < (si.met : Int) + 1 := by omega
              have HFN := hid (HERR.out 6 (by decide) (HE1.out.trans (overE_many h4)))
              clear HERR
              go_wp2_with fail
              go_end0
              rw [HOS.out]
              exact HFN.out
            have c4 : ¬ (4096 : Int) < (si.met : Int) + 1 := by omega
            by_cases h64 : 64 < m + 1
            · have c64 : (64 : Int) ≤ (m : Int) := by omega
              have HFN := hid (HERR.out 33 (by decide) (HE1.out.trans (overE_deep h4 (by rw [HAL.out]; exact h64))))
              clear HERR
              go_wp2_with fail
              go_end0
              rw [HOS.out]
              exact HFN.out
            have c64 : ¬ (64 : Int) ≤ (m : Int) := by omega
            clear HERR kb2 fb2
            have ke0 : wb.cell? ⟨e0, 0, none⟩ = some (.string nm) := Blk.cell HXb.out 0
            have ke1 : wb.cell? ⟨e0, 1, none⟩ = some (.int .i64 kd) := Blk.cell HXb.out 1
            have ke2 : wb.cell? ⟨e0, 2, none⟩ = some (.string yd) := Blk.cell HXb.out 2
            have HSW2 : Hid (∀ x ∈ above ++ [nm], x.size ≤ 255) := by
              intro q hq
              rcases List.mem_append.1 hq with hq | hq
              · exact HSZ.out q hq
              · rw [List.mem_singleton.1 hq]; exact f1
            have hpts := pathOf_size (above ++ [nm]) HSW2.out
            have hpl : (above ++ [nm]).length = m + 1 := by rw [List.length_append, HAL.out]; rfl
            rw [hpl] at hpts
            have HPL := hid hpl
            obtain ⟨pt, hpt⟩ : ∃ p, pathOf (above ++ [nm]) = p := ⟨_, rfl⟩
            rw [hpt] at hpts
            have HPT := hid hpt
            clear hpt hpl
            go_upto_if 69 with fail
            go_cut [14] (fun s14 wx => s14 = .string pt ∧ wx = wb)
            case first =>
              by_cases h0 : above = []
              · have hm0 : m = 0 := by rw [← HAL.out, h0]; rfl
                have cm : ¬ (0 : Int) < (m : Int) := by omega
                have hpn : nm = pt := by rw [← HPT.out, h0, pathOf_one]
                subst hpn
                clear h0 hm0
                go_wp2_with fail
                go_meet
                case rel => exact ⟨rfl, rfl⟩
              · have hm0 : 0 < m := by rw [← HAL.out]; exact List.length_pos_iff.2 h0
                have cm : (0 : Int) < (m : Int) := by omega
                have hpn : path ++ ⟨#[47]⟩ ++ nm = pt := by rw [← HPT.out, pathOf_snoc h0, HPA.out h0]
                have g1 : ¬ 9223372036854775807 < path.size + 1 := by omega
                have g2 : ¬ 9223372036854775807 < path.size + 1 + nm.size := by omega
                have g3 : ¬ 9223372036854775807 < path.size + (⟨#[47]⟩ : ByteArray).size := g1
                have g4 : ¬ 9223372036854775807 < (path ++ ⟨#[47]⟩).size + nm.size := by rw [ByteArray.size_append]; exact g2
                have HPN := hid hpn
                clear h0 hpn
                go_wp2_with fail
                go_meet
                case rel => exact ⟨by rw [← HPN.out], rfl⟩
            case rest =>
              obtain ⟨rfl, rfl⟩ := hcut
              rcases HKD.out with hk1 | hk2
              · subst hk1
                have HFN := hid (HE1.out.trans (overE_leaf h4 (by rw [HAL.out]; exact h64) (by show ¬ (1 : Int) = 2; decide)))
                obtain ⟨va, vc, hvi, -⟩ := own_slice' HOWb.out
                subst hvi
                obtain ⟨i0, hi0, hz0, hz1, hz2⟩ := info_parts Tryz.infoEnt
                have kb0 : wc.cell? ⟨b, 0, none⟩ = some (.slice va si.blobs.length vc) := Blk.cell HKb.out 0
                have kb0a : (wc.alloc (.cells #[.string pt, .int .i64 1, .string yd] 40)).cell? ⟨b, 0, none⟩ = some (.slice va si.blobs.length vc) := Blk.cell (HKb.out.alloc _) 0
                have hbm : si.blobs.length ≤ 4096 := by omega
                have hBe : B ≤ wc.heap.size := by have := HZB.out; omega
                have hw2c : w2.heap.size ≤ wc.heap.size := by have := HZB.out; omega
                have HN : Hid (overE (overS G d) above x.ents s = overE (overS G d) above (x.ents.drop (i + 1)) ⟨si.met + 1, si.blobs ++ [⟨pt, 1, yd⟩]⟩) := by
                  show _ = _
                  rw [HFN.out]
                  show overE (overS G d) above (x.ents.drop (i + 1)) ⟨si.met + 1, si.blobs ++ [⟨pathOf (above ++ [nm]), 1, yd⟩]⟩ = _
                  rw [HPT.out]
                have HM' : Hid ((⟨si.met + 1, si.blobs ++ [(⟨pt, 1, yd⟩ : Ent)]⟩ : Wk).met ≤ 4097 ∧ (⟨si.met + 1, si.blobs ++ [(⟨pt, 1, yd⟩ : Ent)]⟩ : Wk).blobs.length ≤ (⟨si.met + 1, si.blobs ++ [(⟨pt, 1, yd⟩ : Ent)]⟩ : Wk).met ∧ ((0 : Int) = 0 → (⟨si.met + 1, si.blobs ++ [(⟨pt, 1, yd⟩ : Ent)]⟩ : Wk).met ≤ 4096)) := ⟨by show si.met + 1 ≤ 4097; omega, by show (si.blobs ++ [(⟨pt, 1, yd⟩ : Ent)]).length ≤ si.met + 1; rw [List.length_append]; simp only [List.length_cons, List.length_nil]; omega, fun _ => (by show si.met + 1 ≤ 4096; omega)⟩
                clear HFN km
                go_upto_region 16 with fail
                go_region_law (first
                  | (refine step_append_lies _ (by rfl) (.tmp 82) (.tmp 87) 25 (by rfl) B 40 i0 (.agg #[.string ⟨#[]⟩, .int .i64 0, .string ⟨#[]⟩]) 3 40 Tryz.underlying25 hi0 hz0 hz1 hz2 rfl (by decide) (.slice va si.blobs.length vc) si.blobs.length (evals si.blobs) (by simp [Act.eval, Act.put]) ((HOWb.out.alloc _).drew) ⟨wc.heap.size, 0, none⟩ 1 1 [.string pt, .int .i64 1, .string yd] (by simp [Act.eval, Act.put]) rfl (cellNew3 _ _ _ _ _) (one3 rfl rfl rfl) (by decide) (by unfold maxLen; omega) (by omega) (by simp; omega) (wc.heap.size + 1) (by simp) ?_; intro g1 cap1 wf hown hgrow hat hglt; have HKf := hid ((HKb.out.drew.alloc _).grown hgrow (fun e => own_blk_ne HOWb.out HKb.out (by decide) e.symm)); have kf0 : wf.cell? ⟨b, 0, none⟩ = some (.slice va si.blobs.length vc) := (Blk.cell HKf.out 0).trans rfl; have ff0 := Blk.frozen HKf.out 0; have HOWN := hid hown; have HGR := hid hgrow; have HAT := hid hat; clear hown hgrow hat hglt))
                all_goals
                  have HFX : Hid (Blk (wf.setCell ⟨b, 0, none⟩ (.slice (some ⟨g1, 0, none⟩) (si.blobs.length + 1) cap1)) b 113 (rkCs (si.met + 1) (.slice (some ⟨g1, 0, none⟩) (si.blobs.length + 1) cap1) 0)) := Blk.set HKf.out 0 _
                  have HFO : Hid ((wf.setCell ⟨b, 0, none⟩ (.slice (some ⟨g1, 0, none⟩) (si.blobs.length + 1) cap1)).ownsRow B 40 3 (.slice (some ⟨g1, 0, none⟩) (si.blobs.length + 1) cap1) (si.blobs ++ [(⟨pt, 1, yd⟩ : Ent)]).length (evals (si.blobs ++ [⟨pt, 1, yd⟩]))) := by
                    have h := own_only HOWN.out ((Only.refl (· = b) wf).setCell (p := ⟨b, 0, none⟩) (.inl rfl) (.slice (some ⟨g1, 0, none⟩) (si.blobs.length + 1) cap1)) (fun k hk e => own_blk_ne HOWN.out HKf.out (by decide) (e ▸ hk))
                    rw [evals_append, List.length_append]; exact h
                  have HFW : Hid (Only (WF b v) w2 (wf.setCell ⟨b, 0, none⟩ (.slice (some ⟨g1, 0, none⟩) (si.blobs.length + 1) cap1))) := ((HOb.out.drew.alloc _).grown HGR.out (fun k hk => (HV.out k hk).imp (fun e => .inr e) (fun e => e))).setCell (p := ⟨b, 0, none⟩) (.inl (.inl rfl)) _
                  have HFV : Hid (∀ k, (Value.slice (some ⟨g1, 0, none⟩) (si.blobs.length + 1) cap1).ownBlock = some k → v.ownBlock = some k ∨ w2.heap.size ≤ k) := fun k hk => by
                    have e : g1 = k := by simpa [Value.ownBlock] using hk
                    subst e
                    exact HAT.out.elim (fun e => HV.out _ e) (fun e => .inr (by rw [e]; omega))
                  go_wp2_with fail
                  exact ⟨⟨i + 1, _, ⟨si.met + 1, si.blobs ++ [⟨pt, 1, yd⟩]⟩, 0, by omega, by go_num, HFX, HFO, HM', HFW, HFV, fun _ => HN.out, fun h => absurd rfl h⟩, by simp [intOf]; omega⟩
              · subst hk2
                obtain ⟨r1, er, hrec⟩ : ∃ r1 er, overS G d yd (above ++ [nm]) { si with met := si.met + 1 } = (r1, er) := ⟨_, _, rfl⟩
                have HFN := hid (HE1.out.trans (overE_dir h4 (by rw [HAL.out]; exact h64) rfl hrec))
                have em : ((m + 1 : Nat) : Int) = (m : Int) + 1 := by omega
                have ewm : IntKind.i64.wrap ((m : Int) + 1) = (m : Int) + 1 := by rw [IntKind.wrap_i64]; omega
                have HCC : Hid (Calls Tryz.prog 53 #[.pointer (some ⟨b, 0, none⟩), .slice a n c, .string yd, .string pt, .int .i64 ((m : Int) + 1)] wc (ROverOut B wc b vi (r1, er))) := by
                  have := IH.out yd (above ++ [nm]) pt b vi { si with met := si.met + 1 } wc (fun _ => HPT.out.symm) (by omega) (by rw [HPL.out]; omega) (by rw [HPL.out]; omega)
                    (HB0.out.trans (by
                      have h1 : Below w.heap.size w w2 := HL2.out
                      have h2 : Below B w2 wc := HOb.out.below (fun k hk => hk.elim (fun e => by omega) (fun e => (HVL.out k e).1)) (by omega)
                      rw [HB.out]
                      exact (h1.mono hBw).trans h2)) HKb.out (by rw [HB.out]; exact HOWb.out) (by rw [HB.out]; exact hW3) (by show si.met + 1 ≤ 4096; omega) (by show si.blobs.length ≤ si.met + 1; omega) HSW2.out
                  rw [HGE.out, HPL.out, hrec, HB.out, em] at this
                  exact this
                clear em km hrec
                go_wp2_with fail
                refine HCC.out.mono ?_; rintro e wd ⟨v', rfl, hk5, hr5, hm5, hb5, ho5, hv5, h05⟩
                simp only at hk5 hr5 hm5 hb5 h05
                have HFIN : Hid (Only (WF b v) w2 wd) := HOb.out.trans ho5 (fun k hk => by
                  rcases hk with hk | hk
                  · exact .inl (.inl hk)
                  · exact (HV.out k hk).imp (fun e => .inr e) (fun e => e))
                have HV' : Hid (∀ k, v'.ownBlock = some k → v.ownBlock = some k ∨ w2.heap.size ≤ k) := fun k hk => by
                  rcases hv5 k hk with h | h
                  · exact HV.out k h
                  · exact .inr (by have := HZB.out; omega)
                have HK5 := hid hk5; have HR5 := hid hr5; have HM5 : Hid (r1.met ≤ 4097 ∧ r1.blobs.length ≤ r1.met ∧ (er = 0 → r1.met ≤ 4096)) := ⟨hm5, hb5, h05⟩
                have HN : Hid (er = 0 → overE (overS G d) above x.ents s = overE (overS G d) above (x.ents.drop (i + 1)) r1) := fun h => by rw [HFN.out, if_neg (by rw [h]; simp)]
                have HNE : Hid (er ≠ 0 → overE (overS G d) above x.ents s = (r1, er)) := fun h => by rw [HFN.out, if_pos h]
                clear ho5 hv5 hk5 hr5 hm5 hb5 h05 HCC HFN ke0 ke1 ke2
                go_wp2_with fail
                go_roundw
                case rel => first | exact ⟨i + 1, v', r1, er, by omega, by go_num, HK5, HR5, HM5, HFIN, HV', HN, HNE⟩ | ((repeat apply Exists.intro); exact ⟨⟨i + 1, v', r1, er, by omega, by go_num, HK5, HR5, HM5, HFIN, HV', HN, HNE⟩, rfl⟩)
                case measure => simp [intOf]; omega
          · have q1 : (ei == 0) = false := by rw [beq_eq_false_iff_ne]; exact hei
            have HN : Hid (overE (overS G d) above x.ents s = (si, ei)) := HEE.out hei
            obtain ⟨hm1, hm2, hm3⟩ := HM.out
            go_wp2_with fail
            go_end0
            rw [HOS.out, HN.out]
            exact ⟨vi, rfl, HK.out, HOW.out, hm1, hm2, (Only.of_below HL2.out _).then HO.out, fun k hk => (HV.out k hk).imp (fun e => e) (fun e => by omega), hm3⟩
        · obtain rfl : i = en := by omega
          have ci : ¬ (i : Int) < i := by omega
          have HN : Hid (overE (overS G d) above x.ents s = (si, ei)) := by
            show _ = _
            by_cases hei : ei = 0
            · rw [HE.out hei, List.drop_of_length_le (by rw [HEN.out]; exact Nat.le_refl _), hei]; rfl
            · exact HEE.out hei
          obtain ⟨hm1, hm2, hm3⟩ := HM.out
          go_wp2_with fail
          go_end0
          rw [HOS.out, HN.out]
          exact ⟨vi, rfl, HK.out, HOW.out, hm1, hm2, (Only.of_below HL2.out _).then HO.out, fun k hk => (HV.out k hk).imp (fun e => e) (fun e => by omega), hm3⟩
    · have q1 : (er != 0) = true := by simpa using he
      have q2 : (er == 0) = false := by simpa using he
      have HOS := hid (overS_err (d := d) (above := above) (s := s) hlk he)
      have kb2 : w2.cell? ⟨b, 2, none⟩ = some (.int .i64 0) := Blk.cell HWK2.out 2
      have fb2 := Blk.frozen HWK2.out 2
      have hob : Only (· = b) w2 (w2.setCell ⟨b, 2, none⟩ (.int .i64 er)) := (Only.refl (· = b) w2).setCell (p := ⟨b, 2, none⟩) (.inl rfl) _
      have HK5 : Hid (Blk (w2.setCell ⟨b, 2, none⟩ (.int .i64 er)) b 113 (rkCs s.met v er)) := Blk.set HWK2.out 2 _
      have HO5 := hid (own_only HOW2.out hob (fun k hk e => own_blk_ne HOW2.out HWK2.out (by decide) (e ▸ hk)))
      have HOn5 : Hid (Only (WF b v) w (w2.setCell ⟨b, 2, none⟩ (.int .i64 er))) := (Only.of_below HL2.out _).setCell (p := ⟨b, 2, none⟩) (.inl (.inl rfl)) _
      have hern := he
      have HER := hid he
      clear he hlk HX2 HO2 hob hern
      go_wp2_with fail
      go_end0
      rw [HOS.out]
      exact ⟨v, rfl, HK5.out, HO5.out, by show s.met ≤ 4097; omega, hW5, HOn5.out, fun k hk => .inl hk, fun h => absurd h HER.out⟩
end Go.Proofs.YtlenfiiocmchdaaGreatDoor
/- The reference's layer 15: a commit's blobs and files: List, Files. -/
namespace Go.Proofs.YtlenfiiocmchdaaGreatDoor
open Go.RowKit Book Pap Ojt Sn
set_option linter.unusedVariables false
set_option linter.unusedSimpArgs false

set_option maxRecDepth 100000 in
set_option maxHeartbeats 8000000 in
theorem rlist_any (a : Option Addr) (n c : Nat) (fs : List Fi) (hz : SrcSz (getF fs)) (id : ByteArray) (w : World) (hF : FisAt w a n fs) : Calls Tryz.prog 13 #[.slice a n c, .string id] w (ListOut w (listS (getF fs) id)) := by
  have HLKS := hid (rlook_any a n c fs id 3 12 w hF hz)
  have HS := hid hF
  clear hF
  go_enter Tryz.func13, Tryz.ntmps13
  obtain ⟨x, er, hlk⟩ : ∃ x er, lookK (getF fs) id 3 12 = (x, er) := ⟨_, _, rfl⟩
  rw [hlk] at HLKS
  go_wp2_with fail
  refine HLKS.out.mono ?_; rintro e w1 ⟨ev, pv, rfl, hO1, hb1, hf1⟩
  simp only at hO1 ⊢
  obtain ⟨ea, en, ec, pa, pn, pc, rfl, -, rfl, -⟩ := hO1
  have HX2 : Hid (Blk (w1.alloc (.cells (obCs x (.slice ea en ec) (.slice pa pn pc)) 103)) w1.heap.size 103 (obCs x (.slice ea en ec) (.slice pa pn pc))) := Blk.new w1 _ _
  have HL2 : Hid (Below w.heap.size w (w1.alloc (.cells (obCs x (.slice ea en ec) (.slice pa pn pc)) 103))) := hb1.alloc hb1.size _
  unfold obCs at HX2 HL2
  simp only [obCs]
  clear hb1 hf1 HLKS
  go_upto_region 2 with fail
  generalize (w1.alloc (.cells #[.int .i64 x.kind, .string x.data, .slice ea en ec, .string x.tree, .slice pa pn pc, .int .i64 x.height, .string x.note] 103)) = w2 at HX2 HL2 ⊢
  generalize w1.heap.size = g2 at HX2 ⊢
  have hsz2 : w.heap.size ≤ w2.heap.size := HL2.out.size
  by_cases he : er = 0
  · subst he
    obtain ⟨s, er, hov⟩ : ∃ s er, overS (getF fs) 66 x.tree [] ⟨0, []⟩ = (s, er) := ⟨_, _, rfl⟩
    have HLS := hid (listS_ok hlk hov)
    have k3 : w2.cell? ⟨g2, 3, none⟩ = some (.string x.tree) := Blk.cell HX2.out 3
    have k3a : (w2.alloc (.cells #[.slice none 0 0, .int .i64 0, .int .i64 0] 113)).cell? ⟨g2, 3, none⟩ = some (.string x.tree) := Blk.cell (HX2.out.alloc _) 3
    have HWK : Hid (Blk (w2.alloc (.cells #[.slice none 0 0, .int .i64 0, .int .i64 0] 113)) w2.heap.size 113 (rkCs 0 (.slice none 0 0) 0)) := Blk.new w2 _ _
    have HL3 : Hid (Below w.heap.size w (w2.alloc (.cells #[.slice none 0 0, .int .i64 0, .int .i64 0] 113))) := HL2.out.alloc hsz2 _
    have HCC : Hid (Calls Tryz.prog 53 #[.pointer (some ⟨w2.heap.size, 0, none⟩), .slice a n c, .string x.tree, .string ⟨#[]⟩, .int .i64 0] (w2.alloc (.cells #[.slice none 0 0, .int .i64 0, .int .i64 0] 113)) (ROverOut w.heap.size (w2.alloc (.cells #[.slice none 0 0, .int .i64 0, .int .i64 0] 113)) w2.heap.size (.slice none 0 0) (s, er))) := by
      have := rover_any a n c fs hz w HS.out 66 x.tree [] ⟨#[]⟩ w2.heap.size (.slice none 0 0) ⟨0, []⟩ _ (fun h => absurd rfl h) (by decide) (by decide) (by decide) HL3.out HWK.out (World.ownsRow_nil _ _ _ _) hsz2 (by decide) (by decide) (fun q hq => by cases hq)
      rw [hov] at this
      exact this
    clear hlk hov HX2 HL2 HWK
    go_wp2_with fail
    refine HCC.out.mono ?_; rintro e w3 ⟨v', rfl, hw1, hw2, hw4, hw5, ho, hv, hm⟩
    simp only at hw1 hw2 hw4 hw5 ⊢
    have HFL : Hid (Below w.heap.size w w3) := HL3.out.trans (ho.below (fun k hk => hk.elim (fun e => by omega) (fun e => by simp [Value.ownBlock] at e)) (by rw [World.size_alloc]; omega))
    obtain ⟨va, vc, hvi, -⟩ := own_slice' hw2
    subst hvi
    obtain ⟨a', c', e1, hst⟩ := own_ents hw2 (by omega)
    injection e1 with e2 e3 e4
    subst e2 e4
    have HST := hid hst
    have HVL : Hid (∀ k, (Value.slice va s.blobs.length vc).ownBlock = some k → w.heap.size ≤ k) := fun k hk => (hw2.lt k hk).1
    have kb : w3.cell? ⟨w2.heap.size, 0, none⟩ = some (.slice va s.blobs.length vc) := Blk.cell hw1 0
    have kb2 : w3.cell? ⟨w2.heap.size, 2, none⟩ = some (.int .i64 er) := Blk.cell hw1 2
    have hbl : s.blobs.length ≤ 4097 := by omega
    clear k3 k3a hw1 hw2 hw4 hw5 ho hv hm hst HCC HL3
    by_cases he : er = 0
    · subst he
      have HF : Hid (listS (getF fs) id = (s.blobs, 0)) := HLS.out
      go_wp2_with fail
      go_ret2
      rw [HF.out]
      exact ⟨_, _, _, rfl, HST.out, HFL.out, HVL.out, hbl⟩
    · have q1 : (er != 0) = true := by simpa using he
      have q2 : (er == 0) = false := by simpa using he
      have HF : Hid (listS (getF fs) id = ([], er)) := by
        show _ = _
        rw [HLS.out, if_pos he]
      go_wp2_with fail
      go_quiet (fail)
      go_wp2_with fail
      go_ret2
      rw [HF.out]
      exact ⟨none, 0, 0, rfl, ⟨rfl, by omega, .inl rfl⟩, below_drewN HFL.out _, fun k hk => by simp [Value.ownBlock] at hk, by omega⟩
  · have q1 : (er != 0) = true := by simpa using he
    have q2 : (er == 0) = false := by simpa using he
    have HF := hid (listS_err hlk he)
    clear he hlk HX2
    go_wp2_with fail
    go_ret2
    rw [HF.out]
    exact ⟨none, 0, 0, rfl, ⟨rfl, by omega, .inl rfl⟩, HL2.out, fun k hk => by simp [Value.ownBlock] at hk, by omega⟩
set_option maxRecDepth 100000 in
set_option maxHeartbeats 8000000 in
theorem rfiles_any (a : Option Addr) (n c : Nat) (fs : List Fi) (hz : SrcSz (getF fs)) (id : ByteArray) (w : World) (hF : FisAt w a n fs) : Calls Tryz.prog 16 #[.slice a n c, .string id] w (FilesOut w (filesS (getF fs) id)) := by
  have HLI := hid (rlist_any a n c fs hz id w hF)
  have HS := hid hF
  clear hF
  obtain ⟨i0, hi0, hz0, hz1, hz2⟩ := info_parts Tryz.infoFi
  obtain ⟨G, hG⟩ : ∃ G, getF fs = G := ⟨_, rfl⟩
  have HGE := hid hG
  rw [hG] at HLI hz ⊢
  clear hG
  obtain ⟨l, er, hls⟩ : ∃ l er, listS G id = (l, er) := ⟨_, _, rfl⟩
  have HFS : Hid (filesS G id = if er ≠ 0 then ([], er) else filesF G l []) := by
    show _ = _
    unfold filesS; rw [hls]
  rw [hls] at HLI
  go_enter Tryz.func16, Tryz.ntmps16
  go_wp2_with fail
  refine HLI.out.mono ?_; rintro e w1 ⟨la, ln, lc, rfl, hE, hb1, hf1, hn1⟩
  simp only at hE ⊢
  have HL1 := hid hb1
  have HE := hid hE
  have HLN := hid hE.1
  have hsz1 := hb1.size
  clear hb1 hf1 hE HLI hls
  by_cases he : er = 0
  · subst he
    have HFS2 : Hid (filesS G id = filesF G l []) := HFS.out
    clear HFS
    have HO1 : Hid ((w1.alloc (.cells #[] 71)).ownsRow w1.heap.size 71 2 (.slice (some ⟨w1.heap.size, 0, none⟩) 0 0) 0 (fivals [])) := own_noneFi w1
    have HB1 : Hid (Below w1.heap.size w1 (w1.alloc (.cells #[] 71))) := (Below.refl _ _).alloc (Nat.le_refl _) _
    go_upto_region 5 with fail
    generalize (w1.alloc (.cells #[] 71)) = w2 at HO1 HB1 ⊢
    obtain ⟨B, hB⟩ : ∃ B, w1.heap.size = B := ⟨_, rfl⟩
    have HBe := hid hB
    rw [hB] at HO1 HB1 hsz1 ⊢
    clear hB
    go_wp2_with fail
    go_loopw [8, 9] (fun v iv wr => ∃ (i : Nat) (F : List Fi), i ≤ ln ∧ iv = .int .i64 i ∧ Hid (F.length = i) ∧ Hid (wr.ownsRow B 71 2 v i (fivals F)) ∧ Hid (Below B w1 wr) ∧ Hid (filesS G id = filesF G (l.drop i) F)) (fun _ iv _ => ln - (intOf iv).toNat)
    case atStart => exact ⟨0, [], Nat.zero_le _, rfl, rfl, HO1, HB1, HFS2.out⟩
    case round =>
      obtain ⟨i, F, hi, rfl, HL, HO, HB, HF⟩ := hrel
      obtain ⟨va, vc, rfl, hvc⟩ := own_slice' HO.out
      have hszr : B ≤ wr.heap.size := by have := HB.out.size; rw [HBe.out] at this; exact this
      have HB' : Hid (Below w1.heap.size w1 wr) := by rw [HBe.out]; exact HB
      by_cases hlt : i < ln
      · have ci : (i : Int) < ln := by omega
        have ci0 : (0 : Int) ≤ (i : Int) := by omega
        obtain ⟨-, -, h3⟩ := HE.out.later HB'.out
        obtain ⟨eb, eoff, rfl, hcell⟩ := h3.resolve_left (by omega)
        obtain ⟨q0, q1, q2⟩ := hcell i hlt
        have hil : i < l.length := by rw [HLN.out]; exact hlt
        have HT : Hid (l.drop i = l.getD i ⟨ByteArray.empty, 0, ByteArray.empty⟩ :: l.drop (i + 1)) := by
          show _ = _
          rw [List.drop_eq_getElem_cons hil, List.getD_eq_getElem?_getD, List.getElem?_eq_getElem hil]; rfl
        obtain ⟨z, hzz⟩ : ∃ z, l.getD i ⟨ByteArray.empty, 0, ByteArray.empty⟩ = z := ⟨_, rfl⟩
        rw [hzz] at q0 q1 q2 HT
        obtain ⟨nm, kd, yd⟩ := z
        simp only at q0 q1 q2
        have HF1 : Hid (filesS G id = filesF G (⟨nm, kd, yd⟩ :: l.drop (i + 1)) F) := by
          show _ = _
          rw [HF.out, HT.out]
        clear hzz HT hcell h3 HF
        obtain ⟨x, er, hlk⟩ : ∃ x er, lookK G yd 1 21 = (x, er) := ⟨_, _, rfl⟩
        have HLK : Hid (Calls Tryz.prog 52 #[.slice a n c, .string yd, .int .i64 1, .int .i64 21] wr (LookOut wr x er)) := by
          have := rlook_any a n c fs yd 1 21 wr (HS.out.later (HL1.out.trans (HB'.out.mono (by rw [HBe.out]; exact hsz1)))) (by rw [HGE.out]; exact hz)
          rw [HGE.out, hlk] at this; exact this
        go_wp2_with fail
        refine HLK.out.mono ?_; rintro e w3 ⟨ev, pv, rfl, hO3, hb3, hf3⟩
        simp only at hO3 ⊢
        obtain ⟨ea, en, ec, pa, pn, pc, rfl, -, rfl, -⟩ := hO3
        have hebw := World.block_lt_of_cell? wr _ q0
        have HX4 : Hid (Blk (w3.alloc (.cells (obCs x (.slice ea en ec) (.slice pa pn pc)) 103)) w3.heap.size 103 (obCs x (.slice ea en ec) (.slice pa pn pc))) := Blk.new w3 _ _
        have hb4 : Below wr.heap.size wr (w3.alloc (.cells (obCs x (.slice ea en ec) (.slice pa pn pc)) 103)) := hb3.alloc hb3.size _
        have HQ0 : Hid ((w3.alloc (.cells (obCs x (.slice ea en ec) (.slice pa pn pc)) 103)).cell? ⟨eb, eoff + i * 3, none⟩ = some (.string nm)) := (hb4.cell hebw).trans q0
        have HO4 : Hid ((w3.alloc (.cells (obCs x (.slice ea en ec) (.slice pa pn pc)) 103)).ownsRow B 71 2 (.slice va i vc) i (fivals F)) := own_below HO.out hb4
        have HB4 : Hid (Below B w1 (w3.alloc (.cells (obCs x (.slice ea en ec) (.slice pa pn pc)) 103))) := HB.out.trans (hb4.mono hszr)
        unfold obCs at HX4 HQ0 HO4 HB4
        simp only [obCs]
        clear hb3 hf3 HLK hb4 hebw q0 q1 q2 HO HB HB'
        go_upto_region 9 with fail
        generalize (w3.alloc (.cells #[.int .i64 x.kind, .string x.data, .slice ea en ec, .string x.tree, .slice pa pn pc, .int .i64 x.height, .string x.note] 103)) = w4 at HX4 HQ0 HO4 HB4 ⊢
        generalize w3.heap.size = g4 at HX4 ⊢
        have hB4 : B ≤ w4.heap.size := by have := HB4.out.size; rw [HBe.out] at this; exact this
        by_cases he : er = 0
        · subst he
          have HN : Hid (filesS G id = filesF G (l.drop (i + 1)) (F ++ [⟨nm, x.data⟩])) := HF1.out.trans (filesF_ok hlk)
          have k0 : w4.cell? ⟨eb, eoff + i * 3, none⟩ = some (.string nm) := HQ0.out
          have k1 : w4.cell? ⟨g4, 1, none⟩ = some (.string x.data) := Blk.cell HX4.out 1
          have HL9 : Hid ((F ++ [(⟨nm, x.data⟩ : Fi)]).length = i + 1) := by show _ = _; rw [List.length_append, HL.out]; rfl
          clear hlk
          go_upto_region 11 with fail
          go_region_law (first
            | (refine step_append_lies _ (by rfl) (.tmp 41) (.tmp 50) 34 (by rfl) B 71 i0 (.agg #[.string ⟨#[]⟩, .string ⟨#[]⟩]) 2 32 Tryz.underlying34 hi0 hz0 hz1 hz2 rfl (by decide) (.slice va i vc) i (fivals F) (by simp [Act.eval, Act.put]) (HO4.out.drew.alloc _) ⟨w4.heap.size, 0, none⟩ 1 1 [.string nm, .string x.data] (by simp [Act.eval, Act.put]) rfl (cellNew2 _ _ _ _) (one2 rfl rfl) (by decide) (by unfold maxLen; omega) (by omega) (by simp; omega) (w4.heap.size + 1) (by simp) ?_; intro g1 cap1 wf hown hgrow hat hglt; have HOWN := hid hown; have HGR := hid hgrow; clear hown hgrow hat hglt))
          all_goals
            have HO9 : Hid (wf.ownsRow B 71 2 (.slice (some ⟨g1, 0, none⟩) (i + 1) cap1) (i + 1) (fivals (F ++ [⟨nm, x.data⟩]))) := by
              have h := HOWN.out
              rw [fivals_append]; exact h
            have HB9 : Hid (Below B w1 wf) := (HB4.out.drew.alloc (by simp; omega) _).grown HGR.out (by simp; omega) (fun k hk => (HO4.out.lt k hk).1)
            go_wp2_with fail
            exact ⟨⟨i + 1, _, by omega, by go_num, HL9, HO9, HB9, HN⟩, by simp [intOf]; omega⟩
        · have q1 : (er != 0) = true := by simpa using he
          have q2 : (er == 0) = false := by simpa using he
          have HN := hid (HF1.out.trans (filesF_err hlk he))
          clear hlk
          go_wp2_with fail
          go_ret2
          rw [HN.out]
          exact ⟨none, 0, 0, rfl, ⟨rfl, by omega, .inl rfl⟩, HL1.out.trans (HB4.out.mono hsz1), fun k hk => by simp [Value.ownBlock] at hk, by omega, Nat.le_refl _⟩
      · obtain rfl : i = ln := by omega
        have HN : Hid (filesS G id = (F, 0)) := by
          show _ = _
          rw [HF.out, List.drop_of_length_le (by rw [HLN.out]; exact Nat.le_refl _)]; rfl
        have HST : Hid (FisAt wr va i F) := by
          have h := HO.out
          have h' : wr.ownsRow B 71 2 (.slice va i vc) F.length (fivals F) := by rw [HL.out]; exact h
          obtain ⟨a', c', he, hst⟩ := own_fis h' (by rw [HL.out]; omega)
          injection he with e1 e2 e3
          rw [HL.out] at hst
          rw [e1]; exact hst
        have ci : ¬ (i : Int) < i := by omega
        have HOL := hid (fun k hk => (HO.out.lt k hk).1)
        go_wp2_with fail
        go_ret2
        rw [HN.out]
        exact ⟨va, i, vc, rfl, HST.out, HL1.out.trans (HB.out.mono hsz1), fun k hk => Nat.le_trans hsz1 (HOL.out k hk), by omega, hvc⟩
  · have q1 : (er != 0) = true := by simpa using he
    have q2 : (er == 0) = false := by simpa using he
    have HF : Hid (filesS G id = ([], er)) := by
      show _ = _
      rw [HFS.out, if_pos he]
    go_wp2_with fail
    go_ret2
    rw [HF.out]
    exact ⟨none, 0, 0, rfl, ⟨rfl, by omega, .inl rfl⟩, HL1.out, fun k hk => by simp [Value.ownBlock] at hk, by omega, Nat.le_refl _⟩
end Go.Proofs.YtlenfiiocmchdaaGreatDoor
/- The reference's layer 15: what stands at a path: Find. -/
namespace Go.Proofs.YtlenfiiocmchdaaGreatDoor
open Go.RowKit Book Pap Ojt Sn
set_option linter.unusedVariables false
set_option linter.unusedSimpArgs false

theorem rfind_results (tmps : Array Value) (g : Nat) (er : Int) (y : Ent) (w : World) (h2 : tmps.getD 6 undef = .pointer (some ⟨g, 0, none⟩)) (h3 : tmps.getD 7 undef = .int .i64 er) (H : Blk w g 40 #[.string y.name, .int .i64 y.kind, .string y.id]) : (results Tryz.f19 tmps).run Tryz.prog w = .ok (.tuple #[.agg #[.string y.name, .int .i64 y.kind, .string y.id], .int .i64 er]) w := by
  have c0 : w.cell? ⟨g, 0, none⟩ = some (.string y.name) := Blk.cell H 0
  have c1 : w.cell? ⟨g, 1, none⟩ = some (.int .i64 y.kind) := Blk.cell H 1
  have c2 : w.cell? ⟨g, 2, none⟩ = some (.string y.id) := Blk.cell H 2
  have h2' : tmps[6]?.getD undef = .pointer (some ⟨g, 0, none⟩) := by simpa using h2
  have h3' : tmps[7]?.getD undef = .int .i64 er := by simpa using h3
  simp [results, Tryz.results19, go_sem, h2', h3', c0, c1, c2]
set_option maxRecDepth 100000 in
set_option maxHeartbeats 16000000 in
theorem rfind_any (a : Option Addr) (n c : Nat) (fs : List Fi) (hz : SrcSz (getF fs)) (id p : ByteArray) (w : World) (hF : FisAt w a n fs) (hps : p.size ≤ 1048576) : Calls Tryz.prog 19 #[.slice a n c, .string id, .string p] w (FindOut w (findS (getF fs) id p)) := by
  have HS := hid hF
  clear hF
  have HFE := hid (findS_eq (getF fs) id p)
  obtain ⟨R, hR⟩ : ∃ R, findS (getF fs) id p = R := ⟨_, rfl⟩
  rw [hR] at HFE ⊢
  clear hR
  obtain ⟨G, hG⟩ : ∃ G, getF fs = G := ⟨_, rfl⟩
  have HGE := hid hG
  rw [hG] at HFE hz
  clear hG
  have HLKA : Hid (∀ q k l W, FisAt W a n fs → Calls Tryz.prog 52 #[.slice a n c, .string q, .int .i64 k, .int .i64 l] W (LookOut W (lookK G q k l).1 (lookK G q k l).2)) := fun q k l W h => by
    have := rlook_any a n c fs q k l W h (by rw [HGE.out]; exact hz)
    rw [HGE.out] at this; exact this
  go_enter Tryz.func19, Tryz.ntmps19
  go_upto_if 21 with fail
  obtain ⟨r0, hr0⟩ : ∃ g, w.heap.size = g := ⟨_, rfl⟩
  have HR0 := hid hr0
  have HZ1 : Hid (Blk ((w.alloc (.cells #[.string ⟨#[]⟩, .int .i64 0, .string ⟨#[]⟩] 40)).alloc (.cells #[] 9)) r0 40 (entCs noEnt)) := by
    have := (Blk.new w 40 (entCs noEnt)).alloc (.cells #[] 9); rw [hr0] at this; exact this
  have HB1 : Hid (Below r0 w ((w.alloc (.cells #[.string ⟨#[]⟩, .int .i64 0, .string ⟨#[]⟩] 40)).alloc (.cells #[] 9))) := ((Below.refl _ _).alloc (Nat.le_of_eq hr0.symm) _).alloc (by rw [World.size_alloc]; omega) _
  rw [hr0]
  clear hr0
  generalize ((w.alloc (.cells #[.string ⟨#[]⟩, .int .i64 0, .string ⟨#[]⟩] 40)).alloc (.cells #[] 9)) = w1 at HZ1 HB1 ⊢
  have hg1 := Blk.lt HZ1.out
  go_cut [8] (fun s8 wx => ∃ na nn nc, s8 = .slice na nn nc ∧ Hid (StrsAt wx na nn (pathNames p) ∧ Blk wx r0 40 (entCs noEnt) ∧ Below r0 w wx ∧ R = FindRest G id (pathNames p)))
  case first =>
    by_cases hp0 : p.size = 0
    · have hb1 : p.toList = [] := bstr_nil hp0
      have hb5 : (!p.toList.isEmpty) = false := by rw [hb1]; rfl
      rw [hb5]
      clear hb1 hb5
      have HFIN : Hid (∀ na : Option Addr, StrsAt w1 na 0 (pathNames p) ∧ Blk w1 r0 40 (entCs noEnt) ∧ Below r0 w w1 ∧ R = FindRest G id (pathNames p)) := fun na => by
        refine ⟨?_, HZ1.out, HB1.out, ?_⟩
        · unfold pathNames; rw [if_pos hp0]; exact ⟨rfl, by omega, .inl rfl⟩
        · rw [HFE.out, if_neg (by simp [hp0])]; rfl
      go_wp2_with fail
      go_meet
      case rel => exact ⟨_, _, _, rfl, HFIN.out _⟩
    · have hb1 : ¬ p.toList = [] := bstr_some hp0
      have hb5 : (!p.toList.isEmpty) = true := by rw [bstr_isEmpty hp0]; rfl
      rw [hb5]
      clear hb1 hb5
      have HSP := hid (rsplit_any p w1 hps)
      obtain ⟨E, hE⟩ : ∃ E, splitE p.data.toList = E := ⟨_, rfl⟩
      have HEE := hid hE
      rw [hE] at HSP
      clear hE
      go_wp2_with fail
      refine HSP.out.mono ?_; rintro e w2 ⟨v, rfl, ⟨na, nc, l, rfl, hst, hl, hv⟩, hb⟩
      have HZ2 : Hid (Blk w2 r0 40 (entCs noEnt)) := (hb.block r0 hg1).trans HZ1.out
      have HB2 : Hid (Below r0 w w2) := HB1.out.trans (hb.mono (Nat.le_of_lt hg1))
      have HST := hid hst; have HL := hid hl
      clear hst hl hv hb HSP HB1 HZ1
      by_cases hE0 : E = 0
      · subst hE0
        have HFIN : Hid (StrsAt w2 na l.length (pathNames p) ∧ Blk w2 r0 40 (entCs noEnt) ∧ Below r0 w w2 ∧ R = FindRest G id (pathNames p)) := by
          refine ⟨?_, HZ2.out, HB2.out, ?_⟩
          · have e1 : pathNames p = l := by
              unfold pathNames
              rw [if_neg hp0]
              have h := HL.out
              unfold namesOf at h
              rw [if_pos HEE.out] at h
              rw [← h, ls_back]
            rw [e1]; exact HST.out
          · rw [HFE.out, if_neg (by rw [HEE.out]; simp)]; rfl
        go_wp2_with fail
        go_meet
        case rel => exact ⟨_, _, _, rfl, HFIN⟩
      · have q1 : (E != 0) = true := by simpa using hE0
        have q2 : (E == 0) = false := by simpa using hE0
        have HFN : Hid (R = (noEnt, E)) := by
          show _ = _
          rw [HFE.out, if_pos ⟨hp0, by rw [HEE.out]; exact hE0⟩, HEE.out]
        obtain ⟨wz, hwz⟩ : ∃ wz, w2.setRow r0 (entCs noEnt) = wz := ⟨_, rfl⟩
        have HBZ : Hid (Blk wz r0 40 (entCs noEnt)) := by rw [← hwz]; exact setRow_heap _ _ _ _ _ _ HZ2.out
        have HLZ : Hid (Below r0 w wz) := by rw [← hwz]; exact below_setRow HB2.out (Nat.le_refl _) _
        have HWZ := hid hwz
        clear hwz
        go_wp2_with (first
          | (refine wpList_store_row rfl _ (.tmp 6) (.tmp 29) rfl r0 (entCs noEnt) rfl rfl 40 (entCs noEnt) HZ2.out (Tryz.infoEntSz _) rfl (entcs_one _) ?_; rw [HWZ.out]))
        go_wp2_with fail
        refine bodyPost_ret (v := .tuple #[.agg (entCs noEnt), .int .i64 E]) ?hr1 rfl ⟨?_, ?_⟩
        case hr1 => exact rfind_results _ r0 E noEnt wz rfl rfl HBZ.out
        · rw [HFN.out]
        · rw [HR0.out]; exact HLZ.out
  case rest =>
    obtain ⟨na, nn, nc, rfl, HC⟩ := hcut
    obtain ⟨hst, hzc, hbc, hrr⟩ := HC.out
    have HST := hid hst; have HZ2 := hid hzc; have HB2 := hid hbc; have HRR := hid hrr
    have hnn : (pathNames p).length = nn := hst.1
    have hnm := hst.2.1
    have HNN := hid hnn
    obtain ⟨L, hL⟩ : ∃ L, pathNames p = L := ⟨_, rfl⟩
    rw [hL] at HST HRR HNN
    have hgc := Blk.lt hzc
    clear HC hst hzc hbc hrr hnn hL HB1 HZ1 HFE
    obtain ⟨x, er, hlk⟩ : ∃ x er, lookK G id 3 12 = (x, er) := ⟨_, _, rfl⟩
    have HLK := hid (HLKA.out id 3 12 wc (HS.out.later (by rw [HR0.out]; exact HB2.out)))
    have HR2 : Hid (R = if er ≠ 0 then (noEnt, er) else findF G L ⟨ByteArray.empty, 2, x.tree⟩) := by
      show _ = _
      rw [HRR.out]; unfold FindRest; rw [hlk]
    rw [hlk] at HLK
    clear hlk HRR
    go_wp2_with fail
    refine HLK.out.mono ?_; rintro e w3 ⟨ev, pv, rfl, hO3, hb3, hf3⟩
    simp only at hO3 ⊢
    obtain ⟨ea, en, ec, pa, pn, pc, rfl, -, rfl, -⟩ := hO3
    have HX4 : Hid (Blk (w3.alloc (.cells (obCs x (.slice ea en ec) (.slice pa pn pc)) 103)) w3.heap.size 103 (obCs x (.slice ea en ec) (.slice pa pn pc))) := Blk.new w3 _ _
    have HZ4 : Hid (Blk (w3.alloc (.cells (obCs x (.slice ea en ec) (.slice pa pn pc)) 103)) r0 40 (entCs noEnt)) := Blk.alloc ((hb3.block r0 hgc).trans HZ2.out) _
    have hbw : Below r0 w w3 := HB2.out.trans (hb3.mono (Nat.le_of_lt hgc))
    have hrw3 : r0 ≤ w3.heap.size := Nat.le_trans (Nat.le_of_lt hgc) hb3.size
    have HB4 : Hid (Below r0 w (w3.alloc (.cells (obCs x (.slice ea en ec) (.slice pa pn pc)) 103))) := hbw.alloc hrw3 _
    have HST4 : Hid (StrsAt (w3.alloc (.cells (obCs x (.slice ea en ec) (.slice pa pn pc)) 103)) na nn L) := (HST.out.later hb3).later ((Below.refl _ _).alloc (Nat.le_refl _) _)
    unfold obCs at HX4 HZ4 HB4 HST4
    simp only [obCs]
    clear hb3 hf3 HLK HZ2 HB2 HST hgc hbw hrw3
    go_upto_region 8 with fail
    generalize (w3.alloc (.cells #[.int .i64 x.kind, .string x.data, .slice ea en ec, .string x.tree, .slice pa pn pc, .int .i64 x.height, .string x.note] 103)) = w4 at HX4 HZ4 HB4 HST4 ⊢
    generalize w3.heap.size = g4 at HX4 ⊢
    by_cases he : er = 0
    · subst he
      have HR3 : Hid (R = findF G L ⟨ByteArray.empty, 2, x.tree⟩) := HR2.out
      have k3 : w4.cell? ⟨g4, 3, none⟩ = some (.string x.tree) := Blk.cell HX4.out 3
      clear HR2
      go_upto_region 11 with fail
      have hy0 : r0 < w4.heap.size := Blk.lt HZ4.out
      have HY5 : Hid (Blk (w4.alloc (.cells (entCs ⟨ByteArray.empty, 2, x.tree⟩) 40)) w4.heap.size 40 (entCs ⟨ByteArray.empty, 2, x.tree⟩)) := Blk.new w4 _ _
      have HO5 : Hid (Only (· = w4.heap.size) w4 (w4.alloc (.cells (entCs ⟨ByteArray.empty, 2, x.tree⟩) 40))) := (Only.refl _ _).alloc _
      obtain ⟨y0, hyy⟩ : ∃ y0, w4.heap.size = y0 := ⟨_, rfl⟩
      have HYY := hid hyy
      rw [hyy] at HY5 HO5 hy0 ⊢
      have hem : (⟨#[]⟩ : ByteArray) = ByteArray.empty := rfl
      unfold entCs at HY5 HO5
      simp only at HY5 HO5
      rw [← hem] at HY5 HO5 HR3
      clear k3 HX4 hyy hem
      generalize (w4.alloc (.cells #[.string ⟨#[]⟩, .int .i64 2, .string x.tree] 40)) = w5 at HY5 HO5 ⊢
      have HFR : Hid (∀ W, Only (· = y0) w4 W → StrsAt W na nn L ∧ Blk W r0 40 (entCs noEnt) ∧ Below r0 w W) := fun W hO =>
        ⟨StrsAt.only (c := nc) HST4.out hO (fun k hk hl e => by have e : k = y0 := e; rw [HYY.out] at hl; omega), HZ4.out.only hO (fun e => by have e : r0 = y0 := e; omega), HB4.out.trans (hO.below (fun i e => by have e : i = y0 := e; omega) (by rw [HYY.out]; omega))⟩
      clear HST4 HZ4 HB4
      go_wp2_with fail
      go_loopw [14] (fun iv wr => ∃ (i : Nat) (y : Ent), i ≤ nn ∧ iv = .int .i64 i ∧ Hid (Blk wr y0 40 (entCs y)) ∧ Hid (Only (· = y0) w4 wr) ∧ Hid (R = findF G (L.drop i) y) ∧ Hid (y.kind = 1 ∨ y.kind = 2)) (fun iv _ => nn - (intOf iv).toNat)
      case atStart => exact ⟨0, ⟨⟨#[]⟩, 2, x.tree⟩, Nat.zero_le _, rfl, HY5, HO5, HR3, .inr rfl⟩
      case round =>
        obtain ⟨i, y, hi, rfl, HY, HO, HF, HKD⟩ := hrel
        clear HY5 HO5 HR3
        obtain ⟨hst, hzr, hbr⟩ := HFR.out wr HO.out
        have HZr := hid hzr; have HBr := hid hbr
        have hyl := Blk.lt HY.out
        clear hzr hbr
        by_cases hlt : i < nn
        · have ci : (i : Int) < nn := by omega
          have ci0 : (0 : Int) ≤ (i : Int) := by omega
          obtain ⟨-, -, h3⟩ := hst
          obtain ⟨nb, noff, rfl, hcell⟩ := h3.resolve_left (by omega)
          have hil : i < L.length := by rw [HNN.out]; exact hlt
          have HT : Hid (L.drop i = L.getD i ByteArray.empty :: L.drop (i + 1)) := by
            show _ = _
            rw [List.drop_eq_getElem_cons hil, List.getD_eq_getElem?_getD, List.getElem?_eq_getElem hil]; rfl
          obtain ⟨ns, hns⟩ : ∃ z, L.getD i ByteArray.empty = z := ⟨_, rfl⟩
          rw [hns] at HT
          have HNS := hid hns
          have HQ0 : Hid (∀ W, Only (· = y0) w4 W → W.cell? ⟨nb, noff + i, none⟩ = some (.string ns)) := fun W hO => by
            obtain ⟨⟨-, -, g3⟩, -, -⟩ := HFR.out W hO
            obtain ⟨nb', noff', e, hc⟩ := g3.resolve_left (by omega)
            cases e
            have := hc i hlt
            rw [HNS.out] at this; exact this
          have HF1 : Hid (R = findF G (ns :: L.drop (i + 1)) y) := by
            show _ = _
            rw [HF.out, HT.out]
          clear hns HT hcell h3 HF
          have k1 : wr.cell? ⟨y0, 1, none⟩ = some (.int .i64 y.kind) := Blk.cell HY.out 1
          rcases HKD.out with hk | hk
          · rw [hk] at k1
            have HFN := hid (HF1.out.trans (findF_kind (by rw [hk]; decide)))
            clear hk
            obtain ⟨wz, hwz⟩ : ∃ wz, wr.setRow r0 (entCs noEnt) = wz := ⟨_, rfl⟩
            have HBZ : Hid (Blk wz r0 40 (entCs noEnt)) := by rw [← hwz]; exact setRow_heap _ _ _ _ _ _ HZr.out
            have HLZ : Hid (Below r0 w wz) := by rw [← hwz]; exact below_setRow HBr.out (Nat.le_refl _) _
            have HWZ := hid hwz
            clear hwz
            go_wp2_with (first
              | (refine wpList_store_row rfl _ (.tmp 6) (.tmp 54) rfl r0 (entCs noEnt) rfl rfl 40 (entCs noEnt) HZr.out (Tryz.infoEntSz _) rfl (entcs_one _) ?_; rw [HWZ.out]))
            go_wp2_with fail
            refine bodyPost_ret (v := .tuple #[.agg (entCs noEnt), .int .i64 12]) ?hr4 rfl ⟨?_, ?_⟩
            case hr4 => exact rfind_results _ r0 12 noEnt wz rfl rfl HBZ.out
            · rw [HFN.out]
            · rw [HR0.out]; exact HLZ.out
          · rw [hk] at k1
            have k2 : wr.cell? ⟨y0, 2, none⟩ = some (.string y.id) := Blk.cell HY.out 2
            obtain ⟨x6, er, hlk⟩ : ∃ x er, lookK G y.id 2 21 = (x, er) := ⟨_, _, rfl⟩
            have HLK := hid (HLKA.out y.id 2 21 wr (HS.out.later (by rw [HR0.out]; exact HBr.out)))
            rw [hlk] at HLK
            go_wp2_with fail
            refine HLK.out.mono ?_; rintro e v3 ⟨ev, pv, rfl, hO3, hb3, hf3⟩
            simp only at hO3 ⊢
            have HO3 := hid hO3
            obtain ⟨ea, en, ec, pa, pn, pc, rfl, -, rfl, -⟩ := hO3
            have HX4 : Hid (Blk (v3.alloc (.cells (obCs x6 (.slice ea en ec) (.slice pa pn pc)) 103)) v3.heap.size 103 (obCs x6 (.slice ea en ec) (.slice pa pn pc))) := Blk.new v3 _ _
            have HE4 : Hid (EntsAt (v3.alloc (.cells (obCs x6 (.slice ea en ec) (.slice pa pn pc)) 103)) ea en x6.ents) := by
              obtain ⟨_, _, _, _, _, _, e1, he, -⟩ := HO3.out
              injection e1 with e2 e3 e4
              rw [e2, e3]
              exact he.later ((Below.refl _ _).alloc (Nat.le_refl _) _)
            have HY4 : Hid (Blk (v3.alloc (.cells (obCs x6 (.slice ea en ec) (.slice pa pn pc)) 103)) y0 40 (entCs y)) := Blk.alloc ((hb3.block y0 hyl).trans HY.out) _
            have HO4 : Hid (Only (· = y0) w4 (v3.alloc (.cells (obCs x6 (.slice ea en ec) (.slice pa pn pc)) 103))) := (HO.out.then (Only.of_below hb3 _)).alloc _
            have HFE4 : Hid (∀ k, (Value.slice ea en ec).ownBlock = some k → wr.heap.size ≤ k) := fun k hk => hf3 k (.inl hk)
            have hv3 : wr.heap.size ≤ v3.heap.size := hb3.size
            unfold obCs at HX4 HE4 HY4 HO4
            simp only [obCs]
            clear hb3 hf3 HLK HO3 HY HO HZr HBr k1 k2
            go_upto_region 17 with fail
            generalize (v3.alloc (.cells #[.int .i64 x6.kind, .string x6.data, .slice ea en ec, .string x6.tree, .slice pa pn pc, .int .i64 x6.height, .string x6.note] 103)) = v4 at HX4 HE4 HY4 HO4 ⊢
            generalize v3.heap.size = g6 at HX4 hv3 ⊢
            obtain ⟨hst4, hz4, hb4⟩ := HFR.out v4 HO4.out
            have HZ4 := hid hz4; have HB4 := hid hb4
            clear hst4 hz4 hb4
            by_cases he : er = 0
            · subst he
              have HF2 := hid (HF1.out.trans (findF_ok hk hlk))
              obtain ⟨hgd, hkd6⟩ := look_good hlk (by decide)
              have HGEN := hid (good_tree hgd hkd6).2
              have HEL := hid HE4.out.1
              have hen6 : en ≤ 256 := by have := (good_tree hgd hkd6).1; rw [HEL.out] at this; exact this
              have HNO : Hid ((∀ j, j < x6.ents.length → decide ((x6.ents.getD j noEnt).name = ns) = false) → R = (noEnt, 12)) := fun h => by
                rw [HF2.out, idxE_miss h, if_neg (by decide)]
              have HYES : Hid (∀ k, k < x6.ents.length → (∀ j, j < k → decide ((x6.ents.getD j noEnt).name = ns) = false) → (x6.ents.getD k noEnt).name = ns → R = findF G (L.drop (i + 1)) (x6.ents.getD k noEnt)) := fun k hk h1 h2 => by
                rw [HF2.out, idxE_hit hk h1 (decide_eq_true h2), if_pos (by omega), Int.toNat_natCast]
              clear hlk hgd hkd6 HF1 HF2 hk
              go_upto_block 2 with fail
              go_cut [17] (fun s17 wx => ∃ (f : Bool) (y' : Ent), s17 = .bool f ∧ Hid (Blk wx y0 40 (entCs y')) ∧ Hid (Only (· = y0) w4 wx) ∧ Hid (f = true → R = findF G (L.drop (i + 1)) y' ∧ (y'.kind = 1 ∨ y'.kind = 2)) ∧ Hid (f = false → R = (noEnt, 12)))
              case first =>
                go_wp2_with fail
                go_loopw [17, 18] (fun fv kv vr => ∃ (k : Nat) (f : Bool) (y' : Ent), k ≤ en ∧ kv = .int .i64 k ∧ fv = .bool f ∧ Hid (Blk vr y0 40 (entCs y')) ∧ Hid (Only (· = y0) v4 vr) ∧ Hid (f = false → ∀ j, j < k → decide ((x6.ents.getD j noEnt).name = ns) = false) ∧ Hid (f = true → R = findF G (L.drop (i + 1)) y' ∧ (y'.kind = 1 ∨ y'.kind = 2))) (fun _ kv _ => en - (intOf kv).toNat)
                case atStart => exact ⟨0, false, y, Nat.zero_le _, rfl, rfl, HY4, Only.refl _ _, fun _ j hj => by omega, fun h => by cases h⟩
                case round =>
                  rename World => vr
                  obtain ⟨k, f, y', hk, rfl, rfl, HYv, HOv, HNv, HFv⟩ := hrel
                  have HOw : Hid (Only (· = y0) w4 vr) := HO4.out.then HOv.out
                  have HXv : Hid (Blk vr g6 103 #[.int .i64 x6.kind, .string x6.data, .slice ea en ec, .string x6.tree, .slice pa pn pc, .int .i64 x6.height, .string x6.note]) := HX4.out.only HOv.out (by omega)
                  have x2 : vr.cell? ⟨g6, 2, none⟩ = some (.slice ea en ec) := Blk.cell HXv.out 2
                  by_cases hke : k < en
                  · have ck : (k : Int) < en := by omega
                    have ck0 : (0 : Int) ≤ (k : Int) := by omega
                    cases f with
                    | true =>
                      go_wp2_with fail
                      go_meet
                      case rel => exact ⟨true, y', rfl, HYv, HOw, fun _ => HFv.out (by simp), fun h => by cases h⟩
                    | false =>
                      have hEv : EntsAt vr ea en x6.ents := EntsAt.only (c := ec) HE4.out HOv.out (fun q hq hl e => by have := HFE4.out q hq; have e : q = y0 := e; omega)
                      obtain ⟨-, -, h3⟩ := hEv
                      obtain ⟨eb, eoff, rfl, hcell⟩ := h3.resolve_left (by omega)
                      obtain ⟨q0, q1, q2⟩ := hcell k hke
                      have n0 := HQ0.out vr HOw.out
                      have hkl : k < x6.ents.length := by rw [HEL.out]; exact hke
                      have hgk := HGEN.out (x6.ents.getD k noEnt) (by rw [List.getD_eq_getElem?_getD, List.getElem?_eq_getElem hkl]; exact List.getElem_mem hkl)
                      have HGK := hid (goodEnt_facts hgk).2.2.1
                      have HYK := hid (HYES.out k hkl (HNv.out rfl))
                      have HNX : Hid ((x6.ents.getD k noEnt).name ≠ ns → ∀ j, j < k + 1 → decide ((x6.ents.getD j noEnt).name = ns) = false) := fun h j hj => by
                        rcases Nat.lt_or_ge j k with h1 | h1
                        · exact HNv.out rfl j h1
                        · obtain rfl : j = k := by omega
                          exact decide_eq_false h
                      obtain ⟨z, hzz⟩ : ∃ z, x6.ents.getD k noEnt = z := ⟨_, rfl⟩
                      have hzz2 : x6.ents.getD k ⟨ByteArray.empty, 0, ByteArray.empty⟩ = z := hzz
                      rw [hzz2] at q0 q1 q2
                      rw [hzz] at HGK HYK HNX
                      clear hcell h3 hzz hzz2 hgk hkl
                      by_cases hnm2 : z.name.toList = ns.toList
                      · have b1 : (z.name.toList == ns.toList) = true := by rw [hnm2]; simp
                        have hzn : z.name = ns := ba_ext (by rw [← ba_toList, ← ba_toList]; exact hnm2)
                        have HFY : Hid (true = true → R = findF G (L.drop (i + 1)) z ∧ (z.kind = 1 ∨ z.kind = 2)) := fun _ => ⟨HYK.out hzn, HGK.out⟩
                        clear hnm2 hzn
                        go_upto_region 23 with fail
                        go_quiet (fail)
                        generalize hvd : vr.drewN _ = vd
                        have HYd : Hid (Blk vd y0 40 (entCs y')) := by rw [← hvd]; exact Blk.drewN HYv.out _
                        have HOd : Hid (Only (· = y0) v4 vd) := by rw [← hvd]; exact HOv.out.drewN _
                        have HXd : Hid (Blk vd g6 103 #[.int .i64 x6.kind, .string x6.data, .slice (some ⟨eb, eoff, none⟩) en ec, .string x6.tree, .slice pa pn pc, .int .i64 x6.height, .string x6.note]) := by rw [← hvd]; exact Blk.drewN HXv.out _
                        have d0 : vd.cell? ⟨eb, eoff + k * 3, none⟩ = some (.string z.name) := by rw [← hvd]; exact q0
                        have d1 : vd.cell? ⟨eb, eoff + k * 3 + 1, none⟩ = some (.int .i64 z.kind) := by rw [← hvd]; exact q1
                        have d2 : vd.cell? ⟨eb, eoff + k * 3 + 2, none⟩ = some (.string z.id) := by rw [← hvd]; exact q2
                        have xd2 : vd.cell? ⟨g6, 2, none⟩ = some (.slice (some ⟨eb, eoff, none⟩) en ec) := Blk.cell HXd.out 2
                        clear hvd q0 q1 q2 n0 x2 HXv HYv HOv HOw HNv HFv HYK HNX
                        obtain ⟨wz, hwz⟩ : ∃ wz, vd.setRow y0 (entCs z) = wz := ⟨_, rfl⟩
                        have HYz : Hid (Blk wz y0 40 (entCs z)) := by rw [← hwz]; exact setRow_heap _ _ _ _ _ _ HYd.out
                        have HOz : Hid (Only (· = y0) v4 wz) := by rw [← hwz]; exact HOd.out.setRow (.inl rfl) _
                        have HWZ := hid hwz
                        have HNf : Hid (true = false → ∀ j, j < k + 1 → decide ((x6.ents.getD j noEnt).name = ns) = false) := fun h => by cases h
                        clear hwz
                        go_wp2_with (first
                          | (refine wpList_store_row rfl _ (.tmp 13) (.tmp 92) rfl y0 (entCs z) rfl rfl 40 (entCs y') HYd.out (Tryz.infoEntSz _) rfl (entcs_one _) ?_; rw [HWZ.out]))
                        go_roundw
                        case rel => first | exact ⟨k + 1, true, z, by omega, by go_num, rfl, HYz, HOz, HNf, HFY⟩ | ((repeat apply Exists.intro); exact ⟨⟨k + 1, true, z, by omega, by go_num, rfl, HYz, HOz, HNf, HFY⟩, rfl⟩)
                        case measure => simp [intOf]; omega
                      · have b1 : (z.name.toList == ns.toList) = false := by rw [beq_eq_false_iff_ne]; exact hnm2
                        have HNy : Hid (false = false → ∀ j, j < k + 1 → decide ((x6.ents.getD j noEnt).name = ns) = false) := fun _ => HNX.out (fun e => hnm2 (by rw [e]))
                        clear hnm2
                        go_upto_region 23 with fail
                        go_quiet (fail)
                        generalize hvd : vr.drewN _ = vd
                        have HYd : Hid (Blk vd y0 40 (entCs y')) := by rw [← hvd]; exact Blk.drewN HYv.out _
                        have HOd : Hid (Only (· = y0) v4 vd) := by rw [← hvd]; exact HOv.out.drewN _
                        have HFf : Hid (false = true → R = findF G (L.drop (i + 1)) y' ∧ (y'.kind = 1 ∨ y'.kind = 2)) := fun h => by cases h
                        clear hvd q0 q1 q2 n0 x2 HXv HYv HOv HOw HNv HFv HYK HNX
                        go_wp2_with fail
                        go_roundw
                        case rel => first | exact ⟨k + 1, false, y', by omega, by go_num, rfl, HYd, HOd, HNy, HFf⟩ | ((repeat apply Exists.intro); exact ⟨⟨k + 1, false, y', by omega, by go_num, rfl, HYd, HOd, HNy, HFf⟩, rfl⟩)
                        case measure => simp [intOf]; omega
                  · obtain rfl : k = en := by omega
                    have ck : ¬ (k : Int) < k := by omega
                    have HN2 : Hid (f = false → R = (noEnt, 12)) := fun h => HNO.out (fun j hj => HNv.out h j (by rw [← HEL.out]; exact hj))
                    go_wp2_with fail
                    go_meet
                    case rel => exact ⟨f, y', rfl, HYv, HOw, HFv, HN2⟩
              case rest =>
                obtain ⟨f, y', rfl, HYv, HOv, HFv, HNv⟩ := hcut
                cases f with
                | true =>
                  obtain ⟨hf1, hf2⟩ := HFv.out rfl
                  have HF5 := hid hf1; have HK5 := hid hf2
                  clear hf1 hf2 HFv HNv
                  go_wp2_with fail
                  go_roundw
                  case rel => first | exact ⟨i + 1, y', by omega, by go_num, HYv, HOv, HF5, HK5⟩ | ((repeat apply Exists.intro); exact ⟨⟨i + 1, y', by omega, by go_num, HYv, HOv, HF5, HK5⟩, rfl⟩)
                  case measure => simp [intOf]; omega
                | false =>
                  have HFN := hid (HNv.out rfl)
                  obtain ⟨hst5, hz5, hb5⟩ := HFR.out _ HOv.out
                  have HZ5 := hid hz5; have HB5 := hid hb5
                  clear hst5 hz5 hb5 HFv HNv
                  rename World => v5
                  obtain ⟨wz, hwz⟩ : ∃ wz, v5.setRow r0 (entCs noEnt) = wz := ⟨_, rfl⟩
                  have HBZ : Hid (Blk wz r0 40 (entCs noEnt)) := by rw [← hwz]; exact setRow_heap _ _ _ _ _ _ HZ5.out
                  have HLZ : Hid (Below r0 w wz) := by rw [← hwz]; exact below_setRow HB5.out (Nat.le_refl _) _
                  have HWZ := hid hwz
                  clear hwz
                  go_wp2_with (first
                    | (refine wpList_store_row rfl _ (.tmp 6) (.tmp 95) rfl r0 (entCs noEnt) rfl rfl 40 (entCs noEnt) HZ5.out (Tryz.infoEntSz _) rfl (entcs_one _) ?_; rw [HWZ.out]))
                  go_wp2_with fail
                  refine bodyPost_ret (v := .tuple #[.agg (entCs noEnt), .int .i64 12]) ?hr7 rfl ⟨?_, ?_⟩
                  case hr7 => exact rfind_results _ r0 12 noEnt wz rfl rfl HBZ.out
                  · rw [HFN.out]
                  · rw [HR0.out]; exact HLZ.out
            · have q1 : (er != 0) = true := by simpa using he
              have q2 : (er == 0) = false := by simpa using he
              have HFN := hid (HF1.out.trans (findF_look hk hlk he))
              clear hlk
              obtain ⟨wz, hwz⟩ : ∃ wz, v4.setRow r0 (entCs noEnt) = wz := ⟨_, rfl⟩
              have HBZ : Hid (Blk wz r0 40 (entCs noEnt)) := by rw [← hwz]; exact setRow_heap _ _ _ _ _ _ HZ4.out
              have HLZ : Hid (Below r0 w wz) := by rw [← hwz]; exact below_setRow HB4.out (Nat.le_refl _) _
              have HWZ := hid hwz
              clear hwz
              go_wp2_with (first
                | (refine wpList_store_row rfl _ (.tmp 6) (.tmp 64) rfl r0 (entCs noEnt) rfl rfl 40 (entCs noEnt) HZ4.out (Tryz.infoEntSz _) rfl (entcs_one _) ?_; rw [HWZ.out]))
              go_wp2_with fail
              refine bodyPost_ret (v := .tuple #[.agg (entCs noEnt), .int .i64 er]) ?hr6 rfl ⟨?_, ?_⟩
              case hr6 => exact rfind_results _ r0 er noEnt wz rfl rfl HBZ.out
              · rw [HFN.out]
              · rw [HR0.out]; exact HLZ.out
        · obtain rfl : i = nn := by omega
          have ci : ¬ (i : Int) < i := by omega
          have HFN : Hid (R = (y, 0)) := by
            show _ = _
            rw [HF.out, List.drop_of_length_le (by rw [HNN.out]; exact Nat.le_refl _)]; rfl
          have j0 : wr.cell? ⟨y0, 0, none⟩ = some (.string y.name) := Blk.cell HY.out 0
          have j1 : wr.cell? ⟨y0, 1, none⟩ = some (.int .i64 y.kind) := Blk.cell HY.out 1
          have j2 : wr.cell? ⟨y0, 2, none⟩ = some (.string y.id) := Blk.cell HY.out 2
          obtain ⟨wz, hwz⟩ : ∃ wz, wr.setRow r0 (entCs y) = wz := ⟨_, rfl⟩
          have HBZ : Hid (Blk wz r0 40 (entCs y)) := by rw [← hwz]; exact setRow_heap _ _ _ _ _ _ HZr.out
          have HLZ : Hid (Below r0 w wz) := by rw [← hwz]; exact below_setRow HBr.out (Nat.le_refl _) _
          have HWZ := hid hwz
          clear hwz
          go_wp2_with (first
            | (refine wpList_store_row rfl _ (.tmp 6) (.tmp 96) rfl r0 (entCs y) rfl rfl 40 (entCs noEnt) HZr.out (Tryz.infoEntSz _) rfl (entcs_one _) ?_; rw [HWZ.out]))
          go_wp2_with fail
          refine bodyPost_ret (v := .tuple #[.agg (entCs y), .int .i64 0]) ?hr8 rfl ⟨?_, ?_⟩
          case hr8 => exact rfind_results _ r0 0 y wz rfl rfl HBZ.out
          · rw [HFN.out]
          · rw [HR0.out]; exact HLZ.out
    · have q1 : (er != 0) = true := by simpa using he
      have q2 : (er == 0) = false := by simpa using he
      have HFN : Hid (R = (noEnt, er)) := by show _ = _; rw [HR2.out, if_pos he]
      obtain ⟨wz, hwz⟩ : ∃ wz, w4.setRow r0 (entCs noEnt) = wz := ⟨_, rfl⟩
      have HBZ : Hid (Blk wz r0 40 (entCs noEnt)) := by rw [← hwz]; exact setRow_heap _ _ _ _ _ _ HZ4.out
      have HLZ : Hid (Below r0 w wz) := by rw [← hwz]; exact below_setRow HB4.out (Nat.le_refl _) _
      have HWZ := hid hwz
      clear hwz
      go_wp2_with (first
        | (refine wpList_store_row rfl _ (.tmp 6) (.tmp 40) rfl r0 (entCs noEnt) rfl rfl 40 (entCs noEnt) HZ4.out (Tryz.infoEntSz _) rfl (entcs_one _) ?_; rw [HWZ.out]))
      go_wp2_with fail
      refine bodyPost_ret (v := .tuple #[.agg (entCs noEnt), .int .i64 er]) ?hr9 rfl ⟨?_, ?_⟩
      case hr9 => exact rfind_results _ r0 er noEnt wz rfl rfl HBZ.out
      · rw [HFN.out]
      · rw [HR0.out]; exact HLZ.out
end Go.Proofs.YtlenfiiocmchdaaGreatDoor
