/- Texts in a row: RoC, PathRefA, RoG, RoD, RoL, PathRefB, PathRefC. -/
import Derived.Test.YtlenfiiocmchdaaGreatDoorMdJ
import Derived.BigQuiet
import Derived.Deep.DeepCutAuto
import Derived.Deep.CutBlock
/- The reference's objects: read from bytes: commit. -/
namespace Go.Proofs.YtlenfiiocmchdaaGreatDoor
open Go.RowKit Book Pap Ojt
set_option linter.unusedVariables false
set_option linter.unusedSimpArgs false

def comX (tr : ByteArray) (l : List ByteArray) (h : Int) (nt : ByteArray) : Ob := { zero with kind := 3, tree := tr, pars := l, height := h, note := nt }
theorem comX_cs (tr : ByteArray) (l : List ByteArray) (h : Int) (nt : ByteArray) (pv : Value) : obCs (comX tr l h nt) (.slice none 0 0) pv = #[.int .i64 3, .string ⟨#[]⟩, .slice none 0 0, .string tr, pv, .int .i64 h, .string nt] := rfl
def comRd (r : Rd) : Rd := (textR (numR (parsR (takeR r 32).2).2).2 1000).2
def comOb (r : Rd) : Ob := comX (bz (takeR r 32).1) (parsR (takeR r 32).2).1 (numR (parsR (takeR r 32).2).2).1 (bz (textR (numR (parsR (takeR r 32).2).2).2 1000).1)
theorem comOb_new (s : List UInt8) : comOb (newR s) = commitO s := rfl
theorem comRd_new (s : List UInt8) : comRd (newR s) = commitR s := rfl
theorem RtAt.pushP {w w8 w9 : World} {b g i vc : Nat} {va : Option Addr} {S : List UInt8} {tr nt : ByteArray} {ht : Int} {l : List ByteArray} {e : ByteArray} {v' : Value} {ri : Rd} {o : Obj} (h : RtAt w b S g w8 (comX tr l ht nt) (.slice none 0 0) (.slice va i vc) ri) (hb : b < g) (hg : w.heap.size ≤ g)
    (hown : w9.ownsRow g 9 1 v' (l ++ [e]).length (svals (l ++ [e]))) (hgr : (w8.alloc o).grownBy w9 (Value.slice va i vc).ownBlock) :
    Blk w9 (g + 1) 103 (obCs (comX tr l ht nt) (.slice none 0 0) (.slice va i vc)) ∧ RtAt w b S g (w9.setCell ⟨g + 1, 4, none⟩ v') (comX tr (l ++ [e]) ht nt) (.slice none 0 0) v' ri := by
  have hgrow : Only (fun k => (Value.slice va i vc).ownBlock = some k) (w8.alloc o) w9 := (Only.refl _ _).grown hgr (fun k hk => .inl hk)
  have hX : Blk w9 (g + 1) 103 (obCs (comX tr l ht nt) (.slice none 0 0) (.slice va i vc)) := (Blk.alloc h.blk _).grown hgr (fun e => own_blk_ne h.pars h.blk (by decide) e.symm)
  have hZ : Blk w9 g 103 (obCs zero (.slice none 0 0) (.slice none 0 0)) := (Blk.alloc h.z _).grown hgr (fun e => own_blk_ne h.pars h.z (by decide) e.symm)
  have hR : RrAt w9 b S ri := ((h.rd.only ((Only.refl NoF _).alloc o) (fun e => e)).only hgrow (fun e => by have := (h.pars.lt b e).1; omega))
  have hO : Only (· = b) w w9 := (h.only.alloc o).grown hgr (fun k hk => .inr (by have := (h.pars.lt k hk).1; omega))
  have ho : Only (· = g + 1) w9 (w9.setCell ⟨g + 1, 4, none⟩ v') := (Only.refl (· = g + 1) w9).setCell (p := ⟨g + 1, 4, none⟩) (.inl rfl) _
  refine ⟨hX, hZ.only ho (by omega), ?_, World.ownsRow_nil _ _ _ _, own_only hown ho (fun k hk e => own_blk_ne hown hX (by decide) (e ▸ hk)), hR.only ho (by omega), hO.setCell (p := ⟨g + 1, 4, none⟩) (.inr (by show w.heap.size ≤ g + 1; omega)) _⟩
  have := Blk.set hX 4 v'
  exact this
/-- a field of the object written -/
theorem RtAt.setF {w wr : World} {b g : Nat} {S : List UInt8} {x y : Ob} {ev pv : Value} {ri : Rd} (h : RtAt w b S g wr x ev pv ri) (hb : b < g) (hg : w.heap.size ≤ g) (o : Nat) (v : Value) (he : y.ents = x.ents) (hp : y.pars = x.pars)
    (hs : (obCs x ev pv).setIfInBounds o v = obCs y ev pv) : RtAt w b S g (wr.setCell ⟨g + 1, o, none⟩ v) y ev pv ri := by
  have ho : Only (· = g + 1) wr (wr.setCell ⟨g + 1, o, none⟩ v) := (Only.refl (· = g + 1) wr).setCell (p := ⟨g + 1, o, none⟩) (.inl rfl) _
  refine ⟨h.z.only ho (by omega), ?_, ?_, ?_, h.rd.only ho (by omega), h.only.setCell (p := ⟨g + 1, o, none⟩) (.inr (by show w.heap.size ≤ g + 1; omega)) _⟩
  · have := Blk.set h.blk o v
    rw [hs] at this; exact this
  · rw [he]; exact own_only h.ents ho (fun k hk e => own_blk_ne h.ents h.blk (by decide) (e ▸ hk))
  · rw [hp]; exact own_only h.pars ho (fun k hk e => own_blk_ne h.pars h.blk (by decide) (e ▸ hk))
theorem RtAt.drew1 {w wr : World} {b g : Nat} {S : List UInt8} {x : Ob} {ev pv : Value} {ri : Rd} (h : RtAt w b S g wr x ev pv ri) : RtAt w b S g wr.drew x ev pv ri :=
  ⟨h.z.only ((Only.refl NoF _).drew) (fun e => e), h.blk.only ((Only.refl NoF _).drew) (fun e => e), own_only h.ents ((Only.refl NoF _).drew) (fun _ _ e => e), own_only h.pars ((Only.refl NoF _).drew) (fun _ _ e => e), h.rd.only ((Only.refl NoF _).drew) (fun e => e), h.only.drew⟩
theorem own_texts0 {w : World} {B : Nat} {v : Value} {n : Nat} {l : List ByteArray} (h : w.ownsRow B 9 1 v n (svals l)) (hm : n ≤ 9223372036854775807) : ∃ a c, v = .slice a n c ∧ StrsAt w a n l := by
  obtain rfl : l.length = n := by have := h.1; unfold svals at this; rw [List.length_map] at this; omega
  exact own_strs h hm
/-- what commit hands back -/
def RoComOut (w : World) (b : Nat) (S : List UInt8) (r : Rd) (e : Ending) (w' : World) : Prop :=
  ∃ tr l h nt a n c, e = .returned (.agg (obCs (comX tr l h nt) (.slice none 0 0) (.slice a n c))) ∧ StrsAt w' a n l ∧ ((comRd r).bad = false → comX tr l h nt = comOb r) ∧ RrAt w' b S (comRd r) ∧ Only (· = b) w w' ∧ (0 ≤ h ∧ h ≤ 4294967295) ∧ ∀ k, (Value.slice a n c).ownBlock = some k → w.heap.size ≤ k
theorem rocom_results (tmps : Array Value) (g : Nat) (x : Ob) (ev pv : Value) (w : World) (h2 : tmps.getD 2 undef = .pointer (some ⟨g, 0, none⟩)) (H : Blk w g 103 (obCs x ev pv)) : (results Tryz.f156 tmps).run Tryz.prog w = .ok (.agg (obCs x ev pv)) w := by
  have c0 : w.cell? ⟨g, 0, none⟩ = some (.int .i64 x.kind) := Blk.cell H 0
  have c1 : w.cell? ⟨g, 1, none⟩ = some (.string x.data) := Blk.cell H 1
  have c2 : w.cell? ⟨g, 2, none⟩ = some ev := Blk.cell H 2
  have c3 : w.cell? ⟨g, 3, none⟩ = some (.string x.tree) := Blk.cell H 3
  have c4 : w.cell? ⟨g, 4, none⟩ = some pv := Blk.cell H 4
  have c5 : w.cell? ⟨g, 5, none⟩ = some (.int .i64 x.height) := Blk.cell H 5
  have c6 : w.cell? ⟨g, 6, none⟩ = some (.string x.note) := Blk.cell H 6
  have h2' : tmps[2]?.getD undef = .pointer (some ⟨g, 0, none⟩) := by simpa using h2
  simp [results, Tryz.results156, go_sem, h2', c0, c1, c2, c3, c4, c5, c6, obCs]
set_option maxRecDepth 100000 in
set_option maxHeartbeats 16000000 in
theorem rocom_any (b : Nat) (S : List UInt8) (r : Rd) (w : World) (h : RrAt w b S r) (hS : S.length ≤ 1000000000) (hr : r.rest.length ≤ 1000000000) : Calls Tryz.prog 156 #[.pointer (some ⟨b, 0, none⟩)] w (RoComOut w b S r) := by
  obtain ⟨i0, hi0, hz0, hz1, hz2⟩ := info_parts Tryz.infoS
  have hbw : b < w.heap.size := by obtain ⟨k, hb, -⟩ := h; exact Blk.lt hb
  have HT1 : Hid (RtAt w b S w.heap.size ((w.alloc (.cells (obCs zero (.slice none 0 0) (.slice none 0 0)) 103)).alloc (.cells (obCs (comX ⟨#[]⟩ [] 0 ⟨#[]⟩) (.slice none 0 0) (.slice none 0 0)) 103)) (comX ⟨#[]⟩ [] 0 ⟨#[]⟩) (.slice none 0 0) (.slice none 0 0) r) := by
    refine ⟨Blk.alloc (Blk.new w _ _) _, ?_, World.ownsRow_nil _ _ _ _, World.ownsRow_nil _ _ _ _, (h.only ((Only.refl NoF _).alloc _) (fun e => e)).only ((Only.refl NoF _).alloc _) (fun e => e), ((Only.refl _ _).alloc _).alloc _⟩
    have := Blk.new (w.alloc (.cells (obCs zero (.slice none 0 0) (.slice none 0 0)) 103)) 103 (obCs (comX ⟨#[]⟩ [] 0 ⟨#[]⟩) (.slice none 0 0) (.slice none 0 0))
    rw [World.size_alloc] at this; exact this
  have hrt0 : (takeR r 32).2.rest.length ≤ 1000000000 := Nat.le_trans (takeR_rest r 32) hr
  have hn32 : (numR (takeR r 32).2).1 < 4294967296 := numV_lt _
  have hrl : (numR (takeR r 32).2).2.rest.length ≤ 1000000000 := Nat.le_trans (takeR_rest _ 4) hrt0
  have HTT : Hid (parsR (takeR r 32).2 = idsR (numR (takeR r 32).2).1 (spoil (numR (takeR r 32).2).2 (numR (takeR r 32).2).1 8)) := rfl
  have HC1 : Hid (comRd r = (textR (numR (parsR (takeR r 32).2).2).2 1000).2) := rfl
  have HC2 : Hid (comOb r = comX (bz (takeR r 32).1) (parsR (takeR r 32).2).1 (numR (parsR (takeR r 32).2).2).1 (bz (textR (numR (parsR (takeR r 32).2).2).2 1000).1)) := rfl
  rw [zero_cs, comX_cs] at HT1
  clear h
  go_enter Tryz.func156, Tryz.ntmps156
  go_upto_region 2 with fail
  generalize ((w.alloc (.cells #[.int .i64 0, .string ⟨#[]⟩, .slice none 0 0, .string ⟨#[]⟩, .slice none 0 0, .int .i64 0, .string ⟨#[]⟩] 103)).alloc (.cells #[.int .i64 3, .string ⟨#[]⟩, .slice none 0 0, .string ⟨#[]⟩, .slice none 0 0, .int .i64 0, .string ⟨#[]⟩] 103)) = w2 at HT1 ⊢
  obtain ⟨g, hg⟩ : ∃ g, w.heap.size = g := ⟨_, rfl⟩
  have HG := hid hg
  rw [hg] at HT1 hbw ⊢
  clear hg
  have HG2 := hid (Nat.le_of_eq HG.out)
  have HTK := hid (rrtake_any 32 HT1.out.rd (by omega) (by omega))
  obtain ⟨tr, htr⟩ : ∃ x, bz (takeR r 32).1 = x := ⟨_, rfl⟩
  have htr2 : bx (takeR r 32).1 = tr := htr
  obtain ⟨rt, hrt⟩ : ∃ x, (takeR r 32).2 = x := ⟨_, rfl⟩
  rw [htr2, hrt] at HTK
  rw [hrt] at hrt0 hn32 hrl HTT HC1
  rw [htr, hrt] at HC2
  clear htr htr2 hrt
  go_wp2_with fail
  refine HTK.out.mono ?_; rintro e w3 ⟨rfl, hs, ho⟩
  have ht3 := HT1.out.step hs ho hbw
  have k3 := Blk.cell ht3.blk 3
  have f3 := Blk.frozen ht3.blk 3
  rw [comX_cs] at k3
  simp at k3
  have HT3 : Hid (RtAt w b S g (w3.setCell ⟨g + 1, 3, none⟩ (.string tr)) (comX tr [] 0 ⟨#[]⟩) (.slice none 0 0) (.slice none 0 0) rt) := ht3.setF hbw HG2.out 3 (.string tr) rfl rfl rfl
  clear hs ho HTK HT1 ht3
  go_upto_region 3 with fail
  clear k3 f3
  generalize w3.setCell ⟨g + 1, 3, none⟩ (.string tr) = w4 at HT3 ⊢
  have HNUM := hid (rrnum_any HT3.out.rd (by omega))
  obtain ⟨n, hn⟩ : ∃ n, (numR rt).1 = n := ⟨_, rfl⟩
  obtain ⟨r2, hr2⟩ : ∃ x, (numR rt).2 = x := ⟨_, rfl⟩
  rw [hn, hr2] at HNUM HTT
  rw [hn] at hn32
  rw [hr2] at hrl
  clear hn hr2
  have ewn : IntKind.i64.wrap (n : Int) = n := by rw [IntKind.wrap_i64]; omega
  go_wp2_with fail
  refine HNUM.out.mono ?_; rintro e w5 ⟨rfl, hs, ho⟩
  have HT5 := hid (HT3.out.step hs ho hbw)
  clear hs ho HNUM HT3
  go_upto_block 0 with fail
  clear ewn
  go_cut [5] (fun s5 wx => ∃ (l : List ByteArray) (ri : Rd) (a : Option Addr) (m c : Nat) (k : Int), s5 = .int .i64 k ∧ Hid (l.length = m ∧ m ≤ 9) ∧ Hid (RtAt w b S g wx (comX tr l 0 ⟨#[]⟩) (.slice none 0 0) (.slice a m c) ri) ∧ Hid (n ≤ 8 → idsR n r2 = (l, ri)) ∧ Hid (ri.rest.length ≤ 1000000000))
  case first =>
    go_wp2_with fail
    go_loopw [5] (fun iv wr => ∃ (i : Nat) (l : List ByteArray) (ri : Rd) (a : Option Addr) (c : Nat), i ≤ n ∧ i ≤ 9 ∧ iv = .int .i64 i ∧ Hid (l.length = i) ∧ Hid (RtAt w b S g wr (comX tr l 0 ⟨#[]⟩) (.slice none 0 0) (.slice a i c) ri) ∧ Hid (ri.rest.length ≤ 1000000000) ∧ Hid (n ≤ 8 → idsR n r2 = (l ++ (idsR (n - i) ri).1, (idsR (n - i) ri).2))) (fun iv _ => 9 - (intOf iv).toNat)
    case atStart => exact ⟨0, [], r2, none, 0, Nat.zero_le _, by omega, rfl, rfl, HT5, hrl, fun _ => rfl⟩
    case round =>
      obtain ⟨i, l, ri, va, vc, hi, hi7, rfl, HL, HT, HRl, HE⟩ := hrel
      have kb : wr.cell? ⟨b, 2, none⟩ = some (.bool ri.bad) := HT.out.rd.bad_cell
      by_cases hlt : i < n
      · have ci : (i : Int) < n := by omega
        by_cases h257 : i < 9
        · have c7 : (i : Int) < 9 := by omega
          obtain ⟨bad, hbad⟩ : ∃ q, ri.bad = q := ⟨_, rfl⟩
          rw [hbad] at kb
          cases bad
          · have HST : Hid (idsR (n - i) ri = (bz (takeR ri 32).1 :: (idsR (n - (i + 1)) (takeR ri 32).2).1, (idsR (n - (i + 1)) (takeR ri 32).2).2)) := by
              show _ = _
              rw [show n - i = (n - (i + 1)) + 1 by omega]
              exact idsR_step hbad
            clear hbad
            have hrl1 := HRl.out
            have HTd := hid HT.out.drew1
            have HTK := hid (rrtake_any 32 HTd.out.rd (by omega) (by omega))
            obtain ⟨id, hid1⟩ : ∃ x, bz (takeR ri 32).1 = x := ⟨_, rfl⟩
            have hid2 : bx (takeR ri 32).1 = id := hid1
            have hre : (takeR ri 32).2.rest.length ≤ 1000000000 := Nat.le_trans (takeR_rest _ _) hrl1
            obtain ⟨re, hre2⟩ : ∃ x, (takeR ri 32).2 = x := ⟨_, rfl⟩
            rw [hid1, hre2] at HST
            rw [hid2, hre2] at HTK
            rw [hre2] at hre
            clear hid1 hid2 hre2
            have x4 : wr.cell? ⟨g + 1, 4, none⟩ = some (.slice va i vc) := Blk.cell HT.out.blk 4
            have HL9 : Hid ((l ++ [id]).length = i + 1) := by show _ = _; rw [List.length_append, HL.out]; rfl
            go_upto_block 1 with fail
            go_cut [5] (fun s5 wx => s5 = .int .i64 i ∧ ∃ (a : Option Addr) (c : Nat), Hid (RtAt w b S g wx (comX tr (l ++ [id]) 0 ⟨#[]⟩) (.slice none 0 0) (.slice a (i + 1) c) re))
            case first =>
              go_upto_region 7 with fail
              go_region_law (first | (refine step_append_lies _ (by rfl) (.tmp 30) (.tmp 33) 56 (by rfl) g 9 i0 (.string ⟨#[]⟩) 1 16 Tryz.underlying56 hi0 hz0 hz1 hz2 rfl (by decide) (.slice va i vc) i (svals l) (by simp [Act.eval, Act.put]) (HP7.out.alloc _) ⟨w7.heap.size, 0, none⟩ 1 1 [.string id] (by simp [Act.eval, Act.put]) rfl (cellNew1 _ _ _) (one_bytes rfl) (by decide) (by unfold maxLen; omega) (by omega) (by simp; omega) (w7.heap.size + 1) (by simp) ?_; intro g1 cap1 wf hown hgrow hat hglt; have HOWN : Hid (wf.ownsRow g 9 1 (.slice (some ⟨g1, 0, none⟩) (i + 1) cap1) (l ++ [id]).length (svals (l ++ [id]))) := (by have h := hown; rw [HL9.out, svals_append]; exact h); have HPU := hid (HT7.out.pushP hbw HG2.out HOWN.out hgrow); have kf4 : wf.cell? ⟨g + 1, 4, none⟩ = some (.slice va i vc) := Blk.cell HPU.out.1 4; have ff4 := Blk.frozen HPU.out.1 4; clear hown hgrow hat hglt) | (go_simp; go_at_call 215; refine HTK.out.mono ?_; rintro e w7 ⟨rfl, hs, ho⟩; have HT7 := hid (HTd.out.step hs ho hbw); have x47 : w7.cell? ⟨g + 1, 4, none⟩ = some (.slice va i vc) := Blk.cell HT7.out.blk 4; have x47a : (w7.alloc (.cells #[.string id] 9)).cell? ⟨g + 1, 4, none⟩ = some (.slice va i vc) := Blk.cell (Blk.alloc HT7.out.blk _) 4; have hg7 : g ≤ w7.heap.size := Nat.le_of_lt (Blk.lt HT7.out.z); have HP7 : Hid (w7.ownsRow g 9 1 (.slice va i vc) i (svals l)) := (by have h := HT7.out.pars; rw [show (comX tr l 0 ⟨#[]⟩).pars.length = i from HL.out] at h; exact h); clear hs ho))
              all_goals
                have HT9 := hid HPU.out.2
                go_wp2_with fail
                go_meet
                case rel => exact ⟨rfl, _, _, HT9⟩
            case rest =>
              obtain ⟨rfl, va', vc', HT9⟩ := hcut
              have HE9 : Hid (n ≤ 8 → idsR n r2 = ((l ++ [id]) ++ (idsR (n - (i + 1)) re).1, (idsR (n - (i + 1)) re).2)) := fun h => by
                rw [HE.out h, HST.out, List.append_assoc]; rfl
              clear x4 kb
              go_wp2_with fail
              go_roundw
              case rel => first | exact ⟨i + 1, _, re, va', vc', by omega, by omega, by go_num, HL9, HT9, hre, HE9⟩ | ((repeat apply Exists.intro); exact ⟨⟨i + 1, _, re, va', vc', by omega, by omega, by go_num, HL9, HT9, hre, HE9⟩, rfl⟩)
              case measure => simp [intOf]; omega
          · have HF : Hid (n ≤ 8 → idsR n r2 = (l, ri)) := fun h => by rw [HE.out h, idsR_bad hbad, List.append_nil]
            clear hbad
            go_wp2_with fail
            go_meet
            case rel => exact ⟨l, ri, va, i, vc, _, rfl, ⟨HL.out, hi7⟩, HT, HF, HRl⟩
        · have c7 : ¬ (i : Int) < 9 := by omega
          go_wp2_with fail
          go_meet
          case rel => exact ⟨l, ri, va, i, vc, _, rfl, ⟨HL.out, hi7⟩, HT, fun h => by omega, HRl⟩
      · obtain rfl : i = n := by omega
        have ci : ¬ (i : Int) < i := by omega
        have HF : Hid (i ≤ 8 → idsR i r2 = (l, ri)) := fun h => by
          rw [HE.out h, Nat.sub_self]
          show (l ++ [], ri) = _
          rw [List.append_nil]
        go_wp2_with fail
        go_meet
        case rel => exact ⟨l, ri, va, i, vc, _, rfl, ⟨HL.out, hi7⟩, HT, HF, HRl⟩
  case rest =>
    obtain ⟨l, ri, va, m, vc, k, rfl, HL, HT, HF, HRl⟩ := hcut
    go_upto_if 37 with fail
    go_cut [5] (fun s5 wx => s5 = .int .i64 k ∧ ∃ rp : Rd, Hid (rp = (parsR rt).2) ∧ Hid (rp.bad = false → l = (parsR rt).1) ∧ Hid (rp.rest.length ≤ 1000000000) ∧ Hid (RtAt w b S g wx (comX tr l 0 ⟨#[]⟩) (.slice none 0 0) (.slice va m vc) rp))
    case first =>
      by_cases hgt : 8 < n
      · have c6 : (8 : Int) < n := by omega
        have HTR : Hid (parsR rt = ([], ⟨[], true⟩)) := by
          show _ = _
          rw [HTT.out]
          unfold spoil
          rw [if_pos hgt]
          exact idsR_bad rfl
        have kb : wc.cell? ⟨b, 2, none⟩ = some (.bool ri.bad) := HT.out.rd.bad_cell
        have fb : wc.frozen? ⟨b, 2, none⟩ = false := by obtain ⟨k, hb, -⟩ := HT.out.rd; exact hb.frozen 2
        obtain ⟨hsp1, hsp2⟩ := rrspoil HT.out.rd 0
        have HT2 : Hid (RtAt w b S g (wc.setCell ⟨b, 2, none⟩ (.bool true)) (comX tr l 0 ⟨#[]⟩) (.slice none 0 0) (.slice va m vc) ⟨[], true⟩) := HT.out.step (w' := wc.setCell ⟨b, 2, none⟩ (.bool true)) hsp1 hsp2 hbw
        clear hsp1 hsp2 HTT HT hgt
        go_wp2_with fail
        go_meet
        case rel => exact ⟨rfl, ⟨[], true⟩, (by show _ = _; rw [HTR.out]), fun h => (by cases h), (by show (0 : Nat) ≤ _; omega), HT2⟩
      · have c6 : ¬ (8 : Int) < n := by omega
        have HTR : Hid (parsR rt = (l, ri)) := by
          show _ = _
          rw [HTT.out]
          unfold spoil
          rw [if_neg hgt]
          exact HF.out (by omega)
        clear HTT HF hgt
        go_wp2_with fail
        go_meet
        case rel => exact ⟨rfl, ri, (by show _ = _; rw [HTR.out]), fun _ => (by rw [HTR.out]), HRl, HT⟩
    case rest =>
      obtain ⟨rfl, rp, HRP, HLP, HRR, HTp⟩ := hcut
      rw [← HRP.out] at HC1 HC2
      clear HT HF HRl HTT
      have hrr := HRR.out
      have HNU := hid (rrnum_any HTp.out.rd (by omega))
      have hh32 : (numR rp).1 < 4294967296 := numV_lt _
      have hrn : (numR rp).2.rest.length ≤ 1000000000 := Nat.le_trans (takeR_rest _ 4) hrr
      obtain ⟨hh, hhe⟩ : ∃ x, (numR rp).1 = x := ⟨_, rfl⟩
      obtain ⟨rh, hrh⟩ : ∃ x, (numR rp).2 = x := ⟨_, rfl⟩
      have HRH := hid hrh
      rw [hhe, hrh] at HNU
      rw [hrh] at HC1 hrn
      rw [hhe, hrh] at HC2
      rw [hhe] at hh32
      clear hhe hrh
      have ewh : IntKind.i64.wrap (hh : Int) = hh := by rw [IntKind.wrap_i64]; omega
      go_wp2_with fail
      refine HNU.out.mono ?_; rintro e wd ⟨rfl, hs, ho⟩
      have htd := HTp.out.step hs ho hbw
      have k5 := Blk.cell htd.blk 5
      have f5 := Blk.frozen htd.blk 5
      rw [comX_cs] at k5
      simp at k5
      have HTd : Hid (RtAt w b S g (wd.setCell ⟨g + 1, 5, none⟩ (.int .i64 (hh : Int))) (comX tr l hh ⟨#[]⟩) (.slice none 0 0) (.slice va m vc) rh) := htd.setF hbw HG2.out 5 (.int .i64 (hh : Int)) rfl rfl rfl
      clear hs ho HNU HTp htd
      go_upto_region 11 with fail
      clear k5 f5 ewh
      generalize wd.setCell ⟨g + 1, 5, none⟩ (.int .i64 (hh : Int)) = we at HTd ⊢
      have HTX := hid (rrtext_any 1000 (by omega) HTd.out.rd (by omega))
      obtain ⟨nt, hnt⟩ : ∃ x, bz (textR rh 1000).1 = x := ⟨_, rfl⟩
      have hnt2 : bx (textR rh 1000).1 = nt := hnt
      obtain ⟨rf, hrf⟩ : ∃ x, (textR rh 1000).2 = x := ⟨_, rfl⟩
      have HRF := hid hrf
      rw [hnt2, hrf] at HTX
      rw [hrf] at HC1
      rw [hnt] at HC2
      clear hnt hnt2 hrf
      go_wp2_with fail
      refine HTX.out.mono ?_; rintro e wf ⟨rfl, hs, ho⟩
      have htf := HTd.out.step hs ho hbw
      have k6 := Blk.cell htf.blk 6
      have f6 := Blk.frozen htf.blk 6
      rw [comX_cs] at k6
      simp at k6
      have HTf : Hid (RtAt w b S g (wf.setCell ⟨g + 1, 6, none⟩ (.string nt)) (comX tr l hh nt) (.slice none 0 0) (.slice va m vc) rf) := htf.setF hbw HG2.out 6 (.string nt) rfl rfl rfl
      clear hs ho HTX HTd htf
      go_upto_region 12 with fail
      clear k6 f6
      generalize wf.setCell ⟨g + 1, 6, none⟩ (.string nt) = wg at HTf ⊢
      have j0 : wg.cell? ⟨g + 1, 0, none⟩ = some (.int .i64 3) := Blk.cell HTf.out.blk 0
      have j1 : wg.cell? ⟨g + 1, 1, none⟩ = some (.string ⟨#[]⟩) := Blk.cell HTf.out.blk 1
      have j2 : wg.cell? ⟨g + 1, 2, none⟩ = some (.slice none 0 0) := Blk.cell HTf.out.blk 2
      have j3 : wg.cell? ⟨g + 1, 3, none⟩ = some (.string tr) := Blk.cell HTf.out.blk 3
      have j4 : wg.cell? ⟨g + 1, 4, none⟩ = some (.slice va m vc) := Blk.cell HTf.out.blk 4
      have j5 : wg.cell? ⟨g + 1, 5, none⟩ = some (.int .i64 (hh : Int)) := Blk.cell HTf.out.blk 5
      have j6 : wg.cell? ⟨g + 1, 6, none⟩ = some (.string nt) := Blk.cell HTf.out.blk 6
      have HDN := hid (HTf.out.done hbw HG2.out)
      have HZ := hid HTf.out.z
      obtain ⟨wz, hwz⟩ : ∃ wz, wg.setRow g (obCs (comX tr l hh nt) (.slice none 0 0) (.slice va m vc)) = wz := ⟨_, rfl⟩
      have HWZ := hid hwz
      rw [hwz] at HDN
      clear hwz
      go_wp2_with (first
        | (refine wpList_store_row rfl _ (.tmp 2) (.tmp 48) rfl g (obCs (comX tr l hh nt) (.slice none 0 0) (.slice va m vc)) rfl rfl 103 (obCs zero (.slice none 0 0) (.slice none 0 0)) HZ.out (Tryz.infoObj _ _ _) rfl (obcs_one _ _ _ _ _ _ _) ?_; rw [HWZ.out]))
      go_wp2_with fail
      obtain ⟨d1, d2, d3, d4, d5⟩ := HDN.out
      have hst : StrsAt wz va m l := by
        have h : wz.ownsRow g 9 1 (.slice va m vc) l.length (svals l) := d3
        obtain ⟨a', c', he', hst⟩ := own_texts0 h (by have := HL.out; omega)
        injection he' with e1 e2 e3
        rw [e1, e2]; exact hst
      refine bodyPost_ret (v := .agg (obCs (comX tr l hh nt) (.slice none 0 0) (.slice va m vc))) ?hr1 rfl ⟨tr, l, hh, nt, va, m, vc, rfl, hst, ?_, ?_, d5, ⟨by omega, by omega⟩, ?_⟩
      case hr1 => exact rocom_results _ g _ _ _ wz rfl d1
      · intro hb
        rw [HC1.out] at hb
        rw [HC2.out]
        have hb2 : rp.bad = false := commit_keep (r := rp) (by rw [HRH.out, HRF.out]; exact hb)
        rw [HLP.out hb2]
      · rw [HC1.out]; exact d4
      · intro k hk; rw [HG.out]; exact (d3.lt k hk).1
end Go.Proofs.YtlenfiiocmchdaaGreatDoor
/- The reference's Good and bytes; the law's same. -/
namespace Go.Proofs.YtlenfiiocmchdaaGreatDoor
open Go.RowKit Pap
set_option linter.unusedVariables false

theorem notin_succ {l : List UInt8} {k : Nat} (hk : k < l.length) {c : UInt8} (h : c ∉ l.take k) (hc : l[k] ≠ c) : c ∉ l.take (k + 1) := by
  rw [List.take_add_one, List.getElem?_eq_getElem hk]
  intro hm
  rcases List.mem_append.1 hm with hm | hm
  · exact h hm
  · simp at hm; exact hc hm.symm
theorem byte_eq (x : UInt8) (c : UInt8) : ((x.toNat : Int) == (c.toNat : Int)) = decide (x = c) := by
  rw [Bool.eq_iff_iff, beq_iff_eq, decide_eq_true_eq]
  constructor
  · intro h; exact UInt8.toNat_inj.1 (by omega)
  · rintro rfl; rfl

set_option maxHeartbeats 2000000 in
theorem rgood_any (s : ByteArray) (w : World) (hsz : s.size ≤ 9223372036854775807) : Calls Tryz.prog 100 #[.string s] w fun e w' => e = .returned (.bool (goodL s.data.toList)) ∧ w = w' := by
  by_cases h0 : s.size = 0
  · have HX := hid (goodL_no (s := s) (.inl h0))
    have n1 : (s.size : Int) < 1 := by omega
    go_enter Tryz.func100, Tryz.ntmps100
    go_wp2
    go_ret
    exact ⟨ret_bool (by rw [HX.out]), rfl⟩
  · have n1 : ¬ (s.size : Int) < 1 := by omega
    by_cases h255 : 255 < s.size
    · have HX := hid (goodL_no (s := s) (.inr (.inl h255)))
      have n2 : (255 : Int) < s.size := by omega
      go_enter Tryz.func100, Tryz.ntmps100
      go_wp2
      go_ret
      exact ⟨ret_bool (by rw [HX.out]), rfl⟩
    · have n2 : ¬ (255 : Int) < s.size := by omega
      by_cases h1 : s = ⟨#[46]⟩
      · have HX := hid (goodL_no (s := s) (.inr (.inr (.inl h1))))
        have n3 : s.toList = [46] := by rw [ba_toList, h1]
        have n4 : (s.toList == [46]) = true := by rw [n3]; rfl
        clear h1
        go_enter Tryz.func100, Tryz.ntmps100
        go_wp2
        go_ret
        exact ⟨ret_bool (by rw [HX.out]), rfl⟩
      · have m1 : (s.toList == [46]) = false := by
          rw [beq_eq_false_iff_ne, ba_toList]; exact fun e => h1 (ba_ext (y := ⟨#[46]⟩) e)
        have m1' : ¬ s.toList = [46] := by rw [ba_toList]; exact fun e => h1 (ba_ext (y := ⟨#[46]⟩) e)
        by_cases h2 : s = ⟨#[46, 46]⟩
        · have HX := hid (goodL_no (s := s) (.inr (.inr (.inr h2))))
          have n3 : s.toList = [46, 46] := by rw [ba_toList, h2]
          have n4 : (s.toList == [46, 46]) = true := by rw [n3]; rfl
          clear h1 h2
          go_enter Tryz.func100, Tryz.ntmps100
          go_wp2
          go_ret
          exact ⟨ret_bool (by rw [HX.out]), rfl⟩
        · have m2 : (s.toList == [46, 46]) = false := by
            rw [beq_eq_false_iff_ne, ba_toList]; exact fun e => h2 (ba_ext (y := ⟨#[46, 46]⟩) e)
          have m2' : ¬ s.toList = [46, 46] := by rw [ba_toList]; exact fun e => h2 (ba_ext (y := ⟨#[46, 46]⟩) e)
          have HG := hid (goodL_yes h0 (by omega) h1 h2)
          have hlen : s.data.toList.length = s.size := by simp
          clear h1 h2
          go_enter Tryz.func100, Tryz.ntmps100
          go_wp2
          go_loop [3] (fun i => ∃ k : Nat, k ≤ s.size ∧ i = .int .i64 k ∧ Hid (47 ∉ s.data.toList.take k) ∧ Hid (0 ∉ s.data.toList.take k)) (fun i => s.size - (intOf i).toNat)
          case atStart => exact ⟨0, by omega, rfl, by unfold Hid; simp, by unfold Hid; simp⟩
          case round =>
            obtain ⟨k, hk, rfl, K1, K2⟩ := hrel
            by_cases hlt : k < s.size
            · have hk' : k < s.data.toList.length := by omega
              have e1 : ((s[k].toNat : Int) == 47) = decide (s[k] = 47) := byte_eq s[k] 47
              have e2 : ((s[k].toNat : Int) == 0) = decide (s[k] = 0) := byte_eq s[k] 0
              by_cases c1 : s[k] = 47
              · rw [decide_eq_true c1] at e1
                have HX : Hid (goodL s.data.toList = false) := by
                  rw [Hid, HG.out, decide_eq_false (fun h => h (c1 ▸ List.getElem_mem hk'))]; rfl
                clear e2 c1
                go_wp2
                go_ret
                exact ⟨ret_bool (by rw [HX.out]), rfl⟩
              · rw [decide_eq_false c1] at e1
                by_cases c2 : s[k] = 0
                · rw [decide_eq_true c2] at e2
                  have HX : Hid (goodL s.data.toList = false) := by
                    rw [Hid, HG.out, decide_eq_false (p := (0 : UInt8) ∉ s.data.toList) (fun h => h (c2 ▸ List.getElem_mem hk')), Bool.and_false]
                  clear c1 c2
                  go_wp2
                  go_ret
                  exact ⟨ret_bool (by rw [HX.out]), rfl⟩
                · rw [decide_eq_false c2] at e2
                  have N1 := hid (notin_succ hk' K1.out c1)
                  have N2 := hid (notin_succ hk' K2.out c2)
                  clear c1 c2
                  go_wp2
                  go_round
                  case rel => exact ⟨k + 1, by omega, by go_num, N1, N2⟩
                  case measure => simp [intOf]; omega
            · have HX : Hid (goodL s.data.toList = true) := by
                have t1 := K1.out; have t2 := K2.out
                rw [List.take_of_length_le (by omega)] at t1 t2
                rw [Hid, HG.out, decide_eq_true t1, decide_eq_true t2]; rfl
              go_wp2
              go_ret
              exact ⟨ret_bool (by rw [HX.out]), rfl⟩

end Go.Proofs.YtlenfiiocmchdaaGreatDoor
/- The reference's objects: what can be: Good. -/
namespace Go.Proofs.YtlenfiiocmchdaaGreatDoor
open Go.RowKit Book Pap Ojt
set_option linter.unusedVariables false
set_option linter.unusedSimpArgs false

def noE : Ent := ⟨ByteArray.empty, 0, ByteArray.empty⟩
/-- an entry may stand at a place of a list -/
def entOK (l : List Ent) (j : Nat) : Prop := goodEnt (l.getD j noE) = true ∧ (0 < j → lt' (l.getD (j - 1) noE).name (l.getD j noE).name = true)
theorem names_get (l : List Ent) (j : Nat) (h : j < l.length) : (l.map (·.name)).getD j ByteArray.empty = (l.getD j noE).name := by
  rw [List.getD_eq_getElem?_getD, List.getElem?_map, List.getD_eq_getElem?_getD, List.getElem?_eq_getElem h]; rfl
theorem goodTree_iff (l : List Ent) : goodTree l = true ↔ (∀ j, j < l.length → entOK l j) ∧ l.length ≤ 256 := by
  unfold goodTree
  rw [Bool.and_eq_true, Bool.and_eq_true, List.all_eq_true, decide_eq_true_eq, risingB_iff, List.length_map]
  constructor
  · rintro ⟨h1, h2, h3⟩
    refine ⟨fun j hj => ⟨?_, fun h0 => ?_⟩, h2⟩
    · rw [List.getD_eq_getElem?_getD, List.getElem?_eq_getElem hj]; exact h1 _ (List.getElem_mem hj)
    · have := h3 (j - 1) (by omega)
      rw [names_get l (j - 1) (by omega), show j - 1 + 1 = j by omega, names_get l j hj] at this
      exact this
  · rintro ⟨h1, h2⟩
    refine ⟨fun e he => ?_, h2, fun j hj => ?_⟩
    · obtain ⟨j, hj, rfl⟩ := List.getElem_of_mem he
      have := (h1 j hj).1
      rw [List.getD_eq_getElem?_getD, List.getElem?_eq_getElem hj] at this; exact this
    · rw [names_get l j (by omega), names_get l (j + 1) hj]
      exact (h1 (j + 1) hj).2 (by omega)
theorem goodTree_no {l : List Ent} {j : Nat} (hj : j < l.length) (h : ¬ entOK l j) : goodTree l = false := by
  cases hg : goodTree l
  · rfl
  · exact absurd ((goodTree_iff l).1 hg |>.1 j hj) h
/-- a parent may stand at a place of a list -/
def parOK (l : List ByteArray) (j : Nat) : Prop := (l.getD j ByteArray.empty).size = 32 ∧ (0 < j → lt' (l.getD (j - 1) ByteArray.empty) (l.getD j ByteArray.empty) = true)
theorem goodPars_iff (l : List ByteArray) : goodPars l = true ↔ (∀ j, j < l.length → parOK l j) ∧ l.length ≤ 8 := by
  unfold goodPars
  rw [Bool.and_eq_true, Bool.and_eq_true, List.all_eq_true, decide_eq_true_eq, risingB_iff]
  constructor
  · rintro ⟨h2, h3, h1⟩
    refine ⟨fun j hj => ⟨?_, fun h0 => ?_⟩, h2⟩
    · rw [List.getD_eq_getElem?_getD, List.getElem?_eq_getElem hj]; exact of_decide_eq_true (h1 _ (List.getElem_mem hj))
    · have := h3 (j - 1) (by omega)
      rw [show j - 1 + 1 = j by omega] at this
      exact this
  · rintro ⟨h1, h2⟩
    refine ⟨h2, fun j hj => (h1 (j + 1) hj).2 (by omega), fun e he => ?_⟩
    obtain ⟨j, hj, rfl⟩ := List.getElem_of_mem he
    have := (h1 j hj).1
    rw [List.getD_eq_getElem?_getD, List.getElem?_eq_getElem hj] at this; exact decide_eq_true this
theorem goodPars_no {l : List ByteArray} {j : Nat} (hj : j < l.length) (h : ¬ parOK l j) : goodPars l = false := by
  cases hg : goodPars l
  · rfl
  · exact absurd ((goodPars_iff l).1 hg |>.1 j hj) h
set_option maxRecDepth 100000 in
set_option maxHeartbeats 8000000 in
theorem rogood_any (x : Ob) (ev pv : Value) (w : World) (h : ObAt w ev pv x) (hn : ObN x) (hsz : ∀ e ∈ x.ents, e.name.size ≤ 1000000000) :
    Calls Tryz.prog 158 #[.agg (obCs x ev pv)] w fun e w' => e = .returned (.bool (good x)) ∧ Below w.heap.size w w' := by
  have hO := h
  obtain ⟨ea, en, ec, pa, pn, pc, rfl, he, rfl, hp⟩ := h
  have hb1 : Below w.heap.size w (w.alloc (.cells (obCs x (.slice ea en ec) (.slice pa pn pc)) 103)) := (Below.refl _ _).alloc (Nat.le_refl _) _
  have HX1 : Hid (Blk (w.alloc (.cells (obCs x (.slice ea en ec) (.slice pa pn pc)) 103)) w.heap.size 103 (obCs x (.slice ea en ec) (.slice pa pn pc))) := Blk.new w _ _
  have HE1 := hid (he.later hb1)
  have HP1 := hid (hp.later hb1)
  have HB1 := hid hb1
  have HSZ := hid hsz
  have hlen := hn.2.2
  have HEL := hid he.1
  have HPL := hid hp.1
  have hpn := hp.2.1
  have hen : en ≤ 1000000 := by rw [← he.1]; exact hn.2.2
  unfold obCs at HX1 HB1 HE1 HP1 ⊢
  have HG : Hid (good x = if x.kind = 1 then decide (x.data.size ≤ 65536) else if x.kind = 2 then goodTree x.ents else if x.kind = 3 then goodCommit x else false) := rfl
  have HGC : Hid (goodCommit x = (goodPars x.pars && (decide (0 ≤ x.height) && (decide (x.height ≤ 1073741824) && decide (0 < x.height ↔ x.pars ≠ []))) && (decide (x.tree.size = 32) && decide (x.note.size ≤ 1000)))) := rfl
  obtain ⟨R, hR⟩ : ∃ R, good x = R := ⟨_, rfl⟩
  rw [hR] at HG ⊢
  clear hO hb1 hR he hp hsz hn
  obtain ⟨kd, data, ents, tree, pars, height, note⟩ := x
  simp only at HX1 HE1 HP1 HB1 HSZ hlen HEL HPL HG HGC ⊢
  go_enter Tryz.func158, Tryz.ntmps158
  go_upto_region 1 with fail
  generalize (w.alloc (.cells #[.int .i64 kd, .string data, .slice ea en ec, .string tree, .slice pa pn pc, .int .i64 height, .string note] 103)) = w1 at HX1 HB1 HE1 HP1 ⊢
  obtain ⟨g, hg⟩ : ∃ g, w.heap.size = g := ⟨_, rfl⟩
  have HGz := hid hg
  rw [hg] at HX1 HB1 ⊢
  clear hg
  have k0 : w1.cell? ⟨g, 0, none⟩ = some (.int .i64 kd) := Blk.cell HX1.out 0
  have k1 : w1.cell? ⟨g, 1, none⟩ = some (.string data) := Blk.cell HX1.out 1
  have k2 : w1.cell? ⟨g, 2, none⟩ = some (.slice ea en ec) := Blk.cell HX1.out 2
  have k3 : w1.cell? ⟨g, 3, none⟩ = some (.string tree) := Blk.cell HX1.out 3
  have k4 : w1.cell? ⟨g, 4, none⟩ = some (.slice pa pn pc) := Blk.cell HX1.out 4
  have k5 : w1.cell? ⟨g, 5, none⟩ = some (.int .i64 height) := Blk.cell HX1.out 5
  have k6 : w1.cell? ⟨g, 6, none⟩ = some (.string note) := Blk.cell HX1.out 6
  by_cases h1 : kd = 1
  · have c1 : (kd == 1) = true := by simp [h1]
    have HG1 : Hid (R = decide (data.size ≤ 65536)) := by show _ = _; rw [HG.out, if_pos h1]
    clear h1 HG
    by_cases hd : data.size ≤ 65536
    · have cd : (data.size : Int) ≤ 65536 := by omega
      go_wp2_with fail
      go_ret
      exact ⟨by rw [HG1.out]; simp [hd], by rw [HGz.out]; exact HB1.out⟩
    · have cd : ¬ (data.size : Int) ≤ 65536 := by omega
      go_wp2_with fail
      go_ret
      exact ⟨by rw [HG1.out]; simp [hd], by rw [HGz.out]; exact HB1.out⟩
  have c1 : (kd == 1) = false := by simp [h1]
  by_cases h2 : kd = 2
  · have c2 : (kd == 2) = true := by simp [h2]
    have HG2 : Hid (R = goodTree ents) := by show _ = _; rw [HG.out, if_neg h1, if_pos h2]
    clear h1 h2 HG HGC
    go_wp2_with fail
    go_loopw [3] (fun iv wr => ∃ i : Nat, i ≤ en ∧ iv = .int .i64 i ∧ Hid (∀ j, j < i → entOK ents j) ∧ Hid (Below w1.heap.size w1 wr)) (fun iv _ => en - (intOf iv).toNat)
    case atStart => exact ⟨0, Nat.zero_le _, rfl, fun j hj => by omega, Below.refl _ _⟩
    case round =>
      obtain ⟨i, hi, rfl, HA, HB⟩ := hrel
      have HXr : Hid (Blk wr g 103 #[.int .i64 kd, .string data, .slice ea en ec, .string tree, .slice pa pn pc, .int .i64 height, .string note]) := (HB.out.block g (Blk.lt HX1.out)).trans HX1.out
      have HBw : Hid (Below g w wr) := HB1.out.trans (HB.out.mono (Nat.le_of_lt (Blk.lt HX1.out)))
      have r2 : wr.cell? ⟨g, 2, none⟩ = some (.slice ea en ec) := Blk.cell HXr.out 2
      by_cases hlt : i < en
      · have ci : (i : Int) < en := by omega
        have ci0 : (0 : Int) ≤ (i : Int) := by omega
        obtain ⟨-, -, h3⟩ := HE1.out.later HB.out
        obtain ⟨b, off, rfl, hc⟩ := h3.resolve_left (by omega)
        obtain ⟨q0, q1, q2⟩ := hc i hlt
        have hil : i < ents.length := by rw [HEL.out]; exact hlt
        have hnm := HSZ.out (ents.getD i noE) (by rw [List.getD_eq_getElem?_getD, List.getElem?_eq_getElem hil]; exact List.getElem_mem hil)
        have p0 : 0 < i → wr.cell? ⟨b, off + (i - 1) * 3, none⟩ = some (.string (ents.getD (i - 1) noE).name) := fun h0 => (hc (i - 1) (by omega)).1
        have HP0 := hid p0
        have HNX : Hid (entOK ents i → ∀ j, j < i + 1 → entOK ents j) := fun h j hj => by
          rcases Nat.lt_or_ge j i with h1 | h1
          · exact HA.out j h1
          · obtain rfl : j = i := by omega
            exact h
        have HNO : Hid (¬ entOK ents i → R = false) := fun h => by rw [HG2.out]; exact goodTree_no hil h
        have HOK : Hid (entOK ents i = (goodEnt (ents.getD i noE) = true ∧ (0 < i → lt' (ents.getD (i - 1) noE).name (ents.getD i noE).name = true))) := rfl
        obtain ⟨y, hy⟩ : ∃ y, ents.getD i noE = y := ⟨_, rfl⟩
        have hy' : ents.getD i ⟨ByteArray.empty, 0, ByteArray.empty⟩ = y := hy
        obtain ⟨pv, hpv⟩ : ∃ y, (ents.getD (i - 1) noE).name = y := ⟨_, rfl⟩
        rw [hy'] at q0 q1 q2
        rw [hy] at HOK hnm
        rw [hpv] at HOK HP0
        obtain ⟨nm, yk, yd⟩ := y
        simp only at q0 q1 q2 hnm HOK
        clear hc h3 hy hy' hpv hil p0
        have HGD := hid (fun W => rgood_any nm W (by omega))
        have HGE : Hid (goodEnt ⟨nm, yk, yd⟩ = (goodL nm.data.toList && (decide (yk = 1) || decide (yk = 2)) && decide (yd.size = 32))) := rfl
        go_upto_region 9 with fail
        have HXa : Hid (Blk (wr.alloc (.cells #[.string nm, .int .i64 yk, .string yd] 40)) wr.heap.size 40 #[.string nm, .int .i64 yk, .string yd]) := Blk.new wr _ _
        have HXg := hid (Blk.alloc HXr.out (.cells #[.string nm, .int .i64 yk, .string yd] 40))
        have hba : Below wr.heap.size wr (wr.alloc (.cells #[.string nm, .int .i64 yk, .string yd] 40)) := (Below.refl _ _).alloc (Nat.le_refl _) _
        have HBa := hid (below_then HB.out hba)
        have HBv : Hid (Below g w (wr.alloc (.cells #[.string nm, .int .i64 yk, .string yd] 40))) := HB1.out.trans (HBa.out.mono (Nat.le_of_lt (Blk.lt HX1.out)))
        have HPa : Hid (0 < i → (wr.alloc (.cells #[.string nm, .int .i64 yk, .string yd] 40)).cell? ⟨b, off + (i - 1) * 3, none⟩ = some (.string pv)) := fun h0 => (hba.cell (World.block_lt_of_cell? wr _ (HP0.out h0))).trans (HP0.out h0)
        clear hba q0 q1 q2 r2 HP0 HXr HBw HB
        generalize (wr.alloc (.cells #[.string nm, .int .i64 yk, .string yd] 40)) = wa at HXa HXg HBa HBv HPa ⊢
        generalize wr.heap.size = e0 at HXa ⊢
        have j0 : wa.cell? ⟨e0, 0, none⟩ = some (.string nm) := Blk.cell HXa.out 0
        have j1 : wa.cell? ⟨e0, 1, none⟩ = some (.int .i64 yk) := Blk.cell HXa.out 1
        have j2 : wa.cell? ⟨e0, 2, none⟩ = some (.string yd) := Blk.cell HXa.out 2
        have r2 : wa.cell? ⟨g, 2, none⟩ = some (.slice (some ⟨b, off, none⟩) en ec) := Blk.cell HXg.out 2
        have FIN : Hid (R = false → ∀ q, Ending.returned (.bool false) = Ending.returned (.bool R) ∧ Below w.heap.size w (wa.drewN q)) := fun h q => ⟨by rw [h], by rw [HGz.out]; exact below_drewN HBv.out q⟩
        obtain ⟨gl, hgl⟩ : ∃ b, goodL nm.data.toList = b := ⟨_, rfl⟩
        rw [hgl] at HGD HGE
        clear hgl
        cases gl with
        | false =>
          have HR : Hid (R = false) := HNO.out (by rw [HOK.out, HGE.out]; simp)
          clear HNX HNO HOK HGE HPa
          go_quiet (first | (go_at_call 100; exact Calls.quiet_of_same ((HGD.out _).mono fun _ _ h => ⟨h.1, h.2.symm⟩)))
          go_wp2_with fail
          go_ret
          exact FIN.out HR.out _
        | true =>
          rcases Classical.em (yk = 1 ∨ yk = 2) with hk | hk
          · have HGE2 : Hid (goodEnt ⟨nm, yk, yd⟩ = decide (yd.size = 32)) := by show _ = _; rw [HGE.out]; rcases hk with rfl | rfl <;> simp
            have hkd : (yk != 1) = false ∨ ((yk != 1) = true ∧ (yk != 2) = false) := by rcases hk with rfl | rfl <;> simp
            clear hk HGE
            rcases hkd with d1 | ⟨d1, d2⟩
            all_goals
              by_cases h32 : yd.size = 32
              · have f1 : ((yd.size : Int) != 32) = false := by rw [h32]; rfl
                have f2 : ((yd.size : Int) == 32) = true := by rw [h32]; rfl
                have HGE3 : Hid (goodEnt ⟨nm, yk, yd⟩ = true) := by show _ = _; rw [HGE2.out]; simp [h32]
                clear h32 HGE2
                by_cases hi0 : 0 < i
                · have ci1 : (0 : Int) < (i : Int) := by omega
                  have dg : decide ((0 : Int) < (i : Int)) = true := decide_eq_true ci1
                  have dg2 : decide (0 < i) = true := decide_eq_true hi0
                  have cm0 : (0 : Int) ≤ (i : Int) - 1 := by omega
                  have cm1 : (1 : Int) ≤ (i : Int) := by omega
                  have cm2 : (i : Int) - 1 < en := by omega
                  have ew : IntKind.i64.wrap ((i : Int) - 1) = (i : Int) - 1 := by rw [IntKind.wrap_i64]; omega
                  have et : ((i : Int) - 1).toNat = i - 1 := by omega
                  have jp := HPa.out hi0
                  have HI0 := hid hi0
                  have HLT : Hid (lt' pv nm = Op.bytesLess pv.toList nm.toList) := rfl
                  clear hi0 HPa
                  cases hb : Op.bytesLess pv.toList nm.toList
                  · have HR : Hid (R = false) := HNO.out (by rw [HOK.out]; rintro ⟨-, h⟩; have := h HI0.out; rw [HLT.out, hb] at this; cases this)
                    clear HNX HNO HOK HGE3 HLT
                    go_quiet (first | (go_at_call 100; exact Calls.quiet_of_same ((HGD.out _).mono fun _ _ h => ⟨h.1, h.2.symm⟩)))
                    go_wp2_with fail
                    go_ret
                    exact FIN.out HR.out _
                  · have HAn : Hid (∀ j, j < i + 1 → entOK ents j) := HNX.out (by rw [HOK.out]; exact ⟨HGE3.out, fun _ => by rw [HLT.out, hb]⟩)
                    clear HNX HNO HOK HGE3 HLT FIN
                    go_quiet (first | (go_at_call 100; exact Calls.quiet_of_same ((HGD.out _).mono fun _ _ h => ⟨h.1, h.2.symm⟩)))
                    go_wp2_with fail
                    go_roundw
                    case rel => exact ⟨i + 1, by omega, by go_num, HAn, below_drewN HBa.out _⟩
                    case measure => simp [intOf]; omega
                · have ci1 : ¬ (0 : Int) < (i : Int) := by omega
                  have dg : decide ((0 : Int) < (i : Int)) = false := decide_eq_false ci1
                  have dg2 : decide (0 < i) = false := decide_eq_false hi0
                  have HAn : Hid (∀ j, j < i + 1 → entOK ents j) := HNX.out (by rw [HOK.out]; exact ⟨HGE3.out, fun h => absurd h hi0⟩)
                  clear HNX HNO HOK HGE3 FIN hi0 HPa
                  go_quiet (first | (go_at_call 100; exact Calls.quiet_of_same ((HGD.out _).mono fun _ _ h => ⟨h.1, h.2.symm⟩)))
                  go_wp2_with fail
                  go_roundw
                  case rel => exact ⟨i + 1, by omega, by go_num, HAn, below_drewN HBa.out _⟩
                  case measure => simp [intOf]; omega
              · have f1 : ((yd.size : Int) != 32) = true := by simp; omega
                have f2 : ((yd.size : Int) == 32) = false := by simp; omega
                have HR : Hid (R = false) := HNO.out (by rw [HOK.out, HGE2.out]; simp [h32])
                clear HNX HNO HOK HGE2 HPa h32
                go_quiet (first | (go_at_call 100; exact Calls.quiet_of_same ((HGD.out _).mono fun _ _ h => ⟨h.1, h.2.symm⟩)))
                go_wp2_with fail
                go_ret
                exact FIN.out HR.out _
          · have d1 : (yk != 1) = true := by simp; exact fun e => hk (.inl e)
            have d2 : (yk != 2) = true := by simp; exact fun e => hk (.inr e)
            have HR : Hid (R = false) := HNO.out (by rw [HOK.out, HGE.out]; simp only [not_or] at hk; simp [hk.1, hk.2])
            clear HNX HNO HOK HGE HPa hk
            go_quiet (first | (go_at_call 100; exact Calls.quiet_of_same ((HGD.out _).mono fun _ _ h => ⟨h.1, h.2.symm⟩)))
            go_wp2_with fail
            go_ret
            exact FIN.out HR.out _
      · obtain rfl : i = en := by omega
        have ci : ¬ (i : Int) < i := by omega
        have HT := hid (goodTree_iff ents)
        by_cases h256 : i ≤ 256
        · have cc : (i : Int) ≤ 256 := by omega
          have HR : Hid (R = true) := by show _ = _; rw [HG2.out]; exact HT.out.2 ⟨fun j hj => HA.out j (by rw [← HEL.out]; exact hj), by rw [HEL.out]; exact h256⟩
          go_wp2_with fail
          go_ret
          exact ⟨by rw [HR.out]; simp, by rw [HGz.out]; exact HBw.out⟩
        · have cc : ¬ (i : Int) ≤ 256 := by omega
          have HR : Hid (R = false) := by
            show _ = _
            rw [HG2.out]
            cases hg : goodTree ents
            · rfl
            · exact absurd (HT.out.1 hg).2 (by rw [HEL.out]; exact h256)
          go_wp2_with fail
          go_ret
          exact ⟨by rw [HR.out]; simp, by rw [HGz.out]; exact HBw.out⟩
  have c2 : (kd == 2) = false := by simp [h2]
  by_cases h3 : kd = 3
  · have c3 : (kd == 3) = true := by simp [h3]
    have HG3 : Hid (R = (goodPars pars && (decide (0 ≤ height) && (decide (height ≤ 1073741824) && decide (0 < height ↔ pars ≠ []))) && (decide (tree.size = 32) && decide (note.size ≤ 1000)))) := by show _ = _; rw [HG.out, if_neg h1, if_neg h2, if_pos h3]; exact HGC.out
    clear h1 h2 h3 HG HGC
    go_wp2_with fail
    go_loopw [5] (fun iv wr => ∃ i : Nat, i ≤ pn ∧ iv = .int .i64 i ∧ Hid (∀ j, j < i → parOK pars j) ∧ Hid (Below w1.heap.size w1 wr)) (fun iv _ => pn - (intOf iv).toNat)
    case atStart => exact ⟨0, Nat.zero_le _, rfl, fun j hj => by omega, Below.refl _ _⟩
    case round =>
      obtain ⟨i, hi, rfl, HA, HB⟩ := hrel
      have HXr : Hid (Blk wr g 103 #[.int .i64 kd, .string data, .slice ea en ec, .string tree, .slice pa pn pc, .int .i64 height, .string note]) := (HB.out.block g (Blk.lt HX1.out)).trans HX1.out
      have HBw : Hid (Below g w wr) := HB1.out.trans (HB.out.mono (Nat.le_of_lt (Blk.lt HX1.out)))
      have r3 : wr.cell? ⟨g, 3, none⟩ = some (.string tree) := Blk.cell HXr.out 3
      have r4 : wr.cell? ⟨g, 4, none⟩ = some (.slice pa pn pc) := Blk.cell HXr.out 4
      have r5 : wr.cell? ⟨g, 5, none⟩ = some (.int .i64 height) := Blk.cell HXr.out 5
      have r6 : wr.cell? ⟨g, 6, none⟩ = some (.string note) := Blk.cell HXr.out 6
      have FIN : Hid (R = false → ∀ q, Ending.returned (.bool false) = Ending.returned (.bool R) ∧ Below w.heap.size w (wr.drewN q)) := fun h q => ⟨by rw [h], by rw [HGz.out]; exact below_drewN HBw.out q⟩
      by_cases hlt : i < pn
      · have ci : (i : Int) < pn := by omega
        have ci0 : (0 : Int) ≤ (i : Int) := by omega
        obtain ⟨-, -, h3⟩ := HP1.out.later HB.out
        obtain ⟨b, off, rfl, hc⟩ := h3.resolve_left (by omega)
        have q0 := hc i hlt
        have hil : i < pars.length := by rw [HPL.out]; exact hlt
        have HP0 : Hid (0 < i → wr.cell? ⟨b, off + (i - 1), none⟩ = some (.string (pars.getD (i - 1) ByteArray.empty))) := fun h0 => hc (i - 1) (by omega)
        have HNX : Hid (parOK pars i → ∀ j, j < i + 1 → parOK pars j) := fun h j hj => by
          rcases Nat.lt_or_ge j i with h1 | h1
          · exact HA.out j h1
          · obtain rfl : j = i := by omega
            exact h
        have HNO : Hid (¬ parOK pars i → R = false) := fun h => by rw [HG3.out, goodPars_no hil h]; rfl
        have HOK : Hid (parOK pars i = ((pars.getD i ByteArray.empty).size = 32 ∧ (0 < i → lt' (pars.getD (i - 1) ByteArray.empty) (pars.getD i ByteArray.empty) = true))) := rfl
        obtain ⟨nm, hy⟩ : ∃ y, pars.getD i ByteArray.empty = y := ⟨_, rfl⟩
        obtain ⟨pv, hpv⟩ : ∃ y, pars.getD (i - 1) ByteArray.empty = y := ⟨_, rfl⟩
        rw [hy] at q0 HOK
        rw [hpv] at HOK HP0
        clear hc h3 hy hpv hil
        go_wp2_with fail
        by_cases h32 : nm.size = 32
        · have f1 : ((nm.size : Int) != 32) = false := by rw [h32]; rfl
          have f2 : ((nm.size : Int) == 32) = true := by rw [h32]; rfl
          have H32 := hid h32
          clear h32
          by_cases hi0 : 0 < i
          · have ci1 : (0 : Int) < (i : Int) := by omega
            have dg : decide ((0 : Int) < (i : Int)) = true := decide_eq_true ci1
            have dg2 : decide (0 < i) = true := decide_eq_true hi0
            have cm0 : (0 : Int) ≤ (i : Int) - 1 := by omega
            have cm1 : (1 : Int) ≤ (i : Int) := by omega
            have cm2 : (i : Int) - 1 < pn := by omega
            have ew : IntKind.i64.wrap ((i : Int) - 1) = (i : Int) - 1 := by rw [IntKind.wrap_i64]; omega
            have et : ((i : Int) - 1).toNat = i - 1 := by omega
            have jp := HP0.out hi0
            have HI0 := hid hi0
            have HLT : Hid (lt' pv nm = Op.bytesLess pv.toList nm.toList) := rfl
            clear hi0 HP0
            cases hb : Op.bytesLess pv.toList nm.toList
            · have HR : Hid (R = false) := HNO.out (by rw [HOK.out]; rintro ⟨-, h⟩; have := h HI0.out; rw [HLT.out, hb] at this; cases this)
              clear HNX HNO HOK HLT
              go_quiet (fail)
              go_wp2_with fail
              go_ret
              exact FIN.out HR.out _
            · have HAn : Hid (∀ j, j < i + 1 → parOK pars j) := HNX.out (by rw [HOK.out]; exact ⟨H32.out, fun _ => by rw [HLT.out, hb]⟩)
              clear HNX HNO HOK HLT FIN
              go_quiet (fail)
              go_wp2_with fail
              go_roundw
              case rel => exact ⟨i + 1, by omega, by go_num, HAn, below_drewN HB.out _⟩
              case measure => simp [intOf]; omega
          · have ci1 : ¬ (0 : Int) < (i : Int) := by omega
            have dg : decide ((0 : Int) < (i : Int)) = false := decide_eq_false ci1
            have dg2 : decide (0 < i) = false := decide_eq_false hi0
            have HAn : Hid (∀ j, j < i + 1 → parOK pars j) := HNX.out (by rw [HOK.out]; exact ⟨H32.out, fun h => absurd h hi0⟩)
            clear HNX HNO HOK FIN hi0 HP0
            go_quiet (fail)
            go_wp2_with fail
            go_roundw
            case rel => exact ⟨i + 1, by omega, by go_num, HAn, below_drewN HB.out _⟩
            case measure => simp [intOf]; omega
        · have f1 : ((nm.size : Int) != 32) = true := by simp; omega
          have f2 : ((nm.size : Int) == 32) = false := by simp; omega
          have HR : Hid (R = false) := HNO.out (by rw [HOK.out]; exact fun h => h32 h.1)
          clear HNX HNO HOK HP0 h32
          go_quiet (fail)
          go_wp2_with fail
          go_ret
          exact FIN.out HR.out _
      · obtain rfl : i = pn := by omega
        have ci : ¬ (i : Int) < i := by omega
        have HGP : Hid (goodPars pars = decide (i ≤ 8)) := by
          show _ = _
          by_cases h8 : i ≤ 8
          · rw [decide_eq_true h8]; exact (goodPars_iff pars).2 ⟨fun j hj => HA.out j (by rw [← HPL.out]; exact hj), by rw [HPL.out]; exact h8⟩
          · rw [decide_eq_false h8]
            cases hg : goodPars pars
            · rfl
            · exact absurd ((goodPars_iff pars).1 hg).2 (by rw [HPL.out]; exact h8)
        have HFI : Hid (∀ r, R = r → Ending.returned (.bool r) = Ending.returned (.bool R) ∧ Below w.heap.size w wr) := fun r h => ⟨by rw [h], by rw [HGz.out]; exact HBw.out⟩
        have HPN : Hid ((pars ≠ []) ↔ 0 < i) := by rw [← HPL.out]; exact List.length_pos_iff.symm
        rw [HGP.out] at HG3
        have HGR : Hid (R = (decide (i ≤ 8) && (decide (0 ≤ height) && (decide (height ≤ 1073741824) && decide (0 < height ↔ 0 < i))) && (decide (tree.size = 32) && decide (note.size ≤ 1000)))) := by show _ = _; rw [HG3.out]; simp only [HPN.out]
        clear HGP HPN HG3 FIN HA HB
        by_cases t1 : tree.size = 32
        · have f1 : ((tree.size : Int) == 32) = true := by rw [t1]; rfl
          by_cases t2 : i ≤ 8
          · have f2 : (i : Int) ≤ 8 := by omega
            by_cases t3 : 0 ≤ height
            · by_cases t4 : height ≤ 1073741824
              · by_cases t5 : (0 < height ↔ 0 < i)
                · have HH : Hid (R = decide (note.size ≤ 1000)) := by show _ = _; rw [HGR.out]; simp [t1, t2, t3, t4, t5]
                  have f5 : ((height == 0) == ((i : Int) == 0)) = true := by
                    by_cases h0 : 0 < height
                    · have hi0 : 0 < i := t5.1 h0
                      have a1 : (height == 0) = false := by rw [beq_eq_false_iff_ne]; omega
                      have a2 : ((i : Int) == 0) = false := by rw [beq_eq_false_iff_ne]; omega
                      rw [a1, a2]; rfl
                    · have h1 : ¬ 0 < i := fun e => h0 (t5.2 e)
                      have a1 : (height == 0) = true := by rw [beq_iff_eq]; omega
                      have a2 : ((i : Int) == 0) = true := by rw [beq_iff_eq]; omega
                      rw [a1, a2]; rfl
                  clear t1 t2 t5 HGR
                  by_cases t6 : note.size ≤ 1000
                  · have f6 : (note.size : Int) ≤ 1000 := by omega
                    have HR : Hid (R = true) := by show _ = _; rw [HH.out]; simp [t6]
                    clear t6 HH
                    go_wp2_with fail
                    go_ret
                    exact HFI.out _ (by rw [HR.out])
                  · have f6 : ¬ (note.size : Int) ≤ 1000 := by omega
                    have HR : Hid (R = false) := by show _ = _; rw [HH.out]; simp [t6]
                    clear t6 HH
                    go_wp2_with fail
                    go_ret
                    exact HFI.out _ (by rw [HR.out])
                · have HR : Hid (R = false) := by show _ = _; rw [HGR.out, decide_eq_false t5]; simp
                  have f5 : ((height == 0) == ((i : Int) == 0)) = false := by
                    by_cases h0 : 0 < height
                    · have h1 : ¬ 0 < i := fun e => t5 ⟨fun _ => e, fun _ => h0⟩
                      have a1 : (height == 0) = false := by rw [beq_eq_false_iff_ne]; omega
                      have a2 : ((i : Int) == 0) = true := by rw [beq_iff_eq]; omega
                      rw [a1, a2]; rfl
                    · have h1 : 0 < i := Classical.byContradiction (fun e => t5 ⟨fun h => absurd h h0, fun h => absurd h e⟩)
                      have a1 : (height == 0) = true := by rw [beq_iff_eq]; omega
                      have a2 : ((i : Int) == 0) = false := by rw [beq_eq_false_iff_ne]; omega
                      rw [a1, a2]; rfl
                  clear t1 t2 t5 HGR
                  go_wp2_with fail
                  go_ret
                  exact HFI.out _ (by rw [HR.out])
              · have HR : Hid (R = false) := by show _ = _; rw [HGR.out]; simp [t4]
                clear t1 t2 HGR
                go_wp2_with fail
                go_ret
                exact HFI.out _ (by rw [HR.out])
            · have HR : Hid (R = false) := by show _ = _; rw [HGR.out]; simp [t3]
              clear t1 t2 HGR
              go_wp2_with fail
              go_ret
              exact HFI.out _ (by rw [HR.out])
          · have f2 : ¬ (i : Int) ≤ 8 := by omega
            have HR : Hid (R = false) := by show _ = _; rw [HGR.out]; simp [t2]
            clear t1 t2 HGR
            go_wp2_with fail
            go_ret
            exact HFI.out _ (by rw [HR.out])
        · have f1 : ((tree.size : Int) == 32) = false := by simp; omega
          have HR : Hid (R = false) := by show _ = _; rw [HGR.out]; simp [t1]
          clear t1 HGR
          go_wp2_with fail
          go_ret
          exact HFI.out _ (by rw [HR.out])
  · have c3 : (kd == 3) = false := by simp [h3]
    have HR : Hid (R = false) := by show _ = _; rw [HG.out, if_neg h1, if_neg h2, if_neg h3]
    go_wp2_with fail
    go_ret
    exact ⟨by rw [HR.out]; rfl, by rw [HGz.out]; exact HB1.out⟩
end Go.Proofs.YtlenfiiocmchdaaGreatDoor
/- The reference's objects: read from bytes: Decode. -/
namespace Go.Proofs.YtlenfiiocmchdaaGreatDoor
open Go.RowKit Book Pap Ojt
set_option linter.unusedVariables false
set_option linter.unusedSimpArgs false

theorem rodec_results (tmps : Array Value) (g : Nat) (er : Int) (x : Ob) (ev pv : Value) (w : World) (h2 : tmps.getD 2 undef = .pointer (some ⟨g, 0, none⟩)) (h3 : tmps.getD 3 undef = .int .i64 er) (H : Blk w g 103 (obCs x ev pv)) : (results Tryz.f97 tmps).run Tryz.prog w = .ok (.tuple #[.agg (obCs x ev pv), .int .i64 er]) w := by
  have c0 : w.cell? ⟨g, 0, none⟩ = some (.int .i64 x.kind) := Blk.cell H 0
  have c1 : w.cell? ⟨g, 1, none⟩ = some (.string x.data) := Blk.cell H 1
  have c2 : w.cell? ⟨g, 2, none⟩ = some ev := Blk.cell H 2
  have c3 : w.cell? ⟨g, 3, none⟩ = some (.string x.tree) := Blk.cell H 3
  have c4 : w.cell? ⟨g, 4, none⟩ = some pv := Blk.cell H 4
  have c5 : w.cell? ⟨g, 5, none⟩ = some (.int .i64 x.height) := Blk.cell H 5
  have c6 : w.cell? ⟨g, 6, none⟩ = some (.string x.note) := Blk.cell H 6
  have h2' : tmps[2]?.getD undef = .pointer (some ⟨g, 0, none⟩) := by simpa using h2
  have h3' : tmps[3]?.getD undef = .int .i64 er := by simpa using h3
  simp [results, Tryz.results97, go_sem, h2', h3', c0, c1, c2, c3, c4, c5, c6, obCs]
/-- an object that has been read, in memory, before it is judged -/
def ReadAt (w : World) (g : Nat) (wx : World) (D : Ob × Int) : Prop :=
  ∃ x ea en ec pa pn pc, Blk wx (g + 1) 103 (obCs x (.slice ea en ec) (.slice pa pn pc)) ∧ Blk wx g 103 (obCs zero (.slice none 0 0) (.slice none 0 0)) ∧ ObAt wx (.slice ea en ec) (.slice pa pn pc) x ∧ ObN x ∧ (∀ e ∈ x.ents, e.name.size ≤ 1000000000) ∧ Below g w wx ∧
    (∀ k, ((Value.slice ea en ec).ownBlock = some k ∨ (Value.slice pa pn pc).ownBlock = some k) → g + 1 < k) ∧ D = if good x = true then (x, 0) else (zero, 4)
theorem decR_com (t : List UInt8) (hw : wholeR (commitR t) = true) : decR (3 :: t) = if wholeR (commitR t) = true ∧ good (commitO t) = true then (commitO t, 0) else (zero, 4) := by
  have e : decR (3 :: t) = match (if wholeR (commitR t) = true ∧ good (commitO t) = true then some (commitO t) else none) with | some x => (x, 0) | none => (zero, 4) := rfl
  rw [e]
  by_cases h : good (commitO t) = true
  · rw [if_pos ⟨hw, h⟩, if_pos ⟨hw, h⟩]
  · rw [if_neg (fun h2 => h h2.2), if_neg (fun h2 => h h2.2)]
theorem decR_comno (t : List UInt8) (hw : ¬ wholeR (commitR t) = true) : decR (3 :: t) = (zero, 4) := by
  have e : decR (3 :: t) = match (if wholeR (commitR t) = true ∧ good (commitO t) = true then some (commitO t) else none) with | some x => (x, 0) | none => (zero, 4) := rfl
  rw [e, if_neg (fun h2 => hw h2.1)]
theorem setRow_only {w : World} {g : Nat} (cs : Array Value) : Only (· = g) w (w.setRow g cs) := (Only.refl (· = g) w).setRow (.inl rfl) _
set_option maxRecDepth 100000 in
set_option maxHeartbeats 16000000 in
theorem rodec_some (s : ByteArray) (k : UInt8) (t : List UInt8) (hd : Head s k t) (hsz : s.size ≤ 1000000000) (w : World) : Calls Tryz.prog 97 #[.string s] w (DecOut w s.data.toList) := by
  have hs0 := hd.size
  have hs1 : s.toList.isEmpty = false := bstr_isEmpty (by omega)
  have hs2 : ¬ s.toList = [] := bstr_some (by omega)
  have hs3 : (s.toList == []) = false := by rw [beq_eq_false_iff_ne]; exact hs2
  have hpos : 0 < s.size := by omega
  have hposi : (0 : Int) < s.size := by omega
  have hpos1 : (1 : Int) ≤ s.size := by omega
  have h0 : s[0]'hpos = k := hd.at0 hpos
  have h01 : s[0]? = some k := by rw [← h0]; exact getElem?_pos s 0 hpos
  have hrest := hd.rest
  have HDL := hid hd.l
  have HTL : Hid (t.length ≤ 1000000000) := by show _ ≤ _; omega
  obtain ⟨y, hy⟩ : ∃ y, s.extract 1 s.size = y := ⟨_, rfl⟩
  rw [hy] at hrest
  have HRS := hid hrest
  rw [HDL.out]
  clear hd hrest hs0
  go_enter Tryz.func97, Tryz.ntmps97
  go_upto_region 4 with fail
  obtain ⟨g, hg⟩ : ∃ g, w.heap.size = g := ⟨_, rfl⟩
  have HG := hid hg
  have HZ1 : Hid (Blk ((w.alloc (.cells (obCs zero (.slice none 0 0) (.slice none 0 0)) 103)).alloc (.cells (obCs zero (.slice none 0 0) (.slice none 0 0)) 103)) g 103 (obCs zero (.slice none 0 0) (.slice none 0 0))) := by
    have := (Blk.new w 103 (obCs zero (.slice none 0 0) (.slice none 0 0))).alloc (.cells (obCs zero (.slice none 0 0) (.slice none 0 0)) 103)
    rw [hg] at this; exact this
  have HX1 : Hid (Blk ((w.alloc (.cells (obCs zero (.slice none 0 0) (.slice none 0 0)) 103)).alloc (.cells (obCs zero (.slice none 0 0) (.slice none 0 0)) 103)) (g + 1) 103 (obCs zero (.slice none 0 0) (.slice none 0 0))) := by
    have := Blk.new (w.alloc (.cells (obCs zero (.slice none 0 0) (.slice none 0 0)) 103)) 103 (obCs zero (.slice none 0 0) (.slice none 0 0))
    simp only [World.size_alloc, hg] at this; exact this
  have HB1 : Hid (Below g w ((w.alloc (.cells (obCs zero (.slice none 0 0) (.slice none 0 0)) 103)).alloc (.cells (obCs zero (.slice none 0 0) (.slice none 0 0)) 103))) := ((Below.refl _ _).alloc (Nat.le_of_eq hg.symm) _).alloc (by simp [hg]) _
  have hz1 : ((w.alloc (.cells (obCs zero (.slice none 0 0) (.slice none 0 0)) 103)).alloc (.cells (obCs zero (.slice none 0 0) (.slice none 0 0)) 103)).heap.size = g + 2 := by simp [hg]
  rw [hg]
  rw [zero_cs] at HZ1 HX1 HB1 hz1
  clear hg
  generalize ((w.alloc (.cells #[.int .i64 0, .string ⟨#[]⟩, .slice none 0 0, .string ⟨#[]⟩, .slice none 0 0, .int .i64 0, .string ⟨#[]⟩] 103)).alloc (.cells #[.int .i64 0, .string ⟨#[]⟩, .slice none 0 0, .string ⟨#[]⟩, .slice none 0 0, .int .i64 0, .string ⟨#[]⟩] 103)) = w1 at HZ1 HX1 HB1 hz1 ⊢
  have HSZ := hid hz1
  clear hz1
  obtain ⟨D, hD⟩ : ∃ D, decR (k :: t) = D := ⟨_, rfl⟩
  have HDD := hid hD
  have HDq := hid hD
  clear hD
  have hkl : (k.toNat : Int) ≤ 255 := by have := k.toNat_lt; omega
  have hkl0 : (0 : Int) ≤ (k.toNat : Int) := by omega
  go_upto_block 0 with fail
  go_cut [4] (fun s4 wx => s4 = .pointer (some ⟨g + 1, 0, none⟩) ∧ Hid (ReadAt w g wx D))
  case first =>
    have HZ1' : Hid (Blk w1 g 103 (obCs zero (.slice none 0 0) (.slice none 0 0))) := HZ1
    have HX1' : Hid (Blk w1 (g + 1) 103 (obCs zero (.slice none 0 0) (.slice none 0 0))) := HX1
    clear HZ1 HX1
    by_cases e1 : k = 1
    · have c1 : ((k.toNat : Int) == 1) = true := by rw [e1]; rfl
      subst e1
      have hyt : bx t = y := ba_ext (by rw [bx_list]; exact HRS.out.symm)
      have HR : Hid (ReadAt w g (w1.setRow (g + 1) (obCs { zero with kind := 1, data := y } (.slice none 0 0) (.slice none 0 0))) D) := by
        refine ⟨{ zero with kind := 1, data := y }, none, 0, 0, none, 0, 0, setRow_heap _ _ _ _ _ _ HX1'.out, HZ1'.out.only (setRow_only _) (by omega), zero_at _, ⟨⟨by show (-9223372036854775808 : Int) ≤ 1; decide, by show (1 : Int) ≤ 9223372036854775807; decide⟩, ⟨by show (-9223372036854775808 : Int) ≤ 0; decide, by show (0 : Int) ≤ 9223372036854775807; decide⟩, Nat.zero_le _⟩, fun e he => (by cases he), below_setRow HB1.out (by omega) _, fun k hk => (by simp [Value.ownBlock] at hk), ?_⟩
        rw [← HDD.out, decR_blob, hyt]
        by_cases hg : good { zero with kind := 1, data := y } = true
        · rw [if_pos hg, if_pos ⟨rfl, hg⟩]
        · rw [if_neg hg, if_neg (fun h => hg h.2)]
      obtain ⟨wz, hwz⟩ : ∃ wz, w1.setRow (g + 1) (obCs { zero with kind := 1, data := y } (.slice none 0 0) (.slice none 0 0)) = wz := ⟨_, rfl⟩
      have HWZ := hid hwz
      rw [hwz] at HR
      clear hwz hyt HDD
      go_wp2_with (first
        | (refine wpList_store_row rfl _ (.tmp 4) (.tmp 16) rfl (g + 1) (obCs { zero with kind := 1, data := y } (.slice none 0 0) (.slice none 0 0)) rfl rfl 103 (obCs zero (.slice none 0 0) (.slice none 0 0)) HX1'.out (Tryz.infoObj _ _ _) rfl (obcs_one _ _ _ _ _ _ _) ?_; rw [HWZ.out]))
      go_meet
      case rel => exact ⟨rfl, HR⟩
    have c1 : ((k.toNat : Int) == 1) = false := by rw [beq_eq_false_iff_ne]; exact fun e => e1 (UInt8.toNat_inj.1 (by show k.toNat = 1; omega))
    by_cases e2 : k = 2
    · have ck : ((k.toNat : Int) == 2) = true := by rw [e2]; rfl
      subst e2
      have HNW := hid (rrnew_any y w1)
      rw [HRS.out, HSZ.out] at HNW
      go_wp2_with fail
      refine HNW.out.mono ?_; rintro e w2 ⟨rfl, hR, hb⟩
      have HR2 := hid hR
      have HZ2 : Hid (Blk w2 g 103 (obCs zero (.slice none 0 0) (.slice none 0 0))) := (hb.block g (by have := HSZ.out; omega)).trans HZ1'.out
      have HX2 : Hid (Blk w2 (g + 1) 103 (obCs zero (.slice none 0 0) (.slice none 0 0))) := (hb.block (g + 1) (by have := HSZ.out; omega)).trans HX1'.out
      have HB2 : Hid (Below g w w2) := HB1.out.trans (hb.mono (by omega))
      have hs2z : g + 2 < w2.heap.size := by obtain ⟨q, hb', -⟩ := hR; exact Blk.lt hb'
      clear hR hb HNW HZ1' HX1' HB1
      have HTR := hid (rotree_any (g + 2) t (newR t) w2 HR2.out HTL.out HTL.out)
      go_wp2_with fail
      refine HTR.out.mono ?_; rintro e w3 ⟨l, a, n, c, rfl, hE, hl, hrd, ho, hln, hnm, hfr⟩
      have hdec := decR_tree t l hl
      have hat : ObAt w3 (.slice a n c) (.slice none 0 0) (treeX l) := ⟨a, n, c, none, 0, 0, rfl, hE, rfl, rfl, by omega, .inl rfl⟩
      have hobn : ObN (treeX l) := ⟨⟨by show (-9223372036854775808 : Int) ≤ 2; decide, by show (2 : Int) ≤ 9223372036854775807; decide⟩, ⟨by show (-9223372036854775808 : Int) ≤ 0; decide, by show (0 : Int) ≤ 9223372036854775807; decide⟩, by show l.length ≤ _; omega⟩
      have hnms : ∀ e ∈ (treeX l).ents, e.name.size ≤ 1000000000 := hnm
      have hfk : ∀ k, ((Value.slice a n c).ownBlock = some k ∨ (Value.slice none 0 0).ownBlock = some k) → g + 1 < k := fun k hk => by
        rcases hk with hk | hk
        · have := hfr k hk; omega
        · simp [Value.ownBlock] at hk
      rw [HDD.out] at hdec
      have HDC : Hid (D = if wholeR (treeR (newR t)).2 = true ∧ good (treeX l) = true then (treeX l, 0) else (zero, 4)) := hdec
      clear hl hE hln hnm hfr hdec
      have HO3 := hid ho; have HAT := hid hat; have HOBN := hid hobn; have HNMS := hid hnms; have HFK := hid hfk; have HRD := hid hrd
      have HX3 := hid (HX2.out.only ho (by omega))
      have HZ3 := hid (HZ2.out.only ho (by omega))
      have HB3 : Hid (Below g w w3) := HB2.out.trans (ho.below (fun k hk => by have hk : k = g + 2 := hk; omega) (by omega))
      clear ho hat hobn hnms hfk hrd HTR HX2 HZ2 HB2 HR2 HDD
      obtain ⟨wz, hwz⟩ : ∃ wz, w3.setRow (g + 1) (obCs (treeX l) (.slice a n c) (.slice none 0 0)) = wz := ⟨_, rfl⟩
      have HWZ := hid hwz
      have HXz : Hid (Blk wz (g + 1) 103 (obCs (treeX l) (.slice a n c) (.slice none 0 0))) := by rw [← hwz]; exact setRow_heap _ _ _ _ _ _ HX3.out
      have HOz : Hid (Only (· = g + 1) w3 wz) := by rw [← hwz]; exact setRow_only _
      have HBz : Hid (Below g w wz) := by rw [← hwz]; exact below_setRow HB3.out (by omega) _
      have HZz := hid (HZ3.out.only HOz.out (by omega))
      have HAz : Hid (ObAt wz (.slice a n c) (.slice none 0 0) (treeX l)) := by rw [← hwz]; exact HAT.out.far (fun k hk => by have := HFK.out k (.inl hk); omega) (fun k hk => by have := HFK.out k (.inr hk); omega) _
      have HRz : Hid (RrAt wz (g + 2) t (treeR (newR t)).2) := HRD.out.only HOz.out (by omega)
      clear hwz
      go_wp2_with (first
        | (refine wpList_store_row rfl _ (.tmp 4) (.tmp 27) rfl (g + 1) (obCs (treeX l) (.slice a n c) (.slice none 0 0)) rfl rfl 103 (obCs zero (.slice none 0 0) (.slice none 0 0)) HX3.out (Tryz.infoObj _ _ _) rfl (obcs_one _ _ _ _ _ _ _) ?_; rw [HWZ.out]))
      clear HX3 HZ3 HB3 HO3 HAT HRD HWZ
      have HWH := hid (rrwhole_any HRz.out)
      obtain ⟨wh, hwh⟩ : ∃ b, wholeR (treeR (newR t)).2 = b := ⟨_, rfl⟩
      rw [hwh] at HWH HDC
      clear hwh
      go_wp2_with fail
      refine HWH.out.mono ?_; rintro e w5 ⟨rfl, hb5⟩
      have hgz : g + 1 < wz.heap.size := Blk.lt HXz.out
      have HX5 : Hid (Blk w5 (g + 1) 103 (obCs (treeX l) (.slice a n c) (.slice none 0 0))) := (hb5.block (g + 1) hgz).trans HXz.out
      have HZ5 : Hid (Blk w5 g 103 (obCs zero (.slice none 0 0) (.slice none 0 0))) := (hb5.block g (by omega)).trans HZz.out
      have HA5 := hid (HAz.out.later hb5)
      have HB5 : Hid (Below g w w5) := HBz.out.trans (hb5.mono (by omega))
      clear hb5 HWH HXz HZz HAz HBz HRz HOz
      cases wh with
      | true =>
        have HR : Hid (ReadAt w g w5 D) := ⟨_, _, _, _, _, _, _, HX5.out, HZ5.out, HA5.out, HOBN.out, HNMS.out, HB5.out, HFK.out, by rw [HDC.out]; simp⟩
        clear HDC HX5 HZ5 HA5 HOBN HNMS HB5 HFK
        go_wp2_with fail
        go_meet
        case rel => exact ⟨rfl, HR⟩
      | false =>
        have HD4 : Hid (D = (zero, 4)) := by show _ = _; rw [HDC.out, if_neg (by simp)]
        obtain ⟨wy, hwy⟩ : ∃ wy, w5.setRow g (obCs zero (.slice none 0 0) (.slice none 0 0)) = wy := ⟨_, rfl⟩
        have HBy : Hid (Blk wy g 103 (obCs zero (.slice none 0 0) (.slice none 0 0))) := by rw [← hwy]; exact setRow_heap _ _ _ _ _ _ HZ5.out
        have HLy : Hid (Below g w wy) := by rw [← hwy]; exact below_setRow HB5.out (Nat.le_refl _) _
        have HWY := hid hwy
        clear hwy
        go_wp2_with (first
          | (refine wpList_store_row rfl _ (.tmp 2) (.tmp 33) rfl g (obCs zero (.slice none 0 0) (.slice none 0 0)) rfl rfl 103 (obCs zero (.slice none 0 0) (.slice none 0 0)) HZ5.out (Tryz.infoObj _ _ _) rfl (obcs_one _ _ _ _ _ _ _) ?_; rw [HWY.out]))
        go_wp2_with fail
        refine bodyPost_ret (v := .tuple #[.agg (obCs zero (.slice none 0 0) (.slice none 0 0)), .int .i64 4]) ?hr2 rfl ⟨zero, .slice none 0 0, .slice none 0 0, 4, by rw [HDq.out, HD4.out], rfl, zero_at _, by rw [HG.out]; exact HLy.out, fun k hk => by simp [Value.ownBlock] at hk⟩
        case hr2 => exact rodec_results _ g 4 zero _ _ wy rfl rfl HBy.out
    have c2 : ((k.toNat : Int) == 2) = false := by rw [beq_eq_false_iff_ne]; exact fun e => e2 (UInt8.toNat_inj.1 (by show k.toNat = 2; omega))
    by_cases e3 : k = 3
    · have ck : ((k.toNat : Int) == 3) = true := by rw [e3]; rfl
      have ck2 : ((k.toNat : Int) == 2) = false := by rw [e3]; rfl
      subst e3
      have HNW := hid (rrnew_any y w1)
      rw [HRS.out, HSZ.out] at HNW
      go_wp2_with fail
      refine HNW.out.mono ?_; rintro e w2 ⟨rfl, hR, hb⟩
      have HR2 := hid hR
      have HZ2 : Hid (Blk w2 g 103 (obCs zero (.slice none 0 0) (.slice none 0 0))) := (hb.block g (by have := HSZ.out; omega)).trans HZ1'.out
      have HX2 : Hid (Blk w2 (g + 1) 103 (obCs zero (.slice none 0 0) (.slice none 0 0))) := (hb.block (g + 1) (by have := HSZ.out; omega)).trans HX1'.out
      have HB2 : Hid (Below g w w2) := HB1.out.trans (hb.mono (by omega))
      have hs2z : g + 2 < w2.heap.size := by obtain ⟨q, hb', -⟩ := hR; exact Blk.lt hb'
      clear hR hb HNW HZ1' HX1' HB1
      have HTR := hid (rocom_any (g + 2) t (newR t) w2 HR2.out HTL.out HTL.out)
      go_wp2_with fail
      refine HTR.out.mono ?_; rintro e w3 ⟨tr, l, hh, nt, a, n, c, rfl, hE, hl, hrd, ho, hhb, hfr⟩
      have hdec : decR (3 :: t) = if wholeR (comRd (newR t)) = true ∧ good (comX tr l hh nt) = true then (comX tr l hh nt, 0) else (zero, 4) := by
        by_cases hw : wholeR (comRd (newR t)) = true
        · have hx := hl (whole_bad hw)
          rw [hx, comOb_new, comRd_new] at *
          exact decR_com t hw
        · rw [if_neg (fun h => hw h.1)]
          exact decR_comno t (by rw [← comRd_new]; exact hw)
      have hat : ObAt w3 (.slice none 0 0) (.slice a n c) (comX tr l hh nt) := ⟨none, 0, 0, a, n, c, rfl, ⟨rfl, by omega, .inl rfl⟩, rfl, hE⟩
      have hobn : ObN (comX tr l hh nt) := ⟨⟨by show (-9223372036854775808 : Int) ≤ 3; decide, by show (3 : Int) ≤ 9223372036854775807; decide⟩, ⟨by show -9223372036854775808 ≤ hh; omega, by show hh ≤ 9223372036854775807; omega⟩, Nat.zero_le _⟩
      have hnms : ∀ e ∈ (comX tr l hh nt).ents, e.name.size ≤ 1000000000 := fun e he => (by cases he)
      have hfk : ∀ k, ((Value.slice none 0 0).ownBlock = some k ∨ (Value.slice a n c).ownBlock = some k) → g + 1 < k := fun k hk => by
        rcases hk with hk | hk
        · simp [Value.ownBlock] at hk
        · have := hfr k hk; omega
      rw [HDD.out] at hdec
      have HDC : Hid (D = if wholeR (comRd (newR t)) = true ∧ good (comX tr l hh nt) = true then (comX tr l hh nt, 0) else (zero, 4)) := hdec
      clear hl hE hhb hfr hdec
      have HO3 := hid ho; have HAT := hid hat; have HOBN := hid hobn; have HNMS := hid hnms; have HFK := hid hfk; have HRD := hid hrd
      have HX3 := hid (HX2.out.only ho (by omega))
      have HZ3 := hid (HZ2.out.only ho (by omega))
      have HB3 : Hid (Below g w w3) := HB2.out.trans (ho.below (fun k hk => by have hk : k = g + 2 := hk; omega) (by omega))
      clear ho hat hobn hnms hfk hrd HTR HX2 HZ2 HB2 HR2 HDD
      obtain ⟨wz, hwz⟩ : ∃ wz, w3.setRow (g + 1) (obCs (comX tr l hh nt) (.slice none 0 0) (.slice a n c)) = wz := ⟨_, rfl⟩
      have HWZ := hid hwz
      have HXz : Hid (Blk wz (g + 1) 103 (obCs (comX tr l hh nt) (.slice none 0 0) (.slice a n c))) := by rw [← hwz]; exact setRow_heap _ _ _ _ _ _ HX3.out
      have HOz : Hid (Only (· = g + 1) w3 wz) := by rw [← hwz]; exact setRow_only _
      have HBz : Hid (Below g w wz) := by rw [← hwz]; exact below_setRow HB3.out (by omega) _
      have HZz := hid (HZ3.out.only HOz.out (by omega))
      have HAz : Hid (ObAt wz (.slice none 0 0) (.slice a n c) (comX tr l hh nt)) := by rw [← hwz]; exact HAT.out.far (fun k hk => by have := HFK.out k (.inl hk); omega) (fun k hk => by have := HFK.out k (.inr hk); omega) _
      have HRz : Hid (RrAt wz (g + 2) t (comRd (newR t))) := HRD.out.only HOz.out (by omega)
      clear hwz
      go_wp2_with (first
        | (refine wpList_store_row rfl _ (.tmp 4) (.tmp 29) rfl (g + 1) (obCs (comX tr l hh nt) (.slice none 0 0) (.slice a n c)) rfl rfl 103 (obCs zero (.slice none 0 0) (.slice none 0 0)) HX3.out (Tryz.infoObj _ _ _) rfl (obcs_one _ _ _ _ _ _ _) ?_; rw [HWZ.out]))
      clear HX3 HZ3 HB3 HO3 HAT HRD HWZ
      have HWH := hid (rrwhole_any HRz.out)
      obtain ⟨wh, hwh⟩ : ∃ b, wholeR (comRd (newR t)) = b := ⟨_, rfl⟩
      rw [hwh] at HWH HDC
      clear hwh
      go_wp2_with fail
      refine HWH.out.mono ?_; rintro e w5 ⟨rfl, hb5⟩
      have hgz : g + 1 < wz.heap.size := Blk.lt HXz.out
      have HX5 : Hid (Blk w5 (g + 1) 103 (obCs (comX tr l hh nt) (.slice none 0 0) (.slice a n c))) := (hb5.block (g + 1) hgz).trans HXz.out
      have HZ5 : Hid (Blk w5 g 103 (obCs zero (.slice none 0 0) (.slice none 0 0))) := (hb5.block g (by omega)).trans HZz.out
      have HA5 := hid (HAz.out.later hb5)
      have HB5 : Hid (Below g w w5) := HBz.out.trans (hb5.mono (by omega))
      clear hb5 HWH HXz HZz HAz HBz HRz HOz
      cases wh with
      | true =>
        have HR : Hid (ReadAt w g w5 D) := ⟨_, _, _, _, _, _, _, HX5.out, HZ5.out, HA5.out, HOBN.out, HNMS.out, HB5.out, HFK.out, by rw [HDC.out]; simp⟩
        clear HDC HX5 HZ5 HA5 HOBN HNMS HB5 HFK
        go_wp2_with fail
        go_meet
        case rel => exact ⟨rfl, HR⟩
      | false =>
        have HD4 : Hid (D = (zero, 4)) := by show _ = _; rw [HDC.out, if_neg (by simp)]
        obtain ⟨wy, hwy⟩ : ∃ wy, w5.setRow g (obCs zero (.slice none 0 0) (.slice none 0 0)) = wy := ⟨_, rfl⟩
        have HBy : Hid (Blk wy g 103 (obCs zero (.slice none 0 0) (.slice none 0 0))) := by rw [← hwy]; exact setRow_heap _ _ _ _ _ _ HZ5.out
        have HLy : Hid (Below g w wy) := by rw [← hwy]; exact below_setRow HB5.out (Nat.le_refl _) _
        have HWY := hid hwy
        clear hwy
        go_wp2_with (first
          | (refine wpList_store_row rfl _ (.tmp 2) (.tmp 33) rfl g (obCs zero (.slice none 0 0) (.slice none 0 0)) rfl rfl 103 (obCs zero (.slice none 0 0) (.slice none 0 0)) HZ5.out (Tryz.infoObj _ _ _) rfl (obcs_one _ _ _ _ _ _ _) ?_; rw [HWY.out]))
        go_wp2_with fail
        refine bodyPost_ret (v := .tuple #[.agg (obCs zero (.slice none 0 0) (.slice none 0 0)), .int .i64 4]) ?hr3 rfl ⟨zero, .slice none 0 0, .slice none 0 0, 4, by rw [HDq.out, HD4.out], rfl, zero_at _, by rw [HG.out]; exact HLy.out, fun k hk => by simp [Value.ownBlock] at hk⟩
        case hr3 => exact rodec_results _ g 4 zero _ _ wy rfl rfl HBy.out
    have c3 : ((k.toNat : Int) == 3) = false := by rw [beq_eq_false_iff_ne]; exact fun e => e3 (UInt8.toNat_inj.1 (by show k.toNat = 3; omega))
    have HR : Hid (ReadAt w g w1 D) := by
      refine ⟨zero, none, 0, 0, none, 0, 0, HX1'.out, HZ1'.out, zero_at _, ⟨⟨by show (-9223372036854775808 : Int) ≤ 0; decide, by show (0 : Int) ≤ 9223372036854775807; decide⟩, ⟨by show (-9223372036854775808 : Int) ≤ 0; decide, by show (0 : Int) ≤ 9223372036854775807; decide⟩, Nat.zero_le _⟩, fun e he => (by cases he), HB1.out, fun k hk => (by simp [Value.ownBlock] at hk), ?_⟩
      rw [← HDD.out, decR_other k t e1 e2 e3 ⟨[], true⟩, if_neg (fun h => by cases h.1), if_neg (by decide)]
    clear HDD
    go_wp2_with fail
    go_meet
    case rel => exact ⟨rfl, HR⟩
  case rest =>
    obtain ⟨rfl, HR⟩ := hcut
    obtain ⟨x, ea, en, ec, pa, pn, pc, hX, hZ, hA, hN, hnm, hB, hF, hDx⟩ := HR.out
    have HX := hid hX; have HZ := hid hZ; have HA := hid hA; have HB := hid hB; have HF := hid hF; have HDX := hid hDx
    have HGD := hid (rogood_any x (.slice ea en ec) (.slice pa pn pc) wc hA hN hnm)
    have j0 : wc.cell? ⟨g + 1, 0, none⟩ = some (.int .i64 x.kind) := Blk.cell hX 0
    have j1 : wc.cell? ⟨g + 1, 1, none⟩ = some (.string x.data) := Blk.cell hX 1
    have j2 : wc.cell? ⟨g + 1, 2, none⟩ = some (.slice ea en ec) := Blk.cell hX 2
    have j3 : wc.cell? ⟨g + 1, 3, none⟩ = some (.string x.tree) := Blk.cell hX 3
    have j4 : wc.cell? ⟨g + 1, 4, none⟩ = some (.slice pa pn pc) := Blk.cell hX 4
    have j5 : wc.cell? ⟨g + 1, 5, none⟩ = some (.int .i64 x.height) := Blk.cell hX 5
    have j6 : wc.cell? ⟨g + 1, 6, none⟩ = some (.string x.note) := Blk.cell hX 6
    have hgz : g + 1 < wc.heap.size := Blk.lt hX
    unfold obCs at HGD
    clear hX hZ hA hN hnm hB hF hDx HR
    go_wp2_with fail
    refine HGD.out.mono ?_; rintro e w5 ⟨rfl, hb5⟩
    have HX5 : Hid (Blk w5 (g + 1) 103 (obCs x (.slice ea en ec) (.slice pa pn pc))) := (hb5.block (g + 1) hgz).trans HX.out
    have HZ5 : Hid (Blk w5 g 103 (obCs zero (.slice none 0 0) (.slice none 0 0))) := (hb5.block g (by omega)).trans HZ.out
    have HA5 := hid (HA.out.later hb5)
    have HB5 : Hid (Below g w w5) := HB.out.trans (hb5.mono (by omega))
    clear hb5 HGD HX HZ HA HB j0 j1 j2 j3 j4 j5 j6
    obtain ⟨gd, hgd⟩ : ∃ b, good x = b := ⟨_, rfl⟩
    rw [hgd] at HDX ⊢
    clear hgd
    cases gd with
    | false =>
      have HD4 : Hid (D = (zero, 4)) := by show _ = _; rw [HDX.out, if_neg (by simp)]
      obtain ⟨wy, hwy⟩ : ∃ wy, w5.setRow g (obCs zero (.slice none 0 0) (.slice none 0 0)) = wy := ⟨_, rfl⟩
      have HBy : Hid (Blk wy g 103 (obCs zero (.slice none 0 0) (.slice none 0 0))) := by rw [← hwy]; exact setRow_heap _ _ _ _ _ _ HZ5.out
      have HLy : Hid (Below g w wy) := by rw [← hwy]; exact below_setRow HB5.out (Nat.le_refl _) _
      have HWY := hid hwy
      clear hwy
      go_wp2_with (first
        | (refine wpList_store_row rfl _ (.tmp 2) (.tmp 37) rfl g (obCs zero (.slice none 0 0) (.slice none 0 0)) rfl rfl 103 (obCs zero (.slice none 0 0) (.slice none 0 0)) HZ5.out (Tryz.infoObj _ _ _) rfl (obcs_one _ _ _ _ _ _ _) ?_; rw [HWY.out]))
      go_wp2_with fail
      refine bodyPost_ret (v := .tuple #[.agg (obCs zero (.slice none 0 0) (.slice none 0 0)), .int .i64 4]) ?hr8 rfl ⟨zero, .slice none 0 0, .slice none 0 0, 4, by rw [HDq.out, HD4.out], rfl, zero_at _, by rw [HG.out]; exact HLy.out, fun k hk => by simp [Value.ownBlock] at hk⟩
      case hr8 => exact rodec_results _ g 4 zero _ _ wy rfl rfl HBy.out
    | true =>
      have HD0 : Hid (D = (x, 0)) := by show _ = _; rw [HDX.out, if_pos rfl]
      have j0 : w5.cell? ⟨g + 1, 0, none⟩ = some (.int .i64 x.kind) := Blk.cell HX5.out 0
      have j1 : w5.cell? ⟨g + 1, 1, none⟩ = some (.string x.data) := Blk.cell HX5.out 1
      have j2 : w5.cell? ⟨g + 1, 2, none⟩ = some (.slice ea en ec) := Blk.cell HX5.out 2
      have j3 : w5.cell? ⟨g + 1, 3, none⟩ = some (.string x.tree) := Blk.cell HX5.out 3
      have j4 : w5.cell? ⟨g + 1, 4, none⟩ = some (.slice pa pn pc) := Blk.cell HX5.out 4
      have j5 : w5.cell? ⟨g + 1, 5, none⟩ = some (.int .i64 x.height) := Blk.cell HX5.out 5
      have j6 : w5.cell? ⟨g + 1, 6, none⟩ = some (.string x.note) := Blk.cell HX5.out 6
      obtain ⟨wy, hwy⟩ : ∃ wy, w5.setRow g (obCs x (.slice ea en ec) (.slice pa pn pc)) = wy := ⟨_, rfl⟩
      have HBy : Hid (Blk wy g 103 (obCs x (.slice ea en ec) (.slice pa pn pc))) := by rw [← hwy]; exact setRow_heap _ _ _ _ _ _ HZ5.out
      have HLy : Hid (Below g w wy) := by rw [← hwy]; exact below_setRow HB5.out (Nat.le_refl _) _
      have HAy : Hid (ObAt wy (.slice ea en ec) (.slice pa pn pc) x) := by rw [← hwy]; exact HA5.out.far (fun k hk => by have := HF.out k (.inl hk); omega) (fun k hk => by have := HF.out k (.inr hk); omega) _
      have HWY := hid hwy
      clear hwy
      go_wp2_with (first
        | (refine wpList_store_row rfl _ (.tmp 2) (.tmp 38) rfl g (obCs x (.slice ea en ec) (.slice pa pn pc)) rfl rfl 103 (obCs zero (.slice none 0 0) (.slice none 0 0)) HZ5.out (Tryz.infoObj _ _ _) rfl (obcs_one _ _ _ _ _ _ _) ?_; rw [HWY.out]))
      go_wp2_with fail
      refine bodyPost_ret (v := .tuple #[.agg (obCs x (.slice ea en ec) (.slice pa pn pc)), .int .i64 0]) ?hr9 rfl ⟨x, .slice ea en ec, .slice pa pn pc, 0, by rw [HDq.out, HD0.out], rfl, HAy.out, by rw [HG.out]; exact HLy.out, fun k hk => by rw [HG.out]; have := HF.out k hk; omega⟩
      case hr9 => exact rodec_results _ g 0 x _ _ wy rfl rfl HBy.out
end Go.Proofs.YtlenfiiocmchdaaGreatDoor
/- The reference's layer 15: an object of a kind looked up: look. -/
namespace Go.Proofs.YtlenfiiocmchdaaGreatDoor
open Go.RowKit Book Pap Ojt Sn
set_option linter.unusedVariables false
set_option linter.unusedSimpArgs false

set_option maxRecDepth 100000 in
set_option maxHeartbeats 4000000 in
theorem rodec_nil (s : ByteArray) (hs : s.size = 0) (w : World) : Calls Tryz.prog 97 #[.string s] w (DecOut w s.data.toList) := by
  have HD : Hid (decR s.data.toList = (zero, 4)) := by
    have : s.data.toList = [] := by apply List.length_eq_zero_iff.1; simpa using hs
    show _ = _
    rw [this]; rfl
  have hs1 : s.toList.isEmpty = true := by rw [bstr_nil hs]; rfl
  have hs2 : s.toList = [] := bstr_nil hs
  have hs3 : (s.toList == []) = true := by rw [beq_iff_eq]; exact hs2
  go_enter Tryz.func97, Tryz.ntmps97
  go_upto_region 1 with fail
  obtain ⟨g, hg⟩ : ∃ g, w.heap.size = g := ⟨_, rfl⟩
  have HG := hid hg
  have HZ1 : Hid (Blk (w.alloc (.cells (obCs zero (.slice none 0 0) (.slice none 0 0)) 103)) g 103 (obCs zero (.slice none 0 0) (.slice none 0 0))) := by
    have := Blk.new w 103 (obCs zero (.slice none 0 0) (.slice none 0 0)); rw [hg] at this; exact this
  have HB1 : Hid (Below g w (w.alloc (.cells (obCs zero (.slice none 0 0) (.slice none 0 0)) 103))) := (Below.refl _ _).alloc (Nat.le_of_eq hg.symm) _
  rw [hg]
  rw [zero_cs] at HZ1 HB1
  clear hg
  generalize (w.alloc (.cells #[.int .i64 0, .string ⟨#[]⟩, .slice none 0 0, .string ⟨#[]⟩, .slice none 0 0, .int .i64 0, .string ⟨#[]⟩] 103)) = w2 at HZ1 HB1 ⊢
  have HZ2 : Hid (Blk w2 g 103 (obCs zero (.slice none 0 0) (.slice none 0 0))) := HZ1
  obtain ⟨wz, hwz⟩ : ∃ wz, w2.setRow g (obCs zero (.slice none 0 0) (.slice none 0 0)) = wz := ⟨_, rfl⟩
  have HBZ : Hid (Blk wz g 103 (obCs zero (.slice none 0 0) (.slice none 0 0))) := by rw [← hwz]; exact setRow_heap _ _ _ _ _ _ HZ2.out
  have HLZ : Hid (Below g w wz) := by rw [← hwz]; exact below_setRow HB1.out (Nat.le_refl _) _
  have HWZ := hid hwz
  clear hwz
  go_wp2_with (first
    | (refine wpList_store_row rfl _ (.tmp 2) (.tmp 8) rfl g (obCs zero (.slice none 0 0) (.slice none 0 0)) rfl rfl 103 (obCs zero (.slice none 0 0) (.slice none 0 0)) HZ2.out (Tryz.infoObj _ _ _) rfl (obcs_one _ _ _ _ _ _ _) ?_; rw [HWZ.out]))
  go_wp2_with fail
  refine bodyPost_ret (v := .tuple #[.agg (obCs zero (.slice none 0 0) (.slice none 0 0)), .int .i64 4]) ?hr1 rfl ⟨zero, .slice none 0 0, .slice none 0 0, 4, HD.out.symm, rfl, zero_at _, by rw [HG.out]; exact HLZ.out, fun k hk => by simp [Value.ownBlock] at hk⟩
  case hr1 => exact rodec_results _ g 4 zero _ _ wz rfl rfl HBZ.out
theorem rodec_any (s : ByteArray) (hsz : s.size ≤ 1000000000) (w : World) : Calls Tryz.prog 97 #[.string s] w (DecOut w s.data.toList) := by
  cases hl : s.data.toList with
  | nil =>
    have h0 : s.size = 0 := by have : s.data.toList.length = s.size := Array.length_toList; rw [hl] at this; simpa using this.symm
    rw [← hl]; exact rodec_nil s h0 w
  | cons k t =>
    have h := rodec_some s k t ⟨hl⟩ hsz w
    rw [hl] at h; exact h
theorem rlook_results (tmps : Array Value) (g : Nat) (er : Int) (x : Ob) (ev pv : Value) (w : World) (h2 : tmps.getD 8 undef = .pointer (some ⟨g, 0, none⟩)) (h3 : tmps.getD 9 undef = .int .i64 er) (H : Blk w g 103 (obCs x ev pv)) : (results Tryz.f52 tmps).run Tryz.prog w = .ok (.tuple #[.agg (obCs x ev pv), .int .i64 er]) w := by
  have c0 : w.cell? ⟨g, 0, none⟩ = some (.int .i64 x.kind) := Blk.cell H 0
  have c1 : w.cell? ⟨g, 1, none⟩ = some (.string x.data) := Blk.cell H 1
  have c2 : w.cell? ⟨g, 2, none⟩ = some ev := Blk.cell H 2
  have c3 : w.cell? ⟨g, 3, none⟩ = some (.string x.tree) := Blk.cell H 3
  have c4 : w.cell? ⟨g, 4, none⟩ = some pv := Blk.cell H 4
  have c5 : w.cell? ⟨g, 5, none⟩ = some (.int .i64 x.height) := Blk.cell H 5
  have c6 : w.cell? ⟨g, 6, none⟩ = some (.string x.note) := Blk.cell H 6
  have h2' : tmps[8]?.getD undef = .pointer (some ⟨g, 0, none⟩) := by simpa using h2
  have h3' : tmps[9]?.getD undef = .int .i64 er := by simpa using h3
  simp [results, Tryz.results52, go_sem, h2', h3', c0, c1, c2, c3, c4, c5, c6, obCs]
set_option maxRecDepth 100000 in
set_option maxHeartbeats 8000000 in
theorem rlook_any (a : Option Addr) (n c : Nat) (fs : List Fi) (id : ByteArray) (kind lacks : Int) (w : World) (h : FisAt w a n fs) (hz : SrcSz (getF fs)) : Calls Tryz.prog 52 #[.slice a n c, .string id, .int .i64 kind, .int .i64 lacks] w (LookOut w (lookK (getF fs) id kind lacks).1 (lookK (getF fs) id kind lacks).2) := by
  have hget : ∀ id W, Below w.heap.size w W → Calls Tryz.prog 67 #[.slice a n c, .string id] W (GetOut (getF fs) id W) := fun id W hW => r14get_any a n c fs id W (h.later hW)
  obtain ⟨G, hGe⟩ : ∃ G, getF fs = G := ⟨_, rfl⟩
  rw [hGe] at hget hz ⊢
  have HGT := hid hget
  clear hGe h
  have HLK : Hid (lookK G id kind lacks = match G id with | none => (zero, lacks) | some t => match Sw.decO t with | none => (zero, 4) | some x => if x.kind ≠ kind then (zero, 22) else (x, 0)) := rfl
  clear hget
  go_enter Tryz.func52, Tryz.ntmps52
  go_upto_region 1 with fail
  obtain ⟨g, hg⟩ : ∃ g, w.heap.size = g := ⟨_, rfl⟩
  have HG := hid hg
  have HZ1 : Hid (Blk (w.alloc (.cells (obCs zero (.slice none 0 0) (.slice none 0 0)) 103)) g 103 (obCs zero (.slice none 0 0) (.slice none 0 0))) := by
    have := Blk.new w 103 (obCs zero (.slice none 0 0) (.slice none 0 0)); rw [hg] at this; exact this
  have HB1 : Hid (Below g w (w.alloc (.cells (obCs zero (.slice none 0 0) (.slice none 0 0)) 103))) := (Below.refl _ _).alloc (Nat.le_of_eq hg.symm) _
  rw [hg]
  rw [zero_cs] at HZ1 HB1
  clear hg
  generalize (w.alloc (.cells #[.int .i64 0, .string ⟨#[]⟩, .slice none 0 0, .string ⟨#[]⟩, .slice none 0 0, .int .i64 0, .string ⟨#[]⟩] 103)) = w1 at HZ1 HB1 ⊢
  have hgl1 := Blk.lt HZ1.out
  go_wp2_with fail
  refine (HGT.out id w1 (by rw [HG.out]; exact HB1.out)).mono ?_; rintro e w2 ⟨rfl, hb2⟩
  have HZ2 : Hid (Blk w2 g 103 #[.int .i64 0, .string ⟨#[]⟩, .slice none 0 0, .string ⟨#[]⟩, .slice none 0 0, .int .i64 0, .string ⟨#[]⟩]) := (hb2.block g hgl1).trans HZ1.out
  have HB2 : Hid (Below g w w2) := HB1.out.trans (hb2.mono (Nat.le_of_lt hgl1))
  clear hb2 HZ1 HB1
  cases hG : G id with
  | none =>
    rw [hG] at HLK
    have HL : Hid (lookK G id kind lacks = (zero, lacks)) := HLK.out
    clear HLK
    obtain ⟨wz, hwz⟩ : ∃ wz, w2.setRow g (obCs zero (.slice none 0 0) (.slice none 0 0)) = wz := ⟨_, rfl⟩
    have HBZ : Hid (Blk wz g 103 (obCs zero (.slice none 0 0) (.slice none 0 0))) := by rw [← hwz]; exact setRow_heap _ _ _ _ _ _ HZ2.out
    have HLZ : Hid (Below g w wz) := by rw [← hwz]; exact below_setRow HB2.out (Nat.le_refl _) _
    have HWZ := hid hwz
    clear hwz
    go_wp2_with (first
      | (refine wpList_store_row rfl _ (.tmp 8) (.tmp 22) rfl g (obCs zero (.slice none 0 0) (.slice none 0 0)) rfl rfl 103 (obCs zero (.slice none 0 0) (.slice none 0 0)) HZ2.out (Tryz.infoObj _ _ _) rfl (obcs_one _ _ _ _ _ _ _) ?_; rw [HWZ.out]))
    go_wp2_with fail
    refine bodyPost_ret (v := .tuple #[.agg (obCs zero (.slice none 0 0) (.slice none 0 0)), .int .i64 lacks]) ?hr1 rfl ⟨.slice none 0 0, .slice none 0 0, ?_, ?_, ?_, fun k hk => by simp [Value.ownBlock] at hk⟩
    case hr1 => exact rlook_results _ g lacks zero _ _ wz rfl rfl HBZ.out
    · rw [HL.out]
    · rw [HL.out]; exact zero_at _
    · rw [HG.out]; exact HLZ.out
  | some tx =>
    have hzt := hz id tx hG
    rw [hG] at HLK
    clear hz hG
    go_wp2_with fail
    refine (rodec_any tx hzt w2).mono ?_; rintro e w3 ⟨x, ev, pv, er, hdr, rfl, hO3, hb3, hf3⟩
    rw [decO_R] at hdr
    have hgl2 := Blk.lt HZ2.out
    have HZ3 : Hid (Blk w3 g 103 #[.int .i64 0, .string ⟨#[]⟩, .slice none 0 0, .string ⟨#[]⟩, .slice none 0 0, .int .i64 0, .string ⟨#[]⟩]) := (hb3.block g hgl2).trans HZ2.out
    have HB3 : Hid (Below g w w3) := HB2.out.trans (hb3.mono (Nat.le_of_lt hgl2))
    have HF3 : Hid (∀ k, (ev.ownBlock = some k ∨ pv.ownBlock = some k) → g < k) := fun k hk => by have := hf3 k hk; omega
    have hgl3 := Blk.lt HZ3.out
    have HO3 := hid hO3
    obtain ⟨ea, en, ec, pa, pn, pc, rfl, -, rfl, -⟩ := hO3
    have HX4 : Hid (Blk (w3.alloc (.cells (obCs x (.slice ea en ec) (.slice pa pn pc)) 103)) w3.heap.size 103 (obCs x (.slice ea en ec) (.slice pa pn pc))) := Blk.new w3 _ _
    have HZ4 : Hid (Blk (w3.alloc (.cells (obCs x (.slice ea en ec) (.slice pa pn pc)) 103)) g 103 #[.int .i64 0, .string ⟨#[]⟩, .slice none 0 0, .string ⟨#[]⟩, .slice none 0 0, .int .i64 0, .string ⟨#[]⟩]) := HZ3.out.alloc _
    have HB4 : Hid (Below g w (w3.alloc (.cells (obCs x (.slice ea en ec) (.slice pa pn pc)) 103))) := HB3.out.alloc (Nat.le_of_lt hgl3) _
    have HO4 : Hid (ObAt (w3.alloc (.cells (obCs x (.slice ea en ec) (.slice pa pn pc)) 103)) (.slice ea en ec) (.slice pa pn pc) x) := HO3.out.later ((Below.refl _ _).alloc (Nat.le_refl _) _)
    unfold obCs at HX4 HZ4 HB4 HO4 ⊢
    clear hb3 hf3 HO3 HZ3 HB3 HZ2 HB2
    go_upto_region 5 with fail
    generalize hw4 : (w3.alloc (.cells #[.int .i64 x.kind, .string x.data, .slice ea en ec, .string x.tree, .slice pa pn pc, .int .i64 x.height, .string x.note] 103)) = w4 at HX4 HZ4 HB4 HO4 ⊢
    generalize hg4 : w3.heap.size = g4 at HX4 ⊢
    have hne4 : g ≠ g4 := by omega
    clear hw4 hg4
    have HZC : Hid (Blk w4 g 103 (obCs zero (.slice none 0 0) (.slice none 0 0))) := by rw [zero_cs]; exact HZ4.out
    have HXC : Hid (Blk w4 g4 103 (obCs x (.slice ea en ec) (.slice pa pn pc))) := HX4.out
    clear HZ4 HX4
    cases hD : Sw.decO tx with
    | none =>
      rw [hD] at hdr HLK
      have HL : Hid (lookK G id kind lacks = (zero, 4)) := HLK.out
      obtain ⟨hdx, hde⟩ := Prod.mk.inj hdr
      subst hde
      clear hdr hdx HLK hD
      obtain ⟨wz, hwz⟩ : ∃ wz, w4.setRow g (obCs zero (.slice none 0 0) (.slice none 0 0)) = wz := ⟨_, rfl⟩
      have HBZ : Hid (Blk wz g 103 (obCs zero (.slice none 0 0) (.slice none 0 0))) := by rw [← hwz]; exact setRow_heap _ _ _ _ _ _ HZC.out
      have HLZ : Hid (Below g w wz) := by rw [← hwz]; exact below_setRow HB4.out (Nat.le_refl _) _
      have HWZ := hid hwz
      clear hwz
      go_wp2_with (first
        | (refine wpList_store_row rfl _ (.tmp 8) (.tmp 31) rfl g (obCs zero (.slice none 0 0) (.slice none 0 0)) rfl rfl 103 (obCs zero (.slice none 0 0) (.slice none 0 0)) HZC.out (Tryz.infoObj _ _ _) rfl (obcs_one _ _ _ _ _ _ _) ?_; rw [HWZ.out]))
      go_wp2_with fail
      refine bodyPost_ret (v := .tuple #[.agg (obCs zero (.slice none 0 0) (.slice none 0 0)), .int .i64 4]) ?hr2 rfl ⟨.slice none 0 0, .slice none 0 0, ?_, ?_, ?_, fun k hk => by simp [Value.ownBlock] at hk⟩
      case hr2 => exact rlook_results _ g 4 zero _ _ wz rfl rfl HBZ.out
      · rw [HL.out]
      · rw [HL.out]; exact zero_at _
      · rw [HG.out]; exact HLZ.out
    | some y =>
      rw [hD] at hdr HLK
      obtain ⟨hdx, hde⟩ := Prod.mk.inj hdr
      subst hde hdx
      clear hdr hD
      have k0 : w4.cell? ⟨g4, 0, none⟩ = some (.int .i64 x.kind) := Blk.cell HXC.out 0
      by_cases hk : x.kind = kind
      · have HL : Hid (lookK G id kind lacks = (x, 0)) := by
          show _ = _
          rw [HLK.out]
          show (if x.kind ≠ kind then (zero, (22 : Int)) else (x, 0)) = _
          rw [if_neg (by simp [hk])]
        have q1 : (x.kind != kind) = false := by simp [hk]
        have q2 : (x.kind == kind) = true := by simp [hk]
        have k1 : w4.cell? ⟨g4, 1, none⟩ = some (.string x.data) := Blk.cell HXC.out 1
        have k2 : w4.cell? ⟨g4, 2, none⟩ = some (.slice ea en ec) := Blk.cell HXC.out 2
        have k3 : w4.cell? ⟨g4, 3, none⟩ = some (.string x.tree) := Blk.cell HXC.out 3
        have k4 : w4.cell? ⟨g4, 4, none⟩ = some (.slice pa pn pc) := Blk.cell HXC.out 4
        have k5 : w4.cell? ⟨g4, 5, none⟩ = some (.int .i64 x.height) := Blk.cell HXC.out 5
        have k6 : w4.cell? ⟨g4, 6, none⟩ = some (.string x.note) := Blk.cell HXC.out 6
        obtain ⟨wz, hwz⟩ : ∃ wz, w4.setRow g (obCs x (.slice ea en ec) (.slice pa pn pc)) = wz := ⟨_, rfl⟩
        have HBZ : Hid (Blk wz g 103 (obCs x (.slice ea en ec) (.slice pa pn pc))) := by rw [← hwz]; exact setRow_heap _ _ _ _ _ _ HZC.out
        have HLZ : Hid (Below g w wz) := by rw [← hwz]; exact below_setRow HB4.out (Nat.le_refl _) _
        have HOZ : Hid (ObAt wz (.slice ea en ec) (.slice pa pn pc) x) := by rw [← hwz]; exact HO4.out.far (fun k hk => by have := HF3.out k (.inl hk); omega) (fun k hk => by have := HF3.out k (.inr hk); omega) _
        have HWZ := hid hwz
        clear hwz HLK hk
        go_wp2_with (first
          | (refine wpList_store_row rfl _ (.tmp 8) (.tmp 37) rfl g (obCs x (.slice ea en ec) (.slice pa pn pc)) rfl rfl 103 (obCs zero (.slice none 0 0) (.slice none 0 0)) HZC.out (Tryz.infoObj _ _ _) rfl (obcs_one _ _ _ _ _ _ _) ?_; rw [HWZ.out]))
        go_wp2_with fail
        refine bodyPost_ret (v := .tuple #[.agg (obCs x (.slice ea en ec) (.slice pa pn pc)), .int .i64 0]) ?hr3 rfl ⟨.slice ea en ec, .slice pa pn pc, ?_, ?_, ?_, fun k hk => by rw [HG.out]; exact Nat.le_of_lt (HF3.out k hk)⟩
        case hr3 => exact rlook_results _ g 0 x _ _ wz rfl rfl HBZ.out
        · rw [HL.out]
        · rw [HL.out]; exact HOZ.out
        · rw [HG.out]; exact HLZ.out
      · have HL : Hid (lookK G id kind lacks = (zero, 22)) := by
          show _ = _
          rw [HLK.out]
          show (if x.kind ≠ kind then (zero, (22 : Int)) else (x, 0)) = _
          rw [if_pos hk]
        have q1 : (x.kind != kind) = true := by simp [hk]
        have q2 : (x.kind == kind) = false := by simp [hk]
        obtain ⟨wz, hwz⟩ : ∃ wz, w4.setRow g (obCs zero (.slice none 0 0) (.slice none 0 0)) = wz := ⟨_, rfl⟩
        have HBZ : Hid (Blk wz g 103 (obCs zero (.slice none 0 0) (.slice none 0 0))) := by rw [← hwz]; exact setRow_heap _ _ _ _ _ _ HZC.out
        have HLZ : Hid (Below g w wz) := by rw [← hwz]; exact below_setRow HB4.out (Nat.le_refl _) _
        have HWZ := hid hwz
        clear hwz HLK hk
        go_wp2_with (first
          | (refine wpList_store_row rfl _ (.tmp 8) (.tmp 36) rfl g (obCs zero (.slice none 0 0) (.slice none 0 0)) rfl rfl 103 (obCs zero (.slice none 0 0) (.slice none 0 0)) HZC.out (Tryz.infoObj _ _ _) rfl (obcs_one _ _ _ _ _ _ _) ?_; rw [HWZ.out]))
        go_wp2_with fail
        refine bodyPost_ret (v := .tuple #[.agg (obCs zero (.slice none 0 0) (.slice none 0 0)), .int .i64 22]) ?hr4 rfl ⟨.slice none 0 0, .slice none 0 0, ?_, ?_, ?_, fun k hk => by simp [Value.ownBlock] at hk⟩
        case hr4 => exact rlook_results _ g 22 zero _ _ wz rfl rfl HBZ.out
        · rw [HL.out]
        · rw [HL.out]; exact zero_at _
        · rw [HG.out]; exact HLZ.out
end Go.Proofs.YtlenfiiocmchdaaGreatDoor
/- The reference's Split and Join. -/
namespace Go.Proofs.YtlenfiiocmchdaaGreatDoor
open Go.RowKit Pap
set_option linter.unusedVariables false

/-- where the cutting stands -/
def RS (L : List UInt8) (i f : Nat) (out : List ByteArray) : Prop :=
  (f ≤ i ∧ i ≤ L.length ∧ pieces L = ls out ++ pieces (L.drop f) ∧ 47 ∉ (L.take i).drop f ∨ i = L.length + 1 ∧ pieces L = ls out) ∧ (∀ x ∈ ls out, goodL x = true) ∧ out.length ≤ i
theorem drop_split {L : List UInt8} {i f : Nat} (hf : f ≤ i) (hi : i ≤ L.length) : L.drop f = (L.take i).drop f ++ L.drop i := by
  conv => lhs; rw [← List.take_append_drop i L]
  rw [List.drop_append_of_le_length (by rw [List.length_take]; omega)]
theorem piece_slash {L : List UInt8} {i f : Nat} (hf : f ≤ i) (hi : i < L.length) (hc : L[i] = 47) (hn : 47 ∉ (L.take i).drop f) : pieces (L.drop f) = (L.take i).drop f :: pieces (L.drop (i + 1)) := by
  rw [drop_split hf (by omega), List.drop_eq_getElem_cons hi, hc, pieces_cut _ _ hn]
theorem piece_end {L : List UInt8} {i f : Nat} (hf : f ≤ i) (hi : i = L.length) (hn : 47 ∉ (L.take i).drop f) : pieces (L.drop f) = [(L.take i).drop f] := by
  have e : L.drop i = [] := List.drop_eq_nil_of_le (by omega)
  rw [drop_split hf (by omega), e, List.append_nil, pieces_last _ hn]
theorem ls_snoc (l : List ByteArray) (x : ByteArray) : ls (l ++ [x]) = ls l ++ [x.data.toList] := by simp [ls]
theorem rs_start (L : List UInt8) : RS L 0 0 [] := ⟨.inl ⟨by omega, by omega, rfl, by simp⟩, by simp [ls], by simp⟩
theorem rs_on {L : List UInt8} {i f : Nat} {out : List ByteArray} (h : RS L i f out) (hi : i < L.length) (hc : L[i] ≠ 47) : RS L (i + 1) f out := by
  obtain ⟨h1, h2, h3⟩ := h
  obtain ⟨h4, h5, h6, h7⟩ := h1.resolve_right (by omega)
  refine ⟨.inl ⟨by omega, by omega, h6, ?_⟩, h2, by omega⟩
  rw [List.take_add_one, List.getElem?_eq_getElem hi, List.drop_append_of_le_length (by rw [List.length_take]; omega)]
  intro hm
  rcases List.mem_append.1 hm with hm | hm
  · exact h7 hm
  · simp at hm; exact hc hm.symm
theorem rs_cut {L : List UInt8} {i f : Nat} {out : List ByteArray} {p : ByteArray} (h : RS L i f out) (hi : i ≤ L.length) (hc : (h : i < L.length) → L[i] = 47) (hp : p.data.toList = (L.take i).drop f) (hg : goodL p.data.toList = true) : RS L (i + 1) (i + 1) (out ++ [p]) := by
  obtain ⟨h1, h2, h3⟩ := h
  obtain ⟨h4, h5, h6, h7⟩ := h1.resolve_right (by omega)
  refine ⟨?_, ?_, by simp; omega⟩
  · by_cases hlt : i < L.length
    · refine .inl ⟨by omega, by omega, ?_, by simp⟩
      rw [h6, piece_slash h4 hlt (hc hlt) h7, ls_snoc, hp]; simp
    · refine .inr ⟨by omega, ?_⟩
      rw [h6, piece_end h4 (by omega) h7, ls_snoc, hp]
  · intro x hx
    rw [ls_snoc] at hx
    rcases List.mem_append.1 hx with hx | hx
    · exact h2 x hx
    · simp at hx; subst hx; exact hg
theorem rs_bad {L : List UInt8} {i f : Nat} {out : List ByteArray} (h : RS L i f out) (hi : i ≤ L.length) (hc : (h : i < L.length) → L[i] = 47) (hg : goodL ((L.take i).drop f) = false) : splitE L = 30 := by
  obtain ⟨h1, h2, h3⟩ := h
  obtain ⟨h4, h5, h6, h7⟩ := h1.resolve_right (by omega)
  unfold splitE checkE
  rw [if_pos]
  refine .inr ⟨_, ?_, hg⟩
  rw [h6]
  refine List.mem_append.2 (.inr ?_)
  by_cases hlt : i < L.length
  · rw [piece_slash h4 hlt (hc hlt) h7]; simp
  · rw [piece_end h4 (by omega) h7]; simp
theorem rs_done {L : List UInt8} {i f : Nat} {out : List ByteArray} (h : RS L i f out) (hi : L.length < i) : pieces L = ls out ∧ splitE L = if 64 < out.length then 33 else 0 := by
  obtain ⟨h1, h2, h3⟩ := h
  obtain ⟨h4, h5⟩ := h1.resolve_left (by omega)
  refine ⟨h5, ?_⟩
  unfold splitE checkE
  rw [h5, if_neg, ls_length]
  rintro (h | ⟨x, hx, hg⟩)
  · exact pieces_ne L (h5.trans h)
  · rw [h2 x hx] at hg; cases hg
theorem extract_list (s : ByteArray) (f i : Nat) : (s.extract f i).data.toList = (s.data.toList.take i).drop f := by
  simp [ByteArray.data_extract, Array.toList_extract, List.extract_eq_take_drop, List.drop_take]

theorem own_empty (w : World) : (w.alloc (.cells #[] 9)).ownsRow w.heap.size 9 1 (.slice (some ⟨w.heap.size, 0, none⟩) 0 0) 0 [] :=
  ⟨rfl, .inr ⟨w.heap.size, 0, #[], rfl, Nat.le_refl _, by show (w.heap.push _)[w.heap.size]? = _; simp, Nat.le_refl _, by unfold maxLen; omega, rfl, rfl⟩⟩

set_option maxHeartbeats 8000000 in
theorem rsplit_any (s : ByteArray) (w : World) (hsz : s.size ≤ 1048576) :
    Calls Tryz.prog 57 #[.string s] w fun e w' => ∃ v, e = .returned (.tuple #[v, .int .i64 (splitE s.data.toList)]) ∧ SplitsTo s v w' ∧ Below w.heap.size w w' := by
  obtain ⟨i0, hi0, hz0, hz1, hz2⟩ := info_parts Tryz.infoS
  have hlen : s.data.toList.length = s.size := by simp
  go_enter Tryz.func57, Tryz.ntmps57
  go_wp2
  go_loopw [4, 5, 6] (fun v from' at' wr => ∃ (i f : Nat) (out : List ByteArray), i ≤ s.size + 1 ∧ at' = .int .i64 i ∧ from' = .int .i64 f ∧ wr.ownsRow w.heap.size 9 1 v out.length (svals out) ∧ Below w.heap.size w wr ∧ Hid (RS s.data.toList i f out)) (fun _ _ i _ => s.size + 1 - (intOf i).toNat)
  case atStart => exact ⟨0, 0, [], by omega, rfl, rfl, own_empty w, (Below.refl _ _).alloc (Nat.le_refl _) _, rs_start _⟩
  case round =>
    obtain ⟨i, f, out, hi, rfl, rfl, hown, hbel, HR⟩ := hrel
    have hbs := hbel.size
    have hout := HR.out.2.2
    by_cases hle : i ≤ s.size
    · have hfi : f ≤ i := by
        rcases HR.out.1 with h | h
        · exact h.1
        · omega
      have hx := extract_list s f i
      have hpz : (s.extract f i).size ≤ 9223372036854775807 := by
        have h1 : (s.extract f i).data.toList.length = (s.extract f i).size := Array.length_toList
        rw [hx, List.length_drop, List.length_take] at h1; omega
      by_cases hlt : i < s.size
      · by_cases hc : s[i] = 47
        · have e1 : ((s[i].toNat : Int) != 47) = false := by rw [hc]; rfl
          have e2 : ((s[i].toNat : Int) == 47) = true := by rw [hc]; rfl
          cases hg : goodL (s.extract f i).data.toList
          · have HX := hid (rs_bad HR.out (by omega) (fun h => hc) (by rw [← hx]; exact hg))
            have HG := hid hg; clear hg hx hc
            go_wp2_with (go_at_call 100; refine (rgood_any _ _ hpz).mono ?_; rw [HG.out]; rintro e w1 ⟨rfl, rfl⟩)
            go_ret2
            exact ⟨_, by rw [HX.out] <;> rfl, ⟨none, 0, [], rfl, ⟨rfl, by simp, .inl rfl⟩, by unfold namesOf; rw [HX.out]; rfl, fun _ => rfl⟩, hbel⟩
          · have HN := hid (rs_cut HR.out (by omega) (fun h => hc) hx hg)
            have HG := hid hg; clear hg hx hc
            go_wp2_with (first
              | (go_at_call 100; refine (rgood_any _ _ hpz).mono ?_; rw [HG.out]; rintro e w1 ⟨rfl, rfl⟩)
              | (at_builtin; refine wpList_append_own _ rfl (.tmp 30) (.tmp 35) 56 rfl w.heap.size 9 i0 (.string ⟨#[]⟩) 1 16 Tryz.underlying56 hi0 hz0 hz1 hz2 rfl (by decide) _ _ _ rfl (hown.alloc _) _ 1 1 [.string (s.extract f i)] rfl rfl (cellNew1 _ _ _) (one_bytes rfl) (by unfold maxLen; omega) (by omega) (by simp; omega) ?_; intro v' w3 hown' hgrow _))
            go_roundw
            case rel => exact ⟨i + 1, i + 1, out ++ [s.extract f i], by omega, by go_num, by go_num, own_string_snoc hown', below_grown1 hbel hown _ hbs hgrow, HN⟩
            case measure => simp [intOf]; omega
        · have e1 : ((s[i].toNat : Int) != 47) = true := by
            rw [bne_iff_ne]; intro e; apply hc; apply UInt8.toNat_inj.1; show s[i].toNat = 47; omega
          have e2 : ((s[i].toNat : Int) == 47) = false := by
            rw [beq_eq_false_iff_ne]; intro e; apply hc; apply UInt8.toNat_inj.1; show s[i].toNat = 47; omega
          have HN := hid (rs_on HR.out (by omega) hc)
          clear hc hx
          go_wp2
          go_roundw
          case rel => exact ⟨i + 1, f, out, by omega, by go_num, rfl, hown, hbel, HN⟩
          case measure => simp [intOf]; omega
      · obtain rfl : i = s.size := by omega
        cases hg : goodL (s.extract f s.size).data.toList
        · have HX := hid (rs_bad HR.out (by omega) (fun h => absurd h (by omega)) (by rw [← hx]; exact hg))
          have HG := hid hg; clear hg hx
          go_wp2_with (go_at_call 100; refine (rgood_any _ _ hpz).mono ?_; rw [HG.out]; rintro e w1 ⟨rfl, rfl⟩)
          go_ret2
          exact ⟨_, by rw [HX.out] <;> rfl, ⟨none, 0, [], rfl, ⟨rfl, by simp, .inl rfl⟩, by unfold namesOf; rw [HX.out]; rfl, fun _ => rfl⟩, hbel⟩
        · have HN := hid (rs_cut HR.out (by omega) (fun h => absurd h (by omega)) hx hg)
          have HG := hid hg; clear hg hx
          go_wp2_with (first
            | (go_at_call 100; refine (rgood_any _ _ hpz).mono ?_; rw [HG.out]; rintro e w1 ⟨rfl, rfl⟩)
            | (at_builtin; refine wpList_append_own _ rfl (.tmp 30) (.tmp 35) 56 rfl w.heap.size 9 i0 (.string ⟨#[]⟩) 1 16 Tryz.underlying56 hi0 hz0 hz1 hz2 rfl (by decide) _ _ _ rfl (hown.alloc _) _ 1 1 [.string (s.extract f s.size)] rfl rfl (cellNew1 _ _ _) (one_bytes rfl) (by unfold maxLen; omega) (by omega) (by simp; omega) ?_; intro v' w3 hown' hgrow _))
          go_roundw
          case rel => exact ⟨s.size + 1, s.size + 1, out ++ [s.extract f s.size], by omega, by go_num, by go_num, own_string_snoc hown', below_grown1 hbel hown _ hbs hgrow, HN⟩
          case measure => simp [intOf]
    · obtain ⟨D1, D2⟩ := rs_done HR.out (by omega)
      have HD1 := hid D1
      obtain ⟨va, vc, rfl, hS⟩ := own_strs hown (by omega)
      by_cases h64 : 64 < out.length
      · have HX : Hid (splitE s.data.toList = 33) := by rw [if_pos h64] at D2; exact D2
        have g1 : (64 : Int) < out.length := by omega
        clear D1 D2
        go_wp2
        go_ret2
        exact ⟨_, by rw [HX.out] <;> rfl, ⟨none, 0, [], rfl, ⟨rfl, by simp, .inl rfl⟩, by unfold namesOf; rw [HX.out]; rfl, fun _ => rfl⟩, hbel⟩
      · have HX : Hid (splitE s.data.toList = 0) := by rw [if_neg h64] at D2; exact D2
        have g1 : ¬ (64 : Int) < out.length := by omega
        clear D1 D2
        go_wp2
        go_ret2
        exact ⟨_, by rw [HX.out] <;> rfl, ⟨va, vc, out, rfl, hS, by unfold namesOf; rw [if_pos HX.out, HD1.out], fun h => absurd HX.out h⟩, hbel⟩
end Go.Proofs.YtlenfiiocmchdaaGreatDoor
/- The reference's Join, Compare, Within. -/
namespace Go.Proofs.YtlenfiiocmchdaaGreatDoor
open Go.RowKit Pap
set_option linter.unusedVariables false

theorem joinL_snoc (a : List (List UInt8)) (x : List UInt8) (h : a ≠ []) : joinL (a ++ [x]) = joinL a ++ 47 :: x := joinL_app a [x] h (by simp)
theorem ba_append (a b : ByteArray) : (a ++ b).data.toList = a.data.toList ++ b.data.toList := by simp [ByteArray.data_append]
end Go.Proofs.YtlenfiiocmchdaaGreatDoor
