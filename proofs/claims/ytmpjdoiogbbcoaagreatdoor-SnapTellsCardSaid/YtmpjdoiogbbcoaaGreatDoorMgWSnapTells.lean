/- The walk of SnapTells. -/
import Derived.Test.YtmpjdoiogbbcoaaGreatDoorMgL
namespace Go.Proofs.YtmpjdoiogbbcoaaGreatDoor
open Go.RowKit Book Pap Ojt Sn
set_option linter.unusedVariables false
set_option linter.unusedSimpArgs false

theorem diff_both {G : Sw.Src} {a b : ByteArray} {er er' : Int} {D D' : List Ch}
  (h : if (listS G a).2 ≠ 0 then er = (listS G a).2 ∧ D = [] else if (listS G b).2 ≠ 0 then er = (listS G b).2 ∧ D = [] else er = 0 ∧ IsDiff (listS G a).1 (listS G b).1 D)
  (h' : RDiffIs (listS G a) (listS G b) er' D') : er' = er ∧ D' = D := by
 unfold RDiffIs at h'
 split at h
 ·rename_i h0
  rw [if_pos h0] at h'
  exact ⟨by rw [h.1, h'.1], by rw [h.2, h'.2]⟩
 ·rename_i h0
  rw [if_neg h0] at h'
  split at h
  ·rename_i h1
   rw [if_pos h1] at h'
   exact ⟨by rw [h.1, h'.1], by rw [h.2, h'.2]⟩
  ·rename_i h1
   rw [if_neg h1] at h'
   exact ⟨by rw [h.1, h'.1], by rw [h'.2]; exact (rdiff_one h.2).symm⟩
theorem ChsAt.later {w w' : World} {a : Option Addr} {n : Nat} {l : List Ch} (h : ChsAt w a n l) (hb : Below w.heap.size w w') : ChsAt w' a n l := by
 obtain ⟨h1, h2, h3⟩ := h
 refine ⟨h1, h2, h3.imp id ?_⟩
 rintro ⟨b, off, e, hc⟩
 refine ⟨b, off, e, fun j hj => ?_⟩
 obtain ⟨q0, q1, q2⟩ := hc j hj
 have bl : b < w.heap.size := World.block_lt_of_cell? w _ q0
 exact ⟨(hb.cell (p := ⟨b, off + j * 3, none⟩) bl).trans q0, (hb.cell (p := ⟨b, off + j * 3 + 1, none⟩) bl).trans q1, (hb.cell (p := ⟨b, off + j * 3 + 2, none⟩) bl).trans q2⟩
theorem facts_pars {G : Sw.Src} {id : ByteArray} {er : Int} {L : List Fa} (h : FactsIs G id er L) (hp : ∀ q, (obF G q).pars.length ≤ 8) : ∀ x ∈ L, x.ps.length ≤ 1000000 := by
 intro x hx
 rcases h with ⟨_, _, rfl⟩ | ⟨_, _, ⟨_, rfl⟩ | ⟨_, l, _, _, rfl⟩⟩
 ·cases hx
 ·cases hx
 ·obtain ⟨q, _, rfl⟩ := List.mem_map.1 hx
  have := hp q
  show (obF G q).pars.length ≤ _
  omega
theorem slog_few {G : Sw.Src} {id : ByteArray} {er : Int} {S U : List ByteArray} (h : SLogIs G id er S) (hU : Univ G id U) : S.length ≤ 1000000 := by
 obtain ⟨e0, L, -, h2⟩ := h
 rcases h2 with ⟨g1, g2, rfl⟩ | ⟨-, h3⟩
 ·exact Nat.zero_le _
 ·rcases h3 with ⟨_, rfl, _⟩ | ⟨h0, _, hpw, hmem⟩
  ·exact Nat.zero_le _
  ·have h : S.Nodup := hpw.imp (fun {p q} h e => by subst e; have : upQ (hG G) p p = false := upK_irr _ _; rw [this] at h; cases h)
   have h1 := nodup_le h (m := U) (fun q hq => hU.1 q ((hmem q).1 hq))
   have := hU.2.1
   omega
set_option maxRecDepth 100000 in
set_option maxHeartbeats 16000000 in
theorem walk_SnapTells (a0 : Option Addr) (n0 c0 : Nat) (l0 : List Fi) (ia ib : ByteArray) (W : World) (w0 : FisAt W a0 n0 l0) (nc0 : n0 ≤ c0) (z0 : ∀ f ∈ l0, f.path.size ≤ 140737488355328 ∧ f.data.size ≤ 140737488355328)
  (hia : ia.size ≤ 140737488355328) (hib : ib.size ≤ 140737488355328) (hm : MaxAt W) :
  Calls Tryz.prog 3 #[.slice a0 n0 c0, .string ia, .string ib] W fun e w' => e = .returned (.bool true) ∧ Below W.heap.size W w' := by
 have HM := hid hm
 have H0 := hid w0
 have Z0 := hid z0
 have HA := hid (awakeG_any W hm)
 have HIA : Hid (ia.size ≤ maxLen) := by unfold Hid maxLen; omega
 clear hm w0 z0
 go_enter Tryz.func3, Tryz.ntmps3
 go_wp2_with fail
 refine HA.out.mono ?_; rintro e w1 ⟨rfl, hb1⟩
 have HB1 := hid hb1
 have HV0 := hid (vast_any a0 n0 c0 l0 w1 (H0.out.later hb1) Z0.out)
 clear hb1 HA
 go_wp2_with fail
 refine HV0.out.mono ?_; rintro e w2 ⟨r0, rfl, hb2, hr0⟩
 have HB2 := hid (below_then HB1.out hb2)
 clear hb2 HV0 HB1
 cases r0 with
 | true =>
  go_wp2_with fail
  go_ret
  exact ⟨rfl, HB2.out⟩
 | false =>
  obtain ⟨hn0, hs0⟩ := hr0 rfl
  have Y0 := hid (sumF_each hs0)
  have HZG : Hid (SrcSz (getF l0)) := src_small (fun f hf => by have := Y0.out f hf; omega)
  have HU := hid (univ_of l0 (by have := H0.out.1; omega) ia)
  have HN0 := hid hn0
  clear hr0 hs0
  have hb3 : Below w2.heap.size w2 (w2.alloc (.cells #[.slice a0 n0 c0] 31)) := (Below.refl _ _).alloc (Nat.le_refl _) _
  have HB3 := hid (below_then HB2.out hb3)
  have HK3 : Hid (BookAt (w2.alloc (.cells #[.slice a0 n0 c0] 31)) w2.heap.size l0) := ⟨a0, n0, c0, Blk.new w2 _ _, H0.out.later HB3.out⟩
  have HLA := hid (diff_any 29 (.pointer (some ⟨w2.heap.size, 0, none⟩)) (getF l0) HZG.out ia ib _ (book_src _ _ _ HK3.out) (HM.out.later HB3.out))
  clear hb3 HB2 HK3
  go_wp2_with fail
  generalize (w2.alloc (.cells #[.slice a0 n0 c0] 31)) = w3 at HB3 HLA ⊢
  refine HLA.out.mono ?_; rintro e w4 ⟨xa, xn, xc, D, er, rfl, hE4, hb4, hd4⟩
  have HB4 := hid (below_then HB3.out hb4)
  have HLB := hid (rdiff_any a0 n0 c0 l0 HZG.out ia ib w4 (H0.out.later HB4.out))
  have HE4 := hid hE4
  have HD4 := hid hd4
  clear hb4 HB3 HLA hE4 hd4
  go_wp2_with fail
  refine HLB.out.mono ?_; rintro e w5 ⟨ya, yn, yc, D', er', rfl, hE5, hb5, hd5⟩
  obtain ⟨rfl, rfl⟩ := diff_both HD4.out hd5
  have HB5 := hid (below_then HB4.out hb5)
  have HX := hid (HE4.out.later hb5)
  have HY := hid hE5
  obtain rfl : yn = xn := by rw [← hE5.1, ← HE4.out.1]
  have hyn := hE5.2.1
  clear hb5 HB4 HLB hE5 hd5 HE4 HD4
  have cne : ((yn : Int) != yn) = false := by simp
  have cne2 : (er' != er') = false := by simp
  go_wp2_with fail
  go_loopw [11] (fun iv wr => ∃ i : Nat, i ≤ yn ∧ iv = .int .i64 i ∧ Hid (Below w5.heap.size w5 wr)) (fun iv _ => yn - (intOf iv).toNat)
  case atStart => exact ⟨0, Nat.zero_le _, rfl, Below.refl _ _⟩
  case round =>
   obtain ⟨i, hi, rfl, HB⟩ := hrel
   by_cases hlt : i < yn
   ·have ci : (i : Int) < yn := by omega
    have ci0 : (0 : Int) ≤ (i : Int) := by omega
    obtain ⟨-, -, h3⟩ := HX.out.later HB.out
    obtain ⟨-, -, h4⟩ := HY.out.later HB.out
    obtain ⟨xb, xo, rfl, hc⟩ := h3.resolve_left (by omega)
    obtain ⟨yb, yo, rfl, hd⟩ := h4.resolve_left (by omega)
    obtain ⟨q0, q1, q2⟩ := hc i hlt
    obtain ⟨r0, r1, r2⟩ := hd i hlt
    obtain ⟨⟨X0, X1, X2⟩, hx⟩ : ∃ x, D'.getD i noCh = x := ⟨_, rfl⟩
    rw [hx] at q0 q1 q2 r0 r1 r2
    simp only at q0 q1 q2 r0 r1 r2
    clear hc hd h3 h4 hx
    go_wp2_with fail
    go_quiet (fail)
    generalize hqz : World.drewN wr _ = wz
    have HZW : Hid (Below w5.heap.size w5 wz) := (by rw [← hqz]; exact below_drewN HB.out _)
    clear hqz
    go_wp2_with fail
    go_roundw
    case rel => first | exact ⟨i + 1, by omega, by go_num, HZW⟩ | ((repeat apply Exists.intro); exact ⟨⟨i + 1, by omega, by go_num, HZW⟩, rfl⟩)
    case measure => simp [intOf]; omega
   ·have hin : yn = i := by omega
    subst hin
    have ci : ¬ (yn : Int) < yn := by omega
    rename World => w6
    have HB6 : Hid (Below W.heap.size W w6) := below_then HB5.out HB.out
    clear HB HX HY HB5
    have hb7 : Below w6.heap.size w6 (w6.alloc (.cells #[.slice a0 n0 c0] 31)) := (Below.refl _ _).alloc (Nat.le_refl _) _
    have HB7 := hid (below_then HB6.out hb7)
    have HK7 : Hid (BookAt (w6.alloc (.cells #[.slice a0 n0 c0] 31)) w6.heap.size l0) := ⟨a0, n0, c0, Blk.new w6 _ _, H0.out.later HB7.out⟩
    have HFA := hid (facts_any 29 (.pointer (some ⟨w6.heap.size, 0, none⟩)) (getF l0) HZG.out ia _ HU.out _ (book_src _ _ _ HK7.out))
    clear hb7 HB6 HK7
    go_wp2_with fail
    generalize (w6.alloc (.cells #[.slice a0 n0 c0] 31)) = w7 at HB7 HFA ⊢
    refine HFA.out.mono ?_; rintro e w8 ⟨ef, FL, fa, fn, fc, fs, hfi, rfl, hfc, hff, hb8⟩
    have HB8 := hid (below_then HB7.out hb8)
    have HFB := hid (rfacts_any a0 n0 c0 l0 HZG.out ia _ HU.out w8 (H0.out.later HB8.out))
    have HFI := hid hfi; have HFC := hid hfc; have HFF := hid hff
    clear hfi hfc hff hb8 HB7 HFA
    go_wp2_with fail
    refine HFB.out.mono ?_; rintro e w9 ⟨eg, GL, ga, gn, gc, gs, hgi, rfl, hgc, hgf, hb9⟩
    obtain ⟨e1, e2⟩ := facts_one hgi HFI.out
    subst e1; subst e2
    have HB9 := hid (below_then HB8.out hb9)
    have HSM := hid (facts_same fa ga fn gn fc gc fs gs GL w9 (HFC.out.later hb9) hgc (HFF.out.later hb9) hgf (facts_pars hgi HU.out.2.2))
    have cne3 : (eg != eg) = false := by simp
    clear hgi hgc hgf hb9 HB8 HFB HFI HFC HFF
    go_wp2_with fail
    refine HSM.out.mono ?_; rintro e wa ⟨rfl, hba⟩
    have HBa := hid (below_then HB9.out hba)
    clear hba HSM HB9
    have hbb : Below wa.heap.size wa (wa.alloc (.cells #[.slice a0 n0 c0] 31)) := (Below.refl _ _).alloc (Nat.le_refl _) _
    have HBb := hid (below_then HBa.out hbb)
    have HKb : Hid (BookAt (wa.alloc (.cells #[.slice a0 n0 c0] 31)) wa.heap.size l0) := ⟨a0, n0, c0, Blk.new wa _ _, H0.out.later HBb.out⟩
    have HGA := hid (slog_any 29 (.pointer (some ⟨wa.heap.size, 0, none⟩)) (getF l0) HZG.out ia HIA.out _ HU.out _ (book_src _ _ _ HKb.out))
    clear hbb HBa HKb
    go_wp2_with fail
    generalize (wa.alloc (.cells #[.slice a0 n0 c0] 31)) = wb at HBb HGA ⊢
    refine HGA.out.mono ?_; rintro e wc ⟨el, SL, sa, sn, sc, hsi, rfl, hst, hbc⟩
    have HBc := hid (below_then HBb.out hbc)
    have HGB := hid (r15log_any a0 n0 c0 l0 HZG.out ia _ HU.out wc (H0.out.later HBc.out))
    have HSI := hid hsi; have HST := hid hst
    clear hsi hst hbc HBb HGA
    go_wp2_with fail
    refine HGB.out.mono ?_; rintro e wd ⟨em, TL, ta, tn, tc, hti, rfl, htt, hbd⟩
    obtain ⟨e1, e2⟩ := slog_one hti HSI.out
    subst e1; subst e2
    have HBd := hid (below_then HBc.out hbd)
    have HTX := hid (texts_same sa ta sn tn sc tc TL wd (HST.out.later hbd) htt (by have := slog_few hti HU.out; have := HST.out.1; omega))
    clear hti htt hbd HBc HGB HSI HST
    go_wp2_with fail
    refine HTX.out.mono ?_; rintro e we ⟨rfl, hbe, -⟩
    have HBe := hid (below_then HBd.out hbe)
    clear hbe HTX HBd
    have cne4 : (em == em) = true := by simp
    go_wp2_with fail
    go_ret
    exact ⟨rfl, HBe.out⟩
end Go.Proofs.YtmpjdoiogbbcoaaGreatDoor
