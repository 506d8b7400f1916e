/- Texts in a row: ObX, Bytes, BkRead, BkCrc, Oct, OctB, ObD, ObE, ObF. -/
import Derived.Test.YtmpjdoiogbbcoaaGreatDoorMhA
import Derived.Deep.AppendSrc
import Derived.Laws.BitsAllLaws
/- Objects: what can be, walked: goodCommit, Good. -/
namespace Go.Proofs.YtmpjdoiogbbcoaaGreatDoor
open Go.RowKit Book Pap Ojt
set_option linter.unusedVariables false

/-- an object's seven cells -/
def obCs (x : Ob) (ev pv : Value) : Array Value := #[.int .i64 x.kind, .string x.data, ev, .string x.tree, pv, .int .i64 x.height, .string x.note]
/-- the lists of an object in memory -/
def ObAt (w : World) (ev pv : Value) (x : Ob) : Prop :=
 ∃ ea en ec pa pn pc, ev = .slice ea en ec ∧ EntsAt w ea en x.ents ∧ pv = .slice pa pn pc ∧ StrsAt w pa pn x.pars
theorem ObAt.later {w w' : World} {ev pv : Value} {x : Ob} (h : ObAt w ev pv x) (hb : Below w.heap.size w w') : ObAt w' ev pv x := by
 obtain ⟨ea, en, ec, pa, pn, pc, h1, h2, h3, h4⟩ := h
 exact ⟨ea, en, ec, pa, pn, pc, h1, h2.later hb, h3, h4.later hb⟩
def heightB (x : Ob) : Bool := decide (0 ≤ x.height) && (decide (x.height ≤ 1073741824) && decide (0 < x.height ↔ x.pars ≠ []))
set_option maxRecDepth 100000 in
set_option maxHeartbeats 4000000 in
theorem goodcommit_any (x : Ob) (ev pv : Value) (w : World) (h : ObAt w ev pv x) (hh : -9223372036854775808 ≤ x.height ∧ x.height ≤ 9223372036854775807) : Calls Tryz.prog 176 #[.agg (obCs x ev pv)] w fun e w' => e = .returned (.bool (goodCommit x)) ∧ Below w.heap.size w w' := by
 obtain ⟨ea, en, ec, pa, pn, pc, rfl, -, rfl, hp⟩ := h
 have hpl := hp.1
 obtain ⟨R, hR⟩ : ∃ R, goodCommit x = R := ⟨_, rfl⟩
 have HR : Hid (R = (goodPars x.pars && heightB x && (decide (x.tree.size = 32) && decide (x.note.size ≤ 1000)))) := by rw [← hR]; rfl
 rw [hR]
 clear hR
 obtain ⟨kd, data, ents, tree, pars, height, note⟩ := x
 unfold obCs
 simp only at hp hpl HR hh ⊢
 have HX1 : Hid (Blk (w.alloc (.cells #[.int .i64 kd, .string data, .slice ea en ec, .string tree, .slice pa pn pc, .int .i64 height, .string note] 98)) w.heap.size 98 #[.int .i64 kd, .string data, .slice ea en ec, .string tree, .slice pa pn pc, .int .i64 height, .string note]) := Blk.new w _ _
 have HB1 : Hid (Below w.heap.size w (w.alloc (.cells #[.int .i64 kd, .string data, .slice ea en ec, .string tree, .slice pa pn pc, .int .i64 height, .string note] 98))) := (Below.refl _ _).alloc (Nat.le_refl _) _
 have HP1 : Hid (StrsAt (w.alloc (.cells #[.int .i64 kd, .string data, .slice ea en ec, .string tree, .slice pa pn pc, .int .i64 height, .string note] 98)) pa pn pars) := hp.later HB1.out
 clear hp
 go_enter Tryz.func176, Tryz.ntmps176
 go_upto_region 1 with fail
 obtain ⟨g, hg⟩ : ∃ g, w.heap.size = g := ⟨_, rfl⟩
 have HG := hid hg
 rw [hg] at HX1 HB1 ⊢
 clear hg
 generalize (w.alloc (.cells #[.int .i64 kd, .string data, .slice ea en ec, .string tree, .slice pa pn pc, .int .i64 height, .string note] 98)) = w1 at HX1 HB1 HP1 ⊢
 have k3 : w1.cell? ⟨g, 3, none⟩ = some (.string tree) := Blk.cell HX1.out 3
 have k4 : w1.cell? ⟨g, 4, none⟩ = some (.slice pa pn pc) := Blk.cell HX1.out 4
 have k5 : w1.cell? ⟨g, 5, none⟩ = some (.int .i64 height) := Blk.cell HX1.out 5
 have k6 : w1.cell? ⟨g, 6, none⟩ = some (.string note) := Blk.cell HX1.out 6
 have HRS := hid (rising_any pa pn pc pars w1 HP1.out)
 have HCF : Hid (∀ W, Below w1.heap.size w1 W → Calls Tryz.prog 187 #[.slice pa pn pc, .func (.func 215) #[] #[]] W fun e w' => e = .returned (.bool (pars.any fun p => !decide (p.size = 32))) ∧ Below W.heap.size W w') := fun W hW =>
  containsFunc_grows 215 #[] (enters_of Tryz.func215 (by kernel_rfl) rfl) (fun p => !decide (p.size = 32)) pa pn pc pars W (HP1.out.later hW) (fun V hV y hy => (oddid_any y V).mono fun e w' h => ⟨h.1, by rw [← h.2]; exact Below.refl _ _⟩)
 have HGP : Hid (goodPars pars = (decide (pn ≤ 8) && (risingB pars && !(pars.any fun p => !decide (p.size = 32))))) := by
  show _ = _
  unfold goodPars
  rw [hpl]
  congr 2
  rw [List.any_eq_not_all_not]
  simp
 obtain ⟨GP, hGP⟩ : ∃ G, goodPars pars = G := ⟨_, rfl⟩
 obtain ⟨rs, hrs⟩ : ∃ r, risingB pars = r := ⟨_, rfl⟩
 obtain ⟨an, han⟩ : ∃ r, (pars.any fun p => !decide (p.size = 32)) = r := ⟨_, rfl⟩
 rw [hGP] at HR HGP
 rw [hrs] at HRS HGP
 rw [han] at HCF HGP
 clear hGP hrs han
 go_upto_region 2 with fail
 go_cut [4] (fun s4 wx => s4 = .bool GP ∧ Hid (Below w1.heap.size w1 wx))
 case first =>
  by_cases h8 : pn ≤ 8
  ·have g8 : (pn : Int) ≤ 8 := by omega
   cases rs
   ·have hG : GP = false := by rw [HGP.out]; simp
    subst hG
    go_wp2_with (first
     | (go_at_call 214; refine HRS.out.mono ?_; rintro e w' ⟨rfl, q, rfl⟩))
    go_meet
    case rel => exact ⟨rfl, below_drewN (Below.refl _ _) _⟩
   ·have hG : GP = !an := by rw [HGP.out]; simp [h8]
    subst hG
    go_wp2_with fail
    refine HRS.out.mono ?_; rintro e w' ⟨rfl, q, rfl⟩
    have k4' : (w1.drewN q).cell? ⟨g, 4, none⟩ = some (.slice pa pn pc) := k4
    go_wp2_with fail
    refine (HCF.out _ (below_drewN (Below.refl _ _) q)).mono ?_; rintro e w' ⟨rfl, hb⟩
    have HB := hid (below_then (below_drewN (Below.refl _ w1) q) hb)
    clear hb
    go_wp2_with fail
    go_meet
    case rel => exact ⟨rfl, HB⟩
  ·have g8 : ¬ (pn : Int) ≤ 8 := by omega
   have hG : GP = false := by rw [HGP.out]; simp [h8]
   subst hG
   go_wp2_with fail
   go_meet
   case rel => exact ⟨rfl, Below.refl _ _⟩
 case rest =>
  obtain ⟨rfl, HBc⟩ := hcut
  have hgl : g < w1.heap.size := Blk.lt HX1.out
  have HXc : Hid (Blk wc g 98 #[.int .i64 kd, .string data, .slice ea en ec, .string tree, .slice pa pn pc, .int .i64 height, .string note]) := (HBc.out.block g hgl).trans HX1.out
  have HBW : Hid (Below g w wc) := HB1.out.trans (HBc.out.mono (Nat.le_of_lt hgl))
  clear k3 k4 k5 k6 HX1 HB1 HP1 HBc HRS HCF HGP
  have k3 : wc.cell? ⟨g, 3, none⟩ = some (.string tree) := Blk.cell HXc.out 3
  have k4 : wc.cell? ⟨g, 4, none⟩ = some (.slice pa pn pc) := Blk.cell HXc.out 4
  have k5 : wc.cell? ⟨g, 5, none⟩ = some (.int .i64 height) := Blk.cell HXc.out 5
  have k6 : wc.cell? ⟨g, 6, none⟩ = some (.string note) := Blk.cell HXc.out 6
  have HHB : Hid (heightB ⟨kd, data, ents, tree, pars, height, note⟩ = (decide (0 ≤ height) && (decide (height ≤ 1073741824) && decide (0 < height ↔ 0 < pn)))) := by
   show _ = _
   unfold heightB
   have : (pars ≠ []) ↔ 0 < pn := by rw [← hpl]; exact List.length_pos_iff.symm
   simp only [this]
  obtain ⟨HT, hHT⟩ : ∃ t, heightB ⟨kd, data, ents, tree, pars, height, note⟩ = t := ⟨_, rfl⟩
  rw [hHT] at HR HHB
  clear hHT
  go_upto_region 3 with fail
  go_cut [5] (fun s5 wx => s5 = .bool HT ∧ wx = wc)
  case first =>
   by_cases h0 : 0 ≤ height
   ·by_cases h1 : height ≤ 1073741824
    ·by_cases h2 : 0 < height
     ·by_cases h3 : 0 < pn
      ·have hT : HT = true := by rw [HHB.out]; simp [h0, h1, h2, h3]
       subst hT
       have g3 : (0 : Int) < pn := by omega
       go_wp2_with fail
       go_meet
       case rel => exact ⟨rfl, rfl⟩
      ·have hT : HT = false := by rw [HHB.out]; simp [h2, h3]
       subst hT
       have g3 : ¬ (0 : Int) < pn := by omega
       go_wp2_with fail
       go_meet
       case rel => exact ⟨rfl, rfl⟩
     ·by_cases h3 : 0 < pn
      ·have hT : HT = false := by rw [HHB.out]; simp [h2, h3]
       subst hT
       have g3 : (0 : Int) < pn := by omega
       go_wp2_with fail
       go_meet
       case rel => exact ⟨rfl, rfl⟩
      ·have hT : HT = true := by rw [HHB.out]; simp [h0, h1, h2, h3]
       subst hT
       have g3 : ¬ (0 : Int) < pn := by omega
       go_wp2_with fail
       go_meet
       case rel => exact ⟨rfl, rfl⟩
    ·have hT : HT = false := by rw [HHB.out]; simp [h1]
     subst hT
     go_wp2_with fail
     go_meet
     case rel => exact ⟨rfl, rfl⟩
   ·have hT : HT = false := by rw [HHB.out]; simp [h0]
    subst hT
    go_wp2_with fail
    go_meet
    case rel => exact ⟨rfl, rfl⟩
  case rest =>
   obtain ⟨rfl, rfl⟩ := hcut
   have HIG := hid (good_any tree wc)
   obtain ⟨t, ht⟩ : ∃ t, decide (tree.size = 32) = t := ⟨_, rfl⟩
   rw [ht] at HIG HR
   clear ht
   cases GP
   ·have hr : R = false := by rw [HR.out]; rfl
    subst hr
    go_wp2_with fail
    go_ret
    exact ⟨rfl, by rw [HG.out]; exact HBW.out⟩
   ·cases HT
    ·have hr : R = false := by rw [HR.out]; rfl
     subst hr
     go_wp2_with fail
     go_ret
     exact ⟨rfl, by rw [HG.out]; exact HBW.out⟩
    ·cases t
     ·have hr : R = false := by rw [HR.out]; rfl
      subst hr
      go_wp2_with fail
      refine HIG.out.mono ?_; rintro e w' ⟨rfl, rfl⟩
      go_wp2_with fail
      go_ret
      exact ⟨rfl, by rw [HG.out]; exact HBW.out⟩
     ·by_cases hn : note.size ≤ 1000
      ·have hr : R = true := by rw [HR.out]; simp [hn]
       subst hr
       have g3 : (note.size : Int) ≤ 1000 := by omega
       go_wp2_with fail
       refine HIG.out.mono ?_; rintro e w' ⟨rfl, rfl⟩
       go_wp2_with fail
       go_ret
       exact ⟨rfl, by rw [HG.out]; exact HBW.out⟩
      ·have hr : R = false := by rw [HR.out]; simp [hn]
       subst hr
       have g3 : ¬ (note.size : Int) ≤ 1000 := by omega
       go_wp2_with fail
       refine HIG.out.mono ?_; rintro e w' ⟨rfl, rfl⟩
       go_wp2_with fail
       go_ret
       exact ⟨ret_bool (decide_eq_false (by omega)), by rw [HG.out]; exact HBW.out⟩
/-- an object whose numbers are Go's -/
def ObN (x : Ob) : Prop := (-9223372036854775808 ≤ x.kind ∧ x.kind ≤ 9223372036854775807) ∧ (-9223372036854775808 ≤ x.height ∧ x.height ≤ 9223372036854775807) ∧ x.ents.length ≤ 1000000
set_option maxRecDepth 100000 in
set_option maxHeartbeats 4000000 in
theorem obgood_any (x : Ob) (ev pv : Value) (w : World) (h : ObAt w ev pv x) (hn : ObN x) : Calls Tryz.prog 116 #[.agg (obCs x ev pv)] w fun e w' => e = .returned (.bool (good x)) ∧ Below w.heap.size w w' := by
 obtain ⟨hk, hh, hel⟩ := hn
 have h0 := h
 obtain ⟨ea, en, ec, pa, pn, pc, rfl, he, rfl, hp⟩ := h
 have hB : Below w.heap.size w (w.alloc (.cells (obCs x (.slice ea en ec) (.slice pa pn pc)) 98)) := (Below.refl _ _).alloc (Nat.le_refl _) _
 have HCM := hid (fun W (hW : Below w.heap.size w W) => goodcommit_any x (.slice ea en ec) (.slice pa pn pc) W (h0.later hW) hh)
 have HTR := hid (fun W (hW : Below w.heap.size w W) => goodtree_any ea en ec x.ents W (he.later hW) (by have := he.1; omega))
 have HGD : Hid (good x = if x.kind = 1 then decide (x.data.size ≤ 65536) else if x.kind = 2 then goodTree x.ents else if x.kind = 3 then goodCommit x else false) := rfl
 obtain ⟨R, hR⟩ : ∃ R, good x = R := ⟨_, rfl⟩
 rw [hR] at HGD ⊢
 clear hR h0 he hp
 obtain ⟨kd, data, ents, tree, pars, height, note⟩ := x
 unfold obCs at HCM hB ⊢
 simp only at HCM HTR HGD hk hh hel hB ⊢
 have HX1 : Hid (Blk (w.alloc (.cells #[.int .i64 kd, .string data, .slice ea en ec, .string tree, .slice pa pn pc, .int .i64 height, .string note] 98)) w.heap.size 98 #[.int .i64 kd, .string data, .slice ea en ec, .string tree, .slice pa pn pc, .int .i64 height, .string note]) := Blk.new w _ _
 have HB1 := hid hB
 clear hB
 go_enter Tryz.func116, Tryz.ntmps116
 go_upto_region 1 with fail
 obtain ⟨g, hg⟩ : ∃ g, w.heap.size = g := ⟨_, rfl⟩
 have HG := hid hg
 rw [hg] at HX1 HB1 HCM HTR ⊢
 clear hg
 generalize (w.alloc (.cells #[.int .i64 kd, .string data, .slice ea en ec, .string tree, .slice pa pn pc, .int .i64 height, .string note] 98)) = w1 at HX1 HB1 ⊢
 have k0 : w1.cell? ⟨g, 0, none⟩ = some (.int .i64 kd) := Blk.cell HX1.out 0
 have k1 : w1.cell? ⟨g, 1, none⟩ = some (.string data) := Blk.cell HX1.out 1
 have k2 : w1.cell? ⟨g, 2, none⟩ = some (.slice ea en ec) := Blk.cell HX1.out 2
 have k3 : w1.cell? ⟨g, 3, none⟩ = some (.string tree) := Blk.cell HX1.out 3
 have k4 : w1.cell? ⟨g, 4, none⟩ = some (.slice pa pn pc) := Blk.cell HX1.out 4
 have k5 : w1.cell? ⟨g, 5, none⟩ = some (.int .i64 height) := Blk.cell HX1.out 5
 have k6 : w1.cell? ⟨g, 6, none⟩ = some (.string note) := Blk.cell HX1.out 6
 have HTR1 := hid (HTR.out w1 HB1.out)
 have HCM1 := hid (HCM.out w1 HB1.out)
 have hgs : g ≤ w1.heap.size := by have := HB1.out.size; rw [HG.out] at this; exact this
 clear HTR HCM
 by_cases h1 : kd = 1
 ·subst h1
  have hr : R = decide (data.size ≤ 65536) := by rw [HGD.out, if_pos rfl]
  by_cases hd : data.size ≤ 65536
  ·have hr2 : R = true := by rw [hr]; simp [hd]
   subst hr2
   have g3 : (data.size : Int) ≤ 65536 := by omega
   clear hr
   go_wp2_with fail
   go_ret
   exact ⟨rfl, by rw [HG.out]; exact HB1.out⟩
  ·have hr2 : R = false := by rw [hr]; simp [hd]
   subst hr2
   have g3 : ¬ (data.size : Int) ≤ 65536 := by omega
   clear hr
   go_wp2_with fail
   go_ret
   exact ⟨rfl, by rw [HG.out]; exact HB1.out⟩
 ·have b1 : (kd == 1) = false := by rw [beq_eq_false_iff_ne]; exact h1
  by_cases h2 : kd = 2
  ·subst h2
   have hr : goodTree ents = R := by rw [HGD.out, if_neg (by decide), if_pos rfl]
   rw [hr] at HTR1
   clear hr
   go_wp2_with fail
   refine HTR1.out.mono ?_; rintro e w' ⟨rfl, hb⟩
   have HB2 : Hid (Below g w w') := HB1.out.trans (hb.mono hgs)
   clear hb
   go_wp2_with fail
   go_ret
   exact ⟨rfl, by rw [HG.out]; exact HB2.out⟩
  ·have b2 : (kd == 2) = false := by rw [beq_eq_false_iff_ne]; exact h2
   by_cases h3 : kd = 3
   ·subst h3
    have hr : goodCommit ⟨3, data, ents, tree, pars, height, note⟩ = R := by rw [HGD.out, if_neg (by decide), if_neg (by decide), if_pos rfl]
    rw [hr] at HCM1
    clear hr
    go_wp2_with fail
    refine HCM1.out.mono ?_; rintro e w' ⟨rfl, hb⟩
    have HB2 : Hid (Below g w w') := HB1.out.trans (hb.mono hgs)
    clear hb
    go_wp2_with fail
    go_ret
    exact ⟨rfl, by rw [HG.out]; exact HB2.out⟩
   ·have b3 : (kd == 3) = false := by rw [beq_eq_false_iff_ne]; exact h3
    have hr : R = false := by rw [HGD.out, if_neg h1, if_neg h2, if_neg h3]
    subst hr
    go_wp2_with fail
    go_ret
    exact ⟨rfl, by rw [HG.out]; exact HB1.out⟩
end Go.Proofs.YtmpjdoiogbbcoaaGreatDoor
/- A text wound on a row of bytes of the program's own. -/
namespace Go.Proofs.YtmpjdoiogbbcoaaGreatDoor
open Go.RowKit
set_option linter.unusedVariables false

theorem byteCells_bvals (s : ByteArray) : byteCells s = bvals s.data.toList := rfl
theorem run_append_str (w : World) (v : Value) (l : List UInt8) (s : ByteArray) (hown : w.ownsRow 0 5 1 v l.length (bvals l)) (hb : l.length + s.size ≤ 140737488355328) (ty : TypeId) :
  ∃ v' w', (Builtin.append_ #[59, 9] ty #[v, .string s]).run Tryz.prog w = .ok v' w' ∧ w'.ownsRow 0 5 1 v' (l ++ s.data.toList).length (bvals (l ++ s.data.toList)) ∧ w.grownBy w' v.ownBlock ∧ (v'.ownBlock = v.ownBlock ∨ v'.ownBlock = some w.heap.size) := by
 obtain ⟨i, hi, hz, hz1, hz2⟩ := info_parts Tryz.infoB
 have hu := Tryz.underlying59
 have hsl : s.data.toList.length = s.size := Array.length_toList
 have hll : (l ++ s.data.toList).length = l.length + s.size := by rw [List.length_append, hsl]
 have hsrc : Src Tryz.prog i.size 9 (.string s) s.size (byteCells s) w := by rw [hz1]; exact Src.ofString w Tryz.underlying9 s
 have grow : ∀ (base : Option Addr) (c : Nat), (Builtin.firstCells i.size l.length (.slice base l.length c)).run Tryz.prog w.drew = .ok (bvals l).toArray w.drew → c < l.length + s.size →
   ∃ v' w', (Builtin.append_ #[59, 9] ty #[.slice base l.length c, .string s]).run Tryz.prog w = .ok v' w' ∧ w'.ownsRow 0 5 1 v' (l ++ s.data.toList).length (bvals (l ++ s.data.toList)) ∧ w.grownBy w' (Value.slice base l.length c).ownBlock ∧ v'.ownBlock = some w.heap.size := by
  intro base c hold hg
  have hr := run_append_grow_src w 59 9 ty 5 i _ hu hi hz base l.length c (bvals l) hold (.string s) s.size (byteCells s) hsrc hg (by omega) (by rw [hz2]; exact growslice_fits hg (by omega))
  refine ⟨_, _, hr, ⟨by rw [bvals_length, Nat.mul_one], .inr ⟨w.heap.size, _, _, by rw [hll], Nat.zero_le _, heap_alloc_new w.drew _, ?_, ?_, ?_, ?_⟩⟩, ⟨rfl, rfl, rfl, by simp, fun k hk _ => Below.heap_alloc w.drew _ k hk⟩, rfl⟩
  ·rw [hll]; exact grownCap_ge w _ _ _
  ·exact grownCap_le_maxLen w _ _ _ (by unfold maxLen; omega)
  ·have := grownCap_ge w (l.length + s.size) c 5
   simp [Builtin.zeroCells, Value.cells, byteCells_bvals, bvals_length, hsl]
   omega
  ·rw [byteCells_bvals, ← bvals_append, Array.toList_append, Nat.mul_one, List.take_append_of_le_length (by simp [bvals_length])]
   rw [List.take_of_length_le (by simp [bvals_length])]
 rcases hown.2 with ⟨rfl, h0⟩ | ⟨g, cap, cur, rfl, hbg, hg, hnc, hcm, hsz, htk⟩
 ·by_cases hs0 : s.size = 0
  ·have e1 : s.data.toList = [] := List.length_eq_zero_iff.1 (by omega)
   refine ⟨.slice none 0 0, w, ?_, ?_, ⟨rfl, rfl, rfl, Nat.le_refl _, fun _ _ _ => rfl⟩, .inl rfl⟩
   ·simp [Builtin.append_, run_underlying hu, run_underlying Tryz.underlying9, sizeOf, typeInfo, hi, Builtin.lenOf, hs0, Builtin.firstCells]
   ·rw [e1, List.append_nil]; exact hown
  ·obtain ⟨v', w', h1, h2, h3, h4⟩ := grow none 0 (by
    have : l = [] := List.length_eq_zero_iff.1 h0
    subst this
    exact run_firstCells_none w.drew i.size 0 0 0) (by omega)
   rw [h0] at h1
   exact ⟨v', w', h1, h2, h3, .inr h4⟩
 ·rw [Nat.mul_one] at hsz htk
  have hcur : Blk w g 5 cur := hg
  by_cases hr : l.length + s.size ≤ cap
  ·have h := run_append_room_src w 59 9 ty 5 i hu hi g 0 l.length cap (.string s) s.size (byteCells s) hsrc hr
    (fun j hj => by rw [hcur.cell, Array.getElem?_eq_getElem (by rw [byteCells_bvals, bvals_length, hsl] at hj; rw [hz1]; omega)]; rfl) (fun j hj => hcur.frozen _)
   rw [hz1, Nat.mul_one, Nat.zero_add] at h
   refine ⟨_, _, h, ⟨by rw [bvals_length, Nat.mul_one], .inr ⟨g, cap, _, by rw [hll], Nat.zero_le _, heap_setCells _ _ _ _ hg, by omega, hcm, by rw [wr_size, Nat.mul_one, hsz], ?_⟩⟩, grownBy_of_only (only_setCells (F := fun k => some g = some k) (.inl rfl) _ _ _ (Only.refl _ w)), .inl rfl⟩
   rw [byteCells_bvals, wr_toList _ _ _ (by rw [bvals_length, hsl]; omega), htk, ← bvals_append, Nat.mul_one, List.take_append_of_le_length (by simp [bvals_length]), List.take_of_length_le (by simp [bvals_length])]
  ·obtain ⟨v', w', h1, h2, h3, h4⟩ := grow (some ⟨g, 0, none⟩) cap (by
    rw [hz1]
    exact run_firstCells_some w.drew 1 l.length ⟨g, 0, none⟩ l.length cap (bvals l) (by rw [bvals_length, Nat.mul_one]) (fun j u hj => hown.cells (g := g) rfl j u hj)) (by omega)
   exact ⟨v', w', h1, h2, h3, .inr h4⟩
theorem wpList_append_str {ops : Array Oper} {rest : List Oper} {o : Oper} {a : Act} {w : World} {Q : Exit → Act → World → Prop} (hgd : o.guard = none) (sx x : Operand)
  (ho : o.op = .call { callee := .builtin .append, args := #[sx, x], argTypes := #[59, 9] }) (v : Value) (l : List UInt8) (s : ByteArray) (hs : a.eval sx = v) (hx : a.eval x = .string s)
  (hown : w.ownsRow 0 5 1 v l.length (bvals l)) (hb : l.length + s.size ≤ 140737488355328)
  (h : ∀ v' w', w'.ownsRow 0 5 1 v' (l ++ s.data.toList).length (bvals (l ++ s.data.toList)) → w.grownBy w' v.ownBlock → (v'.ownBlock = v.ownBlock ∨ v'.ownBlock = some w.heap.size) → wpList Tryz.prog ops Q rest (a.put o.dst v') w') :
  wpList Tryz.prog ops Q (o :: rest) a w := by
 refine wpList_plain hgd fun K hK => ?_
 obtain ⟨v', w', hr, h2, h3, h4⟩ := run_append_str w v l s hown hb o.type
 unfold Oper.wp execOp
 simp only [ho, resolve, invoke, builtin, Sem.run_bind, Sem.run_pure, Result.andThen_ok, List.map_toArray, List.map_cons, List.map_nil, hs, hx, hr]
 exact hK _ _ (h v' w' h2 h3 h4)
end Go.Proofs.YtmpjdoiogbbcoaaGreatDoor
/- What is read of a book's bytes: plain Lean. -/
namespace Go.Proofs.YtmpjdoiogbbcoaaGreatDoor.Book
open Go.RowKit
set_option linter.unusedVariables false

/-- what is asked of the check -/
structure CrcOk (crc : List UInt8 → Nat) : Prop where
 lt : ∀ s, crc s < 4294967296
 one : ∀ A x y B, x ≠ y → crc (A ++ x :: B) ≠ crc (A ++ y :: B)
section
variable {crc : List UInt8 → Nat} (hc : CrcOk crc)
end
end Go.Proofs.YtmpjdoiogbbcoaaGreatDoor.Book
/- The check of bytes: plain Lean. -/
namespace Go.Proofs.YtmpjdoiogbbcoaaGreatDoor.Book
open Go.RowKit
set_option linter.unusedVariables false

/-! a step can be gone back -/
/-! bit by bit is the same -/
end Go.Proofs.YtmpjdoiogbbcoaaGreatDoor.Book
/- The reader of bytes (layer 1), and numbers and texts as bytes. -/
namespace Go.Proofs.YtmpjdoiogbbcoaaGreatDoor
open Go.RowKit Book
set_option linter.unusedVariables false

def bx (l : List UInt8) : ByteArray := ⟨l.toArray⟩
theorem bx_size (l : List UInt8) : (bx l).size = l.length := by unfold bx; simp [ByteArray.size]
theorem bx_list (l : List UInt8) : (bx l).data.toList = l := by unfold bx; simp
theorem bx_back (s : ByteArray) : bx s.data.toList = s := ba_ext (bx_list _)
theorem bx_take (l : List UInt8) (n : Nat) (h : n ≤ l.length) : (bx l).extract 0 n = bx (l.take n) := by
 apply ba_ext
 rw [bx_list, ByteArray.data_extract, Array.toList_extract]
 unfold bx; simp
theorem bx_drop (l : List UInt8) (n : Nat) : (bx l).extract n (bx l).size = bx (l.drop n) := by
 apply ba_ext
 rw [bx_list, ByteArray.data_extract, Array.toList_extract, bx_size]
 unfold bx; simp [List.extract]
 exact List.take_of_length_le (by simp)
theorem bx_append (a b : List UInt8) : bx a ++ bx b = bx (a ++ b) := by
 apply ba_ext
 rw [bx_list, ByteArray.data_append, Array.toList_append]; unfold bx; simp
/-- a reader in memory -/
def RdAt (w : World) (b : Nat) (r : Rd) : Prop := Blk w b 254 #[.string (bx r.rest), .bool r.bad]
section
variable {w : World} {b : Nat} {r : Rd}
theorem RdAt.cells (h : RdAt w b r) : w.cell? ⟨b, 0, none⟩ = some (.string (bx r.rest)) ∧ w.cell? ⟨b, 1, none⟩ = some (.bool r.bad) := ⟨Blk.cell h 0, Blk.cell h 1⟩
theorem onew_any (s : ByteArray) (w : World) : Calls Tryz.prog 108 #[.string s] w fun e w' => e = .returned (.pointer (some ⟨w.heap.size, 0, none⟩)) ∧ RdAt w' w.heap.size (newR s.data.toList) ∧ Below w.heap.size w w' := by
 go_enter Tryz.func108, Tryz.ntmps108
 go_wp2
 go_ret
 refine ⟨rfl, ?_, (Below.refl _ _).alloc (Nat.le_refl _) _⟩
 have := Blk.new w 254 #[.string s, .bool false]
 unfold RdAt newR; rw [bx_back]; exact this
theorem obad_any (h : RdAt w b r) : Calls Tryz.prog 173 #[.pointer (some ⟨b, 0, none⟩)] w fun e w' => e = .returned (.bool r.bad) ∧ w = w' := by
 obtain ⟨-, c1⟩ := h.cells
 clear h
 go_enter Tryz.func173, Tryz.ntmps173
 go_wp2
 go_ret
 exact ⟨rfl, rfl⟩
theorem ospoil_any (h : RdAt w b r) : Calls Tryz.prog 174 #[.pointer (some ⟨b, 0, none⟩)] w fun e w' => e = .returned (.tuple #[]) ∧ RdAt w' b ⟨[], true⟩ ∧ Only (· = b) w w' := by
 obtain ⟨c0, c1⟩ := h.cells
 have f0 := Blk.frozen h 0
 have f1 := Blk.frozen h 1
 have HFIN : Hid (RdAt ((w.setCell ⟨b, 1, none⟩ (.bool true)).setCell ⟨b, 0, none⟩ (.string ⟨#[]⟩)) b ⟨[], true⟩ ∧ Only (· = b) w ((w.setCell ⟨b, 1, none⟩ (.bool true)).setCell ⟨b, 0, none⟩ (.string ⟨#[]⟩))) := by
  refine ⟨?_, ((Only.refl (· = b) w).setCell (p := ⟨b, 1, none⟩) (.inl rfl) _).setCell (p := ⟨b, 0, none⟩) (.inl rfl) _⟩
  have := (Blk.set h 1 (.bool true)).set 0 (.string ⟨#[]⟩)
  show Blk _ _ _ #[.string ⟨#[]⟩, .bool true]; simpa using this
 clear h
 go_enter Tryz.func174, Tryz.ntmps174
 go_wp2
 go_end0
 exact ⟨rfl, HFIN.out⟩
theorem oleft_any (h : RdAt w b r) : Calls Tryz.prog 110 #[.pointer (some ⟨b, 0, none⟩)] w fun e w' => e = .returned (.int .i64 r.rest.length) ∧ w = w' := by
 obtain ⟨c0, -⟩ := h.cells
 have e : (r.rest.length : Int) = ((bx r.rest).size : Int) := by rw [bx_size]
 rw [e]
 clear h e
 go_enter Tryz.func110, Tryz.ntmps110
 go_wp2
 go_ret
 exact ⟨rfl, rfl⟩
theorem owhole_any (h : RdAt w b r) : Calls Tryz.prog 115 #[.pointer (some ⟨b, 0, none⟩)] w fun e w' => e = .returned (.bool (wholeR r)) ∧ w = w' := by
 have HB := hid (obad_any h)
 have HL := hid (oleft_any h)
 obtain ⟨rest, bad⟩ := r
 cases bad
 ·cases rest with
  | nil =>
   clear h
   go_enter Tryz.func115, Tryz.ntmps115
   go_wp2_with (first
    | (go_at_call 173; refine HB.out.mono ?_; rintro e w' ⟨rfl, rfl⟩)
    | (go_at_call 110; refine HL.out.mono ?_; rintro e w' ⟨rfl, rfl⟩))
   go_ret
   exact ⟨rfl, rfl⟩
  | cons x l =>
   have g : (((x :: l).length : Int) == 0) = false := by rw [beq_eq_false_iff_ne]; simp; omega
   obtain ⟨m, hm⟩ : ∃ m : Int, ((x :: l).length : Int) = m := ⟨_, rfl⟩
   simp only at HL
   rw [hm] at HL g
   clear h hm
   go_enter Tryz.func115, Tryz.ntmps115
   go_wp2_with (first
    | (go_at_call 173; refine HB.out.mono ?_; rintro e w' ⟨rfl, rfl⟩)
    | (go_at_call 110; refine HL.out.mono ?_; rintro e w' ⟨rfl, rfl⟩))
   go_ret
   exact ⟨rfl, rfl⟩
 ·clear h
  go_enter Tryz.func115, Tryz.ntmps115
  go_wp2_with (go_at_call 173; refine HB.out.mono ?_; rintro e w' ⟨rfl, rfl⟩)
  go_ret
  exact ⟨rfl, rfl⟩
theorem otake_any (n : Nat) (h : RdAt w b r) (hr : r.rest.length ≤ 9223372036854775807) (hn : n ≤ 9223372036854775807) : Calls Tryz.prog 109 #[.pointer (some ⟨b, 0, none⟩), .int .i64 n] w fun e w' => e = .returned (.string (bx (takeR r n).1)) ∧ RdAt w' b (takeR r n).2 ∧ Only (· = b) w w' := by
 have HB := hid (obad_any h)
 have HS := hid (ospoil_any h)
 obtain ⟨c0, -⟩ := h.cells
 obtain ⟨rest, bad⟩ := r
 obtain ⟨y, hy⟩ : ∃ y, bx rest = y := ⟨_, rfl⟩
 have hyl : rest.length = y.size := by rw [← hy, bx_size]
 simp only [hy] at c0 hr
 rw [hyl] at hr
 by_cases hb : bad = true ∨ rest.length < n
 ·have e : takeR ⟨rest, bad⟩ n = ([], ⟨[], true⟩) := by unfold takeR; exact if_pos hb
  rw [e]
  show Calls _ _ _ _ fun e w' => e = .returned (.string ⟨#[]⟩) ∧ _
  have hn0 : ¬ ((n : Int) < 0) := by omega
  cases bad
  ·have hb' : (y.size : Int) < n := by rcases hb with h | h; cases h; omega
   clear h hb e hy hyl
   go_enter Tryz.func109, Tryz.ntmps109
   go_wp2_with (first
    | (go_at_call 173; refine HB.out.mono ?_; rintro e w' ⟨rfl, rfl⟩)
    | (go_at_call 174; refine HS.out.mono ?_; rintro e w' ⟨rfl, hs⟩; have HF := hid hs; clear hs))
   go_ret
   exact ⟨rfl, HF.out⟩
  ·clear h hb e hy hyl
   go_enter Tryz.func109, Tryz.ntmps109
   go_wp2_with (first
    | (go_at_call 173; refine HB.out.mono ?_; rintro e w' ⟨rfl, rfl⟩)
    | (go_at_call 174; refine HS.out.mono ?_; rintro e w' ⟨rfl, hs⟩; have HF := hid hs; clear hs))
   go_ret
   exact ⟨rfl, HF.out⟩
 ·have e : takeR ⟨rest, bad⟩ n = (rest.take n, ⟨rest.drop n, false⟩) := by unfold takeR; exact if_neg hb
  rw [e]
  have hb0 : bad = false := by cases bad; rfl; exact absurd (.inl rfl) hb
  subst hb0
  have hnl : n ≤ rest.length := by have : ¬ rest.length < n := fun h => hb (.inr h); omega
  have e1 : bx (rest.take n) = y.extract 0 n := by rw [← hy, bx_take _ _ hnl]
  have e2 : bx (rest.drop n) = y.extract n y.size := by rw [← hy, bx_drop]
  have f0 := Blk.frozen h 0
  have HFIN : Hid (RdAt (w.setCell ⟨b, 0, none⟩ (.string (y.extract n y.size))) b ⟨rest.drop n, false⟩ ∧ Only (· = b) w (w.setCell ⟨b, 0, none⟩ (.string (y.extract n y.size)))) := by
   refine ⟨?_, (Only.refl (· = b) w).setCell (p := ⟨b, 0, none⟩) (.inl rfl) _⟩
   have := Blk.set h 0 (.string (y.extract n y.size))
   unfold RdAt; rw [e2]; simpa using this
  rw [e1]
  have hn0 : ¬ ((n : Int) < 0) := by omega
  have hn1 : ¬ ((y.size : Int) < n) := by omega
  have hn2 : (n : Int) ≤ y.size := by omega
  have hn3 : (0 : Int) ≤ n := by omega
  clear h hb e hy hyl e1 e2 hnl
  go_enter Tryz.func109, Tryz.ntmps109
  go_wp2_with (first
   | (go_at_call 173; refine HB.out.mono ?_; rintro e w' ⟨rfl, rfl⟩))
  go_ret
  exact ⟨rfl, HFIN.out⟩
theorem takeR_four (r : Rd) : (takeR r 4).1 = [] ∨ ∃ a b c d, (takeR r 4).1 = [a, b, c, d] := by
 unfold takeR
 split
 ·exact .inl rfl
 ·rename_i h
  right
  have hl : (r.rest.take 4).length = 4 := by rw [List.length_take]; simp only [not_or] at h; omega
  match hq : r.rest.take 4, hl with
  | [a, b, c, d], _ => exact ⟨a, b, c, d, rfl⟩
/-- a text turned to bytes, as it lies -/
theorem bytesRow_cell (w : World) (y : ByteArray) (cap : Nat) (e : TypeId) (fz : Nat × Nat) (j : Nat) (hj : j < y.size) : ((w.alloc (.cells (bytesRow y cap) e fz)).drew).cell? ⟨w.heap.size, j, none⟩ = some (.int .u8 ((y.data.toList.getD j 0).toNat : Int)) := by
 have hj' : j < y.data.size := hj
 have h1 : ((w.alloc (.cells (bytesRow y cap) e fz)).drew).heap[w.heap.size]? = some (.cells (bytesRow y cap) e fz) := heap_alloc_new w _
 rw [cell_of_row _ _ j _ e fz h1, bytesRow_at y cap j hj']
 rw [List.getD_eq_getElem?_getD, List.getElem?_eq_getElem (by simpa using hj')]
 simp
theorem or_add (a b i m : Nat) (hm : 2 ^ i = m) (ha : a < m) (ht : a + m * b < 4294967296) : bits .or .u32 (a : Int) ((b : Int) * (m : Int)) = ((a + m * b : Nat) : Int) := by
 subst hm
 have e : ((b : Int) * ((2 ^ i : Nat) : Int)) = ((b * 2 ^ i : Nat) : Int) := (Int.natCast_mul _ _).symm
 rw [e, u32_or_nat a _ (by omega) (by rw [Nat.mul_comm]; omega), Nat.or_comm, Nat.mul_comm b, ← Nat.two_pow_add_eq_or_of_lt ha, Nat.add_comm]
def pre4 (a b c d : UInt8) (k : Nat) : Nat := if k = 0 then 0 else if k = 1 then a.toNat else if k = 2 then a.toNat + 256 * b.toNat else if k = 3 then a.toNat + 256 * b.toNat + 65536 * c.toNat else a.toNat + 256 * b.toNat + 65536 * c.toNat + 16777216 * d.toNat
set_option maxRecDepth 100000 in
set_option maxHeartbeats 4000000 in
theorem onum_any (h : RdAt w b r) (hr : r.rest.length ≤ 9223372036854775807) : Calls Tryz.prog 113 #[.pointer (some ⟨b, 0, none⟩)] w fun e w' => e = .returned (.int .u32 (numR r).1) ∧ RdAt w' b (numR r).2 ∧ Only (fun k => k = b) w w' := by
 have HT := hid (otake_any 4 h hr (by omega))
 unfold numR
 obtain ⟨r2, hr2⟩ : ∃ r2, (takeR r 4).2 = r2 := ⟨_, rfl⟩
 have hcv := fun w s => run_bytes_of_string (P := Tryz.prog) w 9 59 5 s Tryz.underlying9 Tryz.underlying59 Tryz.underlying5
 rcases takeR_four r with e | ⟨x0, x1, x2, x3, e⟩
 ·rw [e, hr2] at HT
  rw [e, hr2]
  show Calls _ _ _ _ fun e w' => e = .returned (.int .u32 0) ∧ _
  obtain ⟨y, hy⟩ : ∃ y, bx [] = y := ⟨_, rfl⟩
  have hys : y.size = 0 := by rw [← hy]; rfl
  rw [hy] at HT
  clear h hr hr2 e hy
  go_enter Tryz.func113, Tryz.ntmps113
  go_wp2_with (go_at_call 109; refine HT.out.mono ?_; rintro e w' ⟨rfl, hs⟩; have HF := hid hs; clear hs)
  generalize grownCap w' 0 0 5 = cap
  have HW : Hid (RdAt ((w'.alloc (.cells (bytesRow y cap) 5 ((bytesRow y cap).size, (bytesRow y cap).size + 1))).drew) b r2 ∧ Only (fun k => k = b) w ((w'.alloc (.cells (bytesRow y cap) 5 ((bytesRow y cap).size, (bytesRow y cap).size + 1))).drew)) := ⟨Blk.drew (Blk.alloc HF.out.1 _), (HF.out.2.alloc _).drew⟩
  generalize ((w'.alloc (.cells (bytesRow y cap) 5 ((bytesRow y cap).size, (bytesRow y cap).size + 1))).drew) = w2 at HW ⊢
  go_loop [10, 3] (fun kv nv => kv = .int .i64 0 ∧ nv = .int .u32 0) (fun _ _ => 0)
  case atStart => exact ⟨rfl, rfl⟩
  case round =>
   obtain ⟨rfl, rfl⟩ := hrel
   go_wp2
   go_ret
   exact ⟨rfl, HW.out⟩
 ·rw [e, hr2] at HT
  rw [e, hr2]
  obtain ⟨y, hy⟩ : ∃ y, bx [x0, x1, x2, x3] = y := ⟨_, rfl⟩
  have hys : y.size = 4 := by rw [← hy]; rfl
  have hyl : y.data.toList = [x0, x1, x2, x3] := by rw [← hy, bx_list]
  have HYL := hid hyl
  rw [hy] at HT
  clear h hr hr2 e hy hyl
  go_enter Tryz.func113, Tryz.ntmps113
  go_wp2_with (go_at_call 109; refine HT.out.mono ?_; rintro e w' ⟨rfl, hs⟩; have HF := hid hs; clear hs)
  generalize grownCap w' 4 0 5 = cap
  have hb : ∀ j, j < 4 → ((w'.alloc (.cells (bytesRow y cap) 5 ((bytesRow y cap).size, (bytesRow y cap).size + 1))).drew).cell? ⟨w'.heap.size, j, none⟩ = some (.int .u8 ((y.data.toList.getD j 0).toNat : Int)) := fun j hj => bytesRow_cell w' y cap _ _ j (by rw [hys]; exact hj)
  rw [HYL.out] at hb
  have c0 := hb 0 (by omega)
  have c1 := hb 1 (by omega)
  have c2 := hb 2 (by omega)
  have c3 := hb 3 (by omega)
  simp only [List.getD_cons_zero, List.getD_cons_succ] at c0 c1 c2 c3
  have HW : Hid (RdAt ((w'.alloc (.cells (bytesRow y cap) 5 ((bytesRow y cap).size, (bytesRow y cap).size + 1))).drew) b r2 ∧ Only (fun k => k = b) w ((w'.alloc (.cells (bytesRow y cap) 5 ((bytesRow y cap).size, (bytesRow y cap).size + 1))).drew)) := ⟨Blk.drew (Blk.alloc HF.out.1 _), (HF.out.2.alloc _).drew⟩
  clear hb
  generalize ((w'.alloc (.cells (bytesRow y cap) 5 ((bytesRow y cap).size, (bytesRow y cap).size + 1))).drew) = w2 at c0 c1 c2 c3 HW ⊢
  have t0 := x0.toNat_lt; have t1 := x1.toNat_lt; have t2 := x2.toNat_lt; have t3 := x3.toNat_lt
  go_loop [10, 3] (fun kv nv => ∃ k : Nat, k ≤ 4 ∧ kv = .int .i64 k ∧ nv = .int .u32 (pre4 x0 x1 x2 x3 k)) (fun kv _ => 4 - (intOf kv).toNat)
  case atStart => exact ⟨0, by omega, rfl, rfl⟩
  case round =>
   obtain ⟨k, hk, rfl, rfl⟩ := hrel
   obtain rfl | rfl | rfl | rfl | rfl : k = 0 ∨ k = 1 ∨ k = 2 ∨ k = 3 ∨ k = 4 := by omega
   ·go_wp2
    go_roundw
    case rel => exact ⟨1, by omega, rfl, congrArg (Value.int .u32) ((u32_or_nat 0 x0.toNat (by omega) (by omega)).trans (congrArg Nat.cast (Nat.zero_or _)))⟩
    case measure => simp [intOf]
   ·go_wp2
    go_roundw
    case rel => exact ⟨2, by omega, rfl, congrArg (Value.int .u32) (or_add x0.toNat x1.toNat 8 256 rfl (by omega) (by omega))⟩
    case measure => simp [intOf]
   ·go_wp2
    go_roundw
    case rel => exact ⟨3, by omega, rfl, congrArg (Value.int .u32) (or_add (x0.toNat + 256 * x1.toNat) x2.toNat 16 65536 rfl (by omega) (by omega))⟩
    case measure => simp [intOf]
   ·go_wp2
    go_roundw
    case rel => exact ⟨4, by omega, rfl, congrArg (Value.int .u32) (or_add (x0.toNat + 256 * x1.toNat + 65536 * x2.toNat) x3.toNat 24 16777216 rfl (by omega) (by omega))⟩
    case measure => simp [intOf]
   ·go_wp2
    go_ret
    exact ⟨rfl, HW.out⟩
end
end Go.Proofs.YtmpjdoiogbbcoaaGreatDoor
/- Texts read; numbers and texts as bytes. -/
namespace Go.Proofs.YtmpjdoiogbbcoaaGreatDoor
open Go.RowKit Book
set_option linter.unusedVariables false

section
variable {w : World} {b : Nat} {r : Rd}
theorem takeR_rest (r : Rd) (n : Nat) : (takeR r n).2.rest.length ≤ r.rest.length := by unfold takeR; split <;> simp
theorem otext_any (most : Nat) (hm : most ≤ 1000000) (h : RdAt w b r) (hr : r.rest.length ≤ 9223372036854775807) : Calls Tryz.prog 114 #[.pointer (some ⟨b, 0, none⟩), .int .i64 most] w fun e w' => e = .returned (.string (bx (textR r most).1)) ∧ RdAt w' b (textR r most).2 ∧ Only (fun k => k = b) w w' := by
 have HN := hid (onum_any h hr)
 have hn32 : (numR r).1 < 4294967296 := numV_lt _
 have hrl : (numR r).2.rest.length ≤ 9223372036854775807 := Nat.le_trans (takeR_rest r 4) hr
 unfold textR
 obtain ⟨n, hn⟩ : ∃ n, (numR r).1 = n := ⟨_, rfl⟩
 obtain ⟨r2, hr2⟩ : ∃ r2, (numR r).2 = r2 := ⟨_, rfl⟩
 rw [hn, hr2] at HN
 rw [hn, hr2]
 rw [hn] at hn32; rw [hr2] at hrl
 have ew : IntKind.i64.wrap (n : Int) = n := by rw [IntKind.wrap_i64]; omega
 by_cases hgt : most < n
 ·rw [if_pos hgt]
  have g : (most : Int) < n := by omega
  have HT : Hid (∀ w', RdAt w' b ⟨[], true⟩ → Calls Tryz.prog 109 #[.pointer (some ⟨b, 0, none⟩), .int .i64 n] w' fun e w'' => e = .returned (.string (bx (takeR ⟨[], true⟩ n).1)) ∧ RdAt w'' b (takeR ⟨[], true⟩ n).2 ∧ Only (· = b) w' w'') := fun w' h' => otake_any n h' (by simp) (by omega)
  clear h hr hn hr2 hgt
  go_enter Tryz.func114, Tryz.ntmps114
  go_wp2_with (first
   | (go_at_call 113; refine HN.out.mono ?_; rintro e w1 ⟨rfl, hs⟩; have H1 := hid hs; clear hs)
   | (go_at_call 174; refine (ospoil_any H1.out.1).mono ?_; rintro e w2 ⟨rfl, hs⟩; have H2 := hid hs; clear hs)
   | (go_at_call 109; refine (HT.out _ H2.out.1).mono ?_; rintro e w3 ⟨rfl, hs⟩; have H3 := hid hs; clear hs))
  go_ret
  exact ⟨rfl, H3.out.1, H1.out.2.then (H2.out.2.then H3.out.2)⟩
 ·rw [if_neg hgt]
  have g : ¬ (most : Int) < n := by omega
  have HT : Hid (∀ w', RdAt w' b r2 → Calls Tryz.prog 109 #[.pointer (some ⟨b, 0, none⟩), .int .i64 n] w' fun e w'' => e = .returned (.string (bx (takeR r2 n).1)) ∧ RdAt w'' b (takeR r2 n).2 ∧ Only (· = b) w' w'') := fun w' h' => otake_any n h' hrl (by omega)
  clear h hr hn hr2 hgt hrl
  go_enter Tryz.func114, Tryz.ntmps114
  go_wp2_with (first
   | (go_at_call 113; refine HN.out.mono ?_; rintro e w1 ⟨rfl, hs⟩; have H1 := hid hs; clear hs)
   | (go_at_call 109; refine (HT.out _ H1.out.1).mono ?_; rintro e w3 ⟨rfl, hs⟩; have H3 := hid hs; clear hs))
  go_ret
  exact ⟨rfl, H3.out.1, H1.out.2.then H3.out.2⟩
def arr4 (n k : Nat) : Array Value := #[.int .u8 (if 0 < k then (n : Int) % 256 else 0), .int .u8 (if 1 < k then (n : Int) / 256 % 256 else 0), .int .u8 (if 2 < k then (n : Int) / 65536 % 256 else 0), .int .u8 (if 3 < k then (n : Int) / 16777216 else 0)]
set_option maxRecDepth 100000 in
set_option maxHeartbeats 4000000 in
theorem onumw_any (n : Nat) (hn : n < 4294967296) (w : World) : Calls Tryz.prog 167 #[.int .u32 n] w fun e w' => e = .returned (.string (bx (numL n))) ∧ Below w.heap.size w w' := by
 go_enter Tryz.func167, Tryz.ntmps167
 go_wp2
 go_loopw [5] (fun kv wr => ∃ k : Nat, k ≤ 4 ∧ kv = .int .i64 k ∧ wr = w.alloc (.cells (arr4 n k) 275)) (fun kv _ => 4 - (intOf kv).toNat)
 case atStart => exact ⟨0, by omega, rfl, rfl⟩
 case round =>
  obtain ⟨k, hk, rfl, rfl⟩ := hrel
  obtain rfl | rfl | rfl | rfl | rfl : k = 0 ∨ k = 1 ∨ k = 2 ∨ k = 3 ∨ k = 4 := by omega
  ·simp only [arr4]
   go_wp2
   go_roundw
   case rel => exact ⟨1, by omega, rfl, rfl⟩
   case measure => simp [intOf]
  ·simp only [arr4]
   go_wp2
   go_roundw
   case rel => exact ⟨2, by omega, rfl, rfl⟩
   case measure => simp [intOf]
  ·simp only [arr4]
   go_wp2
   go_roundw
   case rel => exact ⟨3, by omega, rfl, rfl⟩
   case measure => simp [intOf]
  ·simp only [arr4]
   go_wp2
   go_roundw
   case rel => exact ⟨4, by omega, rfl, rfl⟩
   case measure => simp [intOf]
  ·have hconv : (convert 59 9 (.slice (some ⟨w.heap.size, 0, none⟩) 4 4)).run Tryz.prog (w.alloc (.cells #[.int .u8 ((n : Int) % 256), .int .u8 ((n : Int) / 256 % 256), .int .u8 ((n : Int) / 65536 % 256), .int .u8 ((n : Int) / 16777216)] 275)) = .ok (.string (bx (numL n))) (w.alloc (.cells #[.int .u8 ((n : Int) % 256), .int .u8 ((n : Int) / 256 % 256), .int .u8 ((n : Int) / 65536 % 256), .int .u8 ((n : Int) / 16777216)] 275)) := by
    have hb := Blk.new w 275 #[.int .u8 ((n : Int) % 256), .int .u8 ((n : Int) / 256 % 256), .int .u8 ((n : Int) / 65536 % 256), .int .u8 ((n : Int) / 16777216)]
    refine run_convert_bytes_back _ _ _ _ _ 4 (numL n) Tryz.underlying59 Tryz.underlying5 Tryz.underlying9 ?_
    intro j hj
    have hj4 : j < 4 := hj
    have ha : (⟨w.heap.size, 0, none⟩ : Addr).add j = ⟨w.heap.size, j, none⟩ := by unfold Addr.add; split <;> simp_all
    rw [ha, hb.cell]
    obtain rfl | rfl | rfl | rfl : j = 0 ∨ j = 1 ∨ j = 2 ∨ j = 3 := by omega
    ·show some (Value.int .u8 ((n : Int) % 256)) = some (.int .u8 (((UInt8.ofNat n).toNat : Nat) : Int)); rw [UInt8.toNat_ofNat']; rfl
    ·show some (Value.int .u8 ((n : Int) / 256 % 256)) = some (.int .u8 (((UInt8.ofNat (n / 256)).toNat : Nat) : Int)); rw [UInt8.toNat_ofNat']; rfl
    ·show some (Value.int .u8 ((n : Int) / 65536 % 256)) = some (.int .u8 (((UInt8.ofNat (n / 65536)).toNat : Nat) : Int)); rw [UInt8.toNat_ofNat']; rfl
    ·show some (Value.int .u8 ((n : Int) / 16777216)) = some (.int .u8 (((UInt8.ofNat (n / 16777216)).toNat : Nat) : Int)); rw [UInt8.toNat_ofNat', Nat.mod_eq_of_lt (by omega)]; rfl
   simp only [arr4]
   go_wp2
   go_ret
   exact ⟨rfl, (Below.refl _ _).alloc (Nat.le_refl _) _⟩
theorem otextw_any (s : ByteArray) (hs : s.size ≤ 2147483648) (w : World) : Calls Tryz.prog 168 #[.string s] w fun e w' => e = .returned (.string (bx (textL s.data.toList))) ∧ Below w.heap.size w w' := by
 have HN := hid (onumw_any s.size (by omega) w)
 have hl : s.data.toList.length = s.size := by rw [Array.length_toList]; rfl
 have HR : Hid (bx (numL s.size) ++ s = bx (textL s.data.toList)) := by
  show bx (numL s.size) ++ s = bx (textL s.data.toList)
  conv => lhs; rw [← bx_back s, bx_append]
  unfold textL; rw [hl, bx_back]
 have ew : IntKind.u32.wrap (s.size : Int) = s.size := by rw [IntKind.wrap_u32]; omega
 obtain ⟨y, hy⟩ : ∃ y, bx (numL s.size) = y := ⟨_, rfl⟩
 have hys : y.size ≤ 4 := by rw [← hy]; exact Nat.le_of_eq (bx_size _)
 rw [hy] at HN HR
 have hcat : ¬ 9223372036854775807 < y.size + s.size := by omega
 rw [← HR.out]
 clear hl hy
 go_enter Tryz.func168, Tryz.ntmps168
 go_wp2_with (go_at_call 167; refine HN.out.mono ?_; rintro e w1 ⟨rfl, hs⟩; have H1 := hid hs; clear hs)
 go_ret
 exact ⟨rfl, H1.out⟩
end
end Go.Proofs.YtmpjdoiogbbcoaaGreatDoor
/- Objects: read from bytes: entries, parents. -/
namespace Go.Proofs.YtmpjdoiogbbcoaaGreatDoor
open Go.RowKit Book Pap Ojt
set_option linter.unusedVariables false

def ecells (e : Ent) : List Value := [.string e.name, .int .i64 e.kind, .string e.id]
def evals (l : List Ent) : List Value := l.flatMap ecells
theorem evals_append (a b : List Ent) : evals (a ++ b) = evals a ++ evals b := by simp [evals]
theorem evals_get : ∀ (l : List Ent) (j : Nat), j < l.length → (evals l)[j * 3]? = some (.string (l.getD j ⟨ByteArray.empty, 0, ByteArray.empty⟩).name) ∧ (evals l)[j * 3 + 1]? = some (.int .i64 (l.getD j ⟨ByteArray.empty, 0, ByteArray.empty⟩).kind) ∧ (evals l)[j * 3 + 2]? = some (.string (l.getD j ⟨ByteArray.empty, 0, ByteArray.empty⟩).id)
 | [], j, h => by simp at h
 | a :: r, 0, h => ⟨rfl, rfl, rfl⟩
 | a :: r, j + 1, h => by
  obtain ⟨h1, h2, h3⟩ := evals_get r j (by simpa using h)
  have e : evals (a :: r) = ecells a ++ evals r := rfl
  have hl : (ecells a).length = 3 := rfl
  rw [e]
  refine ⟨?_, ?_, ?_⟩
  ·rw [List.getElem?_append_right (by rw [hl]; omega), hl, show (j + 1) * 3 - 3 = j * 3 by omega]; exact h1
  ·rw [List.getElem?_append_right (by rw [hl]; omega), hl, show (j + 1) * 3 + 1 - 3 = j * 3 + 1 by omega]; exact h2
  ·rw [List.getElem?_append_right (by rw [hl]; omega), hl, show (j + 1) * 3 + 2 - 3 = j * 3 + 2 by omega]; exact h3
theorem own_ents {w : World} {B : Nat} {v : Value} {l : List Ent} (h : w.ownsRow B 76 3 v l.length (evals l)) (hm : l.length ≤ 9223372036854775807) : ∃ a c, v = .slice a l.length c ∧ EntsAt w a l.length l := by
 have h' := h
 rcases h.2 with ⟨rfl, h0⟩ | ⟨g, cap, cur, rfl, hb, hg, hn, hc, hsz, htk⟩
 ·exact ⟨none, 0, by rw [h0], rfl, hm, .inl h0⟩
 ·refine ⟨_, _, rfl, rfl, hm, .inr ⟨g, 0, rfl, fun j hj => ?_⟩⟩
  obtain ⟨h1, h2, h3⟩ := evals_get l j hj
  have c0 := h'.cellAt (j * 3) (by omega)
  have c1 := h'.cellAt (j * 3 + 1) (by omega)
  have c2 := h'.cellAt (j * 3 + 2) (by omega)
  rw [Nat.zero_add]
  exact ⟨c0.trans h1, c1.trans h2, c2.trans h3⟩
theorem Tryz.infoEnt : (Tryz.prog.info? 76).map (fun i => (i.zero, i.size, i.bytes)) = some (some (.agg #[.string ⟨#[]⟩, .int .i64 0, .string ⟨#[]⟩]), 3, 40) := by kernel_rfl
theorem cellNew3 (w : World) (x0 x1 x2 : Value) (t : TypeId) : ∀ j u, [x0, x1, x2][j]? = some u → (w.alloc (.cells #[x0, x1, x2] t)).cell? ((⟨w.heap.size, 0, none⟩ : Addr).add j) = some u := by
 intro j u h
 rw [Addr.add_lit, Nat.zero_add, (Blk.new w t #[x0, x1, x2]).cell]
 rw [← h]; simp
theorem one3 {P : Value → Prop} {a b c : Value} (ha : P a) (hb : P b) (hc : P c) : ∀ u ∈ [a, b, c], P u := by
 intro u hu; simp at hu; rcases hu with rfl | rfl | rfl <;> assumption
theorem entsR_step {n : Nat} {r : Rd} (h : r.bad = false) : entsR (n + 1) r = ((entR r).1 :: (entsR n (entR r).2).1, (entsR n (entR r).2).2) := by
 show (if r.bad = true then ([], r) else _) = _
 rw [if_neg (by rw [h]; simp)]
theorem entsR_bad {n : Nat} {r : Rd} (h : r.bad = true) : entsR n r = ([], r) := by
 cases n with
 | zero => rfl
 | succ n => show (if r.bad = true then ([], r) else _) = _; rw [if_pos h]
theorem textR_rest (r : Rd) (m : Nat) : (textR r m).2.rest.length ≤ r.rest.length := by
 unfold textR
 refine Nat.le_trans (takeR_rest _ _) ?_
 split
 ·exact Nat.zero_le _
 ·exact takeR_rest r 4
end Go.Proofs.YtmpjdoiogbbcoaaGreatDoor
/- Objects: read from bytes: entries. -/
namespace Go.Proofs.YtmpjdoiogbbcoaaGreatDoor
open Go.RowKit Book Pap Ojt
set_option linter.unusedVariables false

theorem takeR_one (r : Rd) : (takeR r 1).1 = [] ∨ ∃ x, (takeR r 1).1 = [x] := by
 unfold takeR
 split
 ·exact .inl rfl
 ·rename_i h
  right
  have hl : (r.rest.take 1).length = 1 := by rw [List.length_take]; simp only [not_or] at h; omega
  match hq : r.rest.take 1, hl with
  | [x], _ => exact ⟨x, rfl⟩
/-- what entries hand back -/
def EntsOut (w : World) (b : Nat) (r : Rd) (e : Ending) (w' : World) : Prop :=
 ∃ a n c l, e = .returned (.slice a n c) ∧ EntsAt w' a n l ∧ ((treeR r).2.bad = false → l = (treeR r).1) ∧ RdAt w' b (treeR r).2 ∧ Only (· = b) w w' ∧ ∀ k, (Value.slice a n c).ownBlock = some k → w.heap.size ≤ k
set_option maxRecDepth 100000 in
set_option maxHeartbeats 4000000 in
theorem entries_any (b : Nat) (r : Rd) (w : World) (h : RdAt w b r) (hr : r.rest.length ≤ 1000000000) : Calls Tryz.prog 111 #[.pointer (some ⟨b, 0, none⟩)] w (EntsOut w b r) := by
  obtain ⟨i0, hi0, hz0, hz1, hz2⟩ := info_parts Tryz.infoEnt
  have HN := hid (onum_any h (by omega))
  have hn32 : (numR r).1 < 4294967296 := numV_lt _
  have hrl : (numR r).2.rest.length ≤ 1000000000 := Nat.le_trans (takeR_rest r 4) hr
  have HT : Hid (treeR r = entsR (numR r).1 (spoil (numR r).2 (numR r).1 256)) := rfl
  have hbw : b < w.heap.size := Blk.lt h
  obtain ⟨n, hn⟩ : ∃ n, (numR r).1 = n := ⟨_, rfl⟩
  obtain ⟨r2, hr2⟩ : ∃ x, (numR r).2 = x := ⟨_, rfl⟩
  rw [hn, hr2] at HN HT
  rw [hn] at hn32
  rw [hr2] at hrl
  clear h hr hn hr2
  by_cases h256 : 256 < n
  · have g1 : (256 : Int) < n := by omega
    have HT2 : Hid (treeR r = ([], ⟨[], true⟩)) := by
      show _ = _
      rw [HT.out]
      unfold spoil
      rw [if_pos h256]
      exact entsR_bad rfl
    clear HT
    go_enter Tryz.func111, Tryz.ntmps111
    go_wp2_with fail
    refine HN.out.mono ?_; rintro e w1 ⟨rfl, hs, ho⟩
    have H1 := hid hs; have O1 := hid ho
    clear hs ho
    go_wp2_with fail
    refine (ospoil_any H1.out).mono ?_; rintro e w2 ⟨rfl, hs, ho⟩
    have H2 := hid hs; have O2 := hid (O1.out.then ho)
    clear hs ho
    have g0 : (0 : Int) < n := by omega
    go_wp2_with fail
    refine wp_loop_rounds 1 ?_
    rw [rounds_succ]
    go_wp2_with fail
    refine (obad_any H2.out).mono ?_; rintro e w' ⟨rfl, rfl⟩
    go_wp2_with fail
    go_ret
    exact ⟨none, 0, 0, [], rfl, ⟨rfl, by omega, .inl rfl⟩, (fun hb => by rw [HT2.out] at hb; cases hb), by rw [HT2.out]; exact H2.out, O2.out, fun k hk => by simp [Value.ownBlock] at hk⟩
  · have g1 : ¬ (256 : Int) < n := by omega
    have HT2 : Hid (treeR r = entsR n r2) := by
      show _ = _
      rw [HT.out]
      unfold spoil
      rw [if_neg h256]
    clear HT
    go_enter Tryz.func111, Tryz.ntmps111
    go_wp2_with fail
    refine HN.out.mono ?_; rintro e w1 ⟨rfl, hs, ho⟩
    have H1 := hid hs; have O1 := hid ho
    clear hs ho
    go_wp2_with fail
    go_loopw [14, 4] (fun iv v wr => ∃ (i : Nat) (l : List Ent) (ri : Rd), i ≤ n ∧ iv = .int .u32 i ∧ Hid (l.length = i) ∧ Hid (wr.ownsRow w.heap.size 76 3 v i (evals l)) ∧ Hid (RdAt wr b ri) ∧ Hid (ri.rest.length ≤ 1000000000) ∧ Hid (Only (· = b) w wr) ∧ Hid (entsR n r2 = (l ++ (entsR (n - i) ri).1, (entsR (n - i) ri).2))) (fun iv _ _ => n - (intOf iv).toNat)
    case atStart => exact ⟨0, [], r2, Nat.zero_le _, rfl, rfl, World.ownsRow_nil _ _ _ _, H1, hrl, O1, rfl⟩
    case round =>
      obtain ⟨i, l, ri, hi, rfl, HL, HO, HRd, HRl, HOn, HE⟩ := hrel
      obtain ⟨va, vc, rfl, hvc⟩ := own_slice' HO.out
      have hszw : w.heap.size ≤ wr.heap.size := HOn.out.size
      clear H1 O1
      by_cases hlt : i < n
      · have ci : (i : Int) < n := by omega
        have ew : IntKind.u32.wrap ((i : Int) + 1) = (i : Int) + 1 := by rw [IntKind.wrap_u32]; omega
        have HB := hid (obad_any HRd.out)
        obtain ⟨bad, hbad⟩ : ∃ q, ri.bad = q := ⟨_, rfl⟩
        rw [hbad] at HB
        cases bad
        · have HST : Hid (entsR (n - i) ri = ((entR ri).1 :: (entsR (n - (i + 1)) (entR ri).2).1, (entsR (n - (i + 1)) (entR ri).2).2)) := by
            show _ = _
            rw [show n - i = (n - (i + 1)) + 1 by omega]
            exact entsR_step hbad
          have HBAD := hid hbad
          clear hbad
          go_wp2_with fail
          refine HB.out.mono ?_; rintro e w' ⟨rfl, rfl⟩
          go_upto_region 10 with fail
          have HX1 : Hid (Blk (wr.alloc (.cells #[.string ⟨#[]⟩, .int .i64 0, .string ⟨#[]⟩] 76)) wr.heap.size 76 #[.string ⟨#[]⟩, .int .i64 0, .string ⟨#[]⟩]) := Blk.new wr _ _
          have HR1 : Hid (RdAt (wr.alloc (.cells #[.string ⟨#[]⟩, .int .i64 0, .string ⟨#[]⟩] 76)) b ri) := Blk.alloc HRd.out _
          have HO1 : Hid ((wr.alloc (.cells #[.string ⟨#[]⟩, .int .i64 0, .string ⟨#[]⟩] 76)).ownsRow w.heap.size 76 3 (.slice va i vc) i (evals l)) := HO.out.alloc _
          have HOn1 : Hid (Only (· = b) w (wr.alloc (.cells #[.string ⟨#[]⟩, .int .i64 0, .string ⟨#[]⟩] 76))) := HOn.out.alloc _
          have hbg : b < wr.heap.size := by omega
          have hog : w.heap.size ≤ wr.heap.size := hszw
          have HNO : Hid (∀ k, (Value.slice va i vc).ownBlock = some k → w.heap.size ≤ k ∧ k < wr.heap.size) := fun k hk => HO.out.lt k hk
          clear HRd HO HOn HB
          generalize (wr.alloc (.cells #[.string ⟨#[]⟩, .int .i64 0, .string ⟨#[]⟩] 76)) = w3 at HX1 HR1 HO1 HOn1 ⊢
          generalize wr.heap.size = g1 at HX1 hbg hog HNO ⊢
          have HEN : Hid ((entR ri).1 = ⟨bz (textR (kindR ri).2 255).1, (kindR ri).1, bz (takeR (textR (kindR ri).2 255).2 32).1⟩ ∧ (entR ri).2 = (takeR (textR (kindR ri).2 255).2 32).2) := ⟨rfl, rfl⟩
          have HK : Hid ((kindR ri).1 = (((takeR ri 1).1.headD 0).toNat : Int) ∧ (kindR ri).2 = (takeR ri 1).2) := ⟨rfl, rfl⟩
          obtain ⟨rk, hrk⟩ : ∃ x, (takeR ri 1).2 = x := ⟨_, rfl⟩
          have HRK := hid hrk
          have hrkl : rk.rest.length ≤ 1000000000 := by rw [← hrk]; exact Nat.le_trans (takeR_rest ri 1) HRl.out
          obtain ⟨kd, hkd⟩ : ∃ x, (kindR ri).1 = x := ⟨_, rfl⟩
          rw [hkd] at HEN HK
          have hrl1 := HRl.out
          have CT := hid (otake_any 1 HR1.out (by omega) (by omega))
          rw [hrk] at CT
          clear hrk hkd
          rcases takeR_one ri with e | ⟨x, e⟩
          all_goals first
            | (have hk0 : kd = 0 := by rw [HK.out.1, e]; rfl
               rw [e] at CT
               have CT2 : Hid (Calls Tryz.prog 109 #[.pointer (some ⟨b, 0, none⟩), .int .i64 1] w3 fun e w' => e = .returned (.string ⟨#[]⟩) ∧ RdAt w' b rk ∧ Only (· = b) w3 w') := CT
               clear CT e
               go_wp2_with fail
               refine CT2.out.mono ?_; rintro e w4 ⟨rfl, hs, ho⟩
               have H5 := hid hs
               have HX5 : Hid (Blk w4 g1 76 #[.string ⟨#[]⟩, .int .i64 kd, .string ⟨#[]⟩]) := by rw [hk0]; exact HX1.out.only ho (by omega)
               clear hk0
               have HO5 := hid (own_only HO1.out ho (fun k hk e => by have := (HNO.out k hk).1; have e : k = b := e; omega))
               have HOn5 := hid (HOn1.out.then ho)
               clear hs ho CT2
               go_upto_region 13 with fail
               obtain ⟨wc, rfl⟩ : ∃ wc : World, wc = w4 := ⟨_, rfl⟩)
            | (have hk0 : kd = (x.toNat : Int) := by rw [HK.out.1, e]; rfl
               rw [e] at CT
               obtain ⟨y, hy⟩ : ∃ y, bx [x] = y := ⟨_, rfl⟩
               have hys : y.size = 1 := by rw [← hy]; rfl
               have hxl : x.toNat < 256 := x.toNat_lt
               have hxi : (x.toNat : Int) ≤ 255 := by omega
               have hxi0 : (0 : Int) ≤ (x.toNat : Int) := by omega
               have hy1 : y.toList.isEmpty = false := bstr_isEmpty (by omega)
               have hy2 : ¬ y.toList = [] := bstr_some (by omega)
               have hy3 : (y.toList == []) = false := by rw [beq_eq_false_iff_ne]; exact hy2
               have hy4 : y[0]? = some x := by rw [← hy]; rfl
               have hy0 : ∀ h : 0 < y.size, y[0]'h = x := fun h => by subst hy; rfl
               rw [hy] at CT
               clear hy e
               go_wp2_with fail
               refine CT.out.mono ?_; rintro e w4 ⟨rfl, hs, ho⟩
               have H4 := hid hs
               have hx4 := HX1.out.only ho (by omega)
               have HX4 := hid hx4
               have HO4 := hid (own_only HO1.out ho (fun k hk e => by have := (HNO.out k hk).1; have e : k = b := e; omega))
               have HOn4 := hid (HOn1.out.then ho)
               have k1 := Blk.cell hx4 1
               have f1 := Blk.frozen hx4 1
               simp at k1
               clear hs ho CT hx4
               go_upto_region 13 with fail
               have hob : Only (· = g1) w4 (w4.setCell ⟨g1, 1, none⟩ (.int .i64 (x.toNat : Int))) := (Only.refl (· = g1) w4).setCell (p := ⟨g1, 1, none⟩) (.inl rfl) _
               have HX5 : Hid (Blk (w4.setCell ⟨g1, 1, none⟩ (.int .i64 (x.toNat : Int))) g1 76 #[.string ⟨#[]⟩, .int .i64 kd, .string ⟨#[]⟩]) := by
                 have := Blk.set HX4.out 1 (.int .i64 (x.toNat : Int))
                 rw [hk0]
                 show Blk _ _ _ _
                 simpa using this
               have H5 : Hid (RdAt (w4.setCell ⟨g1, 1, none⟩ (.int .i64 (x.toNat : Int))) b rk) := Blk.far H4.out (p := ⟨g1, 1, none⟩) (by show b ≠ g1; omega) _
               have HO5 := hid (own_only HO4.out hob (fun k hk e => by have := (HNO.out k hk).2; have e : k = g1 := e; omega))
               have HOn5 : Hid (Only (· = b) w (w4.setCell ⟨g1, 1, none⟩ (.int .i64 (x.toNat : Int)))) := HOn4.out.setCell (p := ⟨g1, 1, none⟩) (.inr hog) _
               clear hob k1 f1 HX4 H4 HO4 HOn4 hy0 hy1 hy2 hy3 hy4 hys
               generalize w4.setCell ⟨g1, 1, none⟩ (.int .i64 (x.toNat : Int)) = wc at HX5 H5 HO5 HOn5 ⊢
               clear hk0)
          all_goals
            clear HX1 HR1 HO1 HOn1
            rw [HK.out.2, HRK.out] at HEN
            obtain ⟨nm, hnm⟩ : ∃ x, bz (textR rk 255).1 = x := ⟨_, rfl⟩
            have HTX := hid (otext_any 255 (by omega) H5.out (by omega))
            have hrt : (textR rk 255).2.rest.length ≤ 1000000000 := Nat.le_trans (textR_rest _ _) hrkl
            obtain ⟨rt, hrt2⟩ : ∃ x, (textR rk 255).2 = x := ⟨_, rfl⟩
            have hnm2 : bx (textR rk 255).1 = nm := hnm
            rw [hnm, hrt2] at HEN
            rw [hnm2, hrt2] at HTX
            rw [hrt2] at hrt
            clear hnm hnm2 hrt2 HK HRK
            go_wp2_with fail
            refine HTX.out.mono ?_; rintro e w6 ⟨rfl, hs, ho⟩
            have hx6 := HX5.out.only ho (by omega)
            have k0 := Blk.cell hx6 0
            have f0 := Blk.frozen hx6 0
            simp at k0
            have HX6 : Hid (Blk (w6.setCell ⟨g1, 0, none⟩ (.string nm)) g1 76 #[.string nm, .int .i64 kd, .string ⟨#[]⟩]) := by
              have := Blk.set hx6 0 (.string nm)
              show Blk _ _ _ _
              simpa using this
            have hob : Only (· = g1) w6 (w6.setCell ⟨g1, 0, none⟩ (.string nm)) := (Only.refl (· = g1) w6).setCell (p := ⟨g1, 0, none⟩) (.inl rfl) _
            have H6 : Hid (RdAt (w6.setCell ⟨g1, 0, none⟩ (.string nm)) b rt) := Blk.far hs (p := ⟨g1, 0, none⟩) (by show b ≠ g1; omega) _
            have HO6 := hid (own_only (own_only HO5.out ho (fun k hk e => by have := (HNO.out k hk).1; have e : k = b := e; omega)) hob (fun k hk e => by have := (HNO.out k hk).2; have e : k = g1 := e; omega))
            have HOn6 : Hid (Only (· = b) w (w6.setCell ⟨g1, 0, none⟩ (.string nm))) := (HOn5.out.then ho).setCell (p := ⟨g1, 0, none⟩) (.inr hog) _
            have HTK := hid (otake_any 32 H6.out (by omega) (by omega))
            obtain ⟨id, hid1⟩ : ∃ x, bz (takeR rt 32).1 = x := ⟨_, rfl⟩
            have hid2 : bx (takeR rt 32).1 = id := hid1
            have hre : (takeR rt 32).2.rest.length ≤ 1000000000 := Nat.le_trans (takeR_rest _ _) hrt
            obtain ⟨re, hre2⟩ : ∃ x, (takeR rt 32).2 = x := ⟨_, rfl⟩
            rw [hid1, hre2] at HEN
            rw [hid2, hre2] at HTK
            rw [hre2] at hre
            clear hid1 hid2 hre2 hs ho hx6 hob HX5 H5 HO5 HOn5 HTX
            go_wp2_with fail
            refine HTK.out.mono ?_; rintro e w7 ⟨rfl, hs, ho⟩
            have hx7 := HX6.out.only ho (by omega)
            clear k0 f0
            have k2 := Blk.cell hx7 2
            have f2 := Blk.frozen hx7 2
            have k0 := Blk.cell hx7 0
            have k1 := Blk.cell hx7 1
            simp at k0 k1 k2
            have HX7 : Hid (Blk (w7.setCell ⟨g1, 2, none⟩ (.string id)) g1 76 #[.string nm, .int .i64 kd, .string id]) := by
              have := Blk.set hx7 2 (.string id)
              show Blk _ _ _ _
              simpa using this
            have hob : Only (· = g1) w7 (w7.setCell ⟨g1, 2, none⟩ (.string id)) := (Only.refl (· = g1) w7).setCell (p := ⟨g1, 2, none⟩) (.inl rfl) _
            have H7 : Hid (RdAt (w7.setCell ⟨g1, 2, none⟩ (.string id)) b re) := Blk.far hs (p := ⟨g1, 2, none⟩) (by show b ≠ g1; omega) _
            have HO7 := hid (own_only (own_only HO6.out ho (fun k hk e => by have := (HNO.out k hk).1; have e : k = b := e; omega)) hob (fun k hk e => by have := (HNO.out k hk).2; have e : k = g1 := e; omega))
            have HOn7 : Hid (Only (· = b) w (w7.setCell ⟨g1, 2, none⟩ (.string id))) := (HOn6.out.then ho).setCell (p := ⟨g1, 2, none⟩) (.inr hog) _
            clear hs ho hx7 hob HX6 H6 HO6 HOn6 HTK
            go_upto_region 15 with fail
            clear k0 k1 k2 f2
            generalize w7.setCell ⟨g1, 2, none⟩ (.string id) = w8 at HX7 H7 HO7 HOn7 ⊢
            have k0 : w8.cell? ⟨g1, 0, none⟩ = some (.string nm) := Blk.cell HX7.out 0
            have k1 : w8.cell? ⟨g1, 1, none⟩ = some (.int .i64 kd) := Blk.cell HX7.out 1
            have k2 : w8.cell? ⟨g1, 2, none⟩ = some (.string id) := Blk.cell HX7.out 2
            have hs8 : w.heap.size ≤ w8.heap.size := HOn7.out.size
            have hvb : i ≤ 4294967296 := by omega
            go_wp2_with (first
              | (at_builtin; refine wpList_append_own _ rfl (.tmp 32) (.tmp 34) 83 rfl w.heap.size 76 i0 (.agg #[.string ⟨#[]⟩, .int .i64 0, .string ⟨#[]⟩]) 3 40 Tryz.underlying83 hi0 hz0 hz1 hz2 rfl (by decide) (.slice va i vc) _ _ rfl (HO7.out.alloc _) ⟨w8.heap.size, 0, none⟩ 1 1 [.string nm, .int .i64 kd, .string id] rfl rfl (cellNew3 _ _ _ _ _) (one3 rfl rfl rfl) (by unfold maxLen; omega) (by omega) (by simp; omega) ?_; intro v' w9 hown' hgrow _; have HOWN := hid hown'; have HGR := hid hgrow; clear hown' hgrow))
            obtain ⟨va', vc', rfl, hvc'⟩ := own_slice' HOWN.out
            have hogb : ∀ k, (Value.slice va i vc).ownBlock = some k → k ≠ b := fun k hk e => by have := (HNO.out k hk).1; omega
            have HE9 : Hid (entsR n r2 = ((l ++ [⟨nm, kd, id⟩]) ++ (entsR (n - (i + 1)) re).1, (entsR (n - (i + 1)) re).2)) := by
              show _ = _
              rw [HE.out, HST.out, HEN.out.1, HEN.out.2, List.append_assoc]; rfl
            have HL9 : Hid ((l ++ [(⟨nm, kd, id⟩ : Ent)]).length = i + 1) := by show _ = _; rw [List.length_append, HL.out]; rfl
            have HO9 : Hid (w9.ownsRow w.heap.size 76 3 (.slice va' (i + 1) vc') (i + 1) (evals (l ++ [⟨nm, kd, id⟩]))) := by
              have h := HOWN.out
              rw [evals_append]; exact h
            have H9 : Hid (RdAt w9 b re) := (Blk.alloc H7.out _).grown HGR.out (fun e => hogb b e.symm rfl)
            have HOn9 : Hid (Only (· = b) w w9) := (HOn7.out.alloc _).grown HGR.out (fun k hk => .inr (HNO.out k hk).1)
            go_roundw
            case rel => first | exact ⟨i + 1, _, re, by omega, by go_num, HL9, HO9, H9, hre, HOn9, HE9⟩ | ((repeat apply Exists.intro); exact ⟨⟨i + 1, _, re, by omega, by go_num, HL9, HO9, H9, hre, HOn9, HE9⟩, rfl⟩)
            case measure => simp [intOf]; omega
        · have HST : Hid (entsR (n - i) ri = ([], ri)) := entsR_bad hbad
          have HBAD := hid hbad
          clear hbad
          go_wp2_with fail
          refine HB.out.mono ?_; rintro e w' ⟨rfl, rfl⟩
          go_wp2_with fail
          go_ret
          exact ⟨none, 0, 0, [], rfl, ⟨rfl, by omega, .inl rfl⟩, (fun hb => by rw [HT2.out, HE.out, HST.out] at hb; rw [HBAD.out] at hb; cases hb), by rw [HT2.out, HE.out, HST.out]; exact HRd.out, HOn.out, fun k hk => by simp [Value.ownBlock] at hk⟩
      · obtain rfl : i = n := by omega
        have HF : Hid (treeR r = (l, ri)) := by
          show _ = _
          rw [HT2.out, HE.out, Nat.sub_self]
          show (l ++ [], ri) = _
          rw [List.append_nil]
        have HA : Hid (EntsAt wr va i l) := by
          have h := HO.out
          have h' : wr.ownsRow w.heap.size 76 3 (.slice va i vc) l.length (evals l) := by rw [HL.out]; exact h
          obtain ⟨a', c', he, hst⟩ := own_ents h' (by rw [HL.out]; omega)
          injection he with e1 e2 e3
          rw [HL.out, ← e1] at hst
          exact hst
        go_wp2_with fail
        go_ret
        exact ⟨va, i, vc, l, rfl, HA.out, (fun _ => by rw [HF.out]), by rw [HF.out]; exact HRd.out, HOn.out, fun k hk => (HO.out.lt k hk).1⟩
end Go.Proofs.YtmpjdoiogbbcoaaGreatDoor
/- Objects: read from bytes: parents. -/
namespace Go.Proofs.YtmpjdoiogbbcoaaGreatDoor
open Go.RowKit Book Pap Ojt
set_option linter.unusedVariables false

theorem idsR_step {n : Nat} {r : Rd} (h : r.bad = false) : idsR (n + 1) r = (bz (takeR r 32).1 :: (idsR n (takeR r 32).2).1, (idsR n (takeR r 32).2).2) := by
 show (if r.bad = true then ([], r) else _) = _
 rw [if_neg (by rw [h]; simp)]
theorem idsR_bad {n : Nat} {r : Rd} (h : r.bad = true) : idsR n r = ([], r) := by
 cases n with
 | zero => rfl
 | succ n => show (if r.bad = true then ([], r) else _) = _; rw [if_pos h]
/-- what parents hand back -/
def ParsOut (w : World) (b : Nat) (r : Rd) (e : Ending) (w' : World) : Prop :=
 ∃ a n c l, e = .returned (.slice a n c) ∧ StrsAt w' a n l ∧ ((parsR r).2.bad = false → l = (parsR r).1) ∧ RdAt w' b (parsR r).2 ∧ Only (· = b) w w' ∧ ∀ k, (Value.slice a n c).ownBlock = some k → w.heap.size ≤ k
set_option maxRecDepth 100000 in
set_option maxHeartbeats 4000000 in
theorem parents_any (b : Nat) (r : Rd) (w : World) (h : RdAt w b r) (hr : r.rest.length ≤ 1000000000) : Calls Tryz.prog 112 #[.pointer (some ⟨b, 0, none⟩)] w (ParsOut w b r) := by
 obtain ⟨i0, hi0, hz0, hz1, hz2⟩ := info_parts Tryz.infoS
 have HN := hid (onum_any h (by omega))
 have hn32 : (numR r).1 < 4294967296 := numV_lt _
 have hrl : (numR r).2.rest.length ≤ 1000000000 := Nat.le_trans (takeR_rest r 4) hr
 have HT : Hid (parsR r = idsR (numR r).1 (spoil (numR r).2 (numR r).1 8)) := rfl
 have hbw : b < w.heap.size := Blk.lt h
 obtain ⟨n, hn⟩ : ∃ n, (numR r).1 = n := ⟨_, rfl⟩
 obtain ⟨r2, hr2⟩ : ∃ x, (numR r).2 = x := ⟨_, rfl⟩
 rw [hn, hr2] at HN HT
 rw [hn] at hn32
 rw [hr2] at hrl
 clear h hr hn hr2
 by_cases h8 : 8 < n
 ·have g1 : (8 : Int) < n := by omega
  have HT2 : Hid (parsR r = ([], ⟨[], true⟩)) := by
   show _ = _
   rw [HT.out]
   unfold spoil
   rw [if_pos h8]
   exact idsR_bad rfl
  clear HT
  go_enter Tryz.func112, Tryz.ntmps112
  go_wp2_with fail
  refine HN.out.mono ?_; rintro e w1 ⟨rfl, hs, ho⟩
  have H1 := hid hs; have O1 := hid ho
  clear hs ho
  go_wp2_with fail
  refine (ospoil_any H1.out).mono ?_; rintro e w2 ⟨rfl, hs, ho⟩
  have H2 := hid hs; have O2 := hid (O1.out.then ho)
  clear hs ho
  have g0 : (0 : Int) < n := by omega
  go_wp2_with fail
  refine wp_loop_rounds 1 ?_
  rw [rounds_succ]
  go_wp2_with fail
  refine (obad_any H2.out).mono ?_; rintro e w' ⟨rfl, rfl⟩
  go_wp2_with fail
  go_ret
  exact ⟨none, 0, 0, [], rfl, ⟨rfl, by omega, .inl rfl⟩, (fun hb => by rw [HT2.out] at hb; cases hb), by rw [HT2.out]; exact H2.out, O2.out, fun k hk => by simp [Value.ownBlock] at hk⟩
 ·have g1 : ¬ (8 : Int) < n := by omega
  have HT2 : Hid (parsR r = idsR n r2) := by
   show _ = _
   rw [HT.out]
   unfold spoil
   rw [if_neg h8]
  clear HT
  go_enter Tryz.func112, Tryz.ntmps112
  go_wp2_with fail
  refine HN.out.mono ?_; rintro e w1 ⟨rfl, hs, ho⟩
  have H1 := hid hs; have O1 := hid ho
  clear hs ho
  go_wp2_with fail
  go_loopw [12, 4] (fun iv v wr => ∃ (i : Nat) (l : List ByteArray) (ri : Rd), i ≤ n ∧ iv = .int .u32 i ∧ Hid (l.length = i) ∧ Hid (wr.ownsRow w.heap.size 9 1 v i (svals l)) ∧ Hid (RdAt wr b ri) ∧ Hid (ri.rest.length ≤ 1000000000) ∧ Hid (Only (· = b) w wr) ∧ Hid (idsR n r2 = (l ++ (idsR (n - i) ri).1, (idsR (n - i) ri).2))) (fun iv _ _ => n - (intOf iv).toNat)
  case atStart => exact ⟨0, [], r2, Nat.zero_le _, rfl, rfl, World.ownsRow_nil _ _ _ _, H1, hrl, O1, rfl⟩
  case round =>
   obtain ⟨i, l, ri, hi, rfl, HL, HO, HRd, HRl, HOn, HE⟩ := hrel
   obtain ⟨va, vc, rfl, hvc⟩ := own_slice' HO.out
   have hszw : w.heap.size ≤ wr.heap.size := HOn.out.size
   clear H1 O1
   by_cases hlt : i < n
   ·have ci : (i : Int) < n := by omega
    have ew : IntKind.u32.wrap ((i : Int) + 1) = (i : Int) + 1 := by rw [IntKind.wrap_u32]; omega
    have HB := hid (obad_any HRd.out)
    obtain ⟨bad, hbad⟩ : ∃ q, ri.bad = q := ⟨_, rfl⟩
    rw [hbad] at HB
    cases bad
    ·have HST : Hid (idsR (n - i) ri = (bz (takeR ri 32).1 :: (idsR (n - (i + 1)) (takeR ri 32).2).1, (idsR (n - (i + 1)) (takeR ri 32).2).2)) := by
      show _ = _
      rw [show n - i = (n - (i + 1)) + 1 by omega]
      exact idsR_step hbad
     clear hbad
     have hrl1 := HRl.out
     have HTK := hid (otake_any 32 HRd.out (by omega) (by omega))
     obtain ⟨id, hid1⟩ : ∃ x, bz (takeR ri 32).1 = x := ⟨_, rfl⟩
     have hid2 : bx (takeR ri 32).1 = id := hid1
     have hre : (takeR ri 32).2.rest.length ≤ 1000000000 := Nat.le_trans (takeR_rest _ _) hrl1
     obtain ⟨re, hre2⟩ : ∃ x, (takeR ri 32).2 = x := ⟨_, rfl⟩
     rw [hid1, hre2] at HST
     rw [hid2, hre2] at HTK
     rw [hre2] at hre
     clear hid1 hid2 hre2
     have hogb : ∀ k, (Value.slice va i vc).ownBlock = some k → w.heap.size ≤ k := fun k hk => (HO.out.lt k hk).1
     have HOG := hid hogb
     clear hogb
     go_wp2_with fail
     refine HB.out.mono ?_; rintro e w' ⟨rfl, rfl⟩
     go_wp2_with fail
     refine HTK.out.mono ?_; rintro e w7 ⟨rfl, hs, ho⟩
     have H7 := hid hs
     have HO7 := hid (own_only HO.out ho (fun k hk e => by have := HOG.out k hk; have e : k = b := e; omega))
     have HOn7 := hid (HOn.out.then ho)
     have hs8 : w.heap.size ≤ w7.heap.size := HOn7.out.size
     clear hs ho
     go_wp2_with (first
      | (at_builtin; refine wpList_append_own _ rfl (.tmp 16) (.tmp 19) 40 rfl w.heap.size 9 i0 (.string ⟨#[]⟩) 1 16 Tryz.underlying40 hi0 hz0 hz1 hz2 rfl (by decide) (.slice va i vc) _ _ rfl (HO7.out.alloc _) ⟨w7.heap.size, 0, none⟩ 1 1 [.string id] rfl rfl (cellNew1 _ _ _) (one_bytes rfl) (by unfold maxLen; omega) (by omega) (by simp; omega) ?_; intro v' w9 hown' hgrow _; have HOWN := hid hown'; have HGR := hid hgrow; clear hown' hgrow))
     obtain ⟨va', vc', rfl, hvc'⟩ := own_slice' HOWN.out
     have HE9 : Hid (idsR n r2 = ((l ++ [id]) ++ (idsR (n - (i + 1)) re).1, (idsR (n - (i + 1)) re).2)) := by
      show _ = _
      rw [HE.out, HST.out, List.append_assoc]; rfl
     have HL9 : Hid ((l ++ [id]).length = i + 1) := by show _ = _; rw [List.length_append, HL.out]; rfl
     have HO9 : Hid (w9.ownsRow w.heap.size 9 1 (.slice va' (i + 1) vc') (i + 1) (svals (l ++ [id]))) := by
      have h := HOWN.out
      rw [svals_append]; exact h
     have H9 : Hid (RdAt w9 b re) := (Blk.alloc H7.out _).grown HGR.out (fun e => by have := HOG.out b e.symm; omega)
     have HOn9 : Hid (Only (· = b) w w9) := (HOn7.out.alloc _).grown HGR.out (fun k hk => .inr (HOG.out k hk))
     go_roundw
     case rel => first | exact ⟨i + 1, _, re, by omega, by go_num, HL9, HO9, H9, hre, HOn9, HE9⟩ | ((repeat apply Exists.intro); exact ⟨⟨i + 1, _, re, by omega, by go_num, HL9, HO9, H9, hre, HOn9, HE9⟩, rfl⟩)
     case measure => simp [intOf]; omega
    ·have HST : Hid (idsR (n - i) ri = ([], ri)) := idsR_bad hbad
     have HBAD := hid hbad
     clear hbad
     go_wp2_with fail
     refine HB.out.mono ?_; rintro e w' ⟨rfl, rfl⟩
     go_wp2_with fail
     go_ret
     exact ⟨none, 0, 0, [], rfl, ⟨rfl, by omega, .inl rfl⟩, (fun hb => by rw [HT2.out, HE.out, HST.out] at hb; rw [HBAD.out] at hb; cases hb), by rw [HT2.out, HE.out, HST.out]; exact HRd.out, HOn.out, fun k hk => by simp [Value.ownBlock] at hk⟩
   ·obtain rfl : i = n := by omega
    have HF : Hid (parsR r = (l, ri)) := by
     show _ = _
     rw [HT2.out, HE.out, Nat.sub_self]
     show (l ++ [], ri) = _
     rw [List.append_nil]
    have HA : Hid (StrsAt wr va i l) := by
     have h := HO.out
     have h' : wr.ownsRow w.heap.size 9 1 (.slice va i vc) l.length (svals l) := by rw [HL.out]; exact h
     obtain ⟨a', c', he, hst⟩ := own_strs h' (by rw [HL.out]; omega)
     injection he with e1 e2 e3
     rw [HL.out, ← e1] at hst
     exact hst
    go_wp2_with fail
    go_ret
    exact ⟨va, i, vc, l, rfl, HA.out, (fun _ => by rw [HF.out]), by rw [HF.out]; exact HRd.out, HOn.out, fun k hk => (HO.out.lt k hk).1⟩
end Go.Proofs.YtmpjdoiogbbcoaaGreatDoor
