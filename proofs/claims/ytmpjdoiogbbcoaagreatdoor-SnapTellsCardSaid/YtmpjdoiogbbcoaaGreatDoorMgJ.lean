/- Texts in a row: RoG, RoD, RoL, PathRefB, PathRefC, RoO, RoP, RoF, InsG. -/
import Derived.Test.YtmpjdoiogbbcoaaGreatDoorMgI
import Derived.BigQuiet
import Derived.Deep.DeepCutAuto
import Derived.Deep.CutBlock
/- The reference's objects: what can be: Good. -/
namespace Go.Proofs.YtmpjdoiogbbcoaaGreatDoor
open Go.RowKit Book Pap Ojt
set_option linter.unusedVariables false
set_option linter.unusedSimpArgs false

def noE : Ent := ⟨ByteArray.empty, 0, ByteArray.empty⟩
/-- an entry may stand at a place of a list -/
def entOK (l : List Ent) (j : Nat) : Prop := goodEnt (l.getD j noE) = true ∧ (0 < j → lt' (l.getD (j - 1) noE).name (l.getD j noE).name = true)
theorem names_get (l : List Ent) (j : Nat) (h : j < l.length) : (l.map (·.name)).getD j ByteArray.empty = (l.getD j noE).name := by
 rw [List.getD_eq_getElem?_getD, List.getElem?_map, List.getD_eq_getElem?_getD, List.getElem?_eq_getElem h]; rfl
theorem goodTree_iff (l : List Ent) : goodTree l = true ↔ (∀ j, j < l.length → entOK l j) ∧ l.length ≤ 256 := by
 unfold goodTree
 rw [Bool.and_eq_true, Bool.and_eq_true, List.all_eq_true, decide_eq_true_eq, risingB_iff, List.length_map]
 constructor
 ·rintro ⟨h1, h2, h3⟩
  refine ⟨fun j hj => ⟨?_, fun h0 => ?_⟩, h2⟩
  ·rw [List.getD_eq_getElem?_getD, List.getElem?_eq_getElem hj]; exact h1 _ (List.getElem_mem hj)
  ·have := h3 (j - 1) (by omega)
   rw [names_get l (j - 1) (by omega), show j - 1 + 1 = j by omega, names_get l j hj] at this
   exact this
 ·rintro ⟨h1, h2⟩
  refine ⟨fun e he => ?_, h2, fun j hj => ?_⟩
  ·obtain ⟨j, hj, rfl⟩ := List.getElem_of_mem he
   have := (h1 j hj).1
   rw [List.getD_eq_getElem?_getD, List.getElem?_eq_getElem hj] at this; exact this
  ·rw [names_get l j (by omega), names_get l (j + 1) hj]
   exact (h1 (j + 1) hj).2 (by omega)
theorem goodTree_no {l : List Ent} {j : Nat} (hj : j < l.length) (h : ¬ entOK l j) : goodTree l = false := by
 cases hg : goodTree l
 ·rfl
 ·exact absurd ((goodTree_iff l).1 hg |>.1 j hj) h
/-- a parent may stand at a place of a list -/
def parOK (l : List ByteArray) (j : Nat) : Prop := (l.getD j ByteArray.empty).size = 32 ∧ (0 < j → lt' (l.getD (j - 1) ByteArray.empty) (l.getD j ByteArray.empty) = true)
theorem goodPars_iff (l : List ByteArray) : goodPars l = true ↔ (∀ j, j < l.length → parOK l j) ∧ l.length ≤ 8 := by
 unfold goodPars
 rw [Bool.and_eq_true, Bool.and_eq_true, List.all_eq_true, decide_eq_true_eq, risingB_iff]
 constructor
 ·rintro ⟨h2, h3, h1⟩
  refine ⟨fun j hj => ⟨?_, fun h0 => ?_⟩, h2⟩
  ·rw [List.getD_eq_getElem?_getD, List.getElem?_eq_getElem hj]; exact of_decide_eq_true (h1 _ (List.getElem_mem hj))
  ·have := h3 (j - 1) (by omega)
   rw [show j - 1 + 1 = j by omega] at this
   exact this
 ·rintro ⟨h1, h2⟩
  refine ⟨h2, fun j hj => (h1 (j + 1) hj).2 (by omega), fun e he => ?_⟩
  obtain ⟨j, hj, rfl⟩ := List.getElem_of_mem he
  have := (h1 j hj).1
  rw [List.getD_eq_getElem?_getD, List.getElem?_eq_getElem hj] at this; exact decide_eq_true this
theorem goodPars_no {l : List ByteArray} {j : Nat} (hj : j < l.length) (h : ¬ parOK l j) : goodPars l = false := by
 cases hg : goodPars l
 ·rfl
 ·exact absurd ((goodPars_iff l).1 hg |>.1 j hj) h
set_option maxRecDepth 100000 in
set_option maxHeartbeats 8000000 in
theorem rogood_any (x : Ob) (ev pv : Value) (w : World) (h : ObAt w ev pv x) (hn : ObN x) (hsz : ∀ e ∈ x.ents, e.name.size ≤ 1000000000) :
  Calls Tryz.prog 147 #[.agg (obCs x ev pv)] w fun e w' => e = .returned (.bool (good x)) ∧ Below w.heap.size w w' := by
 have hO := h
 obtain ⟨ea, en, ec, pa, pn, pc, rfl, he, rfl, hp⟩ := h
 have hb1 : Below w.heap.size w (w.alloc (.cells (obCs x (.slice ea en ec) (.slice pa pn pc)) 98)) := (Below.refl _ _).alloc (Nat.le_refl _) _
 have HX1 : Hid (Blk (w.alloc (.cells (obCs x (.slice ea en ec) (.slice pa pn pc)) 98)) w.heap.size 98 (obCs x (.slice ea en ec) (.slice pa pn pc))) := Blk.new w _ _
 have HE1 := hid (he.later hb1)
 have HP1 := hid (hp.later hb1)
 have HB1 := hid hb1
 have HSZ := hid hsz
 have hlen := hn.2.2
 have HEL := hid he.1
 have HPL := hid hp.1
 have hpn := hp.2.1
 have hen : en ≤ 1000000 := by rw [← he.1]; exact hn.2.2
 unfold obCs at HX1 HB1 HE1 HP1 ⊢
 have HG : Hid (good x = if x.kind = 1 then decide (x.data.size ≤ 65536) else if x.kind = 2 then goodTree x.ents else if x.kind = 3 then goodCommit x else false) := rfl
 have HGC : Hid (goodCommit x = (goodPars x.pars && (decide (0 ≤ x.height) && (decide (x.height ≤ 1073741824) && decide (0 < x.height ↔ x.pars ≠ []))) && (decide (x.tree.size = 32) && decide (x.note.size ≤ 1000)))) := rfl
 obtain ⟨R, hR⟩ : ∃ R, good x = R := ⟨_, rfl⟩
 rw [hR] at HG ⊢
 clear hO hb1 hR he hp hsz hn
 obtain ⟨kd, data, ents, tree, pars, height, note⟩ := x
 simp only at HX1 HE1 HP1 HB1 HSZ hlen HEL HPL HG HGC ⊢
 go_enter Tryz.func147, Tryz.ntmps147
 go_upto_region 1 with fail
 generalize (w.alloc (.cells #[.int .i64 kd, .string data, .slice ea en ec, .string tree, .slice pa pn pc, .int .i64 height, .string note] 98)) = w1 at HX1 HB1 HE1 HP1 ⊢
 obtain ⟨g, hg⟩ : ∃ g, w.heap.size = g := ⟨_, rfl⟩
 have HGz := hid hg
 rw [hg] at HX1 HB1 ⊢
 clear hg
 have k0 : w1.cell? ⟨g, 0, none⟩ = some (.int .i64 kd) := Blk.cell HX1.out 0
 have k1 : w1.cell? ⟨g, 1, none⟩ = some (.string data) := Blk.cell HX1.out 1
 have k2 : w1.cell? ⟨g, 2, none⟩ = some (.slice ea en ec) := Blk.cell HX1.out 2
 have k3 : w1.cell? ⟨g, 3, none⟩ = some (.string tree) := Blk.cell HX1.out 3
 have k4 : w1.cell? ⟨g, 4, none⟩ = some (.slice pa pn pc) := Blk.cell HX1.out 4
 have k5 : w1.cell? ⟨g, 5, none⟩ = some (.int .i64 height) := Blk.cell HX1.out 5
 have k6 : w1.cell? ⟨g, 6, none⟩ = some (.string note) := Blk.cell HX1.out 6
 by_cases h1 : kd = 1
 ·have c1 : (kd == 1) = true := by simp [h1]
  have HG1 : Hid (R = decide (data.size ≤ 65536)) := by show _ = _; rw [HG.out, if_pos h1]
  clear h1 HG
  by_cases hd : data.size ≤ 65536
  ·have cd : (data.size : Int) ≤ 65536 := by omega
   go_wp2_with fail
   go_ret
   exact ⟨by rw [HG1.out]; simp [hd], by rw [HGz.out]; exact HB1.out⟩
  ·have cd : ¬ (data.size : Int) ≤ 65536 := by omega
   go_wp2_with fail
   go_ret
   exact ⟨by rw [HG1.out]; simp [hd], by rw [HGz.out]; exact HB1.out⟩
 have c1 : (kd == 1) = false := by simp [h1]
 by_cases h2 : kd = 2
 ·have c2 : (kd == 2) = true := by simp [h2]
  have HG2 : Hid (R = goodTree ents) := by show _ = _; rw [HG.out, if_neg h1, if_pos h2]
  clear h1 h2 HG HGC
  go_wp2_with fail
  go_loopw [3] (fun iv wr => ∃ i : Nat, i ≤ en ∧ iv = .int .i64 i ∧ Hid (∀ j, j < i → entOK ents j) ∧ Hid (Below w1.heap.size w1 wr)) (fun iv _ => en - (intOf iv).toNat)
  case atStart => exact ⟨0, Nat.zero_le _, rfl, fun j hj => by omega, Below.refl _ _⟩
  case round =>
   obtain ⟨i, hi, rfl, HA, HB⟩ := hrel
   have HXr : Hid (Blk wr g 98 #[.int .i64 kd, .string data, .slice ea en ec, .string tree, .slice pa pn pc, .int .i64 height, .string note]) := (HB.out.block g (Blk.lt HX1.out)).trans HX1.out
   have HBw : Hid (Below g w wr) := HB1.out.trans (HB.out.mono (Nat.le_of_lt (Blk.lt HX1.out)))
   have r2 : wr.cell? ⟨g, 2, none⟩ = some (.slice ea en ec) := Blk.cell HXr.out 2
   by_cases hlt : i < en
   ·have ci : (i : Int) < en := by omega
    have ci0 : (0 : Int) ≤ (i : Int) := by omega
    obtain ⟨-, -, h3⟩ := HE1.out.later HB.out
    obtain ⟨b, off, rfl, hc⟩ := h3.resolve_left (by omega)
    obtain ⟨q0, q1, q2⟩ := hc i hlt
    have hil : i < ents.length := by rw [HEL.out]; exact hlt
    have hnm := HSZ.out (ents.getD i noE) (by rw [List.getD_eq_getElem?_getD, List.getElem?_eq_getElem hil]; exact List.getElem_mem hil)
    have p0 : 0 < i → wr.cell? ⟨b, off + (i - 1) * 3, none⟩ = some (.string (ents.getD (i - 1) noE).name) := fun h0 => (hc (i - 1) (by omega)).1
    have HP0 := hid p0
    have HNX : Hid (entOK ents i → ∀ j, j < i + 1 → entOK ents j) := fun h j hj => by
     rcases Nat.lt_or_ge j i with h1 | h1
     ·exact HA.out j h1
     ·obtain rfl : j = i := by omega
      exact h
    have HNO : Hid (¬ entOK ents i → R = false) := fun h => by rw [HG2.out]; exact goodTree_no hil h
    have HOK : Hid (entOK ents i = (goodEnt (ents.getD i noE) = true ∧ (0 < i → lt' (ents.getD (i - 1) noE).name (ents.getD i noE).name = true))) := rfl
    obtain ⟨y, hy⟩ : ∃ y, ents.getD i noE = y := ⟨_, rfl⟩
    have hy' : ents.getD i ⟨ByteArray.empty, 0, ByteArray.empty⟩ = y := hy
    obtain ⟨pv, hpv⟩ : ∃ y, (ents.getD (i - 1) noE).name = y := ⟨_, rfl⟩
    rw [hy'] at q0 q1 q2
    rw [hy] at HOK hnm
    rw [hpv] at HOK HP0
    obtain ⟨nm, yk, yd⟩ := y
    simp only at q0 q1 q2 hnm HOK
    clear hc h3 hy hy' hpv hil p0
    have HGD := hid (fun W => rgood_any nm W (by omega))
    have HGE : Hid (goodEnt ⟨nm, yk, yd⟩ = (goodL nm.data.toList && (decide (yk = 1) || decide (yk = 2)) && decide (yd.size = 32))) := rfl
    go_upto_region 9 with fail
    have HXa : Hid (Blk (wr.alloc (.cells #[.string nm, .int .i64 yk, .string yd] 76)) wr.heap.size 76 #[.string nm, .int .i64 yk, .string yd]) := Blk.new wr _ _
    have HXg := hid (Blk.alloc HXr.out (.cells #[.string nm, .int .i64 yk, .string yd] 76))
    have hba : Below wr.heap.size wr (wr.alloc (.cells #[.string nm, .int .i64 yk, .string yd] 76)) := (Below.refl _ _).alloc (Nat.le_refl _) _
    have HBa := hid (below_then HB.out hba)
    have HBv : Hid (Below g w (wr.alloc (.cells #[.string nm, .int .i64 yk, .string yd] 76))) := HB1.out.trans (HBa.out.mono (Nat.le_of_lt (Blk.lt HX1.out)))
    have HPa : Hid (0 < i → (wr.alloc (.cells #[.string nm, .int .i64 yk, .string yd] 76)).cell? ⟨b, off + (i - 1) * 3, none⟩ = some (.string pv)) := fun h0 => (hba.cell (World.block_lt_of_cell? wr _ (HP0.out h0))).trans (HP0.out h0)
    clear hba q0 q1 q2 r2 HP0 HXr HBw HB
    generalize (wr.alloc (.cells #[.string nm, .int .i64 yk, .string yd] 76)) = wa at HXa HXg HBa HBv HPa ⊢
    generalize wr.heap.size = e0 at HXa ⊢
    have j0 : wa.cell? ⟨e0, 0, none⟩ = some (.string nm) := Blk.cell HXa.out 0
    have j1 : wa.cell? ⟨e0, 1, none⟩ = some (.int .i64 yk) := Blk.cell HXa.out 1
    have j2 : wa.cell? ⟨e0, 2, none⟩ = some (.string yd) := Blk.cell HXa.out 2
    have r2 : wa.cell? ⟨g, 2, none⟩ = some (.slice (some ⟨b, off, none⟩) en ec) := Blk.cell HXg.out 2
    have FIN : Hid (R = false → ∀ q, Ending.returned (.bool false) = Ending.returned (.bool R) ∧ Below w.heap.size w (wa.drewN q)) := fun h q => ⟨by rw [h], by rw [HGz.out]; exact below_drewN HBv.out q⟩
    obtain ⟨gl, hgl⟩ : ∃ b, goodL nm.data.toList = b := ⟨_, rfl⟩
    rw [hgl] at HGD HGE
    clear hgl
    cases gl with
    | false =>
     have HR : Hid (R = false) := HNO.out (by rw [HOK.out, HGE.out]; simp)
     clear HNX HNO HOK HGE HPa
     go_quiet (first | (go_at_call 137; exact Calls.quiet_of_same ((HGD.out _).mono fun _ _ h => ⟨h.1, h.2.symm⟩)))
     go_wp2_with fail
     go_ret
     exact FIN.out HR.out _
    | true =>
     rcases Classical.em (yk = 1 ∨ yk = 2) with hk | hk
     ·have HGE2 : Hid (goodEnt ⟨nm, yk, yd⟩ = decide (yd.size = 32)) := by show _ = _; rw [HGE.out]; rcases hk with rfl | rfl <;> simp
      have hkd : (yk != 1) = false ∨ ((yk != 1) = true ∧ (yk != 2) = false) := by rcases hk with rfl | rfl <;> simp
      clear hk HGE
      rcases hkd with d1 | ⟨d1, d2⟩
      all_goals
       by_cases h32 : yd.size = 32
       ·have f1 : ((yd.size : Int) != 32) = false := by rw [h32]; rfl
        have f2 : ((yd.size : Int) == 32) = true := by rw [h32]; rfl
        have HGE3 : Hid (goodEnt ⟨nm, yk, yd⟩ = true) := by show _ = _; rw [HGE2.out]; simp [h32]
        clear h32 HGE2
        by_cases hi0 : 0 < i
        ·have ci1 : (0 : Int) < (i : Int) := by omega
         have dg : decide ((0 : Int) < (i : Int)) = true := decide_eq_true ci1
         have dg2 : decide (0 < i) = true := decide_eq_true hi0
         have cm0 : (0 : Int) ≤ (i : Int) - 1 := by omega
         have cm1 : (1 : Int) ≤ (i : Int) := by omega
         have cm2 : (i : Int) - 1 < en := by omega
         have ew : IntKind.i64.wrap ((i : Int) - 1) = (i : Int) - 1 := by rw [IntKind.wrap_i64]; omega
         have et : ((i : Int) - 1).toNat = i - 1 := by omega
         have jp := HPa.out hi0
         have HI0 := hid hi0
         have HLT : Hid (lt' pv nm = Op.bytesLess pv.toList nm.toList) := rfl
         clear hi0 HPa
         cases hb : Op.bytesLess pv.toList nm.toList
         ·have HR : Hid (R = false) := HNO.out (by rw [HOK.out]; rintro ⟨-, h⟩; have := h HI0.out; rw [HLT.out, hb] at this; cases this)
          clear HNX HNO HOK HGE3 HLT
          go_quiet (first | (go_at_call 137; exact Calls.quiet_of_same ((HGD.out _).mono fun _ _ h => ⟨h.1, h.2.symm⟩)))
          go_wp2_with fail
          go_ret
          exact FIN.out HR.out _
         ·have HAn : Hid (∀ j, j < i + 1 → entOK ents j) := HNX.out (by rw [HOK.out]; exact ⟨HGE3.out, fun _ => by rw [HLT.out, hb]⟩)
          clear HNX HNO HOK HGE3 HLT FIN
          go_quiet (first | (go_at_call 137; exact Calls.quiet_of_same ((HGD.out _).mono fun _ _ h => ⟨h.1, h.2.symm⟩)))
          go_wp2_with fail
          go_roundw
          case rel => exact ⟨i + 1, by omega, by go_num, HAn, below_drewN HBa.out _⟩
          case measure => simp [intOf]; omega
        ·have ci1 : ¬ (0 : Int) < (i : Int) := by omega
         have dg : decide ((0 : Int) < (i : Int)) = false := decide_eq_false ci1
         have dg2 : decide (0 < i) = false := decide_eq_false hi0
         have HAn : Hid (∀ j, j < i + 1 → entOK ents j) := HNX.out (by rw [HOK.out]; exact ⟨HGE3.out, fun h => absurd h hi0⟩)
         clear HNX HNO HOK HGE3 FIN hi0 HPa
         go_quiet (first | (go_at_call 137; exact Calls.quiet_of_same ((HGD.out _).mono fun _ _ h => ⟨h.1, h.2.symm⟩)))
         go_wp2_with fail
         go_roundw
         case rel => exact ⟨i + 1, by omega, by go_num, HAn, below_drewN HBa.out _⟩
         case measure => simp [intOf]; omega
       ·have f1 : ((yd.size : Int) != 32) = true := by simp; omega
        have f2 : ((yd.size : Int) == 32) = false := by simp; omega
        have HR : Hid (R = false) := HNO.out (by rw [HOK.out, HGE2.out]; simp [h32])
        clear HNX HNO HOK HGE2 HPa h32
        go_quiet (first | (go_at_call 137; exact Calls.quiet_of_same ((HGD.out _).mono fun _ _ h => ⟨h.1, h.2.symm⟩)))
        go_wp2_with fail
        go_ret
        exact FIN.out HR.out _
     ·have d1 : (yk != 1) = true := by simp; exact fun e => hk (.inl e)
      have d2 : (yk != 2) = true := by simp; exact fun e => hk (.inr e)
      have HR : Hid (R = false) := HNO.out (by rw [HOK.out, HGE.out]; simp only [not_or] at hk; simp [hk.1, hk.2])
      clear HNX HNO HOK HGE HPa hk
      go_quiet (first | (go_at_call 137; exact Calls.quiet_of_same ((HGD.out _).mono fun _ _ h => ⟨h.1, h.2.symm⟩)))
      go_wp2_with fail
      go_ret
      exact FIN.out HR.out _
   ·obtain rfl : i = en := by omega
    have ci : ¬ (i : Int) < i := by omega
    have HT := hid (goodTree_iff ents)
    by_cases h256 : i ≤ 256
    ·have cc : (i : Int) ≤ 256 := by omega
     have HR : Hid (R = true) := by show _ = _; rw [HG2.out]; exact HT.out.2 ⟨fun j hj => HA.out j (by rw [← HEL.out]; exact hj), by rw [HEL.out]; exact h256⟩
     go_wp2_with fail
     go_ret
     exact ⟨by rw [HR.out]; simp, by rw [HGz.out]; exact HBw.out⟩
    ·have cc : ¬ (i : Int) ≤ 256 := by omega
     have HR : Hid (R = false) := by
      show _ = _
      rw [HG2.out]
      cases hg : goodTree ents
      ·rfl
      ·exact absurd (HT.out.1 hg).2 (by rw [HEL.out]; exact h256)
     go_wp2_with fail
     go_ret
     exact ⟨by rw [HR.out]; simp, by rw [HGz.out]; exact HBw.out⟩
 have c2 : (kd == 2) = false := by simp [h2]
 by_cases h3 : kd = 3
 ·have c3 : (kd == 3) = true := by simp [h3]
  have HG3 : Hid (R = (goodPars pars && (decide (0 ≤ height) && (decide (height ≤ 1073741824) && decide (0 < height ↔ pars ≠ []))) && (decide (tree.size = 32) && decide (note.size ≤ 1000)))) := by show _ = _; rw [HG.out, if_neg h1, if_neg h2, if_pos h3]; exact HGC.out
  clear h1 h2 h3 HG HGC
  go_wp2_with fail
  go_loopw [5] (fun iv wr => ∃ i : Nat, i ≤ pn ∧ iv = .int .i64 i ∧ Hid (∀ j, j < i → parOK pars j) ∧ Hid (Below w1.heap.size w1 wr)) (fun iv _ => pn - (intOf iv).toNat)
  case atStart => exact ⟨0, Nat.zero_le _, rfl, fun j hj => by omega, Below.refl _ _⟩
  case round =>
   obtain ⟨i, hi, rfl, HA, HB⟩ := hrel
   have HXr : Hid (Blk wr g 98 #[.int .i64 kd, .string data, .slice ea en ec, .string tree, .slice pa pn pc, .int .i64 height, .string note]) := (HB.out.block g (Blk.lt HX1.out)).trans HX1.out
   have HBw : Hid (Below g w wr) := HB1.out.trans (HB.out.mono (Nat.le_of_lt (Blk.lt HX1.out)))
   have r3 : wr.cell? ⟨g, 3, none⟩ = some (.string tree) := Blk.cell HXr.out 3
   have r4 : wr.cell? ⟨g, 4, none⟩ = some (.slice pa pn pc) := Blk.cell HXr.out 4
   have r5 : wr.cell? ⟨g, 5, none⟩ = some (.int .i64 height) := Blk.cell HXr.out 5
   have r6 : wr.cell? ⟨g, 6, none⟩ = some (.string note) := Blk.cell HXr.out 6
   have FIN : Hid (R = false → ∀ q, Ending.returned (.bool false) = Ending.returned (.bool R) ∧ Below w.heap.size w (wr.drewN q)) := fun h q => ⟨by rw [h], by rw [HGz.out]; exact below_drewN HBw.out q⟩
   by_cases hlt : i < pn
   ·have ci : (i : Int) < pn := by omega
    have ci0 : (0 : Int) ≤ (i : Int) := by omega
    obtain ⟨-, -, h3⟩ := HP1.out.later HB.out
    obtain ⟨b, off, rfl, hc⟩ := h3.resolve_left (by omega)
    have q0 := hc i hlt
    have hil : i < pars.length := by rw [HPL.out]; exact hlt
    have HP0 : Hid (0 < i → wr.cell? ⟨b, off + (i - 1), none⟩ = some (.string (pars.getD (i - 1) ByteArray.empty))) := fun h0 => hc (i - 1) (by omega)
    have HNX : Hid (parOK pars i → ∀ j, j < i + 1 → parOK pars j) := fun h j hj => by
     rcases Nat.lt_or_ge j i with h1 | h1
     ·exact HA.out j h1
     ·obtain rfl : j = i := by omega
      exact h
    have HNO : Hid (¬ parOK pars i → R = false) := fun h => by rw [HG3.out, goodPars_no hil h]; rfl
    have HOK : Hid (parOK pars i = ((pars.getD i ByteArray.empty).size = 32 ∧ (0 < i → lt' (pars.getD (i - 1) ByteArray.empty) (pars.getD i ByteArray.empty) = true))) := rfl
    obtain ⟨nm, hy⟩ : ∃ y, pars.getD i ByteArray.empty = y := ⟨_, rfl⟩
    obtain ⟨pv, hpv⟩ : ∃ y, pars.getD (i - 1) ByteArray.empty = y := ⟨_, rfl⟩
    rw [hy] at q0 HOK
    rw [hpv] at HOK HP0
    clear hc h3 hy hpv hil
    go_wp2_with fail
    by_cases h32 : nm.size = 32
    ·have f1 : ((nm.size : Int) != 32) = false := by rw [h32]; rfl
     have f2 : ((nm.size : Int) == 32) = true := by rw [h32]; rfl
     have H32 := hid h32
     clear h32
     by_cases hi0 : 0 < i
     ·have ci1 : (0 : Int) < (i : Int) := by omega
      have dg : decide ((0 : Int) < (i : Int)) = true := decide_eq_true ci1
      have dg2 : decide (0 < i) = true := decide_eq_true hi0
      have cm0 : (0 : Int) ≤ (i : Int) - 1 := by omega
      have cm1 : (1 : Int) ≤ (i : Int) := by omega
      have cm2 : (i : Int) - 1 < pn := by omega
      have ew : IntKind.i64.wrap ((i : Int) - 1) = (i : Int) - 1 := by rw [IntKind.wrap_i64]; omega
      have et : ((i : Int) - 1).toNat = i - 1 := by omega
      have jp := HP0.out hi0
      have HI0 := hid hi0
      have HLT : Hid (lt' pv nm = Op.bytesLess pv.toList nm.toList) := rfl
      clear hi0 HP0
      cases hb : Op.bytesLess pv.toList nm.toList
      ·have HR : Hid (R = false) := HNO.out (by rw [HOK.out]; rintro ⟨-, h⟩; have := h HI0.out; rw [HLT.out, hb] at this; cases this)
       clear HNX HNO HOK HLT
       go_quiet (fail)
       go_wp2_with fail
       go_ret
       exact FIN.out HR.out _
      ·have HAn : Hid (∀ j, j < i + 1 → parOK pars j) := HNX.out (by rw [HOK.out]; exact ⟨H32.out, fun _ => by rw [HLT.out, hb]⟩)
       clear HNX HNO HOK HLT FIN
       go_quiet (fail)
       go_wp2_with fail
       go_roundw
       case rel => exact ⟨i + 1, by omega, by go_num, HAn, below_drewN HB.out _⟩
       case measure => simp [intOf]; omega
     ·have ci1 : ¬ (0 : Int) < (i : Int) := by omega
      have dg : decide ((0 : Int) < (i : Int)) = false := decide_eq_false ci1
      have dg2 : decide (0 < i) = false := decide_eq_false hi0
      have HAn : Hid (∀ j, j < i + 1 → parOK pars j) := HNX.out (by rw [HOK.out]; exact ⟨H32.out, fun h => absurd h hi0⟩)
      clear HNX HNO HOK FIN hi0 HP0
      go_quiet (fail)
      go_wp2_with fail
      go_roundw
      case rel => exact ⟨i + 1, by omega, by go_num, HAn, below_drewN HB.out _⟩
      case measure => simp [intOf]; omega
    ·have f1 : ((nm.size : Int) != 32) = true := by simp; omega
     have f2 : ((nm.size : Int) == 32) = false := by simp; omega
     have HR : Hid (R = false) := HNO.out (by rw [HOK.out]; exact fun h => h32 h.1)
     clear HNX HNO HOK HP0 h32
     go_quiet (fail)
     go_wp2_with fail
     go_ret
     exact FIN.out HR.out _
   ·obtain rfl : i = pn := by omega
    have ci : ¬ (i : Int) < i := by omega
    have HGP : Hid (goodPars pars = decide (i ≤ 8)) := by
     show _ = _
     by_cases h8 : i ≤ 8
     ·rw [decide_eq_true h8]; exact (goodPars_iff pars).2 ⟨fun j hj => HA.out j (by rw [← HPL.out]; exact hj), by rw [HPL.out]; exact h8⟩
     ·rw [decide_eq_false h8]
      cases hg : goodPars pars
      ·rfl
      ·exact absurd ((goodPars_iff pars).1 hg).2 (by rw [HPL.out]; exact h8)
    have HFI : Hid (∀ r, R = r → Ending.returned (.bool r) = Ending.returned (.bool R) ∧ Below w.heap.size w wr) := fun r h => ⟨by rw [h], by rw [HGz.out]; exact HBw.out⟩
    have HPN : Hid ((pars ≠ []) ↔ 0 < i) := by rw [← HPL.out]; exact List.length_pos_iff.symm
    rw [HGP.out] at HG3
    have HGR : Hid (R = (decide (i ≤ 8) && (decide (0 ≤ height) && (decide (height ≤ 1073741824) && decide (0 < height ↔ 0 < i))) && (decide (tree.size = 32) && decide (note.size ≤ 1000)))) := by show _ = _; rw [HG3.out]; simp only [HPN.out]
    clear HGP HPN HG3 FIN HA HB
    by_cases t1 : tree.size = 32
    ·have f1 : ((tree.size : Int) == 32) = true := by rw [t1]; rfl
     by_cases t2 : i ≤ 8
     ·have f2 : (i : Int) ≤ 8 := by omega
      by_cases t3 : 0 ≤ height
      ·by_cases t4 : height ≤ 1073741824
       ·by_cases t5 : (0 < height ↔ 0 < i)
        ·have HH : Hid (R = decide (note.size ≤ 1000)) := by show _ = _; rw [HGR.out]; simp [t1, t2, t3, t4, t5]
         have f5 : ((height == 0) == ((i : Int) == 0)) = true := by
          by_cases h0 : 0 < height
          ·have hi0 : 0 < i := t5.1 h0
           have a1 : (height == 0) = false := by rw [beq_eq_false_iff_ne]; omega
           have a2 : ((i : Int) == 0) = false := by rw [beq_eq_false_iff_ne]; omega
           rw [a1, a2]; rfl
          ·have h1 : ¬ 0 < i := fun e => h0 (t5.2 e)
           have a1 : (height == 0) = true := by rw [beq_iff_eq]; omega
           have a2 : ((i : Int) == 0) = true := by rw [beq_iff_eq]; omega
           rw [a1, a2]; rfl
         clear t1 t2 t5 HGR
         by_cases t6 : note.size ≤ 1000
         ·have f6 : (note.size : Int) ≤ 1000 := by omega
          have HR : Hid (R = true) := by show _ = _; rw [HH.out]; simp [t6]
          clear t6 HH
          go_wp2_with fail
          go_ret
          exact HFI.out _ (by rw [HR.out])
         ·have f6 : ¬ (note.size : Int) ≤ 1000 := by omega
          have HR : Hid (R = false) := by show _ = _; rw [HH.out]; simp [t6]
          clear t6 HH
          go_wp2_with fail
          go_ret
          exact HFI.out _ (by rw [HR.out])
        ·have HR : Hid (R = false) := by show _ = _; rw [HGR.out, decide_eq_false t5]; simp
         have f5 : ((height == 0) == ((i : Int) == 0)) = false := by
          by_cases h0 : 0 < height
          ·have h1 : ¬ 0 < i := fun e => t5 ⟨fun _ => e, fun _ => h0⟩
           have a1 : (height == 0) = false := by rw [beq_eq_false_iff_ne]; omega
           have a2 : ((i : Int) == 0) = true := by rw [beq_iff_eq]; omega
           rw [a1, a2]; rfl
          ·have h1 : 0 < i := Classical.byContradiction (fun e => t5 ⟨fun h => absurd h h0, fun h => absurd h e⟩)
           have a1 : (height == 0) = true := by rw [beq_iff_eq]; omega
           have a2 : ((i : Int) == 0) = false := by rw [beq_eq_false_iff_ne]; omega
           rw [a1, a2]; rfl
         clear t1 t2 t5 HGR
         go_wp2_with fail
         go_ret
         exact HFI.out _ (by rw [HR.out])
       ·have HR : Hid (R = false) := by show _ = _; rw [HGR.out]; simp [t4]
        clear t1 t2 HGR
        go_wp2_with fail
        go_ret
        exact HFI.out _ (by rw [HR.out])
      ·have HR : Hid (R = false) := by show _ = _; rw [HGR.out]; simp [t3]
       clear t1 t2 HGR
       go_wp2_with fail
       go_ret
       exact HFI.out _ (by rw [HR.out])
     ·have f2 : ¬ (i : Int) ≤ 8 := by omega
      have HR : Hid (R = false) := by show _ = _; rw [HGR.out]; simp [t2]
      clear t1 t2 HGR
      go_wp2_with fail
      go_ret
      exact HFI.out _ (by rw [HR.out])
    ·have f1 : ((tree.size : Int) == 32) = false := by simp; omega
     have HR : Hid (R = false) := by show _ = _; rw [HGR.out]; simp [t1]
     clear t1 HGR
     go_wp2_with fail
     go_ret
     exact HFI.out _ (by rw [HR.out])
 ·have c3 : (kd == 3) = false := by simp [h3]
  have HR : Hid (R = false) := by show _ = _; rw [HG.out, if_neg h1, if_neg h2, if_neg h3]
  go_wp2_with fail
  go_ret
  exact ⟨by rw [HR.out]; rfl, by rw [HGz.out]; exact HB1.out⟩
end Go.Proofs.YtmpjdoiogbbcoaaGreatDoor
/- The reference's objects: read from bytes: Decode. -/
namespace Go.Proofs.YtmpjdoiogbbcoaaGreatDoor
open Go.RowKit Book Pap Ojt
set_option linter.unusedVariables false
set_option linter.unusedSimpArgs false

theorem rodec_results (tmps : Array Value) (g : Nat) (er : Int) (x : Ob) (ev pv : Value) (w : World) (h2 : tmps.getD 2 undef = .pointer (some ⟨g, 0, none⟩)) (h3 : tmps.getD 3 undef = .int .i64 er) (H : Blk w g 98 (obCs x ev pv)) : (results Tryz.f86 tmps).run Tryz.prog w = .ok (.tuple #[.agg (obCs x ev pv), .int .i64 er]) w := by
 have c0 : w.cell? ⟨g, 0, none⟩ = some (.int .i64 x.kind) := Blk.cell H 0
 have c1 : w.cell? ⟨g, 1, none⟩ = some (.string x.data) := Blk.cell H 1
 have c2 : w.cell? ⟨g, 2, none⟩ = some ev := Blk.cell H 2
 have c3 : w.cell? ⟨g, 3, none⟩ = some (.string x.tree) := Blk.cell H 3
 have c4 : w.cell? ⟨g, 4, none⟩ = some pv := Blk.cell H 4
 have c5 : w.cell? ⟨g, 5, none⟩ = some (.int .i64 x.height) := Blk.cell H 5
 have c6 : w.cell? ⟨g, 6, none⟩ = some (.string x.note) := Blk.cell H 6
 have h2' : tmps[2]?.getD undef = .pointer (some ⟨g, 0, none⟩) := by simpa using h2
 have h3' : tmps[3]?.getD undef = .int .i64 er := by simpa using h3
 simp [results, Tryz.results86, go_sem, h2', h3', c0, c1, c2, c3, c4, c5, c6, obCs]
/-- an object that has been read, in memory, before it is judged -/
def ReadAt (w : World) (g : Nat) (wx : World) (D : Ob × Int) : Prop :=
 ∃ x ea en ec pa pn pc, Blk wx (g + 1) 98 (obCs x (.slice ea en ec) (.slice pa pn pc)) ∧ Blk wx g 98 (obCs zero (.slice none 0 0) (.slice none 0 0)) ∧ ObAt wx (.slice ea en ec) (.slice pa pn pc) x ∧ ObN x ∧ (∀ e ∈ x.ents, e.name.size ≤ 1000000000) ∧ Below g w wx ∧
  (∀ k, ((Value.slice ea en ec).ownBlock = some k ∨ (Value.slice pa pn pc).ownBlock = some k) → g + 1 < k) ∧ D = if good x = true then (x, 0) else (zero, 4)
theorem decR_com (t : List UInt8) (hw : wholeR (commitR t) = true) : decR (3 :: t) = if wholeR (commitR t) = true ∧ good (commitO t) = true then (commitO t, 0) else (zero, 4) := by
 have e : decR (3 :: t) = match (if wholeR (commitR t) = true ∧ good (commitO t) = true then some (commitO t) else none) with | some x => (x, 0) | none => (zero, 4) := rfl
 rw [e]
 by_cases h : good (commitO t) = true
 ·rw [if_pos ⟨hw, h⟩, if_pos ⟨hw, h⟩]
 ·rw [if_neg (fun h2 => h h2.2), if_neg (fun h2 => h h2.2)]
theorem decR_comno (t : List UInt8) (hw : ¬ wholeR (commitR t) = true) : decR (3 :: t) = (zero, 4) := by
 have e : decR (3 :: t) = match (if wholeR (commitR t) = true ∧ good (commitO t) = true then some (commitO t) else none) with | some x => (x, 0) | none => (zero, 4) := rfl
 rw [e, if_neg (fun h2 => hw h2.1)]
theorem setRow_only {w : World} {g : Nat} (cs : Array Value) : Only (· = g) w (w.setRow g cs) := (Only.refl (· = g) w).setRow (.inl rfl) _
set_option maxRecDepth 100000 in
set_option maxHeartbeats 16000000 in
theorem rodec_some (s : ByteArray) (k : UInt8) (t : List UInt8) (hd : Head s k t) (hsz : s.size ≤ 1000000000) (w : World) : Calls Tryz.prog 86 #[.string s] w (DecOut w s.data.toList) := by
 have hs0 := hd.size
 have hs1 : s.toList.isEmpty = false := bstr_isEmpty (by omega)
 have hs2 : ¬ s.toList = [] := bstr_some (by omega)
 have hs3 : (s.toList == []) = false := by rw [beq_eq_false_iff_ne]; exact hs2
 have hpos : 0 < s.size := by omega
 have hposi : (0 : Int) < s.size := by omega
 have hpos1 : (1 : Int) ≤ s.size := by omega
 have h0 : s[0]'hpos = k := hd.at0 hpos
 have h01 : s[0]? = some k := by rw [← h0]; exact getElem?_pos s 0 hpos
 have hrest := hd.rest
 have HDL := hid hd.l
 have HTL : Hid (t.length ≤ 1000000000) := by show _ ≤ _; omega
 obtain ⟨y, hy⟩ : ∃ y, s.extract 1 s.size = y := ⟨_, rfl⟩
 rw [hy] at hrest
 have HRS := hid hrest
 rw [HDL.out]
 clear hd hrest hs0
 go_enter Tryz.func86, Tryz.ntmps86
 go_upto_region 4 with fail
 obtain ⟨g, hg⟩ : ∃ g, w.heap.size = g := ⟨_, rfl⟩
 have HG := hid hg
 have HZ1 : Hid (Blk ((w.alloc (.cells (obCs zero (.slice none 0 0) (.slice none 0 0)) 98)).alloc (.cells (obCs zero (.slice none 0 0) (.slice none 0 0)) 98)) g 98 (obCs zero (.slice none 0 0) (.slice none 0 0))) := by
  have := (Blk.new w 98 (obCs zero (.slice none 0 0) (.slice none 0 0))).alloc (.cells (obCs zero (.slice none 0 0) (.slice none 0 0)) 98)
  rw [hg] at this; exact this
 have HX1 : Hid (Blk ((w.alloc (.cells (obCs zero (.slice none 0 0) (.slice none 0 0)) 98)).alloc (.cells (obCs zero (.slice none 0 0) (.slice none 0 0)) 98)) (g + 1) 98 (obCs zero (.slice none 0 0) (.slice none 0 0))) := by
  have := Blk.new (w.alloc (.cells (obCs zero (.slice none 0 0) (.slice none 0 0)) 98)) 98 (obCs zero (.slice none 0 0) (.slice none 0 0))
  simp only [World.size_alloc, hg] at this; exact this
 have HB1 : Hid (Below g w ((w.alloc (.cells (obCs zero (.slice none 0 0) (.slice none 0 0)) 98)).alloc (.cells (obCs zero (.slice none 0 0) (.slice none 0 0)) 98))) := ((Below.refl _ _).alloc (Nat.le_of_eq hg.symm) _).alloc (by simp [hg]) _
 have hz1 : ((w.alloc (.cells (obCs zero (.slice none 0 0) (.slice none 0 0)) 98)).alloc (.cells (obCs zero (.slice none 0 0) (.slice none 0 0)) 98)).heap.size = g + 2 := by simp [hg]
 rw [hg]
 rw [zero_cs] at HZ1 HX1 HB1 hz1
 clear hg
 generalize ((w.alloc (.cells #[.int .i64 0, .string ⟨#[]⟩, .slice none 0 0, .string ⟨#[]⟩, .slice none 0 0, .int .i64 0, .string ⟨#[]⟩] 98)).alloc (.cells #[.int .i64 0, .string ⟨#[]⟩, .slice none 0 0, .string ⟨#[]⟩, .slice none 0 0, .int .i64 0, .string ⟨#[]⟩] 98)) = w1 at HZ1 HX1 HB1 hz1 ⊢
 have HSZ := hid hz1
 clear hz1
 obtain ⟨D, hD⟩ : ∃ D, decR (k :: t) = D := ⟨_, rfl⟩
 have HDD := hid hD
 have HDq := hid hD
 clear hD
 have hkl : (k.toNat : Int) ≤ 255 := by have := k.toNat_lt; omega
 have hkl0 : (0 : Int) ≤ (k.toNat : Int) := by omega
 go_upto_block 0 with fail
 go_cut [4] (fun s4 wx => s4 = .pointer (some ⟨g + 1, 0, none⟩) ∧ Hid (ReadAt w g wx D))
 case first =>
  have HZ1' : Hid (Blk w1 g 98 (obCs zero (.slice none 0 0) (.slice none 0 0))) := HZ1
  have HX1' : Hid (Blk w1 (g + 1) 98 (obCs zero (.slice none 0 0) (.slice none 0 0))) := HX1
  clear HZ1 HX1
  by_cases e1 : k = 1
  ·have c1 : ((k.toNat : Int) == 1) = true := by rw [e1]; rfl
   subst e1
   have hyt : bx t = y := ba_ext (by rw [bx_list]; exact HRS.out.symm)
   have HR : Hid (ReadAt w g (w1.setRow (g + 1) (obCs { zero with kind := 1, data := y } (.slice none 0 0) (.slice none 0 0))) D) := by
    refine ⟨{ zero with kind := 1, data := y }, none, 0, 0, none, 0, 0, setRow_heap _ _ _ _ _ _ HX1'.out, HZ1'.out.only (setRow_only _) (by omega), zero_at _, ⟨⟨by show (-9223372036854775808 : Int) ≤ 1; decide, by show (1 : Int) ≤ 9223372036854775807; decide⟩, ⟨by show (-9223372036854775808 : Int) ≤ 0; decide, by show (0 : Int) ≤ 9223372036854775807; decide⟩, Nat.zero_le _⟩, fun e he => (by cases he), below_setRow HB1.out (by omega) _, fun k hk => (by simp [Value.ownBlock] at hk), ?_⟩
    rw [← HDD.out, decR_blob, hyt]
    by_cases hg : good { zero with kind := 1, data := y } = true
    ·rw [if_pos hg, if_pos ⟨rfl, hg⟩]
    ·rw [if_neg hg, if_neg (fun h => hg h.2)]
   obtain ⟨wz, hwz⟩ : ∃ wz, w1.setRow (g + 1) (obCs { zero with kind := 1, data := y } (.slice none 0 0) (.slice none 0 0)) = wz := ⟨_, rfl⟩
   have HWZ := hid hwz
   rw [hwz] at HR
   clear hwz hyt HDD
   go_wp2_with (first
    | (refine wpList_store_row rfl _ (.tmp 4) (.tmp 16) rfl (g + 1) (obCs { zero with kind := 1, data := y } (.slice none 0 0) (.slice none 0 0)) rfl rfl 98 (obCs zero (.slice none 0 0) (.slice none 0 0)) HX1'.out (Tryz.infoObj _ _ _) rfl (obcs_one _ _ _ _ _ _ _) ?_; rw [HWZ.out]))
   go_meet
   case rel => exact ⟨rfl, HR⟩
  have c1 : ((k.toNat : Int) == 1) = false := by rw [beq_eq_false_iff_ne]; exact fun e => e1 (UInt8.toNat_inj.1 (by show k.toNat = 1; omega))
  by_cases e2 : k = 2
  ·have ck : ((k.toNat : Int) == 2) = true := by rw [e2]; rfl
   subst e2
   have HNW := hid (rrnew_any y w1)
   rw [HRS.out, HSZ.out] at HNW
   go_wp2_with fail
   refine HNW.out.mono ?_; rintro e w2 ⟨rfl, hR, hb⟩
   have HR2 := hid hR
   have HZ2 : Hid (Blk w2 g 98 (obCs zero (.slice none 0 0) (.slice none 0 0))) := (hb.block g (by have := HSZ.out; omega)).trans HZ1'.out
   have HX2 : Hid (Blk w2 (g + 1) 98 (obCs zero (.slice none 0 0) (.slice none 0 0))) := (hb.block (g + 1) (by have := HSZ.out; omega)).trans HX1'.out
   have HB2 : Hid (Below g w w2) := HB1.out.trans (hb.mono (by omega))
   have hs2z : g + 2 < w2.heap.size := by obtain ⟨q, hb', -⟩ := hR; exact Blk.lt hb'
   clear hR hb HNW HZ1' HX1' HB1
   have HTR := hid (rotree_any (g + 2) t (newR t) w2 HR2.out HTL.out HTL.out)
   go_wp2_with fail
   refine HTR.out.mono ?_; rintro e w3 ⟨l, a, n, c, rfl, hE, hl, hrd, ho, hln, hnm, hfr⟩
   have hdec := decR_tree t l hl
   have hat : ObAt w3 (.slice a n c) (.slice none 0 0) (treeX l) := ⟨a, n, c, none, 0, 0, rfl, hE, rfl, rfl, by omega, .inl rfl⟩
   have hobn : ObN (treeX l) := ⟨⟨by show (-9223372036854775808 : Int) ≤ 2; decide, by show (2 : Int) ≤ 9223372036854775807; decide⟩, ⟨by show (-9223372036854775808 : Int) ≤ 0; decide, by show (0 : Int) ≤ 9223372036854775807; decide⟩, by show l.length ≤ _; omega⟩
   have hnms : ∀ e ∈ (treeX l).ents, e.name.size ≤ 1000000000 := hnm
   have hfk : ∀ k, ((Value.slice a n c).ownBlock = some k ∨ (Value.slice none 0 0).ownBlock = some k) → g + 1 < k := fun k hk => by
    rcases hk with hk | hk
    ·have := hfr k hk; omega
    ·simp [Value.ownBlock] at hk
   rw [HDD.out] at hdec
   have HDC : Hid (D = if wholeR (treeR (newR t)).2 = true ∧ good (treeX l) = true then (treeX l, 0) else (zero, 4)) := hdec
   clear hl hE hln hnm hfr hdec
   have HO3 := hid ho; have HAT := hid hat; have HOBN := hid hobn; have HNMS := hid hnms; have HFK := hid hfk; have HRD := hid hrd
   have HX3 := hid (HX2.out.only ho (by omega))
   have HZ3 := hid (HZ2.out.only ho (by omega))
   have HB3 : Hid (Below g w w3) := HB2.out.trans (ho.below (fun k hk => by have hk : k = g + 2 := hk; omega) (by omega))
   clear ho hat hobn hnms hfk hrd HTR HX2 HZ2 HB2 HR2 HDD
   obtain ⟨wz, hwz⟩ : ∃ wz, w3.setRow (g + 1) (obCs (treeX l) (.slice a n c) (.slice none 0 0)) = wz := ⟨_, rfl⟩
   have HWZ := hid hwz
   have HXz : Hid (Blk wz (g + 1) 98 (obCs (treeX l) (.slice a n c) (.slice none 0 0))) := by rw [← hwz]; exact setRow_heap _ _ _ _ _ _ HX3.out
   have HOz : Hid (Only (· = g + 1) w3 wz) := by rw [← hwz]; exact setRow_only _
   have HBz : Hid (Below g w wz) := by rw [← hwz]; exact below_setRow HB3.out (by omega) _
   have HZz := hid (HZ3.out.only HOz.out (by omega))
   have HAz : Hid (ObAt wz (.slice a n c) (.slice none 0 0) (treeX l)) := by rw [← hwz]; exact HAT.out.far (fun k hk => by have := HFK.out k (.inl hk); omega) (fun k hk => by have := HFK.out k (.inr hk); omega) _
   have HRz : Hid (RrAt wz (g + 2) t (treeR (newR t)).2) := HRD.out.only HOz.out (by omega)
   clear hwz
   go_wp2_with (first
    | (refine wpList_store_row rfl _ (.tmp 4) (.tmp 27) rfl (g + 1) (obCs (treeX l) (.slice a n c) (.slice none 0 0)) rfl rfl 98 (obCs zero (.slice none 0 0) (.slice none 0 0)) HX3.out (Tryz.infoObj _ _ _) rfl (obcs_one _ _ _ _ _ _ _) ?_; rw [HWZ.out]))
   clear HX3 HZ3 HB3 HO3 HAT HRD HWZ
   have HWH := hid (rrwhole_any HRz.out)
   obtain ⟨wh, hwh⟩ : ∃ b, wholeR (treeR (newR t)).2 = b := ⟨_, rfl⟩
   rw [hwh] at HWH HDC
   clear hwh
   go_wp2_with fail
   refine HWH.out.mono ?_; rintro e w5 ⟨rfl, hb5⟩
   have hgz : g + 1 < wz.heap.size := Blk.lt HXz.out
   have HX5 : Hid (Blk w5 (g + 1) 98 (obCs (treeX l) (.slice a n c) (.slice none 0 0))) := (hb5.block (g + 1) hgz).trans HXz.out
   have HZ5 : Hid (Blk w5 g 98 (obCs zero (.slice none 0 0) (.slice none 0 0))) := (hb5.block g (by omega)).trans HZz.out
   have HA5 := hid (HAz.out.later hb5)
   have HB5 : Hid (Below g w w5) := HBz.out.trans (hb5.mono (by omega))
   clear hb5 HWH HXz HZz HAz HBz HRz HOz
   cases wh with
   | true =>
    have HR : Hid (ReadAt w g w5 D) := ⟨_, _, _, _, _, _, _, HX5.out, HZ5.out, HA5.out, HOBN.out, HNMS.out, HB5.out, HFK.out, by rw [HDC.out]; simp⟩
    clear HDC HX5 HZ5 HA5 HOBN HNMS HB5 HFK
    go_wp2_with fail
    go_meet
    case rel => exact ⟨rfl, HR⟩
   | false =>
    have HD4 : Hid (D = (zero, 4)) := by show _ = _; rw [HDC.out, if_neg (by simp)]
    obtain ⟨wy, hwy⟩ : ∃ wy, w5.setRow g (obCs zero (.slice none 0 0) (.slice none 0 0)) = wy := ⟨_, rfl⟩
    have HBy : Hid (Blk wy g 98 (obCs zero (.slice none 0 0) (.slice none 0 0))) := by rw [← hwy]; exact setRow_heap _ _ _ _ _ _ HZ5.out
    have HLy : Hid (Below g w wy) := by rw [← hwy]; exact below_setRow HB5.out (Nat.le_refl _) _
    have HWY := hid hwy
    clear hwy
    go_wp2_with (first
     | (refine wpList_store_row rfl _ (.tmp 2) (.tmp 33) rfl g (obCs zero (.slice none 0 0) (.slice none 0 0)) rfl rfl 98 (obCs zero (.slice none 0 0) (.slice none 0 0)) HZ5.out (Tryz.infoObj _ _ _) rfl (obcs_one _ _ _ _ _ _ _) ?_; rw [HWY.out]))
    go_wp2_with fail
    refine bodyPost_ret (v := .tuple #[.agg (obCs zero (.slice none 0 0) (.slice none 0 0)), .int .i64 4]) ?hr2 rfl ⟨zero, .slice none 0 0, .slice none 0 0, 4, by rw [HDq.out, HD4.out], rfl, zero_at _, by rw [HG.out]; exact HLy.out, fun k hk => by simp [Value.ownBlock] at hk⟩
    case hr2 => exact rodec_results _ g 4 zero _ _ wy rfl rfl HBy.out
  have c2 : ((k.toNat : Int) == 2) = false := by rw [beq_eq_false_iff_ne]; exact fun e => e2 (UInt8.toNat_inj.1 (by show k.toNat = 2; omega))
  by_cases e3 : k = 3
  ·have ck : ((k.toNat : Int) == 3) = true := by rw [e3]; rfl
   have ck2 : ((k.toNat : Int) == 2) = false := by rw [e3]; rfl
   subst e3
   have HNW := hid (rrnew_any y w1)
   rw [HRS.out, HSZ.out] at HNW
   go_wp2_with fail
   refine HNW.out.mono ?_; rintro e w2 ⟨rfl, hR, hb⟩
   have HR2 := hid hR
   have HZ2 : Hid (Blk w2 g 98 (obCs zero (.slice none 0 0) (.slice none 0 0))) := (hb.block g (by have := HSZ.out; omega)).trans HZ1'.out
   have HX2 : Hid (Blk w2 (g + 1) 98 (obCs zero (.slice none 0 0) (.slice none 0 0))) := (hb.block (g + 1) (by have := HSZ.out; omega)).trans HX1'.out
   have HB2 : Hid (Below g w w2) := HB1.out.trans (hb.mono (by omega))
   have hs2z : g + 2 < w2.heap.size := by obtain ⟨q, hb', -⟩ := hR; exact Blk.lt hb'
   clear hR hb HNW HZ1' HX1' HB1
   have HTR := hid (rocom_any (g + 2) t (newR t) w2 HR2.out HTL.out HTL.out)
   go_wp2_with fail
   refine HTR.out.mono ?_; rintro e w3 ⟨tr, l, hh, nt, a, n, c, rfl, hE, hl, hrd, ho, hhb, hfr⟩
   have hdec : decR (3 :: t) = if wholeR (comRd (newR t)) = true ∧ good (comX tr l hh nt) = true then (comX tr l hh nt, 0) else (zero, 4) := by
    by_cases hw : wholeR (comRd (newR t)) = true
    ·have hx := hl (whole_bad hw)
     rw [hx, comOb_new, comRd_new] at *
     exact decR_com t hw
    ·rw [if_neg (fun h => hw h.1)]
     exact decR_comno t (by rw [← comRd_new]; exact hw)
   have hat : ObAt w3 (.slice none 0 0) (.slice a n c) (comX tr l hh nt) := ⟨none, 0, 0, a, n, c, rfl, ⟨rfl, by omega, .inl rfl⟩, rfl, hE⟩
   have hobn : ObN (comX tr l hh nt) := ⟨⟨by show (-9223372036854775808 : Int) ≤ 3; decide, by show (3 : Int) ≤ 9223372036854775807; decide⟩, ⟨by show -9223372036854775808 ≤ hh; omega, by show hh ≤ 9223372036854775807; omega⟩, Nat.zero_le _⟩
   have hnms : ∀ e ∈ (comX tr l hh nt).ents, e.name.size ≤ 1000000000 := fun e he => (by cases he)
   have hfk : ∀ k, ((Value.slice none 0 0).ownBlock = some k ∨ (Value.slice a n c).ownBlock = some k) → g + 1 < k := fun k hk => by
    rcases hk with hk | hk
    ·simp [Value.ownBlock] at hk
    ·have := hfr k hk; omega
   rw [HDD.out] at hdec
   have HDC : Hid (D = if wholeR (comRd (newR t)) = true ∧ good (comX tr l hh nt) = true then (comX tr l hh nt, 0) else (zero, 4)) := hdec
   clear hl hE hhb hfr hdec
   have HO3 := hid ho; have HAT := hid hat; have HOBN := hid hobn; have HNMS := hid hnms; have HFK := hid hfk; have HRD := hid hrd
   have HX3 := hid (HX2.out.only ho (by omega))
   have HZ3 := hid (HZ2.out.only ho (by omega))
   have HB3 : Hid (Below g w w3) := HB2.out.trans (ho.below (fun k hk => by have hk : k = g + 2 := hk; omega) (by omega))
   clear ho hat hobn hnms hfk hrd HTR HX2 HZ2 HB2 HR2 HDD
   obtain ⟨wz, hwz⟩ : ∃ wz, w3.setRow (g + 1) (obCs (comX tr l hh nt) (.slice none 0 0) (.slice a n c)) = wz := ⟨_, rfl⟩
   have HWZ := hid hwz
   have HXz : Hid (Blk wz (g + 1) 98 (obCs (comX tr l hh nt) (.slice none 0 0) (.slice a n c))) := by rw [← hwz]; exact setRow_heap _ _ _ _ _ _ HX3.out
   have HOz : Hid (Only (· = g + 1) w3 wz) := by rw [← hwz]; exact setRow_only _
   have HBz : Hid (Below g w wz) := by rw [← hwz]; exact below_setRow HB3.out (by omega) _
   have HZz := hid (HZ3.out.only HOz.out (by omega))
   have HAz : Hid (ObAt wz (.slice none 0 0) (.slice a n c) (comX tr l hh nt)) := by rw [← hwz]; exact HAT.out.far (fun k hk => by have := HFK.out k (.inl hk); omega) (fun k hk => by have := HFK.out k (.inr hk); omega) _
   have HRz : Hid (RrAt wz (g + 2) t (comRd (newR t))) := HRD.out.only HOz.out (by omega)
   clear hwz
   go_wp2_with (first
    | (refine wpList_store_row rfl _ (.tmp 4) (.tmp 29) rfl (g + 1) (obCs (comX tr l hh nt) (.slice none 0 0) (.slice a n c)) rfl rfl 98 (obCs zero (.slice none 0 0) (.slice none 0 0)) HX3.out (Tryz.infoObj _ _ _) rfl (obcs_one _ _ _ _ _ _ _) ?_; rw [HWZ.out]))
   clear HX3 HZ3 HB3 HO3 HAT HRD HWZ
   have HWH := hid (rrwhole_any HRz.out)
   obtain ⟨wh, hwh⟩ : ∃ b, wholeR (comRd (newR t)) = b := ⟨_, rfl⟩
   rw [hwh] at HWH HDC
   clear hwh
   go_wp2_with fail
   refine HWH.out.mono ?_; rintro e w5 ⟨rfl, hb5⟩
   have hgz : g + 1 < wz.heap.size := Blk.lt HXz.out
   have HX5 : Hid (Blk w5 (g + 1) 98 (obCs (comX tr l hh nt) (.slice none 0 0) (.slice a n c))) := (hb5.block (g + 1) hgz).trans HXz.out
   have HZ5 : Hid (Blk w5 g 98 (obCs zero (.slice none 0 0) (.slice none 0 0))) := (hb5.block g (by omega)).trans HZz.out
   have HA5 := hid (HAz.out.later hb5)
   have HB5 : Hid (Below g w w5) := HBz.out.trans (hb5.mono (by omega))
   clear hb5 HWH HXz HZz HAz HBz HRz HOz
   cases wh with
   | true =>
    have HR : Hid (ReadAt w g w5 D) := ⟨_, _, _, _, _, _, _, HX5.out, HZ5.out, HA5.out, HOBN.out, HNMS.out, HB5.out, HFK.out, by rw [HDC.out]; simp⟩
    clear HDC HX5 HZ5 HA5 HOBN HNMS HB5 HFK
    go_wp2_with fail
    go_meet
    case rel => exact ⟨rfl, HR⟩
   | false =>
    have HD4 : Hid (D = (zero, 4)) := by show _ = _; rw [HDC.out, if_neg (by simp)]
    obtain ⟨wy, hwy⟩ : ∃ wy, w5.setRow g (obCs zero (.slice none 0 0) (.slice none 0 0)) = wy := ⟨_, rfl⟩
    have HBy : Hid (Blk wy g 98 (obCs zero (.slice none 0 0) (.slice none 0 0))) := by rw [← hwy]; exact setRow_heap _ _ _ _ _ _ HZ5.out
    have HLy : Hid (Below g w wy) := by rw [← hwy]; exact below_setRow HB5.out (Nat.le_refl _) _
    have HWY := hid hwy
    clear hwy
    go_wp2_with (first
     | (refine wpList_store_row rfl _ (.tmp 2) (.tmp 33) rfl g (obCs zero (.slice none 0 0) (.slice none 0 0)) rfl rfl 98 (obCs zero (.slice none 0 0) (.slice none 0 0)) HZ5.out (Tryz.infoObj _ _ _) rfl (obcs_one _ _ _ _ _ _ _) ?_; rw [HWY.out]))
    go_wp2_with fail
    refine bodyPost_ret (v := .tuple #[.agg (obCs zero (.slice none 0 0) (.slice none 0 0)), .int .i64 4]) ?hr3 rfl ⟨zero, .slice none 0 0, .slice none 0 0, 4, by rw [HDq.out, HD4.out], rfl, zero_at _, by rw [HG.out]; exact HLy.out, fun k hk => by simp [Value.ownBlock] at hk⟩
    case hr3 => exact rodec_results _ g 4 zero _ _ wy rfl rfl HBy.out
  have c3 : ((k.toNat : Int) == 3) = false := by rw [beq_eq_false_iff_ne]; exact fun e => e3 (UInt8.toNat_inj.1 (by show k.toNat = 3; omega))
  have HR : Hid (ReadAt w g w1 D) := by
   refine ⟨zero, none, 0, 0, none, 0, 0, HX1'.out, HZ1'.out, zero_at _, ⟨⟨by show (-9223372036854775808 : Int) ≤ 0; decide, by show (0 : Int) ≤ 9223372036854775807; decide⟩, ⟨by show (-9223372036854775808 : Int) ≤ 0; decide, by show (0 : Int) ≤ 9223372036854775807; decide⟩, Nat.zero_le _⟩, fun e he => (by cases he), HB1.out, fun k hk => (by simp [Value.ownBlock] at hk), ?_⟩
   rw [← HDD.out, decR_other k t e1 e2 e3 ⟨[], true⟩, if_neg (fun h => by cases h.1), if_neg (by decide)]
  clear HDD
  go_wp2_with fail
  go_meet
  case rel => exact ⟨rfl, HR⟩
 case rest =>
  obtain ⟨rfl, HR⟩ := hcut
  obtain ⟨x, ea, en, ec, pa, pn, pc, hX, hZ, hA, hN, hnm, hB, hF, hDx⟩ := HR.out
  have HX := hid hX; have HZ := hid hZ; have HA := hid hA; have HB := hid hB; have HF := hid hF; have HDX := hid hDx
  have HGD := hid (rogood_any x (.slice ea en ec) (.slice pa pn pc) wc hA hN hnm)
  have j0 : wc.cell? ⟨g + 1, 0, none⟩ = some (.int .i64 x.kind) := Blk.cell hX 0
  have j1 : wc.cell? ⟨g + 1, 1, none⟩ = some (.string x.data) := Blk.cell hX 1
  have j2 : wc.cell? ⟨g + 1, 2, none⟩ = some (.slice ea en ec) := Blk.cell hX 2
  have j3 : wc.cell? ⟨g + 1, 3, none⟩ = some (.string x.tree) := Blk.cell hX 3
  have j4 : wc.cell? ⟨g + 1, 4, none⟩ = some (.slice pa pn pc) := Blk.cell hX 4
  have j5 : wc.cell? ⟨g + 1, 5, none⟩ = some (.int .i64 x.height) := Blk.cell hX 5
  have j6 : wc.cell? ⟨g + 1, 6, none⟩ = some (.string x.note) := Blk.cell hX 6
  have hgz : g + 1 < wc.heap.size := Blk.lt hX
  unfold obCs at HGD
  clear hX hZ hA hN hnm hB hF hDx HR
  go_wp2_with fail
  refine HGD.out.mono ?_; rintro e w5 ⟨rfl, hb5⟩
  have HX5 : Hid (Blk w5 (g + 1) 98 (obCs x (.slice ea en ec) (.slice pa pn pc))) := (hb5.block (g + 1) hgz).trans HX.out
  have HZ5 : Hid (Blk w5 g 98 (obCs zero (.slice none 0 0) (.slice none 0 0))) := (hb5.block g (by omega)).trans HZ.out
  have HA5 := hid (HA.out.later hb5)
  have HB5 : Hid (Below g w w5) := HB.out.trans (hb5.mono (by omega))
  clear hb5 HGD HX HZ HA HB j0 j1 j2 j3 j4 j5 j6
  obtain ⟨gd, hgd⟩ : ∃ b, good x = b := ⟨_, rfl⟩
  rw [hgd] at HDX ⊢
  clear hgd
  cases gd with
  | false =>
   have HD4 : Hid (D = (zero, 4)) := by show _ = _; rw [HDX.out, if_neg (by simp)]
   obtain ⟨wy, hwy⟩ : ∃ wy, w5.setRow g (obCs zero (.slice none 0 0) (.slice none 0 0)) = wy := ⟨_, rfl⟩
   have HBy : Hid (Blk wy g 98 (obCs zero (.slice none 0 0) (.slice none 0 0))) := by rw [← hwy]; exact setRow_heap _ _ _ _ _ _ HZ5.out
   have HLy : Hid (Below g w wy) := by rw [← hwy]; exact below_setRow HB5.out (Nat.le_refl _) _
   have HWY := hid hwy
   clear hwy
   go_wp2_with (first
    | (refine wpList_store_row rfl _ (.tmp 2) (.tmp 37) rfl g (obCs zero (.slice none 0 0) (.slice none 0 0)) rfl rfl 98 (obCs zero (.slice none 0 0) (.slice none 0 0)) HZ5.out (Tryz.infoObj _ _ _) rfl (obcs_one _ _ _ _ _ _ _) ?_; rw [HWY.out]))
   go_wp2_with fail
   refine bodyPost_ret (v := .tuple #[.agg (obCs zero (.slice none 0 0) (.slice none 0 0)), .int .i64 4]) ?hr8 rfl ⟨zero, .slice none 0 0, .slice none 0 0, 4, by rw [HDq.out, HD4.out], rfl, zero_at _, by rw [HG.out]; exact HLy.out, fun k hk => by simp [Value.ownBlock] at hk⟩
   case hr8 => exact rodec_results _ g 4 zero _ _ wy rfl rfl HBy.out
  | true =>
   have HD0 : Hid (D = (x, 0)) := by show _ = _; rw [HDX.out, if_pos rfl]
   have j0 : w5.cell? ⟨g + 1, 0, none⟩ = some (.int .i64 x.kind) := Blk.cell HX5.out 0
   have j1 : w5.cell? ⟨g + 1, 1, none⟩ = some (.string x.data) := Blk.cell HX5.out 1
   have j2 : w5.cell? ⟨g + 1, 2, none⟩ = some (.slice ea en ec) := Blk.cell HX5.out 2
   have j3 : w5.cell? ⟨g + 1, 3, none⟩ = some (.string x.tree) := Blk.cell HX5.out 3
   have j4 : w5.cell? ⟨g + 1, 4, none⟩ = some (.slice pa pn pc) := Blk.cell HX5.out 4
   have j5 : w5.cell? ⟨g + 1, 5, none⟩ = some (.int .i64 x.height) := Blk.cell HX5.out 5
   have j6 : w5.cell? ⟨g + 1, 6, none⟩ = some (.string x.note) := Blk.cell HX5.out 6
   obtain ⟨wy, hwy⟩ : ∃ wy, w5.setRow g (obCs x (.slice ea en ec) (.slice pa pn pc)) = wy := ⟨_, rfl⟩
   have HBy : Hid (Blk wy g 98 (obCs x (.slice ea en ec) (.slice pa pn pc))) := by rw [← hwy]; exact setRow_heap _ _ _ _ _ _ HZ5.out
   have HLy : Hid (Below g w wy) := by rw [← hwy]; exact below_setRow HB5.out (Nat.le_refl _) _
   have HAy : Hid (ObAt wy (.slice ea en ec) (.slice pa pn pc) x) := by rw [← hwy]; exact HA5.out.far (fun k hk => by have := HF.out k (.inl hk); omega) (fun k hk => by have := HF.out k (.inr hk); omega) _
   have HWY := hid hwy
   clear hwy
   go_wp2_with (first
    | (refine wpList_store_row rfl _ (.tmp 2) (.tmp 38) rfl g (obCs x (.slice ea en ec) (.slice pa pn pc)) rfl rfl 98 (obCs zero (.slice none 0 0) (.slice none 0 0)) HZ5.out (Tryz.infoObj _ _ _) rfl (obcs_one _ _ _ _ _ _ _) ?_; rw [HWY.out]))
   go_wp2_with fail
   refine bodyPost_ret (v := .tuple #[.agg (obCs x (.slice ea en ec) (.slice pa pn pc)), .int .i64 0]) ?hr9 rfl ⟨x, .slice ea en ec, .slice pa pn pc, 0, by rw [HDq.out, HD0.out], rfl, HAy.out, by rw [HG.out]; exact HLy.out, fun k hk => by rw [HG.out]; have := HF.out k hk; omega⟩
   case hr9 => exact rodec_results _ g 0 x _ _ wy rfl rfl HBy.out
end Go.Proofs.YtmpjdoiogbbcoaaGreatDoor
/- The reference's layer 15: an object of a kind looked up: look. -/
namespace Go.Proofs.YtmpjdoiogbbcoaaGreatDoor
open Go.RowKit Book Pap Ojt Sn
set_option linter.unusedVariables false
set_option linter.unusedSimpArgs false

set_option maxRecDepth 100000 in
set_option maxHeartbeats 4000000 in
theorem rodec_nil (s : ByteArray) (hs : s.size = 0) (w : World) : Calls Tryz.prog 86 #[.string s] w (DecOut w s.data.toList) := by
 have HD : Hid (decR s.data.toList = (zero, 4)) := by
  have : s.data.toList = [] := by apply List.length_eq_zero_iff.1; simpa using hs
  show _ = _
  rw [this]; rfl
 have hs1 : s.toList.isEmpty = true := by rw [bstr_nil hs]; rfl
 have hs2 : s.toList = [] := bstr_nil hs
 have hs3 : (s.toList == []) = true := by rw [beq_iff_eq]; exact hs2
 go_enter Tryz.func86, Tryz.ntmps86
 go_upto_region 1 with fail
 obtain ⟨g, hg⟩ : ∃ g, w.heap.size = g := ⟨_, rfl⟩
 have HG := hid hg
 have HZ1 : Hid (Blk (w.alloc (.cells (obCs zero (.slice none 0 0) (.slice none 0 0)) 98)) g 98 (obCs zero (.slice none 0 0) (.slice none 0 0))) := by
  have := Blk.new w 98 (obCs zero (.slice none 0 0) (.slice none 0 0)); rw [hg] at this; exact this
 have HB1 : Hid (Below g w (w.alloc (.cells (obCs zero (.slice none 0 0) (.slice none 0 0)) 98))) := (Below.refl _ _).alloc (Nat.le_of_eq hg.symm) _
 rw [hg]
 rw [zero_cs] at HZ1 HB1
 clear hg
 generalize (w.alloc (.cells #[.int .i64 0, .string ⟨#[]⟩, .slice none 0 0, .string ⟨#[]⟩, .slice none 0 0, .int .i64 0, .string ⟨#[]⟩] 98)) = w2 at HZ1 HB1 ⊢
 have HZ2 : Hid (Blk w2 g 98 (obCs zero (.slice none 0 0) (.slice none 0 0))) := HZ1
 obtain ⟨wz, hwz⟩ : ∃ wz, w2.setRow g (obCs zero (.slice none 0 0) (.slice none 0 0)) = wz := ⟨_, rfl⟩
 have HBZ : Hid (Blk wz g 98 (obCs zero (.slice none 0 0) (.slice none 0 0))) := by rw [← hwz]; exact setRow_heap _ _ _ _ _ _ HZ2.out
 have HLZ : Hid (Below g w wz) := by rw [← hwz]; exact below_setRow HB1.out (Nat.le_refl _) _
 have HWZ := hid hwz
 clear hwz
 go_wp2_with (first
  | (refine wpList_store_row rfl _ (.tmp 2) (.tmp 8) rfl g (obCs zero (.slice none 0 0) (.slice none 0 0)) rfl rfl 98 (obCs zero (.slice none 0 0) (.slice none 0 0)) HZ2.out (Tryz.infoObj _ _ _) rfl (obcs_one _ _ _ _ _ _ _) ?_; rw [HWZ.out]))
 go_wp2_with fail
 refine bodyPost_ret (v := .tuple #[.agg (obCs zero (.slice none 0 0) (.slice none 0 0)), .int .i64 4]) ?hr1 rfl ⟨zero, .slice none 0 0, .slice none 0 0, 4, HD.out.symm, rfl, zero_at _, by rw [HG.out]; exact HLZ.out, fun k hk => by simp [Value.ownBlock] at hk⟩
 case hr1 => exact rodec_results _ g 4 zero _ _ wz rfl rfl HBZ.out
theorem rodec_any (s : ByteArray) (hsz : s.size ≤ 1000000000) (w : World) : Calls Tryz.prog 86 #[.string s] w (DecOut w s.data.toList) := by
 cases hl : s.data.toList with
 | nil =>
  have h0 : s.size = 0 := by have : s.data.toList.length = s.size := Array.length_toList; rw [hl] at this; simpa using this.symm
  rw [← hl]; exact rodec_nil s h0 w
 | cons k t =>
  have h := rodec_some s k t ⟨hl⟩ hsz w
  rw [hl] at h; exact h
theorem rlook_results (tmps : Array Value) (g : Nat) (er : Int) (x : Ob) (ev pv : Value) (w : World) (h2 : tmps.getD 8 undef = .pointer (some ⟨g, 0, none⟩)) (h3 : tmps.getD 9 undef = .int .i64 er) (H : Blk w g 98 (obCs x ev pv)) : (results Tryz.f43 tmps).run Tryz.prog w = .ok (.tuple #[.agg (obCs x ev pv), .int .i64 er]) w := by
 have c0 : w.cell? ⟨g, 0, none⟩ = some (.int .i64 x.kind) := Blk.cell H 0
 have c1 : w.cell? ⟨g, 1, none⟩ = some (.string x.data) := Blk.cell H 1
 have c2 : w.cell? ⟨g, 2, none⟩ = some ev := Blk.cell H 2
 have c3 : w.cell? ⟨g, 3, none⟩ = some (.string x.tree) := Blk.cell H 3
 have c4 : w.cell? ⟨g, 4, none⟩ = some pv := Blk.cell H 4
 have c5 : w.cell? ⟨g, 5, none⟩ = some (.int .i64 x.height) := Blk.cell H 5
 have c6 : w.cell? ⟨g, 6, none⟩ = some (.string x.note) := Blk.cell H 6
 have h2' : tmps[8]?.getD undef = .pointer (some ⟨g, 0, none⟩) := by simpa using h2
 have h3' : tmps[9]?.getD undef = .int .i64 er := by simpa using h3
 simp [results, Tryz.results43, go_sem, h2', h3', c0, c1, c2, c3, c4, c5, c6, obCs]
set_option maxRecDepth 100000 in
set_option maxHeartbeats 8000000 in
theorem rlook_any (a : Option Addr) (n c : Nat) (fs : List Fi) (id : ByteArray) (kind lacks : Int) (w : World) (h : FisAt w a n fs) (hz : SrcSz (getF fs)) : Calls Tryz.prog 43 #[.slice a n c, .string id, .int .i64 kind, .int .i64 lacks] w (LookOut w (lookK (getF fs) id kind lacks).1 (lookK (getF fs) id kind lacks).2) := by
 have hget : ∀ id W, Below w.heap.size w W → Calls Tryz.prog 42 #[.slice a n c, .string id] W (GetOut (getF fs) id W) := fun id W hW => r14get_any a n c fs id W (h.later hW)
 obtain ⟨G, hGe⟩ : ∃ G, getF fs = G := ⟨_, rfl⟩
 rw [hGe] at hget hz ⊢
 have HGT := hid hget
 clear hGe h
 have HLK : Hid (lookK G id kind lacks = match G id with | none => (zero, lacks) | some t => match Sw.decO t with | none => (zero, 4) | some x => if x.kind ≠ kind then (zero, 22) else (x, 0)) := rfl
 clear hget
 go_enter Tryz.func43, Tryz.ntmps43
 go_upto_region 1 with fail
 obtain ⟨g, hg⟩ : ∃ g, w.heap.size = g := ⟨_, rfl⟩
 have HG := hid hg
 have HZ1 : Hid (Blk (w.alloc (.cells (obCs zero (.slice none 0 0) (.slice none 0 0)) 98)) g 98 (obCs zero (.slice none 0 0) (.slice none 0 0))) := by
  have := Blk.new w 98 (obCs zero (.slice none 0 0) (.slice none 0 0)); rw [hg] at this; exact this
 have HB1 : Hid (Below g w (w.alloc (.cells (obCs zero (.slice none 0 0) (.slice none 0 0)) 98))) := (Below.refl _ _).alloc (Nat.le_of_eq hg.symm) _
 rw [hg]
 rw [zero_cs] at HZ1 HB1
 clear hg
 generalize (w.alloc (.cells #[.int .i64 0, .string ⟨#[]⟩, .slice none 0 0, .string ⟨#[]⟩, .slice none 0 0, .int .i64 0, .string ⟨#[]⟩] 98)) = w1 at HZ1 HB1 ⊢
 have hgl1 := Blk.lt HZ1.out
 go_wp2_with fail
 refine (HGT.out id w1 (by rw [HG.out]; exact HB1.out)).mono ?_; rintro e w2 ⟨rfl, hb2⟩
 have HZ2 : Hid (Blk w2 g 98 #[.int .i64 0, .string ⟨#[]⟩, .slice none 0 0, .string ⟨#[]⟩, .slice none 0 0, .int .i64 0, .string ⟨#[]⟩]) := (hb2.block g hgl1).trans HZ1.out
 have HB2 : Hid (Below g w w2) := HB1.out.trans (hb2.mono (Nat.le_of_lt hgl1))
 clear hb2 HZ1 HB1
 cases hG : G id with
 | none =>
  rw [hG] at HLK
  have HL : Hid (lookK G id kind lacks = (zero, lacks)) := HLK.out
  clear HLK
  obtain ⟨wz, hwz⟩ : ∃ wz, w2.setRow g (obCs zero (.slice none 0 0) (.slice none 0 0)) = wz := ⟨_, rfl⟩
  have HBZ : Hid (Blk wz g 98 (obCs zero (.slice none 0 0) (.slice none 0 0))) := by rw [← hwz]; exact setRow_heap _ _ _ _ _ _ HZ2.out
  have HLZ : Hid (Below g w wz) := by rw [← hwz]; exact below_setRow HB2.out (Nat.le_refl _) _
  have HWZ := hid hwz
  clear hwz
  go_wp2_with (first
   | (refine wpList_store_row rfl _ (.tmp 8) (.tmp 22) rfl g (obCs zero (.slice none 0 0) (.slice none 0 0)) rfl rfl 98 (obCs zero (.slice none 0 0) (.slice none 0 0)) HZ2.out (Tryz.infoObj _ _ _) rfl (obcs_one _ _ _ _ _ _ _) ?_; rw [HWZ.out]))
  go_wp2_with fail
  refine bodyPost_ret (v := .tuple #[.agg (obCs zero (.slice none 0 0) (.slice none 0 0)), .int .i64 lacks]) ?hr1 rfl ⟨.slice none 0 0, .slice none 0 0, ?_, ?_, ?_, fun k hk => by simp [Value.ownBlock] at hk⟩
  case hr1 => exact rlook_results _ g lacks zero _ _ wz rfl rfl HBZ.out
  ·rw [HL.out]
  ·rw [HL.out]; exact zero_at _
  ·rw [HG.out]; exact HLZ.out
 | some tx =>
  have hzt := hz id tx hG
  rw [hG] at HLK
  clear hz hG
  go_wp2_with fail
  refine (rodec_any tx hzt w2).mono ?_; rintro e w3 ⟨x, ev, pv, er, hdr, rfl, hO3, hb3, hf3⟩
  rw [decO_R] at hdr
  have hgl2 := Blk.lt HZ2.out
  have HZ3 : Hid (Blk w3 g 98 #[.int .i64 0, .string ⟨#[]⟩, .slice none 0 0, .string ⟨#[]⟩, .slice none 0 0, .int .i64 0, .string ⟨#[]⟩]) := (hb3.block g hgl2).trans HZ2.out
  have HB3 : Hid (Below g w w3) := HB2.out.trans (hb3.mono (Nat.le_of_lt hgl2))
  have HF3 : Hid (∀ k, (ev.ownBlock = some k ∨ pv.ownBlock = some k) → g < k) := fun k hk => by have := hf3 k hk; omega
  have hgl3 := Blk.lt HZ3.out
  have HO3 := hid hO3
  obtain ⟨ea, en, ec, pa, pn, pc, rfl, -, rfl, -⟩ := hO3
  have HX4 : Hid (Blk (w3.alloc (.cells (obCs x (.slice ea en ec) (.slice pa pn pc)) 98)) w3.heap.size 98 (obCs x (.slice ea en ec) (.slice pa pn pc))) := Blk.new w3 _ _
  have HZ4 : Hid (Blk (w3.alloc (.cells (obCs x (.slice ea en ec) (.slice pa pn pc)) 98)) g 98 #[.int .i64 0, .string ⟨#[]⟩, .slice none 0 0, .string ⟨#[]⟩, .slice none 0 0, .int .i64 0, .string ⟨#[]⟩]) := HZ3.out.alloc _
  have HB4 : Hid (Below g w (w3.alloc (.cells (obCs x (.slice ea en ec) (.slice pa pn pc)) 98))) := HB3.out.alloc (Nat.le_of_lt hgl3) _
  have HO4 : Hid (ObAt (w3.alloc (.cells (obCs x (.slice ea en ec) (.slice pa pn pc)) 98)) (.slice ea en ec) (.slice pa pn pc) x) := HO3.out.later ((Below.refl _ _).alloc (Nat.le_refl _) _)
  unfold obCs at HX4 HZ4 HB4 HO4 ⊢
  clear hb3 hf3 HO3 HZ3 HB3 HZ2 HB2
  go_upto_region 5 with fail
  generalize hw4 : (w3.alloc (.cells #[.int .i64 x.kind, .string x.data, .slice ea en ec, .string x.tree, .slice pa pn pc, .int .i64 x.height, .string x.note] 98)) = w4 at HX4 HZ4 HB4 HO4 ⊢
  generalize hg4 : w3.heap.size = g4 at HX4 ⊢
  have hne4 : g ≠ g4 := by omega
  clear hw4 hg4
  have HZC : Hid (Blk w4 g 98 (obCs zero (.slice none 0 0) (.slice none 0 0))) := by rw [zero_cs]; exact HZ4.out
  have HXC : Hid (Blk w4 g4 98 (obCs x (.slice ea en ec) (.slice pa pn pc))) := HX4.out
  clear HZ4 HX4
  cases hD : Sw.decO tx with
  | none =>
   rw [hD] at hdr HLK
   have HL : Hid (lookK G id kind lacks = (zero, 4)) := HLK.out
   obtain ⟨hdx, hde⟩ := Prod.mk.inj hdr
   subst hde
   clear hdr hdx HLK hD
   obtain ⟨wz, hwz⟩ : ∃ wz, w4.setRow g (obCs zero (.slice none 0 0) (.slice none 0 0)) = wz := ⟨_, rfl⟩
   have HBZ : Hid (Blk wz g 98 (obCs zero (.slice none 0 0) (.slice none 0 0))) := by rw [← hwz]; exact setRow_heap _ _ _ _ _ _ HZC.out
   have HLZ : Hid (Below g w wz) := by rw [← hwz]; exact below_setRow HB4.out (Nat.le_refl _) _
   have HWZ := hid hwz
   clear hwz
   go_wp2_with (first
    | (refine wpList_store_row rfl _ (.tmp 8) (.tmp 31) rfl g (obCs zero (.slice none 0 0) (.slice none 0 0)) rfl rfl 98 (obCs zero (.slice none 0 0) (.slice none 0 0)) HZC.out (Tryz.infoObj _ _ _) rfl (obcs_one _ _ _ _ _ _ _) ?_; rw [HWZ.out]))
   go_wp2_with fail
   refine bodyPost_ret (v := .tuple #[.agg (obCs zero (.slice none 0 0) (.slice none 0 0)), .int .i64 4]) ?hr2 rfl ⟨.slice none 0 0, .slice none 0 0, ?_, ?_, ?_, fun k hk => by simp [Value.ownBlock] at hk⟩
   case hr2 => exact rlook_results _ g 4 zero _ _ wz rfl rfl HBZ.out
   ·rw [HL.out]
   ·rw [HL.out]; exact zero_at _
   ·rw [HG.out]; exact HLZ.out
  | some y =>
   rw [hD] at hdr HLK
   obtain ⟨hdx, hde⟩ := Prod.mk.inj hdr
   subst hde hdx
   clear hdr hD
   have k0 : w4.cell? ⟨g4, 0, none⟩ = some (.int .i64 x.kind) := Blk.cell HXC.out 0
   by_cases hk : x.kind = kind
   ·have HL : Hid (lookK G id kind lacks = (x, 0)) := by
     show _ = _
     rw [HLK.out]
     show (if x.kind ≠ kind then (zero, (22 : Int)) else (x, 0)) = _
     rw [if_neg (by simp [hk])]
    have q1 : (x.kind != kind) = false := by simp [hk]
    have q2 : (x.kind == kind) = true := by simp [hk]
    have k1 : w4.cell? ⟨g4, 1, none⟩ = some (.string x.data) := Blk.cell HXC.out 1
    have k2 : w4.cell? ⟨g4, 2, none⟩ = some (.slice ea en ec) := Blk.cell HXC.out 2
    have k3 : w4.cell? ⟨g4, 3, none⟩ = some (.string x.tree) := Blk.cell HXC.out 3
    have k4 : w4.cell? ⟨g4, 4, none⟩ = some (.slice pa pn pc) := Blk.cell HXC.out 4
    have k5 : w4.cell? ⟨g4, 5, none⟩ = some (.int .i64 x.height) := Blk.cell HXC.out 5
    have k6 : w4.cell? ⟨g4, 6, none⟩ = some (.string x.note) := Blk.cell HXC.out 6
    obtain ⟨wz, hwz⟩ : ∃ wz, w4.setRow g (obCs x (.slice ea en ec) (.slice pa pn pc)) = wz := ⟨_, rfl⟩
    have HBZ : Hid (Blk wz g 98 (obCs x (.slice ea en ec) (.slice pa pn pc))) := by rw [← hwz]; exact setRow_heap _ _ _ _ _ _ HZC.out
    have HLZ : Hid (Below g w wz) := by rw [← hwz]; exact below_setRow HB4.out (Nat.le_refl _) _
    have HOZ : Hid (ObAt wz (.slice ea en ec) (.slice pa pn pc) x) := by rw [← hwz]; exact HO4.out.far (fun k hk => by have := HF3.out k (.inl hk); omega) (fun k hk => by have := HF3.out k (.inr hk); omega) _
    have HWZ := hid hwz
    clear hwz HLK hk
    go_wp2_with (first
     | (refine wpList_store_row rfl _ (.tmp 8) (.tmp 37) rfl g (obCs x (.slice ea en ec) (.slice pa pn pc)) rfl rfl 98 (obCs zero (.slice none 0 0) (.slice none 0 0)) HZC.out (Tryz.infoObj _ _ _) rfl (obcs_one _ _ _ _ _ _ _) ?_; rw [HWZ.out]))
    go_wp2_with fail
    refine bodyPost_ret (v := .tuple #[.agg (obCs x (.slice ea en ec) (.slice pa pn pc)), .int .i64 0]) ?hr3 rfl ⟨.slice ea en ec, .slice pa pn pc, ?_, ?_, ?_, fun k hk => by rw [HG.out]; exact Nat.le_of_lt (HF3.out k hk)⟩
    case hr3 => exact rlook_results _ g 0 x _ _ wz rfl rfl HBZ.out
    ·rw [HL.out]
    ·rw [HL.out]; exact HOZ.out
    ·rw [HG.out]; exact HLZ.out
   ·have HL : Hid (lookK G id kind lacks = (zero, 22)) := by
     show _ = _
     rw [HLK.out]
     show (if x.kind ≠ kind then (zero, (22 : Int)) else (x, 0)) = _
     rw [if_pos hk]
    have q1 : (x.kind != kind) = true := by simp [hk]
    have q2 : (x.kind == kind) = false := by simp [hk]
    obtain ⟨wz, hwz⟩ : ∃ wz, w4.setRow g (obCs zero (.slice none 0 0) (.slice none 0 0)) = wz := ⟨_, rfl⟩
    have HBZ : Hid (Blk wz g 98 (obCs zero (.slice none 0 0) (.slice none 0 0))) := by rw [← hwz]; exact setRow_heap _ _ _ _ _ _ HZC.out
    have HLZ : Hid (Below g w wz) := by rw [← hwz]; exact below_setRow HB4.out (Nat.le_refl _) _
    have HWZ := hid hwz
    clear hwz HLK hk
    go_wp2_with (first
     | (refine wpList_store_row rfl _ (.tmp 8) (.tmp 36) rfl g (obCs zero (.slice none 0 0) (.slice none 0 0)) rfl rfl 98 (obCs zero (.slice none 0 0) (.slice none 0 0)) HZC.out (Tryz.infoObj _ _ _) rfl (obcs_one _ _ _ _ _ _ _) ?_; rw [HWZ.out]))
    go_wp2_with fail
    refine bodyPost_ret (v := .tuple #[.agg (obCs zero (.slice none 0 0) (.slice none 0 0)), .int .i64 22]) ?hr4 rfl ⟨.slice none 0 0, .slice none 0 0, ?_, ?_, ?_, fun k hk => by simp [Value.ownBlock] at hk⟩
    case hr4 => exact rlook_results _ g 22 zero _ _ wz rfl rfl HBZ.out
    ·rw [HL.out]
    ·rw [HL.out]; exact zero_at _
    ·rw [HG.out]; exact HLZ.out
end Go.Proofs.YtmpjdoiogbbcoaaGreatDoor
/- The reference's Split and Join. -/
namespace Go.Proofs.YtmpjdoiogbbcoaaGreatDoor
open Go.RowKit Pap
set_option linter.unusedVariables false

/-- where the cutting stands -/
def RS (L : List UInt8) (i f : Nat) (out : List ByteArray) : Prop :=
 (f ≤ i ∧ i ≤ L.length ∧ pieces L = ls out ++ pieces (L.drop f) ∧ 47 ∉ (L.take i).drop f ∨ i = L.length + 1 ∧ pieces L = ls out) ∧ (∀ x ∈ ls out, goodL x = true) ∧ out.length ≤ i
theorem drop_split {L : List UInt8} {i f : Nat} (hf : f ≤ i) (hi : i ≤ L.length) : L.drop f = (L.take i).drop f ++ L.drop i := by
 conv => lhs; rw [← List.take_append_drop i L]
 rw [List.drop_append_of_le_length (by rw [List.length_take]; omega)]
theorem piece_slash {L : List UInt8} {i f : Nat} (hf : f ≤ i) (hi : i < L.length) (hc : L[i] = 47) (hn : 47 ∉ (L.take i).drop f) : pieces (L.drop f) = (L.take i).drop f :: pieces (L.drop (i + 1)) := by
 rw [drop_split hf (by omega), List.drop_eq_getElem_cons hi, hc, pieces_cut _ _ hn]
theorem piece_end {L : List UInt8} {i f : Nat} (hf : f ≤ i) (hi : i = L.length) (hn : 47 ∉ (L.take i).drop f) : pieces (L.drop f) = [(L.take i).drop f] := by
 have e : L.drop i = [] := List.drop_eq_nil_of_le (by omega)
 rw [drop_split hf (by omega), e, List.append_nil, pieces_last _ hn]
theorem ls_snoc (l : List ByteArray) (x : ByteArray) : ls (l ++ [x]) = ls l ++ [x.data.toList] := by simp [ls]
theorem rs_start (L : List UInt8) : RS L 0 0 [] := ⟨.inl ⟨by omega, by omega, rfl, by simp⟩, by simp [ls], by simp⟩
theorem rs_on {L : List UInt8} {i f : Nat} {out : List ByteArray} (h : RS L i f out) (hi : i < L.length) (hc : L[i] ≠ 47) : RS L (i + 1) f out := by
 obtain ⟨h1, h2, h3⟩ := h
 obtain ⟨h4, h5, h6, h7⟩ := h1.resolve_right (by omega)
 refine ⟨.inl ⟨by omega, by omega, h6, ?_⟩, h2, by omega⟩
 rw [List.take_add_one, List.getElem?_eq_getElem hi, List.drop_append_of_le_length (by rw [List.length_take]; omega)]
 intro hm
 rcases List.mem_append.1 hm with hm | hm
 ·exact h7 hm
 ·simp at hm; exact hc hm.symm
theorem rs_cut {L : List UInt8} {i f : Nat} {out : List ByteArray} {p : ByteArray} (h : RS L i f out) (hi : i ≤ L.length) (hc : (h : i < L.length) → L[i] = 47) (hp : p.data.toList = (L.take i).drop f) (hg : goodL p.data.toList = true) : RS L (i + 1) (i + 1) (out ++ [p]) := by
 obtain ⟨h1, h2, h3⟩ := h
 obtain ⟨h4, h5, h6, h7⟩ := h1.resolve_right (by omega)
 refine ⟨?_, ?_, by simp; omega⟩
 ·by_cases hlt : i < L.length
  ·refine .inl ⟨by omega, by omega, ?_, by simp⟩
   rw [h6, piece_slash h4 hlt (hc hlt) h7, ls_snoc, hp]; simp
  ·refine .inr ⟨by omega, ?_⟩
   rw [h6, piece_end h4 (by omega) h7, ls_snoc, hp]
 ·intro x hx
  rw [ls_snoc] at hx
  rcases List.mem_append.1 hx with hx | hx
  ·exact h2 x hx
  ·simp at hx; subst hx; exact hg
theorem rs_bad {L : List UInt8} {i f : Nat} {out : List ByteArray} (h : RS L i f out) (hi : i ≤ L.length) (hc : (h : i < L.length) → L[i] = 47) (hg : goodL ((L.take i).drop f) = false) : splitE L = 30 := by
 obtain ⟨h1, h2, h3⟩ := h
 obtain ⟨h4, h5, h6, h7⟩ := h1.resolve_right (by omega)
 unfold splitE checkE
 rw [if_pos]
 refine .inr ⟨_, ?_, hg⟩
 rw [h6]
 refine List.mem_append.2 (.inr ?_)
 by_cases hlt : i < L.length
 ·rw [piece_slash h4 hlt (hc hlt) h7]; simp
 ·rw [piece_end h4 (by omega) h7]; simp
theorem rs_done {L : List UInt8} {i f : Nat} {out : List ByteArray} (h : RS L i f out) (hi : L.length < i) : pieces L = ls out ∧ splitE L = if 64 < out.length then 33 else 0 := by
 obtain ⟨h1, h2, h3⟩ := h
 obtain ⟨h4, h5⟩ := h1.resolve_left (by omega)
 refine ⟨h5, ?_⟩
 unfold splitE checkE
 rw [h5, if_neg, ls_length]
 rintro (h | ⟨x, hx, hg⟩)
 ·exact pieces_ne L (h5.trans h)
 ·rw [h2 x hx] at hg; cases hg
theorem extract_list (s : ByteArray) (f i : Nat) : (s.extract f i).data.toList = (s.data.toList.take i).drop f := by
 simp [ByteArray.data_extract, Array.toList_extract, List.extract_eq_take_drop, List.drop_take]

theorem own_empty (w : World) : (w.alloc (.cells #[] 9)).ownsRow w.heap.size 9 1 (.slice (some ⟨w.heap.size, 0, none⟩) 0 0) 0 [] :=
 ⟨rfl, .inr ⟨w.heap.size, 0, #[], rfl, Nat.le_refl _, by show (w.heap.push _)[w.heap.size]? = _; simp, Nat.le_refl _, by unfold maxLen; omega, rfl, rfl⟩⟩

set_option maxHeartbeats 8000000 in
theorem rsplit_any (s : ByteArray) (w : World) (hsz : s.size ≤ 1048576) :
  Calls Tryz.prog 78 #[.string s] w fun e w' => ∃ v, e = .returned (.tuple #[v, .int .i64 (splitE s.data.toList)]) ∧ SplitsTo s v w' ∧ Below w.heap.size w w' := by
 obtain ⟨i0, hi0, hz0, hz1, hz2⟩ := info_parts Tryz.infoS
 have hlen : s.data.toList.length = s.size := by simp
 go_enter Tryz.func78, Tryz.ntmps78
 go_wp2
 go_loopw [4, 5, 6] (fun v from' at' wr => ∃ (i f : Nat) (out : List ByteArray), i ≤ s.size + 1 ∧ at' = .int .i64 i ∧ from' = .int .i64 f ∧ wr.ownsRow w.heap.size 9 1 v out.length (svals out) ∧ Below w.heap.size w wr ∧ Hid (RS s.data.toList i f out)) (fun _ _ i _ => s.size + 1 - (intOf i).toNat)
 case atStart => exact ⟨0, 0, [], by omega, rfl, rfl, own_empty w, (Below.refl _ _).alloc (Nat.le_refl _) _, rs_start _⟩
 case round =>
  obtain ⟨i, f, out, hi, rfl, rfl, hown, hbel, HR⟩ := hrel
  have hbs := hbel.size
  have hout := HR.out.2.2
  by_cases hle : i ≤ s.size
  ·have hfi : f ≤ i := by
    rcases HR.out.1 with h | h
    ·exact h.1
    ·omega
   have hx := extract_list s f i
   have hpz : (s.extract f i).size ≤ 9223372036854775807 := by
    have h1 : (s.extract f i).data.toList.length = (s.extract f i).size := Array.length_toList
    rw [hx, List.length_drop, List.length_take] at h1; omega
   by_cases hlt : i < s.size
   ·by_cases hc : s[i] = 47
    ·have e1 : ((s[i].toNat : Int) != 47) = false := by rw [hc]; rfl
     have e2 : ((s[i].toNat : Int) == 47) = true := by rw [hc]; rfl
     cases hg : goodL (s.extract f i).data.toList
     ·have HX := hid (rs_bad HR.out (by omega) (fun h => hc) (by rw [← hx]; exact hg))
      have HG := hid hg; clear hg hx hc
      go_wp2_with (go_at_call 137; refine (rgood_any _ _ hpz).mono ?_; rw [HG.out]; rintro e w1 ⟨rfl, rfl⟩)
      go_ret2
      exact ⟨_, by rw [HX.out] <;> rfl, ⟨none, 0, [], rfl, ⟨rfl, by simp, .inl rfl⟩, by unfold namesOf; rw [HX.out]; rfl, fun _ => rfl⟩, hbel⟩
     ·have HN := hid (rs_cut HR.out (by omega) (fun h => hc) hx hg)
      have HG := hid hg; clear hg hx hc
      go_wp2_with (first
       | (go_at_call 137; refine (rgood_any _ _ hpz).mono ?_; rw [HG.out]; rintro e w1 ⟨rfl, rfl⟩)
       | (at_builtin; refine wpList_append_own _ rfl (.tmp 30) (.tmp 35) 40 rfl w.heap.size 9 i0 (.string ⟨#[]⟩) 1 16 Tryz.underlying40 hi0 hz0 hz1 hz2 rfl (by decide) _ _ _ rfl (hown.alloc _) _ 1 1 [.string (s.extract f i)] rfl rfl (cellNew1 _ _ _) (one_bytes rfl) (by unfold maxLen; omega) (by omega) (by simp; omega) ?_; intro v' w3 hown' hgrow _))
      go_roundw
      case rel => exact ⟨i + 1, i + 1, out ++ [s.extract f i], by omega, by go_num, by go_num, own_string_snoc hown', below_grown1 hbel hown _ hbs hgrow, HN⟩
      case measure => simp [intOf]; omega
    ·have e1 : ((s[i].toNat : Int) != 47) = true := by
      rw [bne_iff_ne]; intro e; apply hc; apply UInt8.toNat_inj.1; show s[i].toNat = 47; omega
     have e2 : ((s[i].toNat : Int) == 47) = false := by
      rw [beq_eq_false_iff_ne]; intro e; apply hc; apply UInt8.toNat_inj.1; show s[i].toNat = 47; omega
     have HN := hid (rs_on HR.out (by omega) hc)
     clear hc hx
     go_wp2
     go_roundw
     case rel => exact ⟨i + 1, f, out, by omega, by go_num, rfl, hown, hbel, HN⟩
     case measure => simp [intOf]; omega
   ·obtain rfl : i = s.size := by omega
    cases hg : goodL (s.extract f s.size).data.toList
    ·have HX := hid (rs_bad HR.out (by omega) (fun h => absurd h (by omega)) (by rw [← hx]; exact hg))
     have HG := hid hg; clear hg hx
     go_wp2_with (go_at_call 137; refine (rgood_any _ _ hpz).mono ?_; rw [HG.out]; rintro e w1 ⟨rfl, rfl⟩)
     go_ret2
     exact ⟨_, by rw [HX.out] <;> rfl, ⟨none, 0, [], rfl, ⟨rfl, by simp, .inl rfl⟩, by unfold namesOf; rw [HX.out]; rfl, fun _ => rfl⟩, hbel⟩
    ·have HN := hid (rs_cut HR.out (by omega) (fun h => absurd h (by omega)) hx hg)
     have HG := hid hg; clear hg hx
     go_wp2_with (first
      | (go_at_call 137; refine (rgood_any _ _ hpz).mono ?_; rw [HG.out]; rintro e w1 ⟨rfl, rfl⟩)
      | (at_builtin; refine wpList_append_own _ rfl (.tmp 30) (.tmp 35) 40 rfl w.heap.size 9 i0 (.string ⟨#[]⟩) 1 16 Tryz.underlying40 hi0 hz0 hz1 hz2 rfl (by decide) _ _ _ rfl (hown.alloc _) _ 1 1 [.string (s.extract f s.size)] rfl rfl (cellNew1 _ _ _) (one_bytes rfl) (by unfold maxLen; omega) (by omega) (by simp; omega) ?_; intro v' w3 hown' hgrow _))
     go_roundw
     case rel => exact ⟨s.size + 1, s.size + 1, out ++ [s.extract f s.size], by omega, by go_num, by go_num, own_string_snoc hown', below_grown1 hbel hown _ hbs hgrow, HN⟩
     case measure => simp [intOf]
  ·obtain ⟨D1, D2⟩ := rs_done HR.out (by omega)
   have HD1 := hid D1
   obtain ⟨va, vc, rfl, hS⟩ := own_strs hown (by omega)
   by_cases h64 : 64 < out.length
   ·have HX : Hid (splitE s.data.toList = 33) := by rw [if_pos h64] at D2; exact D2
    have g1 : (64 : Int) < out.length := by omega
    clear D1 D2
    go_wp2
    go_ret2
    exact ⟨_, by rw [HX.out] <;> rfl, ⟨none, 0, [], rfl, ⟨rfl, by simp, .inl rfl⟩, by unfold namesOf; rw [HX.out]; rfl, fun _ => rfl⟩, hbel⟩
   ·have HX : Hid (splitE s.data.toList = 0) := by rw [if_neg h64] at D2; exact D2
    have g1 : ¬ (64 : Int) < out.length := by omega
    clear D1 D2
    go_wp2
    go_ret2
    exact ⟨_, by rw [HX.out] <;> rfl, ⟨va, vc, out, rfl, hS, by unfold namesOf; rw [if_pos HX.out, HD1.out], fun h => absurd HX.out h⟩, hbel⟩
end Go.Proofs.YtmpjdoiogbbcoaaGreatDoor
/- The reference's Join, Compare, Within. -/
namespace Go.Proofs.YtmpjdoiogbbcoaaGreatDoor
open Go.RowKit Pap
set_option linter.unusedVariables false

theorem joinL_snoc (a : List (List UInt8)) (x : List UInt8) (h : a ≠ []) : joinL (a ++ [x]) = joinL a ++ 47 :: x := joinL_app a [x] h (by simp)
theorem ba_append (a b : ByteArray) : (a ++ b).data.toList = a.data.toList ++ b.data.toList := by simp [ByteArray.data_append]
set_option maxHeartbeats 8000000 in
theorem rcompare_any (a b : ByteArray) (w : World) (ha : a.size ≤ 1048576) (hb : b.size ≤ 1048576) :
  Calls Tryz.prog 35 #[.string a, .string b] w fun e w' => e = .returned (.int .i64 (compareR a.data.toList b.data.toList)) ∧ Below w.heap.size w w' := by
 have HB := Below.refl w.heap.size w
 have HT : True := trivial
 by_cases h1 : splitE a.data.toList = 0
 ·by_cases h2 : splitE b.data.toList = 0
  ·have HR : Hid (compareR a.data.toList b.data.toList = cmpP (pieces a.data.toList) (pieces b.data.toList)) := by unfold Hid compareR; rw [if_pos ⟨h1, h2⟩]
   have H1 := hid h1
   have H2 := hid h2
   have f1 : (splitE a.data.toList != 0) = false := by simp [h1]
   have f2 : (splitE b.data.toList != 0) = false := by simp [h2]
   clear h1 h2
   go_enter Tryz.func35, Tryz.ntmps35
   go_wp2_with (go_at_call 78; refine (rsplit_any _ _ (by assumption)).mono ?_; rintro e w1 ⟨v, rfl, hv, hb1⟩; replace HB := below_then HB hb1; replace HT := And.intro HT (And.intro (hid hv) (hid hb1)); clear hv hb1)
   obtain ⟨⟨-, K1, B1⟩, K2, B2⟩ := HT
   obtain ⟨p1, c1, x, rfl, hs1, hn1, -⟩ := K1.out
   obtain ⟨p2, c2, y, rfl, hs2, hn2, -⟩ := K2.out
   have hx := hs1.later B2.out
   have HX : Hid (compareR a.data.toList b.data.toList = cmpP (ls x) (ls y)) := by
    rw [Hid, HR.out, hn1, hn2]; unfold namesOf; rw [if_pos H1.out, if_pos H2.out]
   have hzx : ∀ z ∈ ls x, z.length ≤ 255 := by
    intro z hz
    rw [hn1] at hz; unfold namesOf at hz; rw [if_pos H1.out] at hz
    exact good_len ((checkE_ok.1 H1.out).2.1 z hz)
   have hzy : ∀ z ∈ ls y, z.length ≤ 255 := by
    intro z hz
    rw [hn2] at hz; unfold namesOf at hz; rw [if_pos H2.out] at hz
    exact good_len ((checkE_ok.1 H2.out).2.1 z hz)
   have HZ : Hid (∀ (l : List ByteArray), (∀ z ∈ ls l, z.length ≤ 255) → ∀ k, k < l.length → (l.getD k ByteArray.empty).size ≤ 9223372036854775807) := by
    intro l h k hk
    have h3 := h _ (List.getElem_mem (by rw [ls_length]; exact hk : k < (ls l).length))
    rw [ls_get] at h3
    have h4 : (l.getD k ByteArray.empty).data.toList.length = (l.getD k ByteArray.empty).size := Array.length_toList
    omega
   have ZX := hid (HZ.out x hzx); have ZY := hid (HZ.out y hzy)
   clear hn1 hn2 K1 K2 hs1 HR H1 H2 hzx hzy HZ
   have xl := ls_length x
   have yl := ls_length y
   have hxm := hx.2.1
   have hym := hs2.2.1
   go_loopw [9] (fun i wr => ∃ k : Nat, k ≤ x.length ∧ k ≤ y.length ∧ i = .int .i64 k ∧ Below w1.heap.size w1 wr ∧ Hid (cmpP (ls x) (ls y) = cmpP ((ls x).drop k) ((ls y).drop k))) (fun i _ => x.length - (intOf i).toNat)
   case atStart => exact ⟨0, by omega, by omega, rfl, Below.refl _ _, rfl⟩
   case round =>
    obtain ⟨k, hk, hk2, rfl, hbel, HK⟩ := hrel
    by_cases hlt : k < x.length
    ·by_cases hlt2 : k < y.length
     ·obtain ⟨b1, o1, rfl, hc1⟩ := (hx.later hbel).2.2.resolve_left (by omega)
      obtain ⟨b2, o2, rfl, hc2⟩ := (hs2.later hbel).2.2.resolve_left (by omega)
      have e1 := hc1 k hlt
      have e2 := hc2 k hlt2
      have zp := ZX.out k hlt
      have zq := ZY.out k hlt2
      have st := cmpP_step (ls x) (ls y) k (by omega) (by omega)
      rw [ls_get, ls_get] at st
      obtain ⟨p, hp⟩ : ∃ p, x.getD k ByteArray.empty = p := ⟨_, rfl⟩
      obtain ⟨q, hq⟩ : ∃ q, y.getD k ByteArray.empty = q := ⟨_, rfl⟩
      rw [hp] at e1 st zp
      rw [hq] at e2 st zq
      have EP : ∀ z : After wr, z.val.cell? ⟨b1, o1 + k, none⟩ = some (.string p) := fun z => (z.below.cell (p := ⟨b1, o1 + k, none⟩) (World.block_lt_of_cell? _ _ e1)).trans e1
      have EQ : ∀ z : After wr, z.val.cell? ⟨b2, o2 + k, none⟩ = some (.string q) := fun z => (z.below.cell (p := ⟨b2, o2 + k, none⟩) (World.block_lt_of_cell? _ _ e2)).trans e2
      have cC : ∀ z : After wr, Calls Tryz.prog 79 #[.string p, .string q] z.val fun e w' => e = .returned (.int .i64 (cmpL p.data.toList q.data.toList)) ∧ Below z.val.heap.size z.val w' := fun z => rbytes_any p q z.val zp zq
      obtain ⟨C, hC⟩ : ∃ C, cmpL p.data.toList q.data.toList = C := ⟨_, rfl⟩
      rw [hC] at cC st
      have CC := hid cC
      clear cC hp hq hC hc1 hc2 e1 e2
      by_cases h0 : C = 0
      ·subst h0
       have HS := hid (HK.out.trans st); clear st
       go_wp2_with fail
       refine wp_region_after (by kernel_rfl) (by kernel_rfl) ?_
       repeat (go_big_quiet_step ((go_at_call 79; exact calls_after (CC.out _))))
       refine wpQuiet_nil ?_
       intro _ hw'
       obtain ⟨z, rfl⟩ := hw'
       go_wp2
       go_roundw
       case rel => exact ⟨k + 1, by omega, by omega, by go_num, below_then hbel z.below, by have := HS.out; simp only [if_true] at this; exact this⟩
       case measure => simp [intOf]; omega
      ·have HS : Hid (cmpP (ls x) (ls y) = C) := by have := HK.out.trans st; rwa [if_neg h0] at this
       have e1 : (C != 0) = true := by simpa using h0
       have e2 : (C == 0) = false := by simpa using h0
       clear st h0
       go_wp2_with fail
       refine wp_region_after (by kernel_rfl) (by kernel_rfl) ?_
       repeat (go_big_quiet_step ((go_at_call 79; exact calls_after (CC.out _))))
       refine wpQuiet_nil ?_
       intro _ hw'
       obtain ⟨z, rfl⟩ := hw'
       go_wp2
       go_ret
       exact ⟨ret_int (by rw [HX.out, HS.out]), below_then HB (below_then hbel z.below)⟩
     ·have HS : Hid (cmpP (ls x) (ls y) = 1) := HK.out.trans (cmpP_behind _ _ k (by omega) (by omega))
      have g0 : (k : Int) < x.length := by omega
      have g1 : ¬ (k : Int) < y.length := by omega
      have g2 : ¬ (x.length : Int) < y.length := by omega
      have g3 : (y.length : Int) < x.length := by omega
      go_wp2
      go_ret
      exact ⟨ret_int (by rw [HX.out, HS.out]), below_then HB hbel⟩
    ·have st := HK.out.trans (cmpP_ends (ls x) (ls y) k (by omega))
     have g0 : ¬ (k : Int) < x.length := by omega
     by_cases hlt2 : x.length < y.length
     ·have HS : Hid (cmpP (ls x) (ls y) = -1) := by rwa [if_pos (by omega)] at st
      have g1 : (x.length : Int) < y.length := by omega
      clear st
      go_wp2
      go_ret
      exact ⟨ret_int (by rw [HX.out, HS.out]), below_then HB hbel⟩
     ·have HS : Hid (cmpP (ls x) (ls y) = 0) := by rwa [if_neg (by omega)] at st
      have g1 : ¬ (x.length : Int) < y.length := by omega
      have g2 : ¬ (y.length : Int) < x.length := by omega
      clear st
      go_wp2
      go_ret
      exact ⟨ret_int (by rw [HX.out, HS.out]), below_then HB hbel⟩
  ·have HR : Hid (compareR a.data.toList b.data.toList = 0) := by unfold Hid compareR; rw [if_neg (fun e => h2 e.2)]
   have f1 : (splitE a.data.toList != 0) = false := by simp [h1]
   have f2 : (splitE b.data.toList != 0) = true := by simp [h2]
   clear h1 h2
   go_enter Tryz.func35, Tryz.ntmps35
   go_wp2_with (go_at_call 78; refine (rsplit_any _ _ (by assumption)).mono ?_; rintro e w1 ⟨v, rfl, hv, hb1⟩; replace HB := below_then HB hb1; clear hv hb1)
   go_ret
   exact ⟨ret_int (by rw [HR.out]), HB⟩
 ·have HR : Hid (compareR a.data.toList b.data.toList = 0) := by unfold Hid compareR; rw [if_neg (fun e => h1 e.1)]
  have f1 : (splitE a.data.toList != 0) = true := by simp [h1]
  clear h1
  go_enter Tryz.func35, Tryz.ntmps35
  go_wp2_with (go_at_call 78; refine (rsplit_any _ _ (by assumption)).mono ?_; rintro e w1 ⟨v, rfl, hv, hb1⟩; replace HB := below_then HB hb1; clear hv hb1)
  go_ret
  exact ⟨ret_int (by rw [HR.out]), HB⟩
end Go.Proofs.YtmpjdoiogbbcoaaGreatDoor
/- The reference's layer 15: going over a commit's trees: over. -/
namespace Go.Proofs.YtmpjdoiogbbcoaaGreatDoor
open Go.RowKit Book Pap Ojt Sn
set_option linter.unusedVariables false
set_option linter.unusedSimpArgs false

def rkCs (met : Nat) (v : Value) (er : Int) : Array Value := #[v, .int .i64 met, .int .i64 er]
/-- what over leaves -/
def ROverOut (B : Nat) (w : World) (b : Nat) (v : Value) (r : Wk × Int) (e : Ending) (w' : World) : Prop :=
 ∃ v', e = .returned (.tuple #[]) ∧ Blk w' b 157 (rkCs r.1.met v' r.2) ∧ w'.ownsRow B 76 3 v' r.1.blobs.length (evals r.1.blobs) ∧ r.1.met ≤ 4097 ∧ r.1.blobs.length ≤ r.1.met ∧ Only (WF b v) w w' ∧ (∀ k, v'.ownBlock = some k → v.ownBlock = some k ∨ w.heap.size ≤ k) ∧ (r.2 = 0 → r.1.met ≤ 4096)
theorem pathOf_snoc {l : List ByteArray} (h : l ≠ []) (n : ByteArray) : pathOf (l ++ [n]) = pathOf l ++ ⟨#[47]⟩ ++ n := by
 unfold pathOf
 rw [List.map_append]
 have := joinL_snoc (l.map fun s => s.data.toList) n.data.toList (fun e => h (List.map_eq_nil_iff.1 e))
 rw [List.map_cons, List.map_nil, this]
 apply ba_ext
 rw [ba_append, ba_append]
 show _ = (bz (joinL (l.map fun s => s.data.toList))).data.toList ++ [47] ++ n.data.toList
 unfold bz
 simp
theorem pathOf_one (n : ByteArray) : pathOf ([] ++ [n]) = n := by
 unfold pathOf
 apply ba_ext
 simp [bz, joinL]
theorem pathOf_size (l : List ByteArray) (h : ∀ x ∈ l, x.size ≤ 255) : (pathOf l).size ≤ l.length * 256 := by
 unfold pathOf
 rw [bz_size]
 have := joinL_len (l.map fun s => s.data.toList) 255 (fun x hx => by
  obtain ⟨y, hy, rfl⟩ := List.mem_map.1 hx
  have := h y hy
  have e : y.data.toList.length = y.size := Array.length_toList
  omega)
 rw [List.length_map] at this
 exact this
set_option maxRecDepth 100000 in
set_option maxHeartbeats 16000000 in
theorem rover_any (a : Option Addr) (n c : Nat) (fs : List Fi) (hz : SrcSz (getF fs)) (w0 : World) (hF : FisAt w0 a n fs) : ∀ (d : Nat) (id : ByteArray) (above : List ByteArray) (path : ByteArray) (b : Nat) (v : Value) (s : Wk) (w : World),
  (above ≠ [] → path = pathOf above) → path.size ≤ 20000 → above.length ≤ 64 → 66 ≤ d + above.length → Below w0.heap.size w0 w → Blk w b 157 (rkCs s.met v 0) → w.ownsRow w0.heap.size 76 3 v s.blobs.length (evals s.blobs) → w0.heap.size ≤ b → s.met ≤ 4096 → s.blobs.length ≤ s.met → (∀ x ∈ above, x.size ≤ 255) →
  Calls Tryz.prog 77 #[.pointer (some ⟨b, 0, none⟩), .slice a n c, .string id, .string path, .int .i64 above.length] w (ROverOut w0.heap.size w b v (overS (getF fs) d id above s)) := by
 intro d
 induction d with
 | zero => intro id above path b v s w _ _ hn hd; omega
 | succ d ih =>
  intro id above path b v s w hpath hpsz hn hd hB0 hW1 hW2 hW3 hmet hW5 hsz
  have IH := hid ih
  clear ih
  obtain ⟨B, hB⟩ : ∃ B, w0.heap.size = B := ⟨_, rfl⟩
  have HSW := hid (hF.later hB0)
  have hBw : B ≤ w.heap.size := by rw [← hB]; exact hB0.size
  have HB0 := hid hB0
  have HSZ := hid hsz
  have HPA := hid hpath
  rw [hB] at hW2 hW3
  have HB := hid hB
  rw [hB]
  have hbl := Blk.lt hW1
  have HW1 := hid hW1; have HW2 := hid hW2
  have hvl : ∀ k, v.ownBlock = some k → B ≤ k ∧ k < w.heap.size := fun k hk => hW2.lt k hk
  have HVL := hid hvl
  have HLKS := hid (rlook_any a n c fs id 2 21 w HSW.out hz)
  obtain ⟨m, hm⟩ : ∃ m, above.length = m := ⟨_, rfl⟩
  have HAL := hid hm
  rw [hm] at hn hd ⊢
  obtain ⟨G, hG⟩ : ∃ G, getF fs = G := ⟨_, rfl⟩
  have HGE := hid hG
  rw [hG] at HLKS hz ⊢
  clear hsz hB hW1 hW2 hvl hB0 hm hpath hG
  go_enter Tryz.func77, Tryz.ntmps77
  obtain ⟨x, er, hlk⟩ : ∃ x er, lookK G id 2 21 = (x, er) := ⟨_, _, rfl⟩
  rw [hlk] at HLKS
  go_wp2_with fail
  refine HLKS.out.mono ?_; rintro e w1 ⟨ev, pv, rfl, hO1, hb1, hf1⟩
  simp only at hO1 ⊢
  have HO1 := hid hO1
  obtain ⟨ea, en, ec, pa, pn, pc, rfl, -, rfl, -⟩ := hO1
  have HX2 : Hid (Blk (w1.alloc (.cells (obCs x (.slice ea en ec) (.slice pa pn pc)) 98)) w1.heap.size 98 (obCs x (.slice ea en ec) (.slice pa pn pc))) := Blk.new w1 _ _
  have HL2 : Hid (Below w.heap.size w (w1.alloc (.cells (obCs x (.slice ea en ec) (.slice pa pn pc)) 98))) := hb1.alloc hb1.size _
  have HO2 : Hid (ObAt (w1.alloc (.cells (obCs x (.slice ea en ec) (.slice pa pn pc)) 98)) (.slice ea en ec) (.slice pa pn pc) x) := HO1.out.later ((Below.refl _ _).alloc (Nat.le_refl _) _)
  have HF1 : Hid (∀ k, (Value.slice ea en ec).ownBlock = some k → w.heap.size ≤ k) := fun k hk => hf1 k (.inl hk)
  have hg2w : w.heap.size ≤ w1.heap.size := hb1.size
  unfold obCs at HX2 HL2 HO2
  simp only [obCs]
  clear hb1 hf1 HO1 HLKS
  go_upto_region 1 with fail
  generalize (w1.alloc (.cells #[.int .i64 x.kind, .string x.data, .slice ea en ec, .string x.tree, .slice pa pn pc, .int .i64 x.height, .string x.note] 98)) = w2 at HX2 HL2 HO2 ⊢
  generalize w1.heap.size = g2 at HX2 hg2w ⊢
  have hsz2 : w.heap.size ≤ w2.heap.size := HL2.out.size
  have HWK2 : Hid (Blk w2 b 157 (rkCs s.met v 0)) := (HL2.out.block b hbl).trans HW1.out
  have HOW2 : Hid (w2.ownsRow B 76 3 v s.blobs.length (evals s.blobs)) := own_below HW2.out HL2.out
  have hbg2 : b < g2 := by omega
  by_cases he : er = 0
  ·subst he
   obtain ⟨hgd, hkd⟩ := look_good hlk (by decide)
   obtain ⟨hel, hge⟩ := good_tree hgd hkd
   have HGEN := hid hge
   have HOS := hid (overS_ok (d := d) (above := above) (s := s) hlk)
   have hen : x.ents.length = en := by
    obtain ⟨_, _, _, _, _, _, e1, he, -⟩ := HO2.out
    injection e1 with e2 e3 e4
    rw [e3]; exact he.1
   have HEN := hid hen
   have hen2 : en ≤ 256 := by omega
   have HEA : Hid (EntsAt w2 ea en x.ents) := by
    obtain ⟨_, _, _, _, _, _, e1, he, -⟩ := HO2.out
    injection e1 with e2 e3 e4
    rw [e2, e3]; exact he
   clear hlk hgd hkd hge hel hen HO2
   go_wp2_with fail
   go_loopw [12] (fun iv wr => ∃ (i : Nat) (vi : Value) (si : Wk) (ei : Int), i ≤ en ∧ iv = .int .i64 i ∧ Hid (Blk wr b 157 (rkCs si.met vi ei)) ∧ Hid (wr.ownsRow B 76 3 vi si.blobs.length (evals si.blobs)) ∧ Hid (si.met ≤ 4097 ∧ si.blobs.length ≤ si.met ∧ (ei = 0 → si.met ≤ 4096)) ∧ Hid (Only (WF b v) w2 wr) ∧ Hid (∀ k, vi.ownBlock = some k → v.ownBlock = some k ∨ w2.heap.size ≤ k) ∧ Hid (ei = 0 → overE (overS G d) above x.ents s = overE (overS G d) above (x.ents.drop i) si) ∧ Hid (ei ≠ 0 → overE (overS G d) above x.ents s = (si, ei))) (fun iv _ => en - (intOf iv).toNat)
   case atStart => exact ⟨0, v, s, 0, Nat.zero_le _, rfl, HWK2, HOW2, ⟨by omega, hW5, fun _ => hmet⟩, Only.refl _ _, fun k hk => .inl hk, fun _ => rfl, fun h => absurd rfl h⟩
   case round =>
    obtain ⟨i, vi, si, ei, hi, rfl, HK, HOW, HM, HO, HV, HE, HEE⟩ := hrel
    have hszr : w2.heap.size ≤ wr.heap.size := HO.out.size
    have HXr : Hid (Blk wr g2 98 #[.int .i64 x.kind, .string x.data, .slice ea en ec, .string x.tree, .slice pa pn pc, .int .i64 x.height, .string x.note]) := HX2.out.only HO.out (fun hf => by
     rcases hf with hf | hf
     ·omega
     ·have := (HVL.out _ hf).2; omega)
    have r2 : wr.cell? ⟨g2, 2, none⟩ = some (.slice ea en ec) := Blk.cell HXr.out 2
    have rb2 : wr.cell? ⟨b, 2, none⟩ = some (.int .i64 ei) := Blk.cell HK.out 2
    by_cases hlt : i < en
    ·have ci : (i : Int) < en := by omega
     have ci0 : (0 : Int) ≤ (i : Int) := by omega
     by_cases hei : ei = 0
     ·subst hei
      have heA : EntsAt wr ea en x.ents := EntsAt.only (c := ec) HEA.out HO.out (fun k hk hl hf => by
       have h1 := HF1.out k hk
       rcases hf with hf | hf
       ·omega
       ·have := (HVL.out k hf).2; omega)
      obtain ⟨-, -, h3⟩ := heA
      obtain ⟨eb, eoff, rfl, hcell⟩ := h3.resolve_left (by omega)
      obtain ⟨q0, q1, q2⟩ := hcell i hlt
      have hil : i < x.ents.length := by rw [HEN.out]; exact hlt
      have hMem : x.ents.getD i ⟨ByteArray.empty, 0, ByteArray.empty⟩ ∈ x.ents := by
       rw [List.getD_eq_getElem?_getD, List.getElem?_eq_getElem hil]; exact List.getElem_mem hil
      have HT : Hid (x.ents.drop i = x.ents.getD i ⟨ByteArray.empty, 0, ByteArray.empty⟩ :: x.ents.drop (i + 1)) := by
       show _ = _
       rw [List.drop_eq_getElem_cons hil, List.getD_eq_getElem?_getD, List.getElem?_eq_getElem hil]; rfl
      have hgood := HGEN.out _ hMem
      obtain ⟨z, hzz⟩ : ∃ z, x.ents.getD i ⟨ByteArray.empty, 0, ByteArray.empty⟩ = z := ⟨_, rfl⟩
      rw [hzz] at q0 q1 q2 HT hgood
      obtain ⟨nm, kd, yd⟩ := z
      obtain ⟨-, f1, f2, f3⟩ := goodEnt_facts hgood
      simp only at q0 q1 q2 f1 f2 f3
      have HKD := hid f2
      have HE1 : Hid (overE (overS G d) above x.ents s = overE (overS G d) above (⟨nm, kd, yd⟩ :: x.ents.drop (i + 1)) si) := by
       show _ = _
       rw [HE.out rfl, HT.out]
      clear hzz hMem HT hcell h3 hgood HE HEE f2
      obtain ⟨hm1, hm2, hm3⟩ := HM.out
      have hm3 : si.met ≤ 4096 := hm3 rfl
      go_upto_region 7 with fail
      have HXa : Hid (Blk (wr.alloc (.cells #[.string nm, .int .i64 kd, .string yd] 76)) wr.heap.size 76 #[.string nm, .int .i64 kd, .string yd]) := Blk.new wr _ _
      have HKa : Hid (Blk (wr.alloc (.cells #[.string nm, .int .i64 kd, .string yd] 76)) b 157 (rkCs si.met vi 0)) := HK.out.alloc _
      have HOWa : Hid ((wr.alloc (.cells #[.string nm, .int .i64 kd, .string yd] 76)).ownsRow B 76 3 vi si.blobs.length (evals si.blobs)) := HOW.out.alloc _
      have HOa : Hid (Only (WF b v) w2 (wr.alloc (.cells #[.string nm, .int .i64 kd, .string yd] 76))) := HO.out.alloc _
      have hza : (wr.alloc (.cells #[.string nm, .int .i64 kd, .string yd] 76)).heap.size = wr.heap.size + 1 := by simp
      have HVr : Hid (∀ k, vi.ownBlock = some k → k < wr.heap.size) := fun k hk => own_lt HOW.out hk
      clear q0 q1 q2 HK HOW r2 rb2 HXr
      generalize (wr.alloc (.cells #[.string nm, .int .i64 kd, .string yd] 76)) = wa at HXa HKa HOWa HOa hza ⊢
      obtain ⟨e0, he0⟩ : ∃ e0, wr.heap.size = e0 := ⟨_, rfl⟩
      rw [he0] at HXa hza HVr ⊢
      have hbe : b < e0 := by omega
      have k1 : wa.cell? ⟨b, 1, none⟩ = some (.int .i64 si.met) := Blk.cell HKa.out 1
      have f1c := Blk.frozen HKa.out 1
      have e1 : ((si.met + 1 : Nat) : Int) = (si.met : Int) + 1 := by omega
      have hEW0 := e1
      have HEW := hid e1
      have ew : IntKind.i64.wrap ((si.met : Int) + 1) = (si.met : Int) + 1 := by rw [IntKind.wrap_i64]; omega
      have HKb : Hid (Blk (wa.setCell ⟨b, 1, none⟩ (.int .i64 ((si.met : Int) + 1))) b 157 (rkCs (si.met + 1) vi 0)) := by
       have h := Blk.set HKa.out 1 (.int .i64 ((si.met : Int) + 1))
       show Blk _ _ _ _
       unfold rkCs
       rw [hEW0]
       exact h
      have hob : Only (· = b) wa (wa.setCell ⟨b, 1, none⟩ (.int .i64 ((si.met : Int) + 1))) := (Only.refl (· = b) wa).setCell (p := ⟨b, 1, none⟩) (.inl rfl) _
      have HXb : Hid (Blk (wa.setCell ⟨b, 1, none⟩ (.int .i64 ((si.met : Int) + 1))) e0 76 #[.string nm, .int .i64 kd, .string yd]) := HXa.out.only hob (fun e => by have e : e0 = b := e; omega)
      have HOWb : Hid ((wa.setCell ⟨b, 1, none⟩ (.int .i64 ((si.met : Int) + 1))).ownsRow B 76 3 vi si.blobs.length (evals si.blobs)) := own_only HOWa.out hob (fun k hk e => own_blk_ne HOWa.out HKa.out (by decide) (e ▸ hk))
      have HOb : Hid (Only (WF b v) w2 (wa.setCell ⟨b, 1, none⟩ (.int .i64 ((si.met : Int) + 1)))) := HOa.out.setCell (p := ⟨b, 1, none⟩) (.inl (.inl rfl)) _
      have hzb : (wa.setCell ⟨b, 1, none⟩ (.int .i64 ((si.met : Int) + 1))).heap.size = e0 + 1 := by simp [World.setCell, hza]
      clear hob HXa HKa HOWa HOa e1 hEW0 HO
      go_upto_region 8 with fail
      clear k1 f1c
      generalize (wa.setCell ⟨b, 1, none⟩ (.int .i64 ((si.met : Int) + 1))) = wb at HKb HXb HOWb HOb hzb ⊢
      have HZB := hid hzb
      have hw2e : w2.heap.size ≤ e0 := by omega
      have hwle : w.heap.size ≤ e0 := by omega
      have hble : B ≤ e0 := by omega
      clear hzb hza he0
      have km : wb.cell? ⟨b, 1, none⟩ = some (.int .i64 ((si.met : Int) + 1)) := (Blk.cell HKb.out 1).trans (by show some (Value.int .i64 ((si.met + 1 : Nat) : Int)) = _; rw [HEW.out])
      have kb2 : wb.cell? ⟨b, 2, none⟩ = some (.int .i64 0) := Blk.cell HKb.out 2
      have fb2 := Blk.frozen HKb.out 2
      have HERR : Hid (∀ E : Int, E ≠ 0 → overE (overS G d) above x.ents s = ({ si with met := si.met + 1 }, E) → ROverOut B w b v (overE (overS G d) above x.ents s) (.returned (.tuple #[])) (wb.setCell ⟨b, 2, none⟩ (.int .i64 E))) := fun E hE h => by
       rw [h]
       have hob : Only (· = b) wb (wb.setCell ⟨b, 2, none⟩ (.int .i64 E)) := (Only.refl (· = b) wb).setCell (p := ⟨b, 2, none⟩) (.inl rfl) _
       exact ⟨vi, rfl, Blk.set HKb.out 2 _, own_only HOWb.out hob (fun k hk e => own_blk_ne HOWb.out HKb.out (by decide) (e ▸ hk)), by show si.met + 1 ≤ 4097; omega, by show si.blobs.length ≤ si.met + 1; omega, ((Only.of_below HL2.out _).then HOb.out).setCell (p := ⟨b, 2, none⟩) (.inl (.inl rfl)) _, fun k hk => (HV.out k hk).imp (fun e => e) (fun e => by omega), fun h => absurd h hE⟩
      by_cases h4 : 4096 < si.met + 1
      ·have c4 : (4096 : Int) < (si.met : Int) + 1 := by omega
       have HFN := hid (HERR.out 6 (by decide) (HE1.out.trans (overE_many h4)))
       clear HERR
       go_wp2_with fail
       go_end0
       rw [HOS.out]
       exact HFN.out
      have c4 : ¬ (4096 : Int) < (si.met : Int) + 1 := by omega
      by_cases h64 : 64 < m + 1
      ·have c64 : (64 : Int) ≤ (m : Int) := by omega
       have HFN := hid (HERR.out 33 (by decide) (HE1.out.trans (overE_deep h4 (by rw [HAL.out]; exact h64))))
       clear HERR
       go_wp2_with fail
       go_end0
       rw [HOS.out]
       exact HFN.out
      have c64 : ¬ (64 : Int) ≤ (m : Int) := by omega
      clear HERR kb2 fb2
      have ke0 : wb.cell? ⟨e0, 0, none⟩ = some (.string nm) := Blk.cell HXb.out 0
      have ke1 : wb.cell? ⟨e0, 1, none⟩ = some (.int .i64 kd) := Blk.cell HXb.out 1
      have ke2 : wb.cell? ⟨e0, 2, none⟩ = some (.string yd) := Blk.cell HXb.out 2
      have HSW2 : Hid (∀ x ∈ above ++ [nm], x.size ≤ 255) := by
       intro q hq
       rcases List.mem_append.1 hq with hq | hq
       ·exact HSZ.out q hq
       ·rw [List.mem_singleton.1 hq]; exact f1
      have hpts := pathOf_size (above ++ [nm]) HSW2.out
      have hpl : (above ++ [nm]).length = m + 1 := by rw [List.length_append, HAL.out]; rfl
      rw [hpl] at hpts
      have HPL := hid hpl
      obtain ⟨pt, hpt⟩ : ∃ p, pathOf (above ++ [nm]) = p := ⟨_, rfl⟩
      rw [hpt] at hpts
      have HPT := hid hpt
      clear hpt hpl
      go_upto_if 69 with fail
      go_cut [14] (fun s14 wx => s14 = .string pt ∧ wx = wb)
      case first =>
       by_cases h0 : above = []
       ·have hm0 : m = 0 := by rw [← HAL.out, h0]; rfl
        have cm : ¬ (0 : Int) < (m : Int) := by omega
        have hpn : nm = pt := by rw [← HPT.out, h0, pathOf_one]
        subst hpn
        clear h0 hm0
        go_wp2_with fail
        go_meet
        case rel => exact ⟨rfl, rfl⟩
       ·have hm0 : 0 < m := by rw [← HAL.out]; exact List.length_pos_iff.2 h0
        have cm : (0 : Int) < (m : Int) := by omega
        have hpn : path ++ ⟨#[47]⟩ ++ nm = pt := by rw [← HPT.out, pathOf_snoc h0, HPA.out h0]
        have g1 : ¬ 9223372036854775807 < path.size + 1 := by omega
        have g2 : ¬ 9223372036854775807 < path.size + 1 + nm.size := by omega
        have g3 : ¬ 9223372036854775807 < path.size + (⟨#[47]⟩ : ByteArray).size := g1
        have g4 : ¬ 9223372036854775807 < (path ++ ⟨#[47]⟩).size + nm.size := by rw [ByteArray.size_append]; exact g2
        have HPN := hid hpn
        clear h0 hpn
        go_wp2_with fail
        go_meet
        case rel => exact ⟨by rw [← HPN.out], rfl⟩
      case rest =>
       obtain ⟨rfl, rfl⟩ := hcut
       rcases HKD.out with hk1 | hk2
       ·subst hk1
        have HFN := hid (HE1.out.trans (overE_leaf h4 (by rw [HAL.out]; exact h64) (by show ¬ (1 : Int) = 2; decide)))
        obtain ⟨va, vc, hvi, -⟩ := own_slice' HOWb.out
        subst hvi
        obtain ⟨i0, hi0, hz0, hz1, hz2⟩ := info_parts Tryz.infoEnt
        have kb0 : wc.cell? ⟨b, 0, none⟩ = some (.slice va si.blobs.length vc) := Blk.cell HKb.out 0
        have kb0a : (wc.alloc (.cells #[.string pt, .int .i64 1, .string yd] 76)).cell? ⟨b, 0, none⟩ = some (.slice va si.blobs.length vc) := Blk.cell (HKb.out.alloc _) 0
        have hbm : si.blobs.length ≤ 4096 := by omega
        have hBe : B ≤ wc.heap.size := by have := HZB.out; omega
        have hw2c : w2.heap.size ≤ wc.heap.size := by have := HZB.out; omega
        have HN : Hid (overE (overS G d) above x.ents s = overE (overS G d) above (x.ents.drop (i + 1)) ⟨si.met + 1, si.blobs ++ [⟨pt, 1, yd⟩]⟩) := by
         show _ = _
         rw [HFN.out]
         show overE (overS G d) above (x.ents.drop (i + 1)) ⟨si.met + 1, si.blobs ++ [⟨pathOf (above ++ [nm]), 1, yd⟩]⟩ = _
         rw [HPT.out]
        have HM' : Hid ((⟨si.met + 1, si.blobs ++ [(⟨pt, 1, yd⟩ : Ent)]⟩ : Wk).met ≤ 4097 ∧ (⟨si.met + 1, si.blobs ++ [(⟨pt, 1, yd⟩ : Ent)]⟩ : Wk).blobs.length ≤ (⟨si.met + 1, si.blobs ++ [(⟨pt, 1, yd⟩ : Ent)]⟩ : Wk).met ∧ ((0 : Int) = 0 → (⟨si.met + 1, si.blobs ++ [(⟨pt, 1, yd⟩ : Ent)]⟩ : Wk).met ≤ 4096)) := ⟨by show si.met + 1 ≤ 4097; omega, by show (si.blobs ++ [(⟨pt, 1, yd⟩ : Ent)]).length ≤ si.met + 1; rw [List.length_append]; simp only [List.length_cons, List.length_nil]; omega, fun _ => (by show si.met + 1 ≤ 4096; omega)⟩
        clear HFN km
        go_upto_region 16 with fail
        go_region_law (first
         | (refine step_append_lies _ (by rfl) (.tmp 82) (.tmp 87) 83 (by rfl) B 76 i0 (.agg #[.string ⟨#[]⟩, .int .i64 0, .string ⟨#[]⟩]) 3 40 Tryz.underlying83 hi0 hz0 hz1 hz2 rfl (by decide) (.slice va si.blobs.length vc) si.blobs.length (evals si.blobs) (by simp [Act.eval, Act.put]) ((HOWb.out.alloc _).drew) ⟨wc.heap.size, 0, none⟩ 1 1 [.string pt, .int .i64 1, .string yd] (by simp [Act.eval, Act.put]) rfl (cellNew3 _ _ _ _ _) (one3 rfl rfl rfl) (by decide) (by unfold maxLen; omega) (by omega) (by simp; omega) (wc.heap.size + 1) (by simp) ?_; intro g1 cap1 wf hown hgrow hat hglt; have HKf := hid ((HKb.out.drew.alloc _).grown hgrow (fun e => own_blk_ne HOWb.out HKb.out (by decide) e.symm)); have kf0 : wf.cell? ⟨b, 0, none⟩ = some (.slice va si.blobs.length vc) := (Blk.cell HKf.out 0).trans rfl; have ff0 := Blk.frozen HKf.out 0; have HOWN := hid hown; have HGR := hid hgrow; have HAT := hid hat; clear hown hgrow hat hglt))
        all_goals
         have HFX : Hid (Blk (wf.setCell ⟨b, 0, none⟩ (.slice (some ⟨g1, 0, none⟩) (si.blobs.length + 1) cap1)) b 157 (rkCs (si.met + 1) (.slice (some ⟨g1, 0, none⟩) (si.blobs.length + 1) cap1) 0)) := Blk.set HKf.out 0 _
         have HFO : Hid ((wf.setCell ⟨b, 0, none⟩ (.slice (some ⟨g1, 0, none⟩) (si.blobs.length + 1) cap1)).ownsRow B 76 3 (.slice (some ⟨g1, 0, none⟩) (si.blobs.length + 1) cap1) (si.blobs ++ [(⟨pt, 1, yd⟩ : Ent)]).length (evals (si.blobs ++ [⟨pt, 1, yd⟩]))) := by
          have h := own_only HOWN.out ((Only.refl (· = b) wf).setCell (p := ⟨b, 0, none⟩) (.inl rfl) (.slice (some ⟨g1, 0, none⟩) (si.blobs.length + 1) cap1)) (fun k hk e => own_blk_ne HOWN.out HKf.out (by decide) (e ▸ hk))
          rw [evals_append, List.length_append]; exact h
         have HFW : Hid (Only (WF b v) w2 (wf.setCell ⟨b, 0, none⟩ (.slice (some ⟨g1, 0, none⟩) (si.blobs.length + 1) cap1))) := ((HOb.out.drew.alloc _).grown HGR.out (fun k hk => (HV.out k hk).imp (fun e => .inr e) (fun e => e))).setCell (p := ⟨b, 0, none⟩) (.inl (.inl rfl)) _
         have HFV : Hid (∀ k, (Value.slice (some ⟨g1, 0, none⟩) (si.blobs.length + 1) cap1).ownBlock = some k → v.ownBlock = some k ∨ w2.heap.size ≤ k) := fun k hk => by
          have e : g1 = k := by simpa [Value.ownBlock] using hk
          subst e
          exact HAT.out.elim (fun e => HV.out _ e) (fun e => .inr (by rw [e]; omega))
         go_wp2_with fail
         exact ⟨⟨i + 1, _, ⟨si.met + 1, si.blobs ++ [⟨pt, 1, yd⟩]⟩, 0, by omega, by go_num, HFX, HFO, HM', HFW, HFV, fun _ => HN.out, fun h => absurd rfl h⟩, by simp [intOf]; omega⟩
       ·subst hk2
        obtain ⟨r1, er, hrec⟩ : ∃ r1 er, overS G d yd (above ++ [nm]) { si with met := si.met + 1 } = (r1, er) := ⟨_, _, rfl⟩
        have HFN := hid (HE1.out.trans (overE_dir h4 (by rw [HAL.out]; exact h64) rfl hrec))
        have em : ((m + 1 : Nat) : Int) = (m : Int) + 1 := by omega
        have ewm : IntKind.i64.wrap ((m : Int) + 1) = (m : Int) + 1 := by rw [IntKind.wrap_i64]; omega
        have HCC : Hid (Calls Tryz.prog 77 #[.pointer (some ⟨b, 0, none⟩), .slice a n c, .string yd, .string pt, .int .i64 ((m : Int) + 1)] wc (ROverOut B wc b vi (r1, er))) := by
         have := IH.out yd (above ++ [nm]) pt b vi { si with met := si.met + 1 } wc (fun _ => HPT.out.symm) (by omega) (by rw [HPL.out]; omega) (by rw [HPL.out]; omega)
          (HB0.out.trans (by
           have h1 : Below w.heap.size w w2 := HL2.out
           have h2 : Below B w2 wc := HOb.out.below (fun k hk => hk.elim (fun e => by omega) (fun e => (HVL.out k e).1)) (by omega)
           rw [HB.out]
           exact (h1.mono hBw).trans h2)) HKb.out (by rw [HB.out]; exact HOWb.out) (by rw [HB.out]; exact hW3) (by show si.met + 1 ≤ 4096; omega) (by show si.blobs.length ≤ si.met + 1; omega) HSW2.out
         rw [HGE.out, HPL.out, hrec, HB.out, em] at this
         exact this
        clear em km hrec
        go_wp2_with fail
        refine HCC.out.mono ?_; rintro e wd ⟨v', rfl, hk5, hr5, hm5, hb5, ho5, hv5, h05⟩
        simp only at hk5 hr5 hm5 hb5 h05
        have HFIN : Hid (Only (WF b v) w2 wd) := HOb.out.trans ho5 (fun k hk => by
         rcases hk with hk | hk
         ·exact .inl (.inl hk)
         ·exact (HV.out k hk).imp (fun e => .inr e) (fun e => e))
        have HV' : Hid (∀ k, v'.ownBlock = some k → v.ownBlock = some k ∨ w2.heap.size ≤ k) := fun k hk => by
         rcases hv5 k hk with h | h
         ·exact HV.out k h
         ·exact .inr (by have := HZB.out; omega)
        have HK5 := hid hk5; have HR5 := hid hr5; have HM5 : Hid (r1.met ≤ 4097 ∧ r1.blobs.length ≤ r1.met ∧ (er = 0 → r1.met ≤ 4096)) := ⟨hm5, hb5, h05⟩
        have HN : Hid (er = 0 → overE (overS G d) above x.ents s = overE (overS G d) above (x.ents.drop (i + 1)) r1) := fun h => by rw [HFN.out, if_neg (by rw [h]; simp)]
        have HNE : Hid (er ≠ 0 → overE (overS G d) above x.ents s = (r1, er)) := fun h => by rw [HFN.out, if_pos h]
        clear ho5 hv5 hk5 hr5 hm5 hb5 h05 HCC HFN ke0 ke1 ke2
        go_wp2_with fail
        go_roundw
        case rel => first | exact ⟨i + 1, v', r1, er, by omega, by go_num, HK5, HR5, HM5, HFIN, HV', HN, HNE⟩ | ((repeat apply Exists.intro); exact ⟨⟨i + 1, v', r1, er, by omega, by go_num, HK5, HR5, HM5, HFIN, HV', HN, HNE⟩, rfl⟩)
        case measure => simp [intOf]; omega
     ·have q1 : (ei == 0) = false := by rw [beq_eq_false_iff_ne]; exact hei
      have HN : Hid (overE (overS G d) above x.ents s = (si, ei)) := HEE.out hei
      obtain ⟨hm1, hm2, hm3⟩ := HM.out
      go_wp2_with fail
      go_end0
      rw [HOS.out, HN.out]
      exact ⟨vi, rfl, HK.out, HOW.out, hm1, hm2, (Only.of_below HL2.out _).then HO.out, fun k hk => (HV.out k hk).imp (fun e => e) (fun e => by omega), hm3⟩
    ·obtain rfl : i = en := by omega
     have ci : ¬ (i : Int) < i := by omega
     have HN : Hid (overE (overS G d) above x.ents s = (si, ei)) := by
      show _ = _
      by_cases hei : ei = 0
      ·rw [HE.out hei, List.drop_of_length_le (by rw [HEN.out]; exact Nat.le_refl _), hei]; rfl
      ·exact HEE.out hei
     obtain ⟨hm1, hm2, hm3⟩ := HM.out
     go_wp2_with fail
     go_end0
     rw [HOS.out, HN.out]
     exact ⟨vi, rfl, HK.out, HOW.out, hm1, hm2, (Only.of_below HL2.out _).then HO.out, fun k hk => (HV.out k hk).imp (fun e => e) (fun e => by omega), hm3⟩
  ·have q1 : (er != 0) = true := by simpa using he
   have q2 : (er == 0) = false := by simpa using he
   have HOS := hid (overS_err (d := d) (above := above) (s := s) hlk he)
   have kb2 : w2.cell? ⟨b, 2, none⟩ = some (.int .i64 0) := Blk.cell HWK2.out 2
   have fb2 := Blk.frozen HWK2.out 2
   have hob : Only (· = b) w2 (w2.setCell ⟨b, 2, none⟩ (.int .i64 er)) := (Only.refl (· = b) w2).setCell (p := ⟨b, 2, none⟩) (.inl rfl) _
   have HK5 : Hid (Blk (w2.setCell ⟨b, 2, none⟩ (.int .i64 er)) b 157 (rkCs s.met v er)) := Blk.set HWK2.out 2 _
   have HO5 := hid (own_only HOW2.out hob (fun k hk e => own_blk_ne HOW2.out HWK2.out (by decide) (e ▸ hk)))
   have HOn5 : Hid (Only (WF b v) w (w2.setCell ⟨b, 2, none⟩ (.int .i64 er))) := (Only.of_below HL2.out _).setCell (p := ⟨b, 2, none⟩) (.inl (.inl rfl)) _
   have hern := he
   have HER := hid he
   clear he hlk HX2 HO2 hob hern
   go_wp2_with fail
   go_end0
   rw [HOS.out]
   exact ⟨v, rfl, HK5.out, HO5.out, by show s.met ≤ 4097; omega, hW5, HOn5.out, fun k hk => .inl hk, fun h => absurd h HER.out⟩
end Go.Proofs.YtmpjdoiogbbcoaaGreatDoor
/- The reference's layer 15: a commit's blobs and files: List, Files. -/
namespace Go.Proofs.YtmpjdoiogbbcoaaGreatDoor
open Go.RowKit Book Pap Ojt Sn
set_option linter.unusedVariables false
set_option linter.unusedSimpArgs false

set_option maxRecDepth 100000 in
set_option maxHeartbeats 8000000 in
theorem rlist_any (a : Option Addr) (n c : Nat) (fs : List Fi) (hz : SrcSz (getF fs)) (id : ByteArray) (w : World) (hF : FisAt w a n fs) : Calls Tryz.prog 33 #[.slice a n c, .string id] w (ListOut w (listS (getF fs) id)) := by
 have HLKS := hid (rlook_any a n c fs id 3 12 w hF hz)
 have HS := hid hF
 clear hF
 go_enter Tryz.func33, Tryz.ntmps33
 obtain ⟨x, er, hlk⟩ : ∃ x er, lookK (getF fs) id 3 12 = (x, er) := ⟨_, _, rfl⟩
 rw [hlk] at HLKS
 go_wp2_with fail
 refine HLKS.out.mono ?_; rintro e w1 ⟨ev, pv, rfl, hO1, hb1, hf1⟩
 simp only at hO1 ⊢
 obtain ⟨ea, en, ec, pa, pn, pc, rfl, -, rfl, -⟩ := hO1
 have HX2 : Hid (Blk (w1.alloc (.cells (obCs x (.slice ea en ec) (.slice pa pn pc)) 98)) w1.heap.size 98 (obCs x (.slice ea en ec) (.slice pa pn pc))) := Blk.new w1 _ _
 have HL2 : Hid (Below w.heap.size w (w1.alloc (.cells (obCs x (.slice ea en ec) (.slice pa pn pc)) 98))) := hb1.alloc hb1.size _
 unfold obCs at HX2 HL2
 simp only [obCs]
 clear hb1 hf1 HLKS
 go_upto_region 2 with fail
 generalize (w1.alloc (.cells #[.int .i64 x.kind, .string x.data, .slice ea en ec, .string x.tree, .slice pa pn pc, .int .i64 x.height, .string x.note] 98)) = w2 at HX2 HL2 ⊢
 generalize w1.heap.size = g2 at HX2 ⊢
 have hsz2 : w.heap.size ≤ w2.heap.size := HL2.out.size
 by_cases he : er = 0
 ·subst he
  obtain ⟨s, er, hov⟩ : ∃ s er, overS (getF fs) 66 x.tree [] ⟨0, []⟩ = (s, er) := ⟨_, _, rfl⟩
  have HLS := hid (listS_ok hlk hov)
  have k3 : w2.cell? ⟨g2, 3, none⟩ = some (.string x.tree) := Blk.cell HX2.out 3
  have k3a : (w2.alloc (.cells #[.slice none 0 0, .int .i64 0, .int .i64 0] 157)).cell? ⟨g2, 3, none⟩ = some (.string x.tree) := Blk.cell (HX2.out.alloc _) 3
  have HWK : Hid (Blk (w2.alloc (.cells #[.slice none 0 0, .int .i64 0, .int .i64 0] 157)) w2.heap.size 157 (rkCs 0 (.slice none 0 0) 0)) := Blk.new w2 _ _
  have HL3 : Hid (Below w.heap.size w (w2.alloc (.cells #[.slice none 0 0, .int .i64 0, .int .i64 0] 157))) := HL2.out.alloc hsz2 _
  have HCC : Hid (Calls Tryz.prog 77 #[.pointer (some ⟨w2.heap.size, 0, none⟩), .slice a n c, .string x.tree, .string ⟨#[]⟩, .int .i64 0] (w2.alloc (.cells #[.slice none 0 0, .int .i64 0, .int .i64 0] 157)) (ROverOut w.heap.size (w2.alloc (.cells #[.slice none 0 0, .int .i64 0, .int .i64 0] 157)) w2.heap.size (.slice none 0 0) (s, er))) := by
   have := rover_any a n c fs hz w HS.out 66 x.tree [] ⟨#[]⟩ w2.heap.size (.slice none 0 0) ⟨0, []⟩ _ (fun h => absurd rfl h) (by decide) (by decide) (by decide) HL3.out HWK.out (World.ownsRow_nil _ _ _ _) hsz2 (by decide) (by decide) (fun q hq => by cases hq)
   rw [hov] at this
   exact this
  clear hlk hov HX2 HL2 HWK
  go_wp2_with fail
  refine HCC.out.mono ?_; rintro e w3 ⟨v', rfl, hw1, hw2, hw4, hw5, ho, hv, hm⟩
  simp only at hw1 hw2 hw4 hw5 ⊢
  have HFL : Hid (Below w.heap.size w w3) := HL3.out.trans (ho.below (fun k hk => hk.elim (fun e => by omega) (fun e => by simp [Value.ownBlock] at e)) (by rw [World.size_alloc]; omega))
  obtain ⟨va, vc, hvi, -⟩ := own_slice' hw2
  subst hvi
  obtain ⟨a', c', e1, hst⟩ := own_ents hw2 (by omega)
  injection e1 with e2 e3 e4
  subst e2 e4
  have HST := hid hst
  have HVL : Hid (∀ k, (Value.slice va s.blobs.length vc).ownBlock = some k → w.heap.size ≤ k) := fun k hk => (hw2.lt k hk).1
  have kb : w3.cell? ⟨w2.heap.size, 0, none⟩ = some (.slice va s.blobs.length vc) := Blk.cell hw1 0
  have kb2 : w3.cell? ⟨w2.heap.size, 2, none⟩ = some (.int .i64 er) := Blk.cell hw1 2
  have hbl : s.blobs.length ≤ 4097 := by omega
  clear k3 k3a hw1 hw2 hw4 hw5 ho hv hm hst HCC HL3
  by_cases he : er = 0
  ·subst he
   have HF : Hid (listS (getF fs) id = (s.blobs, 0)) := HLS.out
   go_wp2_with fail
   go_ret2
   rw [HF.out]
   exact ⟨_, _, _, rfl, HST.out, HFL.out, HVL.out, hbl⟩
  ·have q1 : (er != 0) = true := by simpa using he
   have q2 : (er == 0) = false := by simpa using he
   have HF : Hid (listS (getF fs) id = ([], er)) := by
    show _ = _
    rw [HLS.out, if_pos he]
   go_wp2_with fail
   go_quiet (fail)
   go_wp2_with fail
   go_ret2
   rw [HF.out]
   exact ⟨none, 0, 0, rfl, ⟨rfl, by omega, .inl rfl⟩, below_drewN HFL.out _, fun k hk => by simp [Value.ownBlock] at hk, by omega⟩
 ·have q1 : (er != 0) = true := by simpa using he
  have q2 : (er == 0) = false := by simpa using he
  have HF := hid (listS_err hlk he)
  clear he hlk HX2
  go_wp2_with fail
  go_ret2
  rw [HF.out]
  exact ⟨none, 0, 0, rfl, ⟨rfl, by omega, .inl rfl⟩, HL2.out, fun k hk => by simp [Value.ownBlock] at hk, by omega⟩
end Go.Proofs.YtmpjdoiogbbcoaaGreatDoor
/- The reference's layer 15: what stands at a path: Find. -/
namespace Go.Proofs.YtmpjdoiogbbcoaaGreatDoor
open Go.RowKit Book Pap Ojt Sn
set_option linter.unusedVariables false
set_option linter.unusedSimpArgs false

end Go.Proofs.YtmpjdoiogbbcoaaGreatDoor
/- An element put into a list where it belongs (plain); the reference's in, put, of. -/
namespace Go.Proofs.YtmpjdoiogbbcoaaGreatDoor
open Go.RowKit Book Pap Ojt Sn
set_option linter.unusedVariables false
set_option linter.unusedSimpArgs false

def insG {α : Type} (c : α → α → Bool) : List α → α → List α
 | [], f => [f]
 | y :: r, f => if c f y = true then f :: y :: r else y :: insG c r f
theorem insG_mem {α : Type} (c : α → α → Bool) (x f : α) : ∀ O : List α, x ∈ insG c O f ↔ x = f ∨ x ∈ O
 | [] => by simp [insG]
 | y :: r => by
  unfold insG
  by_cases h : c f y = true
  ·rw [if_pos h]; simp
  ·rw [if_neg h, List.mem_cons, insG_mem c x f r, List.mem_cons]
   constructor
   ·rintro (h | h | h)
    ·exact .inr (.inl h)
    ·exact .inl h
    ·exact .inr (.inr h)
   ·rintro (h | h | h)
    ·exact .inr (.inl h)
    ·exact .inl h
    ·exact .inr (.inr h)
theorem insG_len {α : Type} (c : α → α → Bool) (f : α) : ∀ O : List α, (insG c O f).length = O.length + 1
 | [] => rfl
 | y :: r => by
  unfold insG
  by_cases h : c f y = true
  ·rw [if_pos h]; simp
  ·rw [if_neg h, List.length_cons, insG_len c f r, List.length_cons]
theorem insG_pw {α : Type} {R : α → α → Prop} (c : α → α → Bool) (f : α) : ∀ O : List α, O.Pairwise R → (∀ y ∈ O, c f y = true → R f y) → (∀ y ∈ O, c f y = false → R y f) → (∀ a b d, R a b → R b d → R a d) → (insG c O f).Pairwise R
 | [], _, _, _, _ => by unfold insG; exact List.pairwise_singleton _ _
 | y :: r, hp, h1, h2, ht => by
  obtain ⟨hy, hr⟩ := List.pairwise_cons.1 hp
  unfold insG
  by_cases h : c f y = true
  ·rw [if_pos h]
   have hfy := h1 y (List.mem_cons_self ..) h
   exact List.pairwise_cons.2 ⟨fun z hz => by
    rcases List.mem_cons.1 hz with rfl | hz
    ·exact hfy
    ·exact ht _ _ _ hfy (hy z hz), hp⟩
  ·rw [if_neg h]
   refine List.pairwise_cons.2 ⟨fun z hz => ?_, insG_pw c f r hr (fun z hz => h1 z (List.mem_cons_of_mem _ hz)) (fun z hz => h2 z (List.mem_cons_of_mem _ hz)) ht⟩
   rcases (insG_mem c z f r).1 hz with rfl | hz
   ·exact h2 y (List.mem_cons_self ..) (Bool.not_eq_true _ ▸ h)
   ·exact hy z hz
/-- the middle of an insertion: what has been put into the next list -/
def MidG {α : Type} (c : α → α → Bool) (O : List α) (f : α) (k : Nat) (N : List α) (dn : Bool) : Prop := if dn = true then insG c O f = N ++ O.drop k ∧ N.length = k + 1 else insG c O f = N ++ insG c (O.drop k) f ∧ N.length = k
theorem MidG.zero {α : Type} (c : α → α → Bool) (O : List α) (f : α) : MidG c O f 0 [] false := ⟨rfl, rfl⟩
theorem MidG.done {α : Type} {c : α → α → Bool} {O : List α} {f y : α} {k : Nat} {N : List α} (h : MidG c O f k N true) (hd : O.drop k = y :: O.drop (k + 1)) : MidG c O f (k + 1) (N ++ [y]) true := by
 obtain ⟨h1, h2⟩ := h
 refine ⟨?_, by rw [List.length_append, h2]; rfl⟩
 rw [h1, hd]; simp
theorem MidG.hit {α : Type} {c : α → α → Bool} {O : List α} {f y : α} {k : Nat} {N : List α} (h : MidG c O f k N false) (hd : O.drop k = y :: O.drop (k + 1)) (hc : c f y = true) : MidG c O f (k + 1) (N ++ [f] ++ [y]) true := by
 obtain ⟨h1, h2⟩ := h
 refine ⟨?_, by rw [List.length_append, List.length_append, h2]; rfl⟩
 rw [h1, hd]
 conv => lhs; rhs; unfold insG
 rw [if_pos hc]; simp
theorem MidG.miss {α : Type} {c : α → α → Bool} {O : List α} {f y : α} {k : Nat} {N : List α} (h : MidG c O f k N false) (hd : O.drop k = y :: O.drop (k + 1)) (hc : c f y = false) : MidG c O f (k + 1) (N ++ [y]) false := by
 obtain ⟨h1, h2⟩ := h
 refine ⟨?_, by rw [List.length_append, h2]; rfl⟩
 rw [h1, hd]
 conv => lhs; rhs; unfold insG
 rw [if_neg (by rw [hc]; simp)]; simp
theorem MidG.end_done {α : Type} {c : α → α → Bool} {O : List α} {f : α} {k : Nat} {N : List α} (h : MidG c O f k N true) (hk : O.length ≤ k) : insG c O f = N := by
 obtain ⟨h1, -⟩ := h
 rw [h1, List.drop_of_length_le hk, List.append_nil]
theorem MidG.end_not {α : Type} {c : α → α → Bool} {O : List α} {f : α} {k : Nat} {N : List α} (h : MidG c O f k N false) (hk : O.length ≤ k) : insG c O f = N ++ [f] := by
 obtain ⟨h1, -⟩ := h
 rw [h1, List.drop_of_length_le hk]; rfl
theorem MidG.len {α : Type} {c : α → α → Bool} {O : List α} {f : α} {k : Nat} {N : List α} {dn : Bool} (h : MidG c O f k N dn) : N.length ≤ k + 1 := by
 unfold MidG at h
 split at h <;> omega
/-! the reference's in, put -/
theorem hasN_hit {l : List ByteArray} {k : Nat} {x : ByteArray} (hk : k < l.length) (h : l.getD k ByteArray.empty = x) : hasN l x = true := hasN_iff.2 (by
 rw [← h, List.getD_eq_getElem?_getD, List.getElem?_eq_getElem hk]; exact List.getElem_mem hk)
theorem hasN_miss {l : List ByteArray} {x : ByteArray} (h : ∀ j, j < l.length → l.getD j ByteArray.empty ≠ x) : hasN l x = false := hasN_no.2 (fun hm => by
 obtain ⟨j, hj, e⟩ := List.getElem_of_mem hm
 exact h j hj (by rw [List.getD_eq_getElem?_getD, List.getElem?_eq_getElem hj]; exact e))
set_option maxRecDepth 100000 in
set_option maxHeartbeats 4000000 in
theorem rin_any (a : Option Addr) (n c : Nat) (l : List ByteArray) (x : ByteArray) (w : World) (h : StrsAt w a n l) (hn : n ≤ 1000000) :
  Calls Tryz.prog 87 #[.slice a n c, .string x] w fun e w' => e = .returned (.bool (hasN l x)) ∧ w = w' := by
 have HS := hid h
 have HL := hid h.1
 clear h
 go_enter Tryz.func87, Tryz.ntmps87
 go_wp2_with fail
 go_loopw [5] (fun iv wr => ∃ i : Nat, i ≤ n ∧ iv = .int .i64 i ∧ w = wr ∧ Hid (∀ j, j < i → l.getD j ByteArray.empty ≠ x)) (fun iv _ => n - (intOf iv).toNat)
 case atStart => exact ⟨0, Nat.zero_le _, rfl, rfl, fun j hj => absurd hj (Nat.not_lt_zero _)⟩
 case round =>
  obtain ⟨i, hi, rfl, rfl, HN⟩ := hrel
  by_cases hlt : i < n
  ·have ci : (i : Int) < n := by omega
   have ci0 : (0 : Int) ≤ (i : Int) := by omega
   obtain ⟨-, -, h3⟩ := HS.out
   obtain ⟨b, off, rfl, hc⟩ := h3.resolve_left (by omega)
   have q0 := hc i hlt
   obtain ⟨y, hy⟩ : ∃ y, l.getD i ByteArray.empty = y := ⟨_, rfl⟩
   rw [hy] at q0
   have HY := hid hy
   clear hy hc h3
   by_cases he : y = x
   ·have HR : Hid (hasN l x = true) := hasN_hit (by rw [HL.out]; exact hlt) (by rw [HY.out]; exact he)
    have e1 : (y.toList == x.toList) = true := by rw [he]; simp
    clear he
    go_wp2_with fail
    go_ret
    rw [HR.out]
    exact ⟨rfl, rfl⟩
   ·have HN2 : Hid (∀ j, j < i + 1 → l.getD j ByteArray.empty ≠ x) := fun j hj => by
     rcases Nat.lt_succ_iff_lt_or_eq.1 hj with h | rfl
     ·exact HN.out j h
     ·rw [HY.out]; exact he
    have e1 : (y.toList == x.toList) = false := by
     rw [ba_toList, ba_toList, beq_eq_false_iff_ne]
     exact fun e => he (ba_ext e)
    clear he
    go_wp2_with fail
    go_roundw
    case rel => first | exact ⟨i + 1, by omega, by go_num, trivial, HN2⟩ | exact ⟨i + 1, by omega, by go_num, rfl, HN2⟩ | ((repeat apply Exists.intro); exact ⟨⟨i + 1, by omega, by go_num, trivial, HN2⟩, rfl⟩)
    case measure => simp [intOf]; omega
  ·obtain rfl : i = n := by omega
   have ci : ¬ (i : Int) < i := by omega
   have HR : Hid (hasN l x = false) := hasN_miss (fun j hj => HN.out j (by rw [← HL.out]; exact hj))
   go_wp2_with fail
   go_ret
   rw [HR.out]
   exact ⟨rfl, rfl⟩
def putR (l : List ByteArray) (x : ByteArray) : List ByteArray := if hasN l x = true then l else l ++ [x]
theorem putR_mem (l : List ByteArray) (x q : ByteArray) : q ∈ putR l x ↔ q ∈ l ∨ q = x := by
 unfold putR
 split
 ·rename_i h
  exact ⟨.inl, fun h' => h'.elim (fun h => h) (fun e => by rw [e]; exact hasN_iff.1 h)⟩
 ·simp
theorem putR_pre (l : List ByteArray) (x : ByteArray) : l <+: putR l x := by
 unfold putR
 split
 ·exact List.prefix_refl _
 ·exact List.prefix_append _ _
theorem putR_nodup {l : List ByteArray} (h : l.Nodup) (x : ByteArray) : (putR l x).Nodup := by
 unfold putR
 split
 ·exact h
 ·rename_i hx
  exact List.nodup_append.2 ⟨h, by simp, fun a ha b hb e => hx (hasN_iff.2 (by rw [← List.mem_singleton.1 hb, ← e]; exact ha))⟩
theorem putR_len (l : List ByteArray) (x : ByteArray) : (putR l x).length ≤ l.length + 1 := by
 unfold putR
 split
 ·omega
 ·simp
theorem own_noneS1 (w : World) : (w.alloc (.cells #[] 9)).ownsRow w.heap.size 9 1 (.slice (some ⟨w.heap.size, 0, none⟩) 0 0) 0 (svals []) :=
 ⟨rfl, .inr ⟨w.heap.size, 0, #[], rfl, Nat.le_refl _, by show (w.heap.push _)[w.heap.size]? = _; simp, Nat.le_refl _, by unfold maxLen; omega, rfl, rfl⟩⟩
set_option maxRecDepth 100000 in
set_option maxHeartbeats 4000000 in
theorem rput_any (a : Option Addr) (n c : Nat) (l : List ByteArray) (x : ByteArray) (w : World) (h : StrsAt w a n l) (hn : n ≤ 200000) :
  Calls Tryz.prog 44 #[.slice a n c, .string x] w fun e w' => ∃ a' c', e = .returned (.slice a' (putR l x).length c') ∧ StrsAt w' a' (putR l x).length (putR l x) ∧ Below w.heap.size w w' := by
 obtain ⟨i0, hi0, hz0, hz1, hz2⟩ := info_parts Tryz.infoS
 have HIN := hid (rin_any a n c l x w h (by omega))
 have HS := hid h
 have HL := hid h.1
 have HO1 : Hid ((w.alloc (.cells #[] 9)).ownsRow w.heap.size 9 1 (.slice (some ⟨w.heap.size, 0, none⟩) 0 0) 0 (svals [])) := own_noneS1 w
 have HB1 : Hid (Below w.heap.size w (w.alloc (.cells #[] 9))) := (Below.refl _ _).alloc (Nat.le_refl _) _
 clear h
 cases hin : hasN l x with
 | true =>
  have HR : Hid (putR l x = l) := by unfold Hid putR; rw [if_pos hin]
  rw [hin] at HIN
  clear hin
  go_enter Tryz.func44, Tryz.ntmps44
  go_wp2_with (go_at_call 87; refine HIN.out.mono ?_; rintro e w' ⟨rfl, rfl⟩)
  go_ret
  rw [HR.out, HL.out]
  exact ⟨_, _, rfl, HS.out, Below.refl _ _⟩
 | false =>
  have HR : Hid (putR l x = l ++ [x]) := by unfold Hid putR; rw [if_neg (by rw [hin]; simp)]
  rw [hin] at HIN
  clear hin
  go_enter Tryz.func44, Tryz.ntmps44
  go_upto_region 4 with (first
   | (go_at_call 87; refine HIN.out.mono ?_; rintro e w' ⟨rfl, rfl⟩)
   | (at_builtin; refine wpList_append_strs (by rfl) (.tmp 10) (.tmp 11) (by rfl) w.heap.size (.slice (some ⟨w.heap.size, 0, none⟩) 0 0) 0 [] (by rfl) HO1.out a n c l (by rfl) (HS.out.later HB1.out) (by omega) HB1.out.size ?_; intro a5 c5 w2 ho2 hb2; rw [Nat.zero_add, List.nil_append] at ho2; have HO2 := hid ho2; have HB2 := hid (hb2 w HB1.out); clear ho2 hb2))
  have hs2 := HB2.out.size
  go_wp2_with (first
   | (at_builtin; refine wpList_append_own _ rfl (.tmp 13) (.tmp 15) 40 rfl w.heap.size 9 i0 (.string ⟨#[]⟩) 1 16 Tryz.underlying40 hi0 hz0 hz1 hz2 rfl (by decide) (.slice a5 n c5) _ _ rfl (HO2.out.alloc _) ⟨w2.heap.size, 0, none⟩ 1 1 [.string x] rfl rfl (cellNew1 _ _ _) (one_bytes rfl) (by unfold maxLen; omega) (by omega) (by rw [World.size_alloc]; omega) ?_; intro v' w9 hown' hgrow _; have HOWN := hid hown'; have HGR := hid hgrow; clear hown' hgrow))
  obtain ⟨va', vc', rfl, hvc'⟩ := own_slice' HOWN.out
  have HE : Hid (StrsAt w9 va' (putR l x).length (putR l x) ∧ (putR l x).length = n + 1) := by
   rw [HR.out]
   have hl : (l ++ [x]).length = n + 1 := by rw [List.length_append, HL.out]; rfl
   have h := HOWN.out
   have e : svals (l ++ [x]) = svals l ++ [.string x] := by unfold svals; rw [List.map_append]; rfl
   rw [← e, ← hl] at h
   obtain ⟨a9, c9, e9, h9⟩ := own_strs h (by omega)
   injection e9 with e91 _ _
   rw [e91]; exact ⟨h9, hl⟩
  have HB9 : Hid (Below w.heap.size w w9) := below_grown1 HB2.out HO2.out _ hs2 HGR.out
  go_ret
  rw [← HE.out.2]
  exact ⟨_, _, rfl, HE.out.1, HB9.out⟩
end Go.Proofs.YtmpjdoiogbbcoaaGreatDoor
