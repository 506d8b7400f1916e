/- Texts in a row: SnY, Awg, LwP, CrcW, CrcM, RfA, RoT, RoC, PathRefA. -/
import Derived.Test.YtmpjdoiogbbcoaaGreatDoorMgH
import Derived.Laws.Tables
import Derived.Laws.CopyOwn
/- What two commits differ in: Diff, its two tables. -/
namespace Go.Proofs.YtmpjdoiogbbcoaaGreatDoor
open Go.RowKit Book Pap Ojt Sn
set_option linter.unusedVariables false
set_option linter.unusedSimpArgs false

def chCs (c : Ch) : List Value := [.string c.path, .string c.was, .string c.is]
def valC (c : Ch) : Value := .agg (chCs c).toArray
def datC (c : Ch) : DataW Unit := .agg [datS c.path, datS c.was, datS c.is]
theorem valC_inj (x y : Ch) (h : valC x = valC y) : x = y := by
 obtain ⟨a, b, c⟩ := x
 obtain ⟨a', b', c'⟩ := y
 simp [valC, chCs] at h
 obtain ⟨h1, h2, h3⟩ := h
 subst h1 h2 h3; rfl
theorem datC_inj (x y : Ch) (h : datC x = datC y) : x = y := by
 obtain ⟨a, b, c⟩ := x
 obtain ⟨a', b', c'⟩ := y
 unfold datC at h
 injection h with h
 injection h with h1 h
 injection h with h2 h
 injection h with h3 _
 have := datS_inj _ _ h1
 have := datS_inj _ _ h2
 have := datS_inj _ _ h3
 simp_all
abbrev ChMap := MapFn (α := Ch) Tryz.prog 9 valC datC
theorem Tryz.infoCh : (Tryz.prog.info? 34).map (fun i => (i.zero, i.size, i.bytes)) = some (some (.agg #[.string ⟨#[]⟩, .string ⟨#[]⟩, .string ⟨#[]⟩]), 3, 48) := by kernel_rfl
theorem zeroC (w : World) : (zeroValue 34).run Tryz.prog w = .ok (valC noCh) w := by
 obtain ⟨i, hi, hz, -⟩ := info_parts Tryz.infoCh
 have e : valC noCh = .agg #[.string ⟨#[]⟩, .string ⟨#[]⟩, .string ⟨#[]⟩] := rfl
 simp [zeroValue, typeInfo, hi, hz, e]
theorem chMap_get1 {w : World} {m n : Nat} {f : ByteArray → Option Ch} (h : ChMap w m n f) (s : ByteArray) (hs : s.size ≤ maxLen) : (Instr.lookup 86 (.map (some m)) (.string s) false).run Tryz.prog w = .ok (valC ((f s).getD noCh)) w :=
 MapFn.get1 Tryz.underlying9 Tryz.underlying86 valC_inj datC_inj (z0 := noCh) zeroC h s hs
/-- a slice of changes in memory -/
def ChsAt (w : World) (a : Option Addr) (n : Nat) (l : List Ch) : Prop :=
 l.length = n ∧ n ≤ 1000000 ∧ (n = 0 ∨ ∃ b off, a = some ⟨b, off, none⟩ ∧ ∀ j, j < n → w.cell? ⟨b, off + j * 3, none⟩ = some (.string (l.getD j noCh).path) ∧ w.cell? ⟨b, off + j * 3 + 1, none⟩ = some (.string (l.getD j noCh).was) ∧ w.cell? ⟨b, off + j * 3 + 2, none⟩ = some (.string (l.getD j noCh).is))
def DiffOut (G : Sw.Src) (a b : ByteArray) (w : World) (e : Ending) (w' : World) : Prop :=
 ∃ p n c D er, e = .returned (.tuple #[.slice p n c, .int .i64 er]) ∧ ChsAt w' p n D ∧ Below w.heap.size w w' ∧
  (if (listS G a).2 ≠ 0 then er = (listS G a).2 ∧ D = [] else if (listS G b).2 ≠ 0 then er = (listS G b).2 ∧ D = [] else er = 0 ∧ IsDiff (listS G a).1 (listS G b).1 D)
theorem chvals_get : ∀ (l : List Ch) (j : Nat), j < l.length → (l.flatMap chCs)[j * 3]? = some (.string (l.getD j noCh).path) ∧ (l.flatMap chCs)[j * 3 + 1]? = some (.string (l.getD j noCh).was) ∧ (l.flatMap chCs)[j * 3 + 2]? = some (.string (l.getD j noCh).is)
 | [], j, h => by simp at h
 | a :: r, 0, h => ⟨rfl, rfl, rfl⟩
 | a :: r, j + 1, h => by
  have ih := chvals_get r j (by simp only [List.length_cons] at h; omega)
  have e : (a :: r).flatMap chCs = chCs a ++ r.flatMap chCs := rfl
  have l3 : (chCs a).length = 3 := rfl
  rw [e, List.getElem?_append_right (by rw [l3]; omega), List.getElem?_append_right (by rw [l3]; omega), List.getElem?_append_right (by rw [l3]; omega), l3]
  rw [show (j + 1) * 3 - 3 = j * 3 by omega, show (j + 1) * 3 + 1 - 3 = j * 3 + 1 by omega, show (j + 1) * 3 + 2 - 3 = j * 3 + 2 by omega]
  exact ih
theorem diff1_any (x y : Ch) (W : World) (hx : OkName x.path) (hy : OkName y.path) (hm : MaxAt W) :
  Calls Tryz.prog 31 #[valC x, valC y] W fun e w' => e = .returned (.int .i64 (cmpP (pieces x.path.data.toList) (pieces y.path.data.toList))) ∧ Lays W w' := by
 have e1 : valC x = .agg #[.string x.path, .string x.was, .string x.is] := rfl
 have e2 : valC y = .agg #[.string y.path, .string y.was, .string y.is] := rfl
 rw [e1, e2]
 clear e1 e2
 have HLY : Hid (Lays W ((W.alloc (.cells #[.string x.path, .string x.was, .string x.is] 34)).alloc (.cells #[.string y.path, .string y.was, .string y.is] 34))) := ((Lays.refl W).alloc _).alloc _
 have HXB : Hid (Blk ((W.alloc (.cells #[.string x.path, .string x.was, .string x.is] 34)).alloc (.cells #[.string y.path, .string y.was, .string y.is] 34)) W.heap.size 34 #[.string x.path, .string x.was, .string x.is]) := Blk.alloc (Blk.new W _ _) _
 have HYB : Hid (Blk ((W.alloc (.cells #[.string x.path, .string x.was, .string x.is] 34)).alloc (.cells #[.string y.path, .string y.was, .string y.is] 34)) (W.heap.size + 1) 34 #[.string y.path, .string y.was, .string y.is]) := by
  have h := Blk.new (W.alloc (.cells #[.string x.path, .string x.was, .string x.is] 34)) 34 #[.string y.path, .string y.was, .string y.is]
  rw [World.size_alloc] at h; exact h
 have HCMP := hid (compareX_any x.path y.path ((W.alloc (.cells #[.string x.path, .string x.was, .string x.is] 34)).alloc (.cells #[.string y.path, .string y.was, .string y.is] 34)) (by have := hx.2; omega) (by have := hy.2; omega) (hm.later HLY.out.below))
 have hcr : compareR x.path.data.toList y.path.data.toList = cmpP (pieces x.path.data.toList) (pieces y.path.data.toList) := by unfold compareR; rw [if_pos ⟨hx.1, hy.1⟩]
 rw [hcr] at HCMP
 clear hcr hm
 go_enter Tryz.func31, Tryz.ntmps31
 go_upto_region 1 with fail
 generalize ((W.alloc (.cells #[.string x.path, .string x.was, .string x.is] 34)).alloc (.cells #[.string y.path, .string y.was, .string y.is] 34)) = w2 at HLY HXB HYB HCMP ⊢
 have k0 : w2.cell? ⟨W.heap.size, 0, none⟩ = some (.string x.path) := Blk.cell HXB.out 0
 have k1 : w2.cell? ⟨W.heap.size + 1, 0, none⟩ = some (.string y.path) := Blk.cell HYB.out 0
 go_wp2_with (go_at_call 32; refine HCMP.out.mono ?_; rintro e w3 ⟨rfl, hl3⟩)
 go_ret
 exact ⟨rfl, HLY.out.trans hl3⟩
theorem nodup_of_map {α β : Type} {f : α → β} : ∀ {l : List α}, (l.map f).Nodup → l.Nodup
 | [], _ => List.nodup_nil
 | a :: l, h => by
  rw [List.map_cons] at h
  obtain ⟨h1, h2⟩ := List.nodup_cons.1 h
  exact List.nodup_cons.2 ⟨fun hm => h1 (List.mem_map.2 ⟨a, hm, rfl⟩), nodup_of_map h2⟩
/-- an own slice of changes with a table sorted by paths -/
theorem sortCh_own {tab : ByteArray → Option Ch} (htb : PathTab tab) (B n : Nat) (v : Value) (O : List Ch) (w : World) (w0 : World) (hm : MaxAt w0) (hw : Below w0.heap.size w0 w) (hB : w0.heap.size ≤ B) (hO : ∀ c ∈ O, tab c.path = some c) (hnd : (O.map (fun c : Ch => c.path)).Nodup)
  (h : w.ownsRow B 34 3 v n (O.flatMap chCs)) (hn : n ≤ 1000000) (hOn : O.length = n) :
  Calls Tryz.prog 30 #[v, .func (.func 31) #[] #[]] w fun e w' => ∃ D : List Ch, e = .returned (.tuple #[]) ∧ w'.ownsRow B 34 3 v n (D.flatMap chCs) ∧ w.grownBy w' v.ownBlock ∧
   D.length = n ∧ D.Pairwise (fun x y => cmpP (pieces x.path.data.toList) (pieces y.path.data.toList) = -1) ∧ ∀ c, c ∈ D ↔ c ∈ O := by
 by_cases h0 : O = []
 ·subst h0
  have hn0 : n = 0 := hOn.symm
  subst hn0
  obtain ⟨va, vc, rfl, hvc⟩ := own_slice' h
  refine (AnyF.slices_SortFunc_none Tryz.sortF30 va vc _ w).mono ?_
  rintro e w' ⟨rfl, rfl⟩
  exact ⟨[], rfl, h, ⟨rfl, rfl, rfl, Nat.le_refl _, fun _ _ _ => rfl⟩, rfl, List.Pairwise.nil, fun c => Iff.rfl⟩
 ·obtain ⟨c0, hc0⟩ := List.exists_mem_of_ne_nil O h0
  haveI : Inhabited {c : Ch // tab c.path = some c} := ⟨⟨c0, hO c0 hc0⟩⟩
  obtain ⟨l, hl⟩ : ∃ l : List {c : Ch // tab c.path = some c}, l.map Subtype.val = O := ⟨O.pmap Subtype.mk hO, by simp [List.map_pmap]⟩
  have hflat : l.flatMap (fun c => chCs c.1) = O.flatMap chCs := by rw [← hl, List.flatMap_map]
  have hself : ∀ x : {c : Ch // tab c.path = some c}, cmpP (pieces x.1.path.data.toList) (pieces x.1.path.data.toList) = 0 := fun x => cmpP_self _
  have hone : ∀ x y : {c : Ch // tab c.path = some c}, cmpP (pieces x.1.path.data.toList) (pieces y.1.path.data.toList) = 0 → x = y := fun x y hxy => by
   have h1 := cmpP_zero _ _ hxy
   have h2 : x.1.path.data.toList = y.1.path.data.toList := by rw [← join_pieces x.1.path.data.toList, ← join_pieces y.1.path.data.toList, h1]
   have h3 : x.1.path = y.1.path := ba_ext h2
   have h4 := x.2
   rw [h3, y.2] at h4
   injection h4 with h4
   exact Subtype.ext h4.symm
  have hSW : Go.Sort.SWO (Go.Proofs.ltOf (fun x y : {c : Ch // tab c.path = some c} => cmpP (pieces x.1.path.data.toList) (pieces y.1.path.data.toList))) := by
   refine ⟨fun x => ?_, fun x y z h1 h2 => ?_, fun x y z h1 h2 => ?_⟩
   ·simp [ltOf, hself x]
   ·unfold ltOf at *
    simp only [decide_eq_true_eq] at *
    have r1 := cmpP_range (pieces x.1.path.data.toList) (pieces y.1.path.data.toList)
    have r2 := cmpP_range (pieces y.1.path.data.toList) (pieces z.1.path.data.toList)
    have := cmpP_trans (pieces x.1.path.data.toList) (pieces y.1.path.data.toList) (pieces z.1.path.data.toList) (by omega) (by omega)
    omega
   ·unfold ltOf at *
    simp only [decide_eq_false_iff_not] at *
    have n1 := cmpP_neg (pieces x.1.path.data.toList) (pieces y.1.path.data.toList)
    have n2 := cmpP_neg (pieces y.1.path.data.toList) (pieces z.1.path.data.toList)
    have n3 := cmpP_neg (pieces x.1.path.data.toList) (pieces z.1.path.data.toList)
    have := (cmp_le_trans (pieces z.1.path.data.toList) (pieces y.1.path.data.toList) (pieces x.1.path.data.toList) (by omega) (by omega)).1
    omega
  have hT : ∀ x y : {c : Ch // tab c.path = some c}, Go.Proofs.ltOf (fun x y : {c : Ch // tab c.path = some c} => cmpP (pieces x.1.path.data.toList) (pieces y.1.path.data.toList)) x y = false → Go.Proofs.ltOf (fun x y : {c : Ch // tab c.path = some c} => cmpP (pieces x.1.path.data.toList) (pieces y.1.path.data.toList)) y x = false → x = y := fun x y h1 h2 => by
   unfold ltOf at *
   simp only [decide_eq_false_iff_not] at *
   have n1 := cmpP_neg (pieces x.1.path.data.toList) (pieces y.1.path.data.toList)
   exact hone x y (by omega)
  have hrow : w.ownsRow B 34 3 v n (l.flatMap (fun c => chCs c.1)) := by rw [hflat]; exact h
  refine (sortK_own Tryz.sortF30 3 (by decide) Tryz.isAgg34 Tryz.sizeOf34 (fun c : {c : Ch // tab c.path = some c} => chCs c.1) (fun x => rfl) (fun x u hu => by simp [chCs] at hu; rcases hu with rfl | rfl | rfl <;> rfl) _ hSW hT 31 #[] B n v l w
   (enters_of Tryz.func31 (by kernel_rfl) rfl) (fun W hg x y => ?_) hrow hn).mono ?_
  ·have hmW : MaxAt W := hm.later (hw.grown hg hw.size (fun j hj => Nat.le_trans hB (h.lt j hj).1))
   refine (diff1_any x.1 y.1 W (htb _ _ x.2).2 (htb _ _ y.2).2 hmW).mono ?_
   rintro e w' ⟨rfl, os, rfl⟩
   exact ⟨rfl, 0, os, rfl⟩
  ·rintro e w' ⟨rfl, hrow', hg'⟩
   refine ⟨(l.mergeSort fun x y => !(Go.Proofs.ltOf (fun x y : {c : Ch // tab c.path = some c} => cmpP (pieces x.1.path.data.toList) (pieces y.1.path.data.toList))) y x).map Subtype.val, rfl, ?_, hg', ?_, ?_, fun c => ?_⟩
   ·rw [List.flatMap_map]; exact hrow'
   ·rw [List.length_map, List.length_mergeSort, ← hOn, ← hl, List.length_map]
   ·rw [List.pairwise_map]
    have hp := List.pairwise_mergeSort (le := fun x y : {c : Ch // tab c.path = some c} => !(Go.Proofs.ltOf (fun x y : {c : Ch // tab c.path = some c} => cmpP (pieces x.1.path.data.toList) (pieces y.1.path.data.toList))) y x) (fun a b c h1 h2 => by
     simp only [Bool.not_eq_true', ] at *
     exact hSW.ntrans _ _ _ h2 h1) (fun a b => by
     have n1 := cmpP_neg (pieces a.1.path.data.toList) (pieces b.1.path.data.toList)
     unfold ltOf
     by_cases hlt : cmpP (pieces b.1.path.data.toList) (pieces a.1.path.data.toList) < 0
     ·have : ¬ cmpP (pieces a.1.path.data.toList) (pieces b.1.path.data.toList) < 0 := by omega
      simp [this]
     ·simp [hlt]) l
    have hnl : l.Nodup := by
     rw [← hl, List.map_map] at hnd
     exact (nodup_of_map hnd)
    have hnd2 : (l.mergeSort fun x y => !(Go.Proofs.ltOf (fun x y : {c : Ch // tab c.path = some c} => cmpP (pieces x.1.path.data.toList) (pieces y.1.path.data.toList))) y x).Nodup := (List.mergeSort_perm l _).nodup_iff.2 hnl
    refine (hp.and hnd2).imp ?_
    rintro a b ⟨h1, hne⟩
    simp only [Bool.not_eq_true'] at h1
    unfold ltOf at h1
    simp only [decide_eq_false_iff_not] at h1
    have n1 := cmpP_neg (pieces a.1.path.data.toList) (pieces b.1.path.data.toList)
    have r1 := cmpP_range (pieces a.1.path.data.toList) (pieces b.1.path.data.toList)
    have hne0 : cmpP (pieces a.1.path.data.toList) (pieces b.1.path.data.toList) ≠ 0 := fun e => hne (hone a b e)
    omega
   ·rw [List.mem_map]
    constructor
    ·rintro ⟨x, hx, rfl⟩
     rw [List.mem_mergeSort] at hx
     rw [← hl]; exact List.mem_map.2 ⟨x, hx, rfl⟩
    ·intro hc
     rw [← hl] at hc
     obtain ⟨x, hx, rfl⟩ := List.mem_map.1 hc
     exact ⟨x, by rw [List.mem_mergeSort]; exact hx, rfl⟩
theorem foldl_take {α β : Type} (f : β → α → β) (z : β) (l : List α) (d : α) {i : Nat} (h : i < l.length) : (l.take (i + 1)).foldl f z = f ((l.take i).foldl f z) (l.getD i d) := by
 rw [List.take_succ_eq_append_getElem h, List.foldl_append, List.getD_eq_getElem?_getD, List.getElem?_eq_getElem h]; rfl
set_option maxRecDepth 100000 in
set_option maxHeartbeats 16000000 in
theorem diff_any (t : TypeId) (rv : Value) (G : Sw.Src) (hz : SrcSz G) (ia ib : ByteArray) (w : World) (hs : SrcAt w t rv G) (hm : MaxAt w) : Calls Tryz.prog 7 #[.iface t rv, .string ia, .string ib] w (DiffOut G ia ib w) := by
 obtain ⟨i0, hi0, hz0, hz1, hz2⟩ := info_parts Tryz.infoCh
 have HLA := hid (list_any t rv G hz ia w hs)
 have HS := hid hs
 have HM := hid hm
 clear hs hm
 have hmk : ∀ (T : TypeId) (W : World), (Instr.makeMap T none).run Tryz.prog W = .ok (.map (some W.heap.size)) (W.alloc (.map #[] 0)) := fun T W => run_makeMap T W
 have HNA := hid (listS_names G ia)
 have HNB := hid (listS_names G ib)
 obtain ⟨l1, e1, hl1⟩ : ∃ l e, listS G ia = (l, e) := ⟨_, _, rfl⟩
 obtain ⟨l2, e2, hl2⟩ : ∃ l e, listS G ib = (l, e) := ⟨_, _, rfl⟩
 have HL1 := hid hl1
 have HL2 := hid hl2
 rw [hl1] at HLA HNA
 rw [hl2] at HNB
 clear hl1
 go_enter Tryz.func7, Tryz.ntmps7
 go_wp2_with fail
 refine HLA.out.mono ?_; rintro e w1 ⟨a1, n1, c1, rfl, hE1, hb1, hf1, hn1⟩
 simp only at hE1 ⊢
 have HE1 := hid hE1
 have HB1 := hid hb1
 have hs1 : w.heap.size ≤ w1.heap.size := hb1.size
 have HLB := hid (list_any t rv G hz ib w1 (HS.out.later hb1))
 rw [hl2] at HLB
 clear hE1 hb1 hf1 HLA hl2
 by_cases he1 : e1 = 0
 ·subst he1
  go_wp2_with fail
  refine HLB.out.mono ?_; rintro e w2 ⟨a2, n2, c2, rfl, hE2, hb2, hf2, hn2⟩
  simp only at hE2 ⊢
  have HE2 := hid hE2
  have HE1' := hid (HE1.out.later hb2)
  have HB2 : Hid (Below w.heap.size w w2) := HB1.out.trans (hb2.mono hs1)
  have hs2 : w.heap.size ≤ w2.heap.size := HB2.out.size
  clear hE2 hb2 hf2 HLB HE1 HB1 hs1
  by_cases he2 : e2 = 0
  ·subst he2
   obtain ⟨m, hmd⟩ : ∃ m, w2.heap.size = m := ⟨_, rfl⟩
   have HMD := hid hmd
   have HC0 : Hid (ChMap (w2.alloc (.map #[] 0)) m 0 (fun _ => none)) := by rw [← hmd]; exact MapFn.made w2
   have HB3 : Hid (Below w.heap.size w (w2.alloc (.map #[] 0))) := HB2.out.alloc hs2 _
   have HE13 := hid (HE1'.out.later ((Below.refl _ _).alloc (Nat.le_refl _) (.map #[] 0)))
   have HE23 := hid (HE2.out.later ((Below.refl _ _).alloc (Nat.le_refl _) (.map #[] 0)))
   have HB23 : Hid (Below m w2 (w2.alloc (.map #[] 0))) := by rw [← hmd]; exact (Below.refl _ _).alloc (Nat.le_refl _) _
   rw [hmd] at hs2
   clear hmd
   go_upto_region 9 with fail
   rw [HMD.out]
   generalize (w2.alloc (.map #[] 0)) = w3 at HC0 HB3 HE13 HE23 HB23 ⊢
   go_loopw [41] (fun iv wr => ∃ i : Nat, i ≤ n1 ∧ iv = .int .i64 i ∧ Hid (ChMap wr m i ((l1.take i).foldl putA (fun _ => none))) ∧ Hid (Below m w2 wr)) (fun iv _ => n1 - (intOf iv).toNat)
   case atStart => exact ⟨0, Nat.zero_le _, rfl, HC0, HB23⟩
   case round =>
    obtain ⟨i, hi, rfl, HC, HB⟩ := hrel
    have hszr := HB.out.size
    rw [HMD.out] at hszr
    by_cases hlt : i < n1
    ·have ci : (i : Int) < n1 := by omega
     have ci0 : (0 : Int) ≤ (i : Int) := by omega
     obtain ⟨hil0, -, h3⟩ := HE1'.out.later (by rw [HMD.out]; exact HB.out)
     obtain ⟨eb, eoff, rfl, hcell⟩ := h3.resolve_left (by omega)
     obtain ⟨q0, q1, q2⟩ := hcell i hlt
     have hil : i < l1.length := by rw [hil0]; exact hlt
     have HT : Hid ((l1.take (i + 1)).foldl putA (fun _ => none) = putA ((l1.take i).foldl putA (fun _ => none)) (l1.getD i ⟨ByteArray.empty, 0, ByteArray.empty⟩)) := foldl_take putA _ l1 _ hil
     have hok := HNA.out (l1.getD i ⟨ByteArray.empty, 0, ByteArray.empty⟩) (by rw [List.getD_eq_getElem?_getD, List.getElem?_eq_getElem hil]; exact List.getElem_mem hil)
     obtain ⟨z, hzz⟩ : ∃ z, l1.getD i ⟨ByteArray.empty, 0, ByteArray.empty⟩ = z := ⟨_, rfl⟩
     rw [hzz] at q0 q1 q2 HT hok
     obtain ⟨nm, kd, yd⟩ := z
     simp only at q0 q1 q2
     have hnm : nm.size ≤ maxLen := by have h := hok.2; have h : nm.size ≤ 100000 := h; unfold maxLen; omega
     clear hzz hcell h3 hil hil0 hok
     go_upto_region 11 with fail
     have HX1 : Hid (Blk (wr.alloc (.cells #[.string nm, .int .i64 kd, .string yd] 76)) wr.heap.size 76 #[.string nm, .int .i64 kd, .string yd]) := Blk.new wr _ _
     have HC1 : Hid (ChMap (wr.alloc (.cells #[.string nm, .int .i64 kd, .string yd] 76)) m i ((l1.take i).foldl putA (fun _ => none))) := HC.out.later ((Below.refl _ _).alloc (Nat.le_refl _) _)
     have HB1 : Hid (Below m w2 (wr.alloc (.cells #[.string nm, .int .i64 kd, .string yd] 76))) := HB.out.alloc hszr _
     have hs1 : m ≤ (wr.alloc (.cells #[.string nm, .int .i64 kd, .string yd] 76)).heap.size := by rw [World.size_alloc]; omega
     clear q0 q1 q2 HC HB
     generalize (wr.alloc (.cells #[.string nm, .int .i64 kd, .string yd] 76)) = w4 at HX1 HC1 HB1 hs1 ⊢
     generalize wr.heap.size = g4 at HX1 ⊢
     have k0 : w4.cell? ⟨g4, 0, none⟩ = some (.string nm) := Blk.cell HX1.out 0
     have k2 : w4.cell? ⟨g4, 2, none⟩ = some (.string yd) := Blk.cell HX1.out 2
     have him : i < maxLen := by unfold maxLen; omega
     go_wp2_with (first
      | (at_mapUpdate; refine wpList_mapFn_set rfl (.tmp 45) (.tmp 47) (.tmp 52) 86 rfl Tryz.underlying9 Tryz.underlying86 valC_inj HC1.out him nm hnm ⟨nm, yd, ByteArray.empty⟩ rfl rfl rfl ?_; intro w5 hm5 hg5; have HM5 := hid hm5; have HG5 := hid hg5; clear hm5 hg5)
      | go_in)
     have HM6 : Hid (ChMap w5 m (i + 1) ((l1.take (i + 1)).foldl putA (fun _ => none))) := by
      show ChMap _ _ _ _
      rw [HT.out]; exact HM5.out
     have HB6 : Hid (Below m w2 w5) := HB1.out.grown HG5.out hs1 (fun j hj => by cases hj; exact Nat.le_refl _)
     go_roundw
     case rel => first | exact ⟨i + 1, by omega, by go_num, HM6, HB6⟩ | ((repeat apply Exists.intro); exact ⟨⟨i + 1, by omega, by go_num, HM6, HB6⟩, rfl⟩)
     case measure => simp [intOf]; omega
    ·obtain rfl : i = n1 := by omega
     have ci : ¬ (i : Int) < i := by omega
     have HCA : Hid (ChMap wr m i (l1.foldl putA (fun _ => none))) := by
      have h := HC.out
      rw [List.take_of_length_le (by rw [HE1'.out.1]; exact Nat.le_refl _)] at h; exact h
     clear HC
     go_upto_region 14 with fail
     have HBA := HB
     clear HB
     rename World => wA
     go_loopw [56] (fun iv wx => ∃ j : Nat, j ≤ n2 ∧ iv = .int .i64 j ∧ Hid (ChMap wx m (i + j) ((l2.take j).foldl putB (l1.foldl putA (fun _ => none)))) ∧ Hid (Below m w2 wx)) (fun iv _ => n2 - (intOf iv).toNat)
     case atStart => exact ⟨0, Nat.zero_le _, rfl, HCA, HBA⟩
     case round =>
      obtain ⟨j, hj, rfl, HC, HB⟩ := hrel
      have hszr := HB.out.size
      rw [HMD.out] at hszr
      by_cases hlt : j < n2
      ·have ci : (j : Int) < n2 := by omega
       have ci0 : (0 : Int) ≤ (j : Int) := by omega
       obtain ⟨hil0, -, h3⟩ := HE2.out.later (by rw [HMD.out]; exact HB.out)
       obtain ⟨eb, eoff, rfl, hcell⟩ := h3.resolve_left (by omega)
       obtain ⟨q0, q1, q2⟩ := hcell j hlt
       have hil : j < l2.length := by rw [hil0]; exact hlt
       have HT : Hid ((l2.take (j + 1)).foldl putB (l1.foldl putA (fun _ => none)) = putB ((l2.take j).foldl putB (l1.foldl putA (fun _ => none))) (l2.getD j ⟨ByteArray.empty, 0, ByteArray.empty⟩)) := foldl_take putB _ l2 _ hil
       have hok := HNB.out (l2.getD j ⟨ByteArray.empty, 0, ByteArray.empty⟩) (by rw [List.getD_eq_getElem?_getD, List.getElem?_eq_getElem hil]; exact List.getElem_mem hil)
       obtain ⟨z, hzz⟩ : ∃ z, l2.getD j ⟨ByteArray.empty, 0, ByteArray.empty⟩ = z := ⟨_, rfl⟩
       rw [hzz] at q0 q1 q2 HT hok
       obtain ⟨nm, kd, yd⟩ := z
       simp only at q0 q1 q2
       have hnm : nm.size ≤ maxLen := by have h := hok.2; have h : nm.size ≤ 100000 := h; unfold maxLen; omega
       obtain ⟨f, hf⟩ : ∃ f, (l2.take j).foldl putB (l1.foldl putA (fun _ => none)) = f := ⟨_, rfl⟩
       rw [hf] at HT HC
       clear hzz hcell h3 hil hil0 hok hf
       go_upto_region 16 with fail
       have HX1 : Hid (Blk (wr.alloc (.cells #[.string nm, .int .i64 kd, .string yd] 76)) wr.heap.size 76 #[.string nm, .int .i64 kd, .string yd]) := Blk.new wr _ _
       have HC1 : Hid (ChMap (wr.alloc (.cells #[.string nm, .int .i64 kd, .string yd] 76)) m (i + j) f) := HC.out.later ((Below.refl _ _).alloc (Nat.le_refl _) _)
       have HB1 : Hid (Below m w2 (wr.alloc (.cells #[.string nm, .int .i64 kd, .string yd] 76))) := HB.out.alloc hszr _
       have hs1 : m ≤ (wr.alloc (.cells #[.string nm, .int .i64 kd, .string yd] 76)).heap.size := by rw [World.size_alloc]; omega
       clear q0 q1 q2 HC HB
       generalize (wr.alloc (.cells #[.string nm, .int .i64 kd, .string yd] 76)) = w4 at HX1 HC1 HB1 hs1 ⊢
       generalize wr.heap.size = g4 at HX1 ⊢
       have k0 : w4.cell? ⟨g4, 0, none⟩ = some (.string nm) := Blk.cell HX1.out 0
       have hlk := chMap_get1 HC1.out nm hnm
       obtain ⟨cc, hcc⟩ : ∃ cc, (f nm).getD noCh = cc := ⟨_, rfl⟩
       rw [hcc] at hlk
       have HCC := hid hcc
       clear hcc
       obtain ⟨pc, wc, ic⟩ := cc
       have ev : valC ⟨pc, wc, ic⟩ = .agg #[.string pc, .string wc, .string ic] := rfl
       rw [ev] at hlk
       clear ev
       go_upto_region 17 with fail
       have HX5 : Hid (Blk (w4.alloc (.cells #[.string pc, .string wc, .string ic] 34)) w4.heap.size 34 #[.string pc, .string wc, .string ic]) := Blk.new w4 _ _
       have HE5 : Hid (Blk (w4.alloc (.cells #[.string pc, .string wc, .string ic] 34)) g4 76 #[.string nm, .int .i64 kd, .string yd]) := Blk.alloc HX1.out _
       have HC5 : Hid (ChMap (w4.alloc (.cells #[.string pc, .string wc, .string ic] 34)) m (i + j) f) := HC1.out.later ((Below.refl _ _).alloc (Nat.le_refl _) _)
       have HB5 : Hid (Below m w2 (w4.alloc (.cells #[.string pc, .string wc, .string ic] 34))) := HB1.out.alloc hs1 _
       have hg4 : g4 < w4.heap.size := Blk.lt HX1.out
       have hm5 : m < w4.heap.size := HC1.out.lt
       have hs5 : m ≤ (w4.alloc (.cells #[.string pc, .string wc, .string ic] 34)).heap.size := by rw [World.size_alloc]; omega
       clear hlk k0 HX1 HC1 HB1 hs1
       generalize (w4.alloc (.cells #[.string pc, .string wc, .string ic] 34)) = w5 at HX5 HE5 HC5 HB5 hs5 ⊢
       generalize w4.heap.size = g5 at HX5 hg4 hm5 ⊢
       have k0 : w5.cell? ⟨g4, 0, none⟩ = some (.string nm) := Blk.cell HE5.out 0
       have k2 : w5.cell? ⟨g4, 2, none⟩ = some (.string yd) := Blk.cell HE5.out 2
       have d0 : w5.cell? ⟨g5, 0, none⟩ = some (.string pc) := Blk.cell HX5.out 0
       have d2 : w5.cell? ⟨g5, 2, none⟩ = some (.string ic) := Blk.cell HX5.out 2
       have f0 := Blk.frozen HX5.out 0
       have f2 := Blk.frozen HX5.out 2
       go_cut [] (fun wx => wx = ((w5.setCell ⟨g5, 0, none⟩ (.string nm)).setCell ⟨g5, 2, none⟩ (.string yd)).drew)
       case first =>
        go_region
        all_goals
         go_wp2_with fail
         go_meet
         case rel => exact rfl
       case rest =>
        subst hcut
        have ho6 : Only (· = g5) w5 ((w5.setCell ⟨g5, 0, none⟩ (.string nm)).setCell ⟨g5, 2, none⟩ (.string yd)).drew := (((Only.refl (· = g5) w5).setCell (p := ⟨g5, 0, none⟩) (.inl rfl) _).setCell (p := ⟨g5, 2, none⟩) (.inl rfl) _).drew
        have HX6 : Hid (Blk ((w5.setCell ⟨g5, 0, none⟩ (.string nm)).setCell ⟨g5, 2, none⟩ (.string yd)).drew g5 34 #[.string nm, .string wc, .string yd]) := by
         have := Blk.drew (Blk.set (Blk.set HX5.out 0 (.string nm)) 2 (.string yd))
         show Blk _ _ _ _
         simpa using this
        have HE6 := hid (HE5.out.only ho6 (fun (e : g4 = g5) => by omega))
        have HC6 := hid (HC5.out.only ho6 (fun (e : m = g5) => by omega))
        have HB6 : Hid (Below m w2 ((w5.setCell ⟨g5, 0, none⟩ (.string nm)).setCell ⟨g5, 2, none⟩ (.string yd)).drew) := HB5.out.trans (ho6.below (fun k (e : k = g5) => by omega) hs5)
        have hs6 : m ≤ ((w5.setCell ⟨g5, 0, none⟩ (.string nm)).setCell ⟨g5, 2, none⟩ (.string yd)).drew.heap.size := Nat.le_trans hs5 ho6.size
        clear k0 k2 d0 d2 f0 f2 ho6 HX5 HE5 HC5 HB5
        generalize ((w5.setCell ⟨g5, 0, none⟩ (.string nm)).setCell ⟨g5, 2, none⟩ (.string yd)).drew = w6 at HX6 HE6 HC6 HB6 hs6 ⊢
        have k0 : w6.cell? ⟨g4, 0, none⟩ = some (.string nm) := Blk.cell HE6.out 0
        have d0 : w6.cell? ⟨g5, 0, none⟩ = some (.string nm) := Blk.cell HX6.out 0
        have d1 : w6.cell? ⟨g5, 1, none⟩ = some (.string wc) := Blk.cell HX6.out 1
        have d2 : w6.cell? ⟨g5, 2, none⟩ = some (.string yd) := Blk.cell HX6.out 2
        have him : i + j < maxLen := by unfold maxLen; omega
        go_wp2_with (first
         | (at_mapUpdate; refine wpList_mapFn_set rfl (.tmp 70) (.tmp 72) (.tmp 73) 86 rfl Tryz.underlying9 Tryz.underlying86 valC_inj HC6.out him nm hnm ⟨nm, wc, yd⟩ rfl rfl rfl ?_; intro w7 hm7 hg7; have HM7 := hid hm7; have HG7 := hid hg7; clear hm7 hg7)
         | go_in)
        have HM8 : Hid (ChMap w7 m (i + (j + 1)) ((l2.take (j + 1)).foldl putB (l1.foldl putA (fun _ => none)))) := by
         show ChMap _ _ _ _
         rw [HT.out]
         have h := HM7.out
         have e : putB f ⟨nm, kd, yd⟩ = fun q => if q = nm then some ⟨nm, wc, yd⟩ else f q := by
          funext q
          unfold putB
          simp only
          rw [HCC.out]
         rw [e]; exact h
        have HB8 : Hid (Below m w2 w7) := HB6.out.grown HG7.out hs6 (fun j hj => by cases hj; exact Nat.le_refl _)
        go_roundw
        case rel => first | exact ⟨j + 1, by omega, by go_num, HM8, HB8⟩ | ((repeat apply Exists.intro); exact ⟨⟨j + 1, by omega, by go_num, HM8, HB8⟩, rfl⟩)
        case measure => simp [intOf]; omega
      ·obtain rfl : j = n2 := by omega
       have ci : ¬ (j : Int) < j := by omega
       have HCD : Hid (ChMap wr m (i + j) (tabD l1 l2)) := by
        have h := HC.out
        rw [List.take_of_length_le (by rw [HE2.out.1]; exact Nat.le_refl _)] at h; exact h
       clear HC
       obtain ⟨D0, ho0, hs0⟩ := HCD.out
       have HTB := hid (tabD_tab HNA.out HNB.out)
       obtain ⟨tab, htab⟩ : ∃ f, tabD l1 l2 = f := ⟨_, rfl⟩
       have HTAB := hid htab
       rw [htab] at hs0 HTB
       have HO0 := hid ho0
       have HS0 := hid hs0
       have hz0' : Maps.size D0 ≤ i + j := ho0.size_le
       have hmr : m < wr.heap.size := ho0.lt
       have HBw : Hid (Below w.heap.size w wr) := HB2.out.trans (HB.out.mono (by rw [← HMD.out] at hs2 ⊢; exact hs2))
       have hsw : w.heap.size ≤ wr.heap.size := HBw.out.size
       clear ho0 hs0 htab HCD HBA HB hszr HC0 HB3 HE13 HE23 HB23 HE1' HE2
       rename World => wB
       go_wp2_with (first
        | (at_range; refine wpList_range_own _ rfl _ 86 rfl 9 34 (Maps.string_keyed Tryz.underlying9) Tryz.underlying86 _ m (i + j) _ rfl HO0.out ?_; intro w0 hrg0 hg0 hsz0; have HR0 := hid hrg0; have HG0 := hid hg0; clear hrg0 hg0 hsz0)
        | go_in)
       try go_frame
       go_loopw [17] (fun v wx => ∃ (left : Lit → Bool) (cnt : Nat) (ss : List (List UInt8)) (O : List Ch), Hid (wx.ranges Tryz.prog 9 (elemR valC datC) m wB.heap.size (i + j) D0 left cnt) ∧ Hid (ss.length + cnt ≤ Maps.size D0) ∧
        Hid (wx.ownsRow wB.heap.size 34 3 v O.length (O.flatMap chCs)) ∧ Hid (Collected D0 left ss) ∧ Hid (Below wB.heap.size wB wx) ∧ Hid (∀ c : Ch, c ∈ O ↔ c.path.data.toList ∈ ss ∧ tab c.path = some c ∧ c.was ≠ c.is) ∧ Hid ((O.map (fun c : Ch => c.path)).Nodup) ∧ O.length ≤ ss.length) (fun _ wx => wx.rangeLeft m wB.heap.size)
       case atStart =>
        exact ⟨_, _, [], [], HR0, by show 0 + _ ≤ _; omega, World.ownsRow_nil _ _ _ _, Collected.start D0, (Below.refl _ _).grown HG0.out (Nat.le_refl _) (fun j hj => by cases hj), fun c => by simp, List.nodup_nil, Nat.le_refl _⟩
       case round =>
        obtain ⟨left, cnt, ss, O, HRG, HCS, HRW, HC, HB, HIN, HND, hOs⟩ := hrel
        obtain ⟨va, vc, rfl, hvc⟩ := own_slice' HRW.out
        have hszr := HB.out.size
        go_wp2_with (first
         | (at_next; refine wpList_next_ranges _ rfl _ rfl 9 (Maps.string_keyed Tryz.underlying9) (elemR valC datC) encStr valC (fun key kl hk => by obtain ⟨x, hx, _⟩ := Maps.keyOf_str Tryz.underlying9 hk; exact ⟨x, hx⟩) (fun v y hv => by obtain ⟨c, rfl, _⟩ := elemR_inv hv; exact ⟨c, rfl⟩) m wB.heap.size (i + j) _ _ _ rfl HRG.out ?_ ?_)
         | go_in)
        ·intro hc0 hl0
         have HMEM : Hid (∀ c : Ch, c ∈ O ↔ tab c.path = some c ∧ c.was ≠ c.is) := fun c => by
          refine (HIN.out c).trans ⟨fun h => h.2, fun h => ⟨?_, h⟩⟩
          refine (HC.out.2 _).2 ⟨?_, hl0 _⟩
          have := (HS0.out c.path).1
          rw [h.1] at this
          exact this
         have hO6 : O.length ≤ 1000000 := by have := HCS.out; omega
         have HBW : Hid (Below w.heap.size w wr) := HBw.out.trans (HB.out.mono hsw)
         have HSO := hid (sortCh_own HTB.out wB.heap.size O.length (.slice va O.length vc) O wr w HM.out HBW.out hsw (fun c hc => ((HMEM.out c).1 hc).1) HND.out HRW.out hO6 rfl)
         clear hc0 hl0
         go_wp2_with (go_at_call 30; refine HSO.out.mono ?_; rintro e w9 ⟨D, rfl, hrow, hg, hDl, hDp, hDm⟩)
         go_ret2
         have HB9 : Below w.heap.size w w9 := HBW.out.grown hg HBW.out.size (fun j hj => Nat.le_trans hsw (HRW.out.lt j hj).1)
         refine ⟨va, O.length, vc, D, 0, rfl, ⟨hDl, hO6, ?_⟩, HB9, ?_⟩
         ·by_cases h0 : O.length = 0
          ·exact .inl h0
          ·rcases hrow.2 with ⟨h1, h2⟩ | ⟨g, cap, cur, h1, hb, hg2, hn1, hc1, hsz, htk⟩
           ·exact .inl h2
           ·cases h1
            refine .inr ⟨g, 0, rfl, fun jj hjj => ?_⟩
            have hjd : jj < D.length := by omega
            obtain ⟨x0, x1, x2⟩ := chvals_get D jj hjd
            have c0 := hrow.cellAt (jj * 3) (by omega)
            have c1 := hrow.cellAt (jj * 3 + 1) (by omega)
            have c2 := hrow.cellAt (jj * 3 + 2) (by omega)
            rw [Nat.zero_add]
            exact ⟨c0.trans x0, c1.trans x1, c2.trans x2⟩
         ·rw [HL1.out, HL2.out]
          simp only [ne_eq, not_true_eq_false, if_false]
          refine ⟨trivial, hDp, fun c => ?_⟩
          rw [HTAB.out]
          exact (hDm c).trans (HMEM.out c)
        ·intro x c kk yd yp w4 cnt2 hkey hlk hv hat hrg2 hlt2 hg2 hs2' hen
         obtain ⟨x', ex, rfl, _⟩ := Maps.keyOf_str Tryz.underlying9 hkey
         obtain rfl : x = x' := encStr_inj ex
         have hct : tab (bz x) = some c := by
          obtain ⟨c', ec, ey⟩ := elemR_inv hv
          have ecc : c = c' := valC_inj _ _ ec
          subst ecc
          have hk : kl (bz x) = .string x := by unfold kl; simp [bz]
          obtain ⟨b1, b2⟩ := HS0.out (bz x)
          rw [hk] at b1 b2
          have hhas : Maps.has D0 (.string x) = true := Maps.has_true_of_atKey hat
          rw [hhas] at b1
          cases ht : tab (bz x) with
          | none => rw [ht] at b1; cases b1
          | some d =>
           have h1 := b2 d ht (datC d)
           have h2 := hat (datC d)
           rw [h1] at h2
           have h3 : datC d = datC c := h2.trans (Prod.mk.inj ey).1
           rw [datC_inj _ _ h3]
         have hcp := (HTB.out _ _ hct).1
         have HCT := hid hct
         have HCP := hid hcp
         have HRW2 := hid (HRW.out.kept hg2 (Or.inr (row_ne_iter HRW.out HRG.out).symm))
         have HRG2 := hid hrg2; have HLT := hid hlt2
         have HC2 := hid (HC.out.step hlk hat)
         have hw4 : wB.heap.size ≤ w4.heap.size := Nat.le_trans hszr hg2.size
         have HB2' : Hid (Below wB.heap.size wB w4) := HB.out.grown hg2 hszr (fun j hj => by cases hj; exact Nat.le_refl _)
         have hOl : O.length ≤ 100000 := by have := HCS.out; omega
         have hxs : Hid (x ∉ ss) := fun hx => by
          have := ((HC.out.2 x).1 hx).2
          rw [hlk] at this; cases this
         clear hs2' hrg2 hlt2 hg2 hlk hat hkey hv hct hcp HRW HB HC
         obtain ⟨pc, wc, ic⟩ := c
         have ev : valC ⟨pc, wc, ic⟩ = .agg #[.string pc, .string wc, .string ic] := rfl
         rw [ev] at hen ⊢
         clear ev
         go_upto_region 24 with fail
         have HX1 : Hid (Blk (w4.alloc (.cells #[.string pc, .string wc, .string ic] 34)) w4.heap.size 34 #[.string pc, .string wc, .string ic]) := Blk.new w4 _ _
         have HRW3 : Hid ((w4.alloc (.cells #[.string pc, .string wc, .string ic] 34)).ownsRow wB.heap.size 34 3 (.slice va O.length vc) O.length (O.flatMap chCs)) := HRW2.out.alloc _
         have HRG3 := hid (HRG2.out.alloc (.cells #[.string pc, .string wc, .string ic] 34))
         have HB3' : Hid (Below wB.heap.size wB (w4.alloc (.cells #[.string pc, .string wc, .string ic] 34))) := HB2'.out.alloc hw4 _
         have hs3 : wB.heap.size ≤ (w4.alloc (.cells #[.string pc, .string wc, .string ic] 34)).heap.size := by rw [World.size_alloc]; omega
         clear HRW2 HRG2 HB2' hen
         generalize (w4.alloc (.cells #[.string pc, .string wc, .string ic] 34)) = w5 at HX1 HRW3 HRG3 HB3' hs3 ⊢
         generalize w4.heap.size = g5 at HX1 ⊢
         have k0 : w5.cell? ⟨g5, 0, none⟩ = some (.string pc) := Blk.cell HX1.out 0
         have k1 : w5.cell? ⟨g5, 1, none⟩ = some (.string wc) := Blk.cell HX1.out 1
         have k2 : w5.cell? ⟨g5, 2, none⟩ = some (.string ic) := Blk.cell HX1.out 2
         have hE : (wc.toList == ic.toList) = decide (wc = ic) := by
          rw [ba_toList, ba_toList, Bool.eq_iff_iff, beq_iff_eq, decide_eq_true_eq]
          exact ⟨fun e => ba_ext e, fun e => by rw [e]⟩
         have HIN2 : Hid (∀ c : Ch, c ∈ (if wc = ic then O else O ++ [⟨pc, wc, ic⟩]) ↔ c.path.data.toList ∈ ss ++ [x] ∧ tab c.path = some c ∧ c.was ≠ c.is) := by
          intro c
          have hct := HCT.out
          have hpx : pc = bz x := HCP.out
          rw [List.mem_append, List.mem_singleton]
          constructor
          ·intro h
           split at h
           ·have := (HIN.out c).1 h; exact ⟨.inl this.1, this.2⟩
           ·rename_i hne
            rcases List.mem_append.1 h with h | h
            ·have := (HIN.out c).1 h; exact ⟨.inl this.1, this.2⟩
            ·rw [List.mem_singleton] at h; subst h
             refine ⟨.inr ?_, ?_, hne⟩
             ·show pc.data.toList = x
              rw [hpx]; simp [bz]
             ·show tab pc = _
              rw [hpx, hct, hpx]
          ·rintro ⟨h1 | h1, h2, h3⟩
           ·have := (HIN.out c).2 ⟨h1, h2, h3⟩
            split
            ·exact this
            ·exact List.mem_append.2 (.inl this)
           ·have hcx : c.path = bz x := by rw [← h1, bz_bl]
            rw [hcx, hct] at h2
            cases h2
            rw [if_neg h3]
            exact List.mem_append.2 (.inr (List.mem_singleton.2 rfl))
         have HND2 : Hid (((if wc = ic then O else O ++ [⟨pc, wc, ic⟩]).map (fun c : Ch => c.path)).Nodup) := by
          show List.Nodup _
          split
          ·exact HND.out
          ·rw [List.map_append]
           refine List.nodup_append.2 ⟨HND.out, by simp, fun p hp q hq e => ?_⟩
           subst e
           obtain ⟨c, hc, rfl⟩ := List.mem_map.1 hp
           rw [List.map_singleton, List.mem_singleton] at hq
           have h1 := ((HIN.out c).1 hc).1
           have hq : c.path = pc := hq
           have hpx : pc = bz x := HCP.out
           rw [hq, hpx] at h1
           exact hxs.out (by simpa [bz] using h1)
         have hcs2 := HCS.out
         by_cases hne : wc = ic
         ·have e1 : (wc.toList == ic.toList) = true := by rw [hE]; simp [hne]
          rw [if_pos hne] at HIN2 HND2
          have hlw : wB.heap.size ≤ w5.heap.size := hs3
          clear hE
          subst hne
          go_wp2_with fail
          go_roundw
          case rel => first | exact ⟨_, cnt2, ss ++ [x], O, HRG3, by show _ ≤ _; have := HLT.out; rw [List.length_append]; simp only [List.length_cons, List.length_nil]; omega, HRW3, HC2, HB3', HIN2, HND2, by rw [List.length_append]; omega⟩ | ((repeat apply Exists.intro); exact ⟨⟨_, cnt2, ss ++ [x], O, HRG3, by show _ ≤ _; have := HLT.out; rw [List.length_append]; simp only [List.length_cons, List.length_nil]; omega, HRW3, HC2, HB3', HIN2, HND2, by rw [List.length_append]; omega⟩, rfl⟩)
          case measure => rw [HRG3.out.left_eq, HRG.out.left_eq]; exact HLT.out
         ·have e1 : (wc.toList == ic.toList) = false := by rw [hE]; simp [hne]
          rw [if_neg hne] at HIN2 HND2
          clear hE hne
          go_wp2_with (first
           | (at_builtin; refine wpList_append_own _ rfl (.tmp 86) (.tmp 88) 25 rfl wB.heap.size 34 i0 (.agg #[.string ⟨#[]⟩, .string ⟨#[]⟩, .string ⟨#[]⟩]) 3 48 Tryz.underlying25 hi0 hz0 hz1 hz2 rfl (by decide) (.slice va O.length vc) _ _ rfl (HRW3.out.alloc _) ⟨w5.heap.size, 0, none⟩ 1 1 [.string pc, .string wc, .string ic] rfl rfl (cellNew3 _ _ _ _ _) (one3 rfl rfl rfl) (by unfold maxLen; omega) (by omega) (by rw [World.size_alloc]; omega) ?_; intro v' w9 hown' hgrow _; have HOWN := hid hown'; have HGR := hid hgrow; clear hown' hgrow)
           | go_in)
          have HRG9 := hid ((HRG3.out.alloc _).kept HGR.out (fun e => by have := (HRW3.out.lt m e.symm).1; omega) (row_ne_iter HRW3.out HRG3.out))
          have HO9 : Hid (w9.ownsRow wB.heap.size 34 3 v' (O ++ [(⟨pc, wc, ic⟩ : Ch)]).length ((O ++ [(⟨pc, wc, ic⟩ : Ch)]).flatMap chCs)) := by
           have h := HOWN.out
           rw [List.flatMap_append, List.length_append]
           exact h
          have HB9 : Hid (Below wB.heap.size wB w9) := below_grown1 HB3'.out HRW3.out _ hs3 HGR.out
          go_roundw
          case rel => first | exact ⟨_, cnt2, ss ++ [x], O ++ [⟨pc, wc, ic⟩], HRG9, by show _ ≤ _; have := HLT.out; rw [List.length_append]; simp only [List.length_cons, List.length_nil]; omega, HO9, HC2, HB9, HIN2, HND2, by rw [List.length_append, List.length_append]; exact Nat.succ_le_succ hOs⟩ | ((repeat apply Exists.intro); exact ⟨⟨_, cnt2, ss ++ [x], O ++ [⟨pc, wc, ic⟩], HRG9, by show _ ≤ _; have := HLT.out; rw [List.length_append]; simp only [List.length_cons, List.length_nil]; omega, HO9, HC2, HB9, HIN2, HND2, by rw [List.length_append, List.length_append]; exact Nat.succ_le_succ hOs⟩, rfl⟩)
          case measure => rw [HRG9.out.left_eq, HRG.out.left_eq]; exact HLT.out
  ·have HRES : Hid (DiffOut G ia ib w (.returned (.tuple #[.slice none 0 0, .int .i64 e2])) w2) := by
    refine ⟨none, 0, 0, [], e2, rfl, ⟨rfl, by omega, .inl rfl⟩, HB2.out, ?_⟩
    rw [HL1.out, HL2.out]
    simp [he2]
   go_wp2_with fail
   go_ret2
   exact HRES.out
 ·have HRES : Hid (DiffOut G ia ib w (.returned (.tuple #[.slice none 0 0, .int .i64 e1])) w1) := by
   refine ⟨none, 0, 0, [], e1, rfl, ⟨rfl, by omega, .inl rfl⟩, HB1.out, ?_⟩
   rw [HL1.out]
   simp [he1]
  go_wp2_with fail
  go_ret2
  exact HRES.out
end Go.Proofs.YtmpjdoiogbbcoaaGreatDoor
/- awake(): the answers that the document fixes by number (by the general walk of Log). -/
namespace Go.Proofs.YtmpjdoiogbbcoaaGreatDoor
open Go.RowKit Book Pap Ojt Sn
set_option linter.unusedVariables false
set_option linter.unusedSimpArgs false

theorem src_small {l : List Fi} (h : ∀ f ∈ l, f.data.size ≤ 1000000000) : SrcSz (getF l) := fun id t ht => by
 unfold getF at ht
 cases hf : l.find? (fun f => decide (f.path = id)) with
 | none => rw [hf] at ht; cases ht
 | some f =>
  rw [hf] at ht
  cases ht
  exact h f (List.mem_of_find?_eq_some hf)
theorem items_small {l : List ByteArray} (h : ∀ s ∈ l, s.size ≤ 1000000000) : SrcSz (getF (itemsS l)) := src_small (fun f hf => by
 unfold itemsS at hf
 obtain ⟨t, ht, rfl⟩ := List.mem_map.1 hf
 exact h t ht)
set_option maxRecDepth 100000 in
set_option maxHeartbeats 16000000 in
theorem awakeG_any (w : World) (hm : MaxAt w) : Calls Tryz.prog 5 #[] w fun e w' => e = .returned (.bool true) ∧ Below w.heap.size w w' := by
 have HM := hid hm
 have HB0 : Hid (Below w.heap.size w ((w.alloc (.cells #[.slice none 0 0] 31)).alloc (.cells #[.string ⟨#[98]⟩, .string ⟨#[50]⟩, .string ⟨#[97, 47, 120]⟩, .string ⟨#[49]⟩] 71))) := ((Below.refl _ _).alloc (Nat.le_refl _) _).alloc (by rw [World.size_alloc]; omega) _
 have HBK : Hid (BookAt ((w.alloc (.cells #[.slice none 0 0] 31)).alloc (.cells #[.string ⟨#[98]⟩, .string ⟨#[50]⟩, .string ⟨#[97, 47, 120]⟩, .string ⟨#[49]⟩] 71)) w.heap.size []) := ⟨none, 0, 0, Blk.alloc (Blk.new w _ _) _, rfl, by omega, .inl rfl⟩
 have HFS : Hid (FisAt ((w.alloc (.cells #[.slice none 0 0] 31)).alloc (.cells #[.string ⟨#[98]⟩, .string ⟨#[50]⟩, .string ⟨#[97, 47, 120]⟩, .string ⟨#[49]⟩] 71)) (some ⟨w.heap.size + 1, 0, none⟩) 2 awF) := by
  have hb : Blk ((w.alloc (.cells #[.slice none 0 0] 31)).alloc (.cells #[.string ⟨#[98]⟩, .string ⟨#[50]⟩, .string ⟨#[97, 47, 120]⟩, .string ⟨#[49]⟩] 71)) (w.heap.size + 1) 71 #[.string ⟨#[98]⟩, .string ⟨#[50]⟩, .string ⟨#[97, 47, 120]⟩, .string ⟨#[49]⟩] := by
   have := Blk.new (w.alloc (.cells #[.slice none 0 0] 31)) 71 #[.string ⟨#[98]⟩, .string ⟨#[50]⟩, .string ⟨#[97, 47, 120]⟩, .string ⟨#[49]⟩]
   rw [World.size_alloc] at this; exact this
  refine ⟨rfl, by omega, .inr ⟨w.heap.size + 1, 0, rfl, fun j hj => ?_⟩⟩
  rcases (by omega : j = 0 ∨ j = 1) with rfl | rfl
  ·exact ⟨Blk.cell hb 0, Blk.cell hb 1⟩
  ·exact ⟨Blk.cell hb 2, Blk.cell hb 3⟩
 have HCO := hid (commit_any 29 (.pointer (some ⟨w.heap.size, 0, none⟩)) (getF []) (fun id t h => by cases h) (some ⟨w.heap.size + 1, 0, none⟩) 2 2 awF none 0 0 [] ⟨#[110]⟩ _ (book_src _ _ _ HBK.out) HFS.out (fun f hf => by unfold awF at hf; simp only [List.mem_cons, List.not_mem_nil, or_false] at hf; rcases hf with rfl | rfl <;> (constructor <;> decide)) ⟨rfl, by omega, .inl rfl⟩ (by decide) (HM.out.later HB0.out))
 have e0 : commitS (getF []) awF [] ⟨#[110]⟩ = awR := rfl
 rw [e0] at HCO
 obtain ⟨⟨⟨L, I⟩, er⟩, hr⟩ : ∃ r, awR = r := ⟨_, rfl⟩
 have HER : Hid (er = 0) := by have := aw_err; rw [hr] at this; exact this
 have HLL : Hid (awL = L) := by show awR.1.1 = L; rw [hr]
 have HII : Hid (awI = I) := by show awR.1.2 = I; rw [hr]
 rw [hr] at HCO
 clear hr e0 hm
 go_enter Tryz.func5, Tryz.ntmps5
 go_wp2_with fail
 generalize ((w.alloc (.cells #[.slice none 0 0] 31)).alloc (.cells #[.string ⟨#[98]⟩, .string ⟨#[50]⟩, .string ⟨#[97, 47, 120]⟩, .string ⟨#[49]⟩] 71)) = w1 at HB0 HBK HFS HCO ⊢
 refine HCO.out.mono ?_; rintro e w2 ⟨hb2, v, rfl, ho2⟩
 have hl5 : L.length = 5 := by rw [← HLL.out]; exact aw_len
 simp only at ho2
 rw [hl5] at ho2
 obtain ⟨la, lc, rfl, hst⟩ := own_strs (l := L) (by rw [hl5]; exact ho2) (by omega)
 rw [hl5] at hst
 have HST := hid hst
 have HB2 : Hid (Below w.heap.size w w2) := HB0.out.trans (hb2.mono HB0.out.size)
 obtain ⟨lb, loff, rfl, hc⟩ := hst.2.2.resolve_left (by omega)
 have q0 := hc 0 (by omega)
 have q2 := hc 2 (by omega)
 have g0 : L.getD 0 ByteArray.empty = ⟨#[1, 49]⟩ := by rw [← HLL.out]; exact aw_0
 have g2 : L.getD 2 ByteArray.empty = ⟨#[1, 50]⟩ := by rw [← HLL.out]; exact aw_2
 rw [g0, Nat.add_zero] at q0
 rw [g2] at q2
 have HSZ : Hid (∀ s ∈ L, s.size ≤ 1000000000) := fun s hs => by rw [← HLL.out] at hs; have := aw_sz s hs; omega
 have HIT := hid (items_any (some ⟨lb, loff, none⟩) 5 lc L w2 hst (by omega) HSZ.out)
 have her := HER.out
 rw [hl5]
 subst her
 clear hst ho2 hb2 hc g0 g2 hl5 HCO HER HBK HFS HB0
 go_wp2_with (go_at_call 26; refine HIT.out.mono ?_; rintro e w3 ⟨ia, ic, rfl, ho3, hb3⟩; have HO3 := hid ho3; have HB3 : Hid (Below w.heap.size w w3) := (below_then HB2.out hb3); clear ho3 hb3)
 have HS4 : Hid (SrcAt (w3.alloc (.cells #[.slice ia 5 ic] 31)) 29 (.pointer (some ⟨w3.heap.size, 0, none⟩)) awG) := by
  obtain ⟨ia', ic', he, hF⟩ := own_items HO3.out (by omega)
  injection he with e1 e2 e3
  subst e1; subst e3
  have hbk : BookAt (w3.alloc (.cells #[.slice ia 5 ic] 31)) w3.heap.size (itemsS L) := ⟨ia, 5, ic, Blk.new w3 _ _, hF.later ((Below.refl _ _).alloc (Nat.le_refl _) _)⟩
  have h := book_src w3.heap.size (itemsS L) _ hbk
  have e : getF (itemsS L) = awG := by show _ = getF (itemsS awL); rw [HLL.out]
  rw [e] at h
  exact h
 have HB4 : Hid (Below w.heap.size w (w3.alloc (.cells #[.slice ia 5 ic] 31))) := HB3.out.alloc HB3.out.size _
 have HZG : Hid (SrcSz awG) := items_small (fun s hs => by have := aw_sz s hs; omega)
 clear HO3 HB3 HIT HB2 q0 q2 HST
 generalize (w3.alloc (.cells #[.slice ia 5 ic] 31)) = w4 at HS4 HB4 ⊢
 generalize w3.heap.size = bb at HS4 ⊢
 have hI : awI = I := HII.out
 -- Files
 have HFI := hid (files_any 29 (.pointer (some ⟨bb, 0, none⟩)) awG HZG.out awI w4 HS4.out)
 rw [aw_files, hI] at HFI
 refine HFI.out.mono ?_; rintro e w5 ⟨fa, fn, fc, rfl, hF, hb5, -, -, -⟩
 obtain rfl : fn = 2 := hF.1.symm
 have HF5 := hid hF
 have HB5 : Hid (Below w.heap.size w w5) := below_then HB4.out hb5
 have HS5 : Hid (SrcAt w5 29 (.pointer (some ⟨bb, 0, none⟩)) awG) := HS4.out.later hb5
 clear hF hb5 HFI HS4 HB4
 -- Find
 have HFD := hid (find_any 29 (.pointer (some ⟨bb, 0, none⟩)) awG HZG.out awI ⟨#[97, 47, 120]⟩ w5 HS5.out (by decide) (HM.out.later HB5.out))
 have hfd := aw_find
 obtain ⟨⟨⟨xn, xk, xi⟩, xe⟩, hx⟩ : ∃ r, findS awG awI ⟨#[97, 47, 120]⟩ = r := ⟨_, rfl⟩
 rw [hx] at HFD hfd
 obtain ⟨h1, h2⟩ := hfd
 simp only at h1 h2
 subst h1; subst h2
 rw [hI] at HFD
 clear hx
 go_wp2_with fail
 refine HFD.out.mono ?_; rintro e w6 ⟨rfl, hb6⟩
 simp only [entCs]
 have HF6 : Hid (FisAt w6 fa 2 [⟨⟨#[97, 47, 120]⟩, ⟨#[49]⟩⟩, ⟨⟨#[98]⟩, ⟨#[50]⟩⟩]) := HF5.out.later hb6
 have HB6 : Hid (Below w.heap.size w w6) := below_then HB5.out hb6
 have HS6 : Hid (SrcAt w6 29 (.pointer (some ⟨bb, 0, none⟩)) awG) := HS5.out.later hb6
 clear hb6 HFD HF5 HB5 HS5
 have hb7 : Below w6.heap.size w6 (w6.alloc (.cells #[.string ⟨#[120]⟩, .int .i64 xk, .string xi] 76)) := (Below.refl _ _).alloc (Nat.le_refl _) _
 have HX7 : Hid (Blk (w6.alloc (.cells #[.string ⟨#[120]⟩, .int .i64 xk, .string xi] 76)) w6.heap.size 76 #[.string ⟨#[120]⟩, .int .i64 xk, .string xi]) := Blk.new w6 _ _
 have HF7 := hid (HF6.out.later hb7)
 have HS7 := hid (HS6.out.later hb7)
 have HB7 := hid (below_then HB6.out hb7)
 clear hb7 HF6 HS6 HB6
 go_upto_region 7 with fail
 generalize (w6.alloc (.cells #[.string ⟨#[120]⟩, .int .i64 xk, .string xi] 76)) = w7 at HX7 HF7 HS7 HB7 ⊢
 generalize w6.heap.size = xb at HX7 ⊢
 -- Log
 have hlk := aw_look
 obtain ⟨⟨X, xe⟩, hx⟩ : ∃ r, lookK awG awI 3 21 = r := ⟨_, rfl⟩
 rw [hx] at hlk
 obtain ⟨h1, h2, h3⟩ := hlk
 simp only at h1 h2 h3
 subst h1
 have HLG := hid (slog_any 29 (.pointer (some ⟨bb, 0, none⟩)) awG HZG.out awI (by have := aw_id; unfold maxLen; omega) _ (univ_of (itemsS awL) (by unfold itemsS; rw [List.length_map, aw_len]; omega) awI) w7 HS7.out)
 have HRT : Hid (∀ er S, SLogIs awG awI er S → er = 0 ∧ S = [awI]) := fun er S h => slog_root hx h2 h3 h
 rw [hI] at HLG HRT
 clear hx h2 h3
 go_wp2_with fail
 refine HLG.out.mono ?_; rintro e w8 ⟨er8, S8, ka, kn, kc, hsl, rfl, hK, hb8⟩
 obtain ⟨rfl, rfl⟩ := HRT.out er8 S8 hsl
 obtain rfl : kn = 1 := hK.1.symm
 clear hsl HRT
 have HK8 := hid hK
 have HX8 : Hid (Blk w8 xb 76 #[.string ⟨#[120]⟩, .int .i64 xk, .string xi]) := (hb8.block xb (Blk.lt HX7.out)).trans HX7.out
 have HF8 := hid (HF7.out.later hb8)
 have HS8 := hid (HS7.out.later hb8)
 have HB8 := hid (below_then HB7.out hb8)
 clear hK hb8 HX7 HF7 HS7 HB7 HLG
 -- Diff
 have HDI := hid (diff_any 29 (.pointer (some ⟨bb, 0, none⟩)) awG HZG.out awI awI w8 HS8.out (HM.out.later HB8.out))
 have HDE : Hid (∀ (D : List Ch) (er : Int), (if (listS awG awI).2 ≠ 0 then er = (listS awG awI).2 ∧ D = [] else if (listS awG awI).2 ≠ 0 then er = (listS awG awI).2 ∧ D = [] else er = 0 ∧ IsDiff (listS awG awI).1 (listS awG awI).1 D) → er = 0 ∧ D = []) := fun D er h => by
  rw [aw_list, if_neg (by simp), if_neg (by simp)] at h
  exact ⟨h.1, aw_diff h.2⟩
 unfold DiffOut at HDI
 rw [hI] at HDI HDE
 go_wp2_with fail
 refine HDI.out.mono ?_; rintro e w9 ⟨da, dn, dc, D, de, rfl, hD, hb9, hde⟩
 obtain ⟨rfl, rfl⟩ := HDE.out D de hde
 obtain rfl : dn = 0 := hD.1.symm
 have HK9 := hid (HK8.out.later hb9)
 have HX9 : Hid (Blk w9 xb 76 #[.string ⟨#[120]⟩, .int .i64 xk, .string xi]) := (hb9.block xb (Blk.lt HX8.out)).trans HX8.out
 have HF9 := hid (HF8.out.later hb9)
 have HS9 := hid (HS8.out.later hb9)
 have HB9 := hid (below_then HB8.out hb9)
 clear hD hb9 hde HK8 HX8 HF8 HS8 HB8 HDI HDE
 -- Files of nothing
 have HFN := hid (files_any 29 (.pointer (some ⟨bb, 0, none⟩)) awG HZG.out ⟨#[120]⟩ w9 HS9.out)
 obtain ⟨⟨ML, me⟩, hmr⟩ : ∃ r, filesS awG ⟨#[120]⟩ = r := ⟨_, rfl⟩
 have hme := aw_none
 rw [hmr] at HFN hme
 simp only at hme
 subst hme
 clear hmr
 go_wp2_with fail
 refine HFN.out.mono ?_; rintro e wx ⟨ma, mn, mc, rfl, -, hbx, -, -, -⟩
 have HKX := hid (HK9.out.later hbx)
 have HXX : Hid (Blk wx xb 76 #[.string ⟨#[120]⟩, .int .i64 xk, .string xi]) := (hbx.block xb (Blk.lt HX9.out)).trans HX9.out
 have HFX := hid (HF9.out.later hbx)
 have HBX := hid (below_then HB9.out hbx)
 clear hbx HK9 HX9 HF9 HS9 HB9 HFN
 obtain ⟨fb, foff, rfl, hfc⟩ := HFX.out.2.2.resolve_left (by omega)
 obtain ⟨kb, koff, rfl, hkc⟩ := HKX.out.2.2.resolve_left (by omega)
 obtain ⟨f0, f1⟩ := hfc 0 (by omega)
 have f0 : wx.cell? ⟨fb, foff, none⟩ = some (.string ⟨#[97, 47, 120]⟩) := f0
 have f1 : wx.cell? ⟨fb, foff + 1, none⟩ = some (.string ⟨#[49]⟩) := f1
 have k0 := hkc 0 (by omega)
 have k0 : wx.cell? ⟨kb, koff, none⟩ = some (.string I) := k0
 have x0 : wx.cell? ⟨xb, 0, none⟩ = some (.string ⟨#[120]⟩) := Blk.cell HXX.out 0
 clear hfc hkc HFX HKX HXX
 go_wp2_with fail
 go_ret
 exact ⟨rfl, HBX.out⟩
end Go.Proofs.YtmpjdoiogbbcoaaGreatDoor
/- Layer 15's laws: plain: what Build hands back. -/
namespace Go.Proofs.YtmpjdoiogbbcoaaGreatDoor
open Go.RowKit Book Pap Ojt Sn
set_option linter.unusedVariables false
set_option linter.unusedSimpArgs false

theorem sumF_each {l : List Fi} {m : Nat} (h : sumF l ≤ m) : ∀ f ∈ l, f.path.size ≤ m ∧ f.data.size ≤ m := by
 induction l with
 | nil => intro f hf; cases hf
 | cons x r ih =>
  have e : sumF (x :: r) = x.path.size + x.data.size + sumF r := by unfold sumF; simp
  rw [e] at h
  intro f hf
  rcases List.mem_cons.1 hf with rfl | hf
  ·omega
  ·exact ih (by omega) f hf
end Go.Proofs.YtmpjdoiogbbcoaaGreatDoor
/- The check's table and the check, walked. -/
namespace Go.Proofs.YtmpjdoiogbbcoaaGreatDoor
open Go.RowKit Book
set_option linter.unusedVariables false

end Go.Proofs.YtmpjdoiogbbcoaaGreatDoor
/- The check of bytes, walked. -/
namespace Go.Proofs.YtmpjdoiogbbcoaaGreatDoor
open Go.RowKit Book
set_option linter.unusedVariables false

end Go.Proofs.YtmpjdoiogbbcoaaGreatDoor
/- The reference's numbers, texts, reader and check (layers 1 and 4). -/
namespace Go.Proofs.YtmpjdoiogbbcoaaGreatDoor
open Go.RowKit Book
set_option linter.unusedVariables false

/-! the check, bit by bit -/
theorem bx_mid (l : List UInt8) (k n : Nat) (h : k + n ≤ l.length) : (bx l).extract k (k + n) = bx ((l.drop k).take n) := by
 apply ba_ext
 rw [bx_list, ByteArray.data_extract, Array.toList_extract, bx_list, List.extract_eq_take_drop]
 rw [Nat.add_sub_cancel_left]
/-- the reference's reader in memory: what it has read, and what is left -/
def RrAt (w : World) (b : Nat) (S : List UInt8) (r : Rd) : Prop := ∃ k : Nat, Blk w b 271 #[.string (bx S), .int .i64 k, .bool r.bad] ∧ k ≤ S.length ∧ (r.bad = false → r.rest = S.drop k)
section
variable {w w' : World} {b : Nat} {S : List UInt8} {r : Rd} {F : Nat → Prop}
theorem RrAt.only (h : RrAt w b S r) (ho : Only F w w') (hb : ¬ F b) : RrAt w' b S r := by
 obtain ⟨k, h1, h2⟩ := h
 exact ⟨k, Blk.only h1 ho hb, h2⟩
theorem rrnew_any (s : ByteArray) (w : World) : Calls Tryz.prog 143 #[.string s] w fun e w' => e = .returned (.pointer (some ⟨w.heap.size, 0, none⟩)) ∧ RrAt w' w.heap.size s.data.toList (newR s.data.toList) ∧ Below w.heap.size w w' := by
 go_enter Tryz.func143, Tryz.ntmps143
 go_wp2
 go_ret
 refine ⟨rfl, ⟨0, ?_, Nat.zero_le _, fun _ => rfl⟩, (Below.refl _ _).alloc (Nat.le_refl _) _⟩
 have := Blk.new w 271 #[.string s, .int .i64 0, .bool false]
 rw [bx_back]; exact this
theorem rrtake_any (n : Nat) (h : RrAt w b S r) (hr : S.length ≤ 1000000000000) (hn : n ≤ 4294967296) : Calls Tryz.prog 199 #[.pointer (some ⟨b, 0, none⟩), .int .i64 n] w fun e w' => e = .returned (.string (bx (takeR r n).1)) ∧ RrAt w' b S (takeR r n).2 ∧ Only (· = b) w w' := by
 obtain ⟨k, hb, hk, hrest⟩ := h
 obtain ⟨rest, bad⟩ := r
 have f1 := hb.frozen 1
 have f2 := hb.frozen 2
 simp only at hrest
 have hz := bx_size S
 obtain ⟨y, hy⟩ : ∃ y, bx S = y := ⟨_, rfl⟩
 rw [hy] at hz hb
 have c0 : w.cell? ⟨b, 0, none⟩ = some (.string y) := hb.cell 0
 have c1 : w.cell? ⟨b, 1, none⟩ = some (.int .i64 k) := hb.cell 1
 have c2 : w.cell? ⟨b, 2, none⟩ = some (.bool bad) := hb.cell 2
 have hn0 : ¬ ((n : Int) < 0) := by omega
 have SPOIL : Hid (∀ q, RrAt ((w.drewN q).setCell ⟨b, 2, none⟩ (.bool true)) b S ⟨[], true⟩ ∧ Only (· = b) w ((w.drewN q).setCell ⟨b, 2, none⟩ (.bool true))) := fun q => by
  refine ⟨⟨k, ?_, hk, fun e => by cases e⟩, ((Only.refl (· = b) w).drewN q).setCell (p := ⟨b, 2, none⟩) (.inl rfl) _⟩
  rw [hy]
  have := Blk.set (Blk.drewN hb q) 2 (.bool true)
  simpa using this
 have hnb : decide ((n : Int) < 0) = false := by simp
 have HZ := hid hz
 cases bad
 ·by_cases hgt : rest.length < n
  ·have e : takeR ⟨rest, false⟩ n = ([], ⟨[], true⟩) := by unfold takeR; exact if_pos (.inr hgt)
   rw [e]
   show Calls _ _ _ _ fun e w' => e = .returned (.string ⟨#[]⟩) ∧ _
   have hg : (y.size : Int) - k < n := by
    have := hrest rfl
    rw [this, List.length_drop] at hgt
    omega
   have ew : IntKind.i64.wrap ((y.size : Int) - k) = (y.size : Int) - k := by rw [IntKind.wrap_i64]; omega
   have hgd : decide ((y.size : Int) - k < n) = true := by simpa using hg
   clear hb hrest e hgt hy hz
   go_enter Tryz.func199, Tryz.ntmps199
   go_wp2
   go_quiet (fail)
   go_wp2
   go_ret
   exact ⟨rfl, (SPOIL.out _).1, (SPOIL.out _).2⟩
  ·have e : takeR ⟨rest, false⟩ n = (rest.take n, ⟨rest.drop n, false⟩) := by unfold takeR; exact if_neg (by simp; omega)
   rw [e]
   have hre := hrest rfl
   have hln : k + n ≤ S.length := by rw [hre, List.length_drop] at hgt; omega
   have HY : Hid (y.extract k (k + n) = bx (rest.take n)) := by
    show _ = _
    rw [← hy, hre]; exact bx_mid S k n hln
   have hg : ¬ (y.size : Int) - k < n := by omega
   have ew : IntKind.i64.wrap ((y.size : Int) - k) = (y.size : Int) - k := by rw [IntKind.wrap_i64]; omega
   have hgd : decide ((y.size : Int) - k < n) = false := by simp; omega
   have g1 : (0 : Int) ≤ (k : Int) := by omega
   have g2 : (k : Int) ≤ (k : Int) + n := by omega
   have g3 : (k : Int) + n ≤ (y.size : Int) := by omega
   have FIN : Hid (∀ q, RrAt ((w.drewN q).setCell ⟨b, 1, none⟩ (.int .i64 ((k : Int) + n))) b S ⟨rest.drop n, false⟩ ∧ Only (· = b) w ((w.drewN q).setCell ⟨b, 1, none⟩ (.int .i64 ((k : Int) + n)))) := fun q => by
    refine ⟨⟨k + n, ?_, hln, fun _ => ?_⟩, ((Only.refl (· = b) w).drewN q).setCell (p := ⟨b, 1, none⟩) (.inl rfl) _⟩
    ·rw [hy]
     have := Blk.set (Blk.drewN hb q) 1 (.int .i64 ((k : Int) + n))
     simpa using this
    ·rw [hre, List.drop_drop]
   rw [← HY.out]
   clear hb hrest e hgt hy hre hln hz
   go_enter Tryz.func199, Tryz.ntmps199
   go_wp2
   go_quiet (fail)
   go_wp2
   go_quiet (fail)
   go_wp2
   go_ret
   exact ⟨rfl, (FIN.out _).1, (FIN.out _).2⟩
 ·have e : takeR ⟨rest, true⟩ n = ([], ⟨[], true⟩) := by unfold takeR; exact if_pos (.inl rfl)
  rw [e]
  show Calls _ _ _ _ fun e w' => e = .returned (.string ⟨#[]⟩) ∧ _
  clear hb hrest e hy
  go_enter Tryz.func199, Tryz.ntmps199
  go_wp2
  go_quiet (fail)
  go_wp2
  go_ret
  exact ⟨rfl, (SPOIL.out _).1, (SPOIL.out _).2⟩
theorem RrAt.bad_cell (h : RrAt w b S r) : w.cell? ⟨b, 2, none⟩ = some (.bool r.bad) := by
 obtain ⟨k, h1, -⟩ := h
 exact h1.cell 2
set_option maxRecDepth 100000 in
theorem rrnum_any (h : RrAt w b S r) (hr : S.length ≤ 1000000000000) : Calls Tryz.prog 198 #[.pointer (some ⟨b, 0, none⟩)] w fun e w' => e = .returned (.int .u32 (numR r).1) ∧ RrAt w' b S (numR r).2 ∧ Only (fun k => k = b) w w' := by
 have HT := hid (rrtake_any 4 h hr (by omega))
 unfold numR
 obtain ⟨r2, hr2⟩ : ∃ r2, (takeR r 4).2 = r2 := ⟨_, rfl⟩
 by_cases hb : (takeR r 4).2.bad = true
 ·have e0 : (takeR r 4).1 = [] := by
   unfold takeR at hb ⊢
   split
   ·rfl
   ·rename_i hc; rw [if_neg hc] at hb; cases hb
  rw [e0, hr2] at HT
  rw [e0, hr2]
  rw [hr2] at hb
  show Calls _ _ _ _ fun e w' => e = .returned (.int .u32 0) ∧ _
  clear h hr hr2 e0
  go_enter Tryz.func198, Tryz.ntmps198
  go_wp2_with fail
  refine HT.out.mono ?_; rintro e w1 ⟨rfl, h1, h2⟩
  have H1 := hid h1; have H2 := hid h2
  have c2 : w1.cell? ⟨b, 2, none⟩ = some (.bool true) := by have := h1.bad_cell; rwa [hb] at this
  clear h1 h2 hb
  go_wp2
  go_ret
  exact ⟨rfl, H1.out, H2.out⟩
 ·have hl := takeR_len r 4 (by cases h : (takeR r 4).2.bad; rfl; exact absurd h hb)
  obtain ⟨x0, x1, x2, x3, e⟩ : ∃ x0 x1 x2 x3, (takeR r 4).1 = [x0, x1, x2, x3] := by
   match hq : (takeR r 4).1, hl.1 with
   | [a, b, c, d], _ => exact ⟨a, b, c, d, rfl⟩
  rw [e, hr2] at HT
  rw [e, hr2]
  rw [hr2] at hb
  have hb : r2.bad = false := by cases h : r2.bad; rfl; exact absurd h hb
  obtain ⟨y, hy⟩ : ∃ y, bx [x0, x1, x2, x3] = y := ⟨_, rfl⟩
  have hys : y.size = 4 := by rw [← hy]; rfl
  have y0 : ∀ h, y[0]'h = x0 := by subst hy; exact fun h => rfl
  have y1 : ∀ h, y[1]'h = x1 := by subst hy; exact fun h => rfl
  have y2 : ∀ h, y[2]'h = x2 := by subst hy; exact fun h => rfl
  have y3 : ∀ h, y[3]'h = x3 := by subst hy; exact fun h => rfl
  rw [hy] at HT
  have t0 := x0.toNat_lt; have t1 := x1.toNat_lt; have t2 := x2.toNat_lt; have t3 := x3.toNat_lt
  have hs0 : (0 : Nat) < y.size := by omega
  have hs1 : (1 : Nat) < y.size := by omega
  have hs2 : (2 : Nat) < y.size := by omega
  have hs3 : (3 : Nat) < y.size := by omega
  have g0 : (0 : Int) < y.size := by omega
  have g1 : (1 : Int) < y.size := by omega
  have g2 : (2 : Int) < y.size := by omega
  have g3 : (3 : Int) < y.size := by omega
  clear h hr hr2 e hy hl hys
  go_enter Tryz.func198, Tryz.ntmps198
  go_wp2_with fail
  refine HT.out.mono ?_; rintro e w1 ⟨rfl, h1, h2⟩
  have H1 := hid h1; have H2 := hid h2
  have c2 : w1.cell? ⟨b, 2, none⟩ = some (.bool false) := by have := h1.bad_cell; rwa [hb] at this
  clear h1 h2 hb
  go_wp2
  go_quiet (fail)
  go_wp2
  go_ret
  refine ⟨ret_int ?_, H1.out.only ((Only.refl NoF _).drewN _) (fun e => e), H2.out.drewN _⟩
  show (x0.toNat : Int) + x1.toNat * 256 + x2.toNat * 65536 + x3.toNat * 16777216 = ((x0.toNat + 256 * x1.toNat + 65536 * x2.toNat + 16777216 * x3.toNat : Nat) : Int)
  omega
theorem rrspoil (h : RrAt w b S r) (q : Nat) : RrAt ((w.drewN q).setCell ⟨b, 2, none⟩ (.bool true)) b S ⟨[], true⟩ ∧ Only (· = b) w ((w.drewN q).setCell ⟨b, 2, none⟩ (.bool true)) := by
 obtain ⟨k, hb, hk, -⟩ := h
 refine ⟨⟨k, ?_, hk, fun e => by cases e⟩, ((Only.refl (· = b) w).drewN q).setCell (p := ⟨b, 2, none⟩) (.inl rfl) _⟩
 have := Blk.set (Blk.drewN hb q) 2 (.bool true)
 simpa using this
theorem rrtext_any (most : Nat) (hm : most ≤ 1000000) (h : RrAt w b S r) (hr : S.length ≤ 1000000000000) : Calls Tryz.prog 200 #[.pointer (some ⟨b, 0, none⟩), .int .i64 most] w fun e w' => e = .returned (.string (bx (textR r most).1)) ∧ RrAt w' b S (textR r most).2 ∧ Only (fun k => k = b) w w' := by
 have HN := hid (rrnum_any h hr)
 have hn32 : (numR r).1 < 4294967296 := numV_lt _
 unfold textR
 obtain ⟨n, hn⟩ : ∃ n, (numR r).1 = n := ⟨_, rfl⟩
 obtain ⟨r2, hr2⟩ : ∃ r2, (numR r).2 = r2 := ⟨_, rfl⟩
 rw [hn, hr2] at HN
 rw [hn, hr2]
 rw [hn] at hn32
 have ew : IntKind.i64.wrap (n : Int) = n := by rw [IntKind.wrap_i64]; omega
 by_cases hgt : most < n
 ·rw [if_pos hgt]
  have g : (most : Int) < n := by omega
  have HT : Hid (∀ w', RrAt w' b S ⟨[], true⟩ → Calls Tryz.prog 199 #[.pointer (some ⟨b, 0, none⟩), .int .i64 n] w' fun e w'' => e = .returned (.string (bx (takeR ⟨[], true⟩ n).1)) ∧ RrAt w'' b S (takeR ⟨[], true⟩ n).2 ∧ Only (· = b) w' w'') := fun w' h' => rrtake_any n h' hr (by omega)
  clear h hr hn hr2 hgt
  go_enter Tryz.func200, Tryz.ntmps200
  go_wp2_with fail
  refine HN.out.mono ?_; rintro e w1 ⟨rfl, h1, h2⟩
  have H1 := hid (fun q => rrspoil h1 q)
  have H2 := hid h2
  have c2 : w1.cell? ⟨b, 2, none⟩ = some (.bool r2.bad) := h1.bad_cell
  have f2 : w1.frozen? ⟨b, 2, none⟩ = false := by obtain ⟨k, hb, -⟩ := h1; exact hb.frozen 2
  clear h1 h2
  go_wp2_with fail
  obtain ⟨w2, hw2⟩ : ∃ w2, w1.setCell ⟨b, 2, none⟩ (.bool true) = w2 := ⟨_, rfl⟩
  have H3 : Hid (RrAt w2 b S ⟨[], true⟩ ∧ Only (· = b) w1 w2) := by rw [← hw2]; exact H1.out 0
  rw [hw2]
  refine (HT.out _ H3.out.1).mono ?_; rintro e w3 ⟨rfl, h1, h2⟩
  have H4 := hid h1; have H5 := hid h2
  clear h1 h2 hw2
  go_wp2
  go_ret
  exact ⟨rfl, H4.out, H2.out.then (H3.out.2.then H5.out)⟩
 ·rw [if_neg hgt]
  have g : ¬ (most : Int) < n := by omega
  have HT : Hid (∀ w', RrAt w' b S r2 → Calls Tryz.prog 199 #[.pointer (some ⟨b, 0, none⟩), .int .i64 n] w' fun e w'' => e = .returned (.string (bx (takeR r2 n).1)) ∧ RrAt w'' b S (takeR r2 n).2 ∧ Only (· = b) w' w'') := fun w' h' => rrtake_any n h' hr (by omega)
  clear h hr hn hr2 hgt
  go_enter Tryz.func200, Tryz.ntmps200
  go_wp2_with fail
  refine HN.out.mono ?_; rintro e w1 ⟨rfl, h1, h2⟩
  have H1 := hid h1
  have H2 := hid h2
  clear h1 h2
  go_wp2_with fail
  refine (HT.out _ H1.out).mono ?_; rintro e w3 ⟨rfl, h1, h2⟩
  have H4 := hid h1; have H5 := hid h2
  clear h1 h2
  go_wp2
  go_ret
  exact ⟨rfl, H4.out, H2.out.then H5.out⟩
theorem rrwhole_any (h : RrAt w b S r) : Calls Tryz.prog 146 #[.pointer (some ⟨b, 0, none⟩)] w fun e w' => e = .returned (.bool (wholeR r)) ∧ Below w.heap.size w w' := by
 obtain ⟨k, hb, hk, hrest⟩ := h
 obtain ⟨rest, bad⟩ := r
 simp only at hrest hb
 have hz := bx_size S
 obtain ⟨y, hy⟩ : ∃ y, bx S = y := ⟨_, rfl⟩
 rw [hy] at hz hb
 have c0 : w.cell? ⟨b, 0, none⟩ = some (.string y) := hb.cell 0
 have c1 : w.cell? ⟨b, 1, none⟩ = some (.int .i64 k) := hb.cell 1
 have c2 : w.cell? ⟨b, 2, none⟩ = some (.bool bad) := hb.cell 2
 cases bad
 ·have hre := hrest rfl
  by_cases hkk : k = y.size
  ·have e : wholeR ⟨rest, false⟩ = true := by
    unfold wholeR
    rw [hre, hkk, hz]; simp
   rw [e]
   have hq : ((k : Int) == (y.size : Int)) = true := by simp; omega
   clear hb hrest hre hz hy e hkk
   go_enter Tryz.func146, Tryz.ntmps146
   go_wp2
   go_quiet (fail)
   go_wp2
   go_ret
   exact ⟨by simp_all, below_drewN (Below.refl _ _) _⟩
  ·have e : wholeR ⟨rest, false⟩ = false := by
    unfold wholeR
    rw [hre]
    cases hd : S.drop k
    ·have := congrArg List.length hd
     rw [List.length_drop] at this
     simp at this
     omega
    ·rfl
   rw [e]
   have hq : ((k : Int) == (y.size : Int)) = false := by rw [beq_eq_false_iff_ne]; omega
   clear hb hrest hre hz hy e hkk
   go_enter Tryz.func146, Tryz.ntmps146
   go_wp2
   go_quiet (fail)
   go_wp2
   go_ret
   exact ⟨by simp_all, below_drewN (Below.refl _ _) _⟩
 ·show Calls _ _ _ _ fun e w' => e = .returned (.bool false) ∧ _
  clear hb hrest hz hy
  go_enter Tryz.func146, Tryz.ntmps146
  go_wp2
  go_quiet (fail)
  go_wp2
  go_ret
  exact ⟨by simp_all, below_drewN (Below.refl _ _) _⟩
end
end Go.Proofs.YtmpjdoiogbbcoaaGreatDoor
/- The reference's objects: read from bytes: tree. -/
namespace Go.Proofs.YtmpjdoiogbbcoaaGreatDoor
open Go.RowKit Book Pap Ojt
set_option linter.unusedVariables false
set_option linter.unusedSimpArgs false

/-- a tree that is being read, in memory -/
structure RtAt (w : World) (b : Nat) (S : List UInt8) (g : Nat) (wr : World) (x : Ob) (ev pv : Value) (ri : Rd) : Prop where
 z : Blk wr g 98 (obCs zero (.slice none 0 0) (.slice none 0 0))
 blk : Blk wr (g + 1) 98 (obCs x ev pv)
 ents : wr.ownsRow g 76 3 ev x.ents.length (evals x.ents)
 pars : wr.ownsRow g 9 1 pv x.pars.length (svals x.pars)
 rd : RrAt wr b S ri
 only : Only (· = b) w wr
section
variable {w wr w' : World} {b g : Nat} {S : List UInt8} {x : Ob} {ev pv : Value} {ri : Rd}
theorem RtAt.step (h : RtAt w b S g wr x ev pv ri) {rj : Rd} (hr : RrAt w' b S rj) (ho : Only (· = b) wr w') (hb : b < g) : RtAt w b S g w' x ev pv rj :=
 ⟨h.z.only ho (by omega), h.blk.only ho (by omega), own_only h.ents ho (fun k hk e => by have := (h.ents.lt k hk).1; have e : k = b := e; omega), own_only h.pars ho (fun k hk e => by have := (h.pars.lt k hk).1; have e : k = b := e; omega), hr, h.only.then ho⟩
theorem RtAt.alloc (h : RtAt w b S g wr x ev pv ri) (o : Obj) : RtAt w b S g (wr.alloc o) x ev pv ri :=
 ⟨Blk.alloc h.z _, Blk.alloc h.blk _, h.ents.alloc _, h.pars.alloc _, h.rd.only ((Only.refl NoF _).alloc _) (fun e => e), h.only.alloc _⟩
theorem RtAt.far (h : RtAt w b S g wr x ev pv ri) {g1 o : Nat} (v : Value) (hg : g + 1 < g1) (hw : w.heap.size ≤ g1) (hb : b ≠ g1) (he : ∀ k, ev.ownBlock = some k → k ≠ g1) (hp : ∀ k, pv.ownBlock = some k → k ≠ g1) : RtAt w b S g (wr.setCell ⟨g1, o, none⟩ v) x ev pv ri := by
 have hob : Only (· = g1) wr (wr.setCell ⟨g1, o, none⟩ v) := (Only.refl (· = g1) wr).setCell (p := ⟨g1, o, none⟩) (.inl rfl) _
 exact ⟨h.z.only hob (by omega), h.blk.only hob (by omega), own_only h.ents hob (fun k hk e => he k hk e), own_only h.pars hob (fun k hk e => hp k hk e), h.rd.only hob hb, h.only.setCell (p := ⟨g1, o, none⟩) (.inr hw) _⟩
end
theorem Only.setRow {F : Nat → Prop} {a w : World} (h : Only F a w) {g : Nat} (hg : F g ∨ a.heap.size ≤ g) (cs : Array Value) : Only F a (w.setRow g cs) :=
 ⟨h.os, h.tape, h.output, by rw [setRow_size]; exact h.size, fun k hk hne => (setRow_other _ _ _ _ (by rintro rfl; exact hg.elim hne (by omega))).trans (h.block k hk hne)⟩
theorem RtAt.done {w wr : World} {b g : Nat} {S : List UInt8} {x : Ob} {ev pv : Value} {ri : Rd} (h : RtAt w b S g wr x ev pv ri) (hb : b < g) (hg : w.heap.size ≤ g) :
  Blk (wr.setRow g (obCs x ev pv)) g 98 (obCs x ev pv) ∧ (wr.setRow g (obCs x ev pv)).ownsRow g 76 3 ev x.ents.length (evals x.ents) ∧ (wr.setRow g (obCs x ev pv)).ownsRow g 9 1 pv x.pars.length (svals x.pars) ∧ RrAt (wr.setRow g (obCs x ev pv)) b S ri ∧ Only (· = b) w (wr.setRow g (obCs x ev pv)) := by
 have ho : Only (· = g) wr (wr.setRow g (obCs x ev pv)) := (Only.refl (· = g) wr).setRow (.inl rfl) _
 exact ⟨setRow_heap _ _ _ _ _ _ h.z, own_only h.ents ho (fun k hk e => own_blk_ne h.ents h.z (by decide) (e ▸ hk)), own_only h.pars ho (fun k hk e => own_blk_ne h.pars h.z (by decide) (e ▸ hk)), h.rd.only ho (by omega), h.only.setRow (.inr hg) _⟩
theorem takeR_fst (r : Rd) (n : Nat) : (takeR r n).1.length ≤ r.rest.length := by
 unfold takeR
 split
 ·exact Nat.zero_le _
 ·rw [List.length_take]; omega
theorem bz_size (l : List UInt8) : (bz l).size = l.length := by unfold bz; simp [ByteArray.size]
theorem textR_fst (r : Rd) (m : Nat) : (textR r m).1.length ≤ r.rest.length := by
 unfold textR
 refine Nat.le_trans (takeR_fst _ _) ?_
 split
 ·exact Nat.zero_le _
 ·exact takeR_rest r 4
def treeX (l : List Ent) : Ob := { zero with kind := 2, ents := l }
/-- what tree hands back -/
def RoTreeOut (w : World) (b : Nat) (S : List UInt8) (r : Rd) (e : Ending) (w' : World) : Prop :=
 ∃ l a n c, e = .returned (.agg (obCs (treeX l) (.slice a n c) (.slice none 0 0))) ∧ EntsAt w' a n l ∧ ((treeR r).2.bad = false → l = (treeR r).1) ∧ RrAt w' b S (treeR r).2 ∧ Only (· = b) w w' ∧ l.length ≤ 257 ∧ (∀ e ∈ l, e.name.size ≤ 1000000000) ∧ ∀ k, (Value.slice a n c).ownBlock = some k → w.heap.size ≤ k
theorem RtAt.push {w w8 w9 : World} {b g i vc : Nat} {va : Option Addr} {S : List UInt8} {l : List Ent} {e : Ent} {v' : Value} {ri : Rd} {o : Obj} (h : RtAt w b S g w8 (treeX l) (.slice va i vc) (.slice none 0 0) ri) (hb : b < g) (hg : w.heap.size ≤ g)
  (hown : w9.ownsRow g 76 3 v' (l ++ [e]).length (evals (l ++ [e]))) (hgr : (w8.alloc o).grownBy w9 (Value.slice va i vc).ownBlock) :
  Blk w9 (g + 1) 98 (obCs (treeX l) (.slice va i vc) (.slice none 0 0)) ∧ RtAt w b S g (w9.setCell ⟨g + 1, 2, none⟩ v') (treeX (l ++ [e])) v' (.slice none 0 0) ri := by
 have hgrow : Only (fun k => (Value.slice va i vc).ownBlock = some k) (w8.alloc o) w9 := (Only.refl _ _).grown hgr (fun k hk => .inl hk)
 have hX : Blk w9 (g + 1) 98 (obCs (treeX l) (.slice va i vc) (.slice none 0 0)) := (Blk.alloc h.blk _).grown hgr (fun e => own_blk_ne h.ents h.blk (by decide) e.symm)
 have hZ : Blk w9 g 98 (obCs zero (.slice none 0 0) (.slice none 0 0)) := (Blk.alloc h.z _).grown hgr (fun e => own_blk_ne h.ents h.z (by decide) e.symm)
 have hR : RrAt w9 b S ri := ((h.rd.only ((Only.refl NoF _).alloc o) (fun e => e)).only hgrow (fun e => by have := (h.ents.lt b e).1; omega))
 have hO : Only (· = b) w w9 := (h.only.alloc o).grown hgr (fun k hk => .inr (by have := (h.ents.lt k hk).1; omega))
 have ho : Only (· = g + 1) w9 (w9.setCell ⟨g + 1, 2, none⟩ v') := (Only.refl (· = g + 1) w9).setCell (p := ⟨g + 1, 2, none⟩) (.inl rfl) _
 refine ⟨hX, hZ.only ho (by omega), ?_, own_only hown ho (fun k hk e => own_blk_ne hown hX (by decide) (e ▸ hk)), World.ownsRow_nil _ _ _ _, hR.only ho (by omega), hO.setCell (p := ⟨g + 1, 2, none⟩) (.inr (by show w.heap.size ≤ g + 1; omega)) _⟩
 have := Blk.set hX 2 v'
 exact this
theorem treeX_cs (l : List Ent) (ev : Value) : obCs (treeX l) ev (.slice none 0 0) = #[.int .i64 2, .string ⟨#[]⟩, ev, .string ⟨#[]⟩, .slice none 0 0, .int .i64 0, .string ⟨#[]⟩] := rfl
theorem rotree_results (tmps : Array Value) (g : Nat) (x : Ob) (ev pv : Value) (w : World) (h2 : tmps.getD 2 undef = .pointer (some ⟨g, 0, none⟩)) (H : Blk w g 98 (obCs x ev pv)) : (results Tryz.f144 tmps).run Tryz.prog w = .ok (.agg (obCs x ev pv)) w := by
 have c0 : w.cell? ⟨g, 0, none⟩ = some (.int .i64 x.kind) := Blk.cell H 0
 have c1 : w.cell? ⟨g, 1, none⟩ = some (.string x.data) := Blk.cell H 1
 have c2 : w.cell? ⟨g, 2, none⟩ = some ev := Blk.cell H 2
 have c3 : w.cell? ⟨g, 3, none⟩ = some (.string x.tree) := Blk.cell H 3
 have c4 : w.cell? ⟨g, 4, none⟩ = some pv := Blk.cell H 4
 have c5 : w.cell? ⟨g, 5, none⟩ = some (.int .i64 x.height) := Blk.cell H 5
 have c6 : w.cell? ⟨g, 6, none⟩ = some (.string x.note) := Blk.cell H 6
 have h2' : tmps[2]?.getD undef = .pointer (some ⟨g, 0, none⟩) := by simpa using h2
 simp [results, Tryz.results144, go_sem, h2', c0, c1, c2, c3, c4, c5, c6, obCs]
set_option maxRecDepth 100000 in
set_option maxHeartbeats 16000000 in
theorem rotree_any (b : Nat) (S : List UInt8) (r : Rd) (w : World) (h : RrAt w b S r) (hS : S.length ≤ 1000000000) (hr : r.rest.length ≤ 1000000000) : Calls Tryz.prog 144 #[.pointer (some ⟨b, 0, none⟩)] w (RoTreeOut w b S r) := by
  obtain ⟨i0, hi0, hz0, hz1, hz2⟩ := info_parts Tryz.infoEnt
  have hbw : b < w.heap.size := by obtain ⟨k, hb, -⟩ := h; exact Blk.lt hb
  have HT1 : Hid (RtAt w b S w.heap.size ((w.alloc (.cells (obCs zero (.slice none 0 0) (.slice none 0 0)) 98)).alloc (.cells (obCs (treeX []) (.slice none 0 0) (.slice none 0 0)) 98)) (treeX []) (.slice none 0 0) (.slice none 0 0) r) := by
    refine ⟨Blk.alloc (Blk.new w _ _) _, ?_, World.ownsRow_nil _ _ _ _, World.ownsRow_nil _ _ _ _, (h.only ((Only.refl NoF _).alloc _) (fun e => e)).only ((Only.refl NoF _).alloc _) (fun e => e), ((Only.refl _ _).alloc _).alloc _⟩
    have := Blk.new (w.alloc (.cells (obCs zero (.slice none 0 0) (.slice none 0 0)) 98)) 98 (obCs (treeX []) (.slice none 0 0) (.slice none 0 0))
    rw [World.size_alloc] at this; exact this
  have hn32 : (numR r).1 < 4294967296 := numV_lt _
  have hrl : (numR r).2.rest.length ≤ 1000000000 := Nat.le_trans (takeR_rest r 4) hr
  have HTT : Hid (treeR r = entsR (numR r).1 (spoil (numR r).2 (numR r).1 256)) := rfl
  rw [zero_cs, treeX_cs] at HT1
  clear h
  go_enter Tryz.func144, Tryz.ntmps144
  go_upto_region 2 with fail
  generalize ((w.alloc (.cells #[.int .i64 0, .string ⟨#[]⟩, .slice none 0 0, .string ⟨#[]⟩, .slice none 0 0, .int .i64 0, .string ⟨#[]⟩] 98)).alloc (.cells #[.int .i64 2, .string ⟨#[]⟩, .slice none 0 0, .string ⟨#[]⟩, .slice none 0 0, .int .i64 0, .string ⟨#[]⟩] 98)) = w2 at HT1 ⊢
  obtain ⟨g, hg⟩ : ∃ g, w.heap.size = g := ⟨_, rfl⟩
  have HG := hid hg
  rw [hg] at HT1 hbw ⊢
  clear hg
  have HNUM := hid (rrnum_any HT1.out.rd (by omega))
  obtain ⟨n, hn⟩ : ∃ n, (numR r).1 = n := ⟨_, rfl⟩
  obtain ⟨r2, hr2⟩ : ∃ x, (numR r).2 = x := ⟨_, rfl⟩
  rw [hn, hr2] at HNUM HTT
  rw [hn] at hn32
  rw [hr2] at hrl
  clear hn hr2
  have ewn : IntKind.i64.wrap (n : Int) = n := by rw [IntKind.wrap_i64]; omega
  go_wp2_with fail
  refine HNUM.out.mono ?_; rintro e w3 ⟨rfl, hs, ho⟩
  have HT3 := hid (HT1.out.step hs ho hbw)
  clear hs ho HNUM HT1
  go_upto_block 0 with fail
  clear ewn
  go_cut [5] (fun s5 wx => ∃ (l : List Ent) (ri : Rd) (a : Option Addr) (m c : Nat) (k : Int), s5 = .int .i64 k ∧ Hid (l.length = m ∧ m ≤ 257) ∧ Hid (RtAt w b S g wx (treeX l) (.slice a m c) (.slice none 0 0) ri) ∧ Hid (n ≤ 256 → entsR n r2 = (l, ri)) ∧ Hid (∀ e ∈ l, e.name.size ≤ 1000000000))
  case first =>
    go_wp2_with fail
    go_loopw [5] (fun iv wr => ∃ (i : Nat) (l : List Ent) (ri : Rd) (a : Option Addr) (c : Nat), i ≤ n ∧ i ≤ 257 ∧ iv = .int .i64 i ∧ Hid (l.length = i) ∧ Hid (RtAt w b S g wr (treeX l) (.slice a i c) (.slice none 0 0) ri) ∧ Hid (ri.rest.length ≤ 1000000000) ∧ Hid (n ≤ 256 → entsR n r2 = (l ++ (entsR (n - i) ri).1, (entsR (n - i) ri).2)) ∧ Hid (∀ e ∈ l, e.name.size ≤ 1000000000)) (fun iv _ => 257 - (intOf iv).toNat)
    case atStart => exact ⟨0, [], r2, none, 0, Nat.zero_le _, by omega, rfl, rfl, HT3, hrl, fun _ => rfl, fun e he => by cases he⟩
    case round =>
      obtain ⟨i, l, ri, va, vc, hi, hi7, rfl, HL, HT, HRl, HE, HNM⟩ := hrel
      have kb : wr.cell? ⟨b, 2, none⟩ = some (.bool ri.bad) := HT.out.rd.bad_cell
      by_cases hlt : i < n
      · have ci : (i : Int) < n := by omega
        by_cases h257 : i < 257
        · have c7 : (i : Int) < 257 := by omega
          obtain ⟨bad, hbad⟩ : ∃ q, ri.bad = q := ⟨_, rfl⟩
          rw [hbad] at kb
          cases bad
          · have HST : Hid (entsR (n - i) ri = ((entR ri).1 :: (entsR (n - (i + 1)) (entR ri).2).1, (entsR (n - (i + 1)) (entR ri).2).2)) := by
              show _ = _
              rw [show n - i = (n - (i + 1)) + 1 by omega]
              exact entsR_step hbad
            clear hbad
            have HNO : Hid (∀ k, (Value.slice va i vc).ownBlock = some k → g ≤ k ∧ k < wr.heap.size) := fun k hk => HT.out.ents.lt k hk
            have hgw : g + 1 < wr.heap.size := Blk.lt HT.out.blk
            go_upto_region 7 with fail
            have HX1 : Hid (Blk (wr.alloc (.cells #[.string ⟨#[]⟩, .int .i64 0, .string ⟨#[]⟩] 76)) wr.heap.size 76 #[.string ⟨#[]⟩, .int .i64 0, .string ⟨#[]⟩]) := Blk.new wr _ _
            have HT1 := hid (HT.out.alloc (.cells #[.string ⟨#[]⟩, .int .i64 0, .string ⟨#[]⟩] 76))
            clear kb HT
            generalize (wr.alloc (.cells #[.string ⟨#[]⟩, .int .i64 0, .string ⟨#[]⟩] 76)) = w3 at HX1 HT1 ⊢
            generalize wr.heap.size = g1 at HX1 HNO hgw ⊢
            have hgs : w.heap.size ≤ g1 := by have := HG.out; omega
            have HEN : Hid ((entR ri).1 = ⟨bz (textR (kindR ri).2 255).1, (kindR ri).1, bz (takeR (textR (kindR ri).2 255).2 32).1⟩ ∧ (entR ri).2 = (takeR (textR (kindR ri).2 255).2 32).2) := ⟨rfl, rfl⟩
            have HK : Hid ((kindR ri).1 = (((takeR ri 1).1.headD 0).toNat : Int) ∧ (kindR ri).2 = (takeR ri 1).2) := ⟨rfl, rfl⟩
            obtain ⟨rk, hrk⟩ : ∃ x, (takeR ri 1).2 = x := ⟨_, rfl⟩
            have HRK := hid hrk
            have hrkl : rk.rest.length ≤ 1000000000 := by rw [← hrk]; exact Nat.le_trans (takeR_rest ri 1) HRl.out
            obtain ⟨kd, hkd⟩ : ∃ x, (kindR ri).1 = x := ⟨_, rfl⟩
            rw [hkd] at HEN HK
            have CT := hid (rrtake_any 1 HT1.out.rd (by omega) (by omega))
            rw [hrk] at CT
            clear hrk hkd
            rcases takeR_one ri with e | ⟨x, e⟩
            all_goals first
              | (have hk0 : kd = 0 := by rw [HK.out.1, e]; rfl
                 rw [e] at CT
                 have CT2 : Hid (Calls Tryz.prog 199 #[.pointer (some ⟨b, 0, none⟩), .int .i64 1] w3 fun e w' => e = .returned (.string ⟨#[]⟩) ∧ RrAt w' b S rk ∧ Only (· = b) w3 w') := CT
                 clear CT e
                 go_wp2_with fail
                 refine CT2.out.mono ?_; rintro e w4 ⟨rfl, hs, ho⟩
                 have HT5 := hid (HT1.out.step hs ho hbw)
                 have HX5 : Hid (Blk w4 g1 76 #[.string ⟨#[]⟩, .int .i64 kd, .string ⟨#[]⟩]) := by rw [hk0]; exact HX1.out.only ho (by omega)
                 clear hk0
                 clear hs ho CT2
                 go_upto_region 10 with fail
                 obtain ⟨wc, rfl⟩ : ∃ wc : World, wc = w4 := ⟨_, rfl⟩)
              | (have hk0 : kd = (x.toNat : Int) := by rw [HK.out.1, e]; rfl
                 rw [e] at CT
                 obtain ⟨y, hy⟩ : ∃ y, bx [x] = y := ⟨_, rfl⟩
                 have hys : y.size = 1 := by rw [← hy]; rfl
                 have hyi : ((y.size : Int) == 1) = true := by rw [hys]; rfl
                 have hyl : (0 : Int) < y.size := by omega
                 have hyn : 0 < y.size := by omega
                 have hxl : x.toNat < 256 := x.toNat_lt
                 have hxi : (x.toNat : Int) ≤ 255 := by omega
                 have hxi0 : (0 : Int) ≤ (x.toNat : Int) := by omega
                 have hy4 : y[0]? = some x := by rw [← hy]; rfl
                 have hy0 : ∀ h : 0 < y.size, y[0]'h = x := fun h => by subst hy; rfl
                 have exw : IntKind.i64.wrap (x.toNat : Int) = (x.toNat : Int) := by rw [IntKind.wrap_i64]; omega
                 rw [hy] at CT
                 have HYS := hid hys
                 clear hy e hys
                 go_wp2_with fail
                 refine CT.out.mono ?_; rintro e w4 ⟨rfl, hs, ho⟩
                 have HT4 := hid (HT1.out.step hs ho hbw)
                 have hx4 := HX1.out.only ho (by omega)
                 have HX4 := hid hx4
                 have k1 := Blk.cell hx4 1
                 have f1 := Blk.frozen hx4 1
                 simp at k1
                 clear hs ho CT hx4
                 go_upto_region 10 with fail
                 have HX5 : Hid (Blk (w4.setCell ⟨g1, 1, none⟩ (.int .i64 (x.toNat : Int))) g1 76 #[.string ⟨#[]⟩, .int .i64 kd, .string ⟨#[]⟩]) := by
                   have := Blk.set HX4.out 1 (.int .i64 (x.toNat : Int))
                   rw [hk0]
                   show Blk _ _ _ _
                   simpa using this
                 have HT5 := hid (HT4.out.far (g1 := g1) (o := 1) (.int .i64 (x.toNat : Int)) hgw hgs (by omega) (fun k hk => by have := (HNO.out k hk).2; omega) (fun k hk => by simp [Value.ownBlock] at hk))
                 clear k1 f1 HX4 HT4 hy0 hy4 hyi hyl hyn exw HYS
                 generalize w4.setCell ⟨g1, 1, none⟩ (.int .i64 (x.toNat : Int)) = wc at HX5 HT5 ⊢
                 clear hk0)
            all_goals
              clear HX1 HT1
              rw [HK.out.2, HRK.out] at HEN
              obtain ⟨nm, hnm⟩ : ∃ x, bz (textR rk 255).1 = x := ⟨_, rfl⟩
              have hnml : nm.size ≤ 1000000000 := by rw [← hnm, bz_size]; exact Nat.le_trans (textR_fst rk 255) hrkl
              have HTX := hid (rrtext_any 255 (by omega) HT5.out.rd (by omega))
              have hrt : (textR rk 255).2.rest.length ≤ 1000000000 := Nat.le_trans (textR_rest _ _) hrkl
              obtain ⟨rt, hrt2⟩ : ∃ x, (textR rk 255).2 = x := ⟨_, rfl⟩
              have hnm2 : bx (textR rk 255).1 = nm := hnm
              rw [hnm, hrt2] at HEN
              rw [hnm2, hrt2] at HTX
              rw [hrt2] at hrt
              clear hnm hnm2 hrt2 HK HRK
              go_wp2_with fail
              refine HTX.out.mono ?_; rintro e w6 ⟨rfl, hs, ho⟩
              have hx6 := HX5.out.only ho (by omega)
              have k0 := Blk.cell hx6 0
              have f0 := Blk.frozen hx6 0
              simp at k0
              have HX6 : Hid (Blk (w6.setCell ⟨g1, 0, none⟩ (.string nm)) g1 76 #[.string nm, .int .i64 kd, .string ⟨#[]⟩]) := by
                have := Blk.set hx6 0 (.string nm)
                show Blk _ _ _ _
                simpa using this
              have HT6 := hid ((HT5.out.step hs ho hbw).far (g1 := g1) (o := 0) (.string nm) hgw hgs (by omega) (fun k hk => by have := (HNO.out k hk).2; omega) (fun k hk => by simp [Value.ownBlock] at hk))
              have HTK := hid (rrtake_any 32 HT6.out.rd (by omega) (by omega))
              obtain ⟨id, hid1⟩ : ∃ x, bz (takeR rt 32).1 = x := ⟨_, rfl⟩
              have hid2 : bx (takeR rt 32).1 = id := hid1
              have hre : (takeR rt 32).2.rest.length ≤ 1000000000 := Nat.le_trans (takeR_rest _ _) hrt
              obtain ⟨re, hre2⟩ : ∃ x, (takeR rt 32).2 = x := ⟨_, rfl⟩
              rw [hid1, hre2] at HEN
              rw [hid2, hre2] at HTK
              rw [hre2] at hre
              clear hid1 hid2 hre2 hs ho hx6 HX5 HT5 HTX
              go_wp2_with fail
              refine HTK.out.mono ?_; rintro e w7 ⟨rfl, hs, ho⟩
              have hx7 := HX6.out.only ho (by omega)
              clear k0 f0
              have k2 := Blk.cell hx7 2
              have f2 := Blk.frozen hx7 2
              simp at k2
              have HX7 : Hid (Blk (w7.setCell ⟨g1, 2, none⟩ (.string id)) g1 76 #[.string nm, .int .i64 kd, .string id]) := by
                have := Blk.set hx7 2 (.string id)
                show Blk _ _ _ _
                simpa using this
              have HT7 := hid ((HT6.out.step hs ho hbw).far (g1 := g1) (o := 2) (.string id) hgw hgs (by omega) (fun k hk => by have := (HNO.out k hk).2; omega) (fun k hk => by simp [Value.ownBlock] at hk))
              clear hs ho hx7 HX6 HT6 HTK
              go_upto_region 12 with fail
              clear k2 f2
              generalize w7.setCell ⟨g1, 2, none⟩ (.string id) = w8 at HX7 HT7 ⊢
              have k0 : w8.cell? ⟨g1, 0, none⟩ = some (.string nm) := Blk.cell HX7.out 0
              have k1 : w8.cell? ⟨g1, 1, none⟩ = some (.int .i64 kd) := Blk.cell HX7.out 1
              have k2 : w8.cell? ⟨g1, 2, none⟩ = some (.string id) := Blk.cell HX7.out 2
              have x2 : w8.cell? ⟨g + 1, 2, none⟩ = some (.slice va i vc) := Blk.cell HT7.out.blk 2
              have hg8 : g ≤ w8.heap.size := by have := Blk.lt HT7.out.blk; omega
              have HO7 : Hid (w8.ownsRow g 76 3 (.slice va i vc) i (evals l)) := by have h := HT7.out.ents; rw [show (treeX l).ents.length = i from HL.out] at h; exact h
              have HL9 : Hid ((l ++ [(⟨nm, kd, id⟩ : Ent)]).length = i + 1) := by show _ = _; rw [List.length_append, HL.out]; rfl
              go_wp2_with (first
                | (at_builtin; refine wpList_append_own _ rfl (.tmp 45) (.tmp 47) 83 rfl g 76 i0 (.agg #[.string ⟨#[]⟩, .int .i64 0, .string ⟨#[]⟩]) 3 40 Tryz.underlying83 hi0 hz0 hz1 hz2 rfl (by decide) (.slice va i vc) _ _ rfl (HO7.out.alloc _) ⟨w8.heap.size, 0, none⟩ 1 1 [.string nm, .int .i64 kd, .string id] rfl rfl (cellNew3 _ _ _ _ _) (one3 rfl rfl rfl) (by unfold maxLen; omega) (by omega) (by rw [World.size_alloc]; omega) ?_; intro v' w9 hown' hgrow _; obtain ⟨va', vc', hvv', -⟩ := own_slice' hown'; subst hvv'; have HOWN : Hid (w9.ownsRow g 76 3 (.slice va' (i + 1) vc') (l ++ [(⟨nm, kd, id⟩ : Ent)]).length (evals (l ++ [⟨nm, kd, id⟩]))) := (by have h := hown'; rw [HL9.out, evals_append]; exact h); have HPU := hid (HT7.out.push hbw (Nat.le_of_eq HG.out) HOWN.out hgrow); clear hown' hgrow; have f92 := Blk.frozen HPU.out.1 2; have k92 : w9.cell? ⟨g + 1, 2, none⟩ = some (.slice va i vc) := Blk.cell HPU.out.1 2))
              have HE9 : Hid (n ≤ 256 → entsR n r2 = ((l ++ [⟨nm, kd, id⟩]) ++ (entsR (n - (i + 1)) re).1, (entsR (n - (i + 1)) re).2)) := fun h => by
                rw [HE.out h, HST.out, HEN.out.1, HEN.out.2, List.append_assoc]; rfl
              have HN9 : Hid (∀ e ∈ l ++ [(⟨nm, kd, id⟩ : Ent)], e.name.size ≤ 1000000000) := fun e he => by
                rcases List.mem_append.1 he with he | he
                · exact HNM.out e he
                · rw [List.mem_singleton.1 he]; exact hnml
              have HT9 := hid HPU.out.2
              go_roundw
              case rel => first | exact ⟨i + 1, _, re, va', vc', by omega, by omega, by go_num, HL9, HT9, hre, HE9, HN9⟩ | ((repeat apply Exists.intro); exact ⟨⟨i + 1, _, re, va', vc', by omega, by omega, by go_num, HL9, HT9, hre, HE9, HN9⟩, rfl⟩)
              case measure => simp [intOf]; omega
          · have HF : Hid (n ≤ 256 → entsR n r2 = (l, ri)) := fun h => by rw [HE.out h, entsR_bad hbad, List.append_nil]
            clear hbad
            go_wp2_with fail
            go_meet
            case rel => exact ⟨l, ri, va, i, vc, _, rfl, ⟨HL.out, hi7⟩, HT, HF, HNM⟩
        · have c7 : ¬ (i : Int) < 257 := by omega
          go_wp2_with fail
          go_meet
          case rel => exact ⟨l, ri, va, i, vc, _, rfl, ⟨HL.out, hi7⟩, HT, fun h => by omega, HNM⟩
      · obtain rfl : i = n := by omega
        have ci : ¬ (i : Int) < i := by omega
        have HF : Hid (i ≤ 256 → entsR i r2 = (l, ri)) := fun h => by
          rw [HE.out h, Nat.sub_self]
          show (l ++ [], ri) = _
          rw [List.append_nil]
        go_wp2_with fail
        go_meet
        case rel => exact ⟨l, ri, va, i, vc, _, rfl, ⟨HL.out, hi7⟩, HT, HF, HNM⟩
  case rest =>
    obtain ⟨l, ri, va, m, vc, k, rfl, HL, HT, HF, HNM⟩ := hcut
    have HG2 := hid (Nat.le_of_eq HG.out)
    by_cases hgt : 256 < n
    · have c6 : (256 : Int) < n := by omega
      have HTR : Hid (treeR r = ([], ⟨[], true⟩)) := by
        show _ = _
        rw [HTT.out]
        unfold spoil
        rw [if_pos hgt]
        exact entsR_bad rfl
      have kb : wc.cell? ⟨b, 2, none⟩ = some (.bool ri.bad) := HT.out.rd.bad_cell
      have fb : wc.frozen? ⟨b, 2, none⟩ = false := by obtain ⟨k, hb, -⟩ := HT.out.rd; exact hb.frozen 2
      obtain ⟨hsp1, hsp2⟩ := rrspoil HT.out.rd 0
      have HT2 : Hid (RtAt w b S g (wc.setCell ⟨b, 2, none⟩ (.bool true)) (treeX l) (.slice va m vc) (.slice none 0 0) ⟨[], true⟩) := HT.out.step (w' := wc.setCell ⟨b, 2, none⟩ (.bool true)) hsp1 hsp2 hbw
      clear hsp1 hsp2 HTT HT hgt
      go_upto_region 15 with fail
      clear kb fb
      generalize wc.setCell ⟨b, 2, none⟩ (.bool true) = wd at HT2 ⊢
      have j0 : wd.cell? ⟨g + 1, 0, none⟩ = some (.int .i64 2) := Blk.cell HT2.out.blk 0
      have j1 : wd.cell? ⟨g + 1, 1, none⟩ = some (.string ⟨#[]⟩) := Blk.cell HT2.out.blk 1
      have j2 : wd.cell? ⟨g + 1, 2, none⟩ = some (.slice va m vc) := Blk.cell HT2.out.blk 2
      have j3 : wd.cell? ⟨g + 1, 3, none⟩ = some (.string ⟨#[]⟩) := Blk.cell HT2.out.blk 3
      have j4 : wd.cell? ⟨g + 1, 4, none⟩ = some (.slice none 0 0) := Blk.cell HT2.out.blk 4
      have j5 : wd.cell? ⟨g + 1, 5, none⟩ = some (.int .i64 0) := Blk.cell HT2.out.blk 5
      have j6 : wd.cell? ⟨g + 1, 6, none⟩ = some (.string ⟨#[]⟩) := Blk.cell HT2.out.blk 6
      have HDN := hid (HT2.out.done hbw HG2.out)
      have HZ := hid HT2.out.z
      obtain ⟨wz, hwz⟩ : ∃ wz, wd.setRow g (obCs (treeX l) (.slice va m vc) (.slice none 0 0)) = wz := ⟨_, rfl⟩
      have HWZ := hid hwz
      rw [hwz] at HDN
      clear hwz
      go_wp2_with (first
        | (refine wpList_store_row rfl _ (.tmp 2) (.tmp 55) rfl g (obCs (treeX l) (.slice va m vc) (.slice none 0 0)) rfl rfl 98 (obCs zero (.slice none 0 0) (.slice none 0 0)) HZ.out (Tryz.infoObj _ _ _) rfl (obcs_one _ _ _ _ _ _ _) ?_; rw [HWZ.out]))
      go_wp2_with fail
      obtain ⟨d1, d2, d3, d4, d5⟩ := HDN.out
      obtain ⟨a', c', he', hst⟩ := own_ents d2 (by show l.length ≤ _; have := HL.out; omega)
      injection he' with e1 e2 e3
      refine bodyPost_ret (v := .agg (obCs (treeX l) (.slice va m vc) (.slice none 0 0))) ?hr1 rfl ⟨l, va, m, vc, rfl, ?_, ?_, ?_, d5, ?_, HNM.out, ?_⟩
      case hr1 => exact rotree_results _ g _ _ _ wz rfl d1
      · rw [e1, e2]; exact hst
      · rw [HTR.out]; intro h; cases h
      · rw [HTR.out]; exact d4
      · have := HL.out; omega
      · intro k hk; rw [HG.out]; exact (d2.lt k hk).1
    · have c6 : ¬ (256 : Int) < n := by omega
      have HTR : Hid (treeR r = (l, ri)) := by
        show _ = _
        rw [HTT.out]
        unfold spoil
        rw [if_neg hgt]
        exact HF.out (by omega)
      clear HTT HF hgt
      go_upto_region 15 with fail
      have j0 : wc.cell? ⟨g + 1, 0, none⟩ = some (.int .i64 2) := Blk.cell HT.out.blk 0
      have j1 : wc.cell? ⟨g + 1, 1, none⟩ = some (.string ⟨#[]⟩) := Blk.cell HT.out.blk 1
      have j2 : wc.cell? ⟨g + 1, 2, none⟩ = some (.slice va m vc) := Blk.cell HT.out.blk 2
      have j3 : wc.cell? ⟨g + 1, 3, none⟩ = some (.string ⟨#[]⟩) := Blk.cell HT.out.blk 3
      have j4 : wc.cell? ⟨g + 1, 4, none⟩ = some (.slice none 0 0) := Blk.cell HT.out.blk 4
      have j5 : wc.cell? ⟨g + 1, 5, none⟩ = some (.int .i64 0) := Blk.cell HT.out.blk 5
      have j6 : wc.cell? ⟨g + 1, 6, none⟩ = some (.string ⟨#[]⟩) := Blk.cell HT.out.blk 6
      have HDN := hid (HT.out.done hbw HG2.out)
      have HZ := hid HT.out.z
      obtain ⟨wz, hwz⟩ : ∃ wz, wc.setRow g (obCs (treeX l) (.slice va m vc) (.slice none 0 0)) = wz := ⟨_, rfl⟩
      have HWZ := hid hwz
      rw [hwz] at HDN
      clear hwz
      go_wp2_with (first
        | (refine wpList_store_row rfl _ (.tmp 2) (.tmp 55) rfl g (obCs (treeX l) (.slice va m vc) (.slice none 0 0)) rfl rfl 98 (obCs zero (.slice none 0 0) (.slice none 0 0)) HZ.out (Tryz.infoObj _ _ _) rfl (obcs_one _ _ _ _ _ _ _) ?_; rw [HWZ.out]))
      go_wp2_with fail
      obtain ⟨d1, d2, d3, d4, d5⟩ := HDN.out
      obtain ⟨a', c', he', hst⟩ := own_ents d2 (by show l.length ≤ _; have := HL.out; omega)
      injection he' with e1 e2 e3
      refine bodyPost_ret (v := .agg (obCs (treeX l) (.slice va m vc) (.slice none 0 0))) ?hr2 rfl ⟨l, va, m, vc, rfl, ?_, ?_, ?_, d5, ?_, HNM.out, ?_⟩
      case hr2 => exact rotree_results _ g _ _ _ wz rfl d1
      · rw [e1, e2]; exact hst
      · rw [HTR.out]; intro h; rfl
      · rw [HTR.out]; exact d4
      · have := HL.out; omega
      · intro k hk; rw [HG.out]; exact (d2.lt k hk).1
end Go.Proofs.YtmpjdoiogbbcoaaGreatDoor
/- The reference's objects: read from bytes: commit. -/
namespace Go.Proofs.YtmpjdoiogbbcoaaGreatDoor
open Go.RowKit Book Pap Ojt
set_option linter.unusedVariables false
set_option linter.unusedSimpArgs false

def comX (tr : ByteArray) (l : List ByteArray) (h : Int) (nt : ByteArray) : Ob := { zero with kind := 3, tree := tr, pars := l, height := h, note := nt }
theorem comX_cs (tr : ByteArray) (l : List ByteArray) (h : Int) (nt : ByteArray) (pv : Value) : obCs (comX tr l h nt) (.slice none 0 0) pv = #[.int .i64 3, .string ⟨#[]⟩, .slice none 0 0, .string tr, pv, .int .i64 h, .string nt] := rfl
def comRd (r : Rd) : Rd := (textR (numR (parsR (takeR r 32).2).2).2 1000).2
def comOb (r : Rd) : Ob := comX (bz (takeR r 32).1) (parsR (takeR r 32).2).1 (numR (parsR (takeR r 32).2).2).1 (bz (textR (numR (parsR (takeR r 32).2).2).2 1000).1)
theorem comOb_new (s : List UInt8) : comOb (newR s) = commitO s := rfl
theorem comRd_new (s : List UInt8) : comRd (newR s) = commitR s := rfl
theorem RtAt.pushP {w w8 w9 : World} {b g i vc : Nat} {va : Option Addr} {S : List UInt8} {tr nt : ByteArray} {ht : Int} {l : List ByteArray} {e : ByteArray} {v' : Value} {ri : Rd} {o : Obj} (h : RtAt w b S g w8 (comX tr l ht nt) (.slice none 0 0) (.slice va i vc) ri) (hb : b < g) (hg : w.heap.size ≤ g)
  (hown : w9.ownsRow g 9 1 v' (l ++ [e]).length (svals (l ++ [e]))) (hgr : (w8.alloc o).grownBy w9 (Value.slice va i vc).ownBlock) :
  Blk w9 (g + 1) 98 (obCs (comX tr l ht nt) (.slice none 0 0) (.slice va i vc)) ∧ RtAt w b S g (w9.setCell ⟨g + 1, 4, none⟩ v') (comX tr (l ++ [e]) ht nt) (.slice none 0 0) v' ri := by
 have hgrow : Only (fun k => (Value.slice va i vc).ownBlock = some k) (w8.alloc o) w9 := (Only.refl _ _).grown hgr (fun k hk => .inl hk)
 have hX : Blk w9 (g + 1) 98 (obCs (comX tr l ht nt) (.slice none 0 0) (.slice va i vc)) := (Blk.alloc h.blk _).grown hgr (fun e => own_blk_ne h.pars h.blk (by decide) e.symm)
 have hZ : Blk w9 g 98 (obCs zero (.slice none 0 0) (.slice none 0 0)) := (Blk.alloc h.z _).grown hgr (fun e => own_blk_ne h.pars h.z (by decide) e.symm)
 have hR : RrAt w9 b S ri := ((h.rd.only ((Only.refl NoF _).alloc o) (fun e => e)).only hgrow (fun e => by have := (h.pars.lt b e).1; omega))
 have hO : Only (· = b) w w9 := (h.only.alloc o).grown hgr (fun k hk => .inr (by have := (h.pars.lt k hk).1; omega))
 have ho : Only (· = g + 1) w9 (w9.setCell ⟨g + 1, 4, none⟩ v') := (Only.refl (· = g + 1) w9).setCell (p := ⟨g + 1, 4, none⟩) (.inl rfl) _
 refine ⟨hX, hZ.only ho (by omega), ?_, World.ownsRow_nil _ _ _ _, own_only hown ho (fun k hk e => own_blk_ne hown hX (by decide) (e ▸ hk)), hR.only ho (by omega), hO.setCell (p := ⟨g + 1, 4, none⟩) (.inr (by show w.heap.size ≤ g + 1; omega)) _⟩
 have := Blk.set hX 4 v'
 exact this
/-- a field of the object written -/
theorem RtAt.setF {w wr : World} {b g : Nat} {S : List UInt8} {x y : Ob} {ev pv : Value} {ri : Rd} (h : RtAt w b S g wr x ev pv ri) (hb : b < g) (hg : w.heap.size ≤ g) (o : Nat) (v : Value) (he : y.ents = x.ents) (hp : y.pars = x.pars)
  (hs : (obCs x ev pv).setIfInBounds o v = obCs y ev pv) : RtAt w b S g (wr.setCell ⟨g + 1, o, none⟩ v) y ev pv ri := by
 have ho : Only (· = g + 1) wr (wr.setCell ⟨g + 1, o, none⟩ v) := (Only.refl (· = g + 1) wr).setCell (p := ⟨g + 1, o, none⟩) (.inl rfl) _
 refine ⟨h.z.only ho (by omega), ?_, ?_, ?_, h.rd.only ho (by omega), h.only.setCell (p := ⟨g + 1, o, none⟩) (.inr (by show w.heap.size ≤ g + 1; omega)) _⟩
 ·have := Blk.set h.blk o v
  rw [hs] at this; exact this
 ·rw [he]; exact own_only h.ents ho (fun k hk e => own_blk_ne h.ents h.blk (by decide) (e ▸ hk))
 ·rw [hp]; exact own_only h.pars ho (fun k hk e => own_blk_ne h.pars h.blk (by decide) (e ▸ hk))
theorem RtAt.drew1 {w wr : World} {b g : Nat} {S : List UInt8} {x : Ob} {ev pv : Value} {ri : Rd} (h : RtAt w b S g wr x ev pv ri) : RtAt w b S g wr.drew x ev pv ri :=
 ⟨h.z.only ((Only.refl NoF _).drew) (fun e => e), h.blk.only ((Only.refl NoF _).drew) (fun e => e), own_only h.ents ((Only.refl NoF _).drew) (fun _ _ e => e), own_only h.pars ((Only.refl NoF _).drew) (fun _ _ e => e), h.rd.only ((Only.refl NoF _).drew) (fun e => e), h.only.drew⟩
theorem own_texts0 {w : World} {B : Nat} {v : Value} {n : Nat} {l : List ByteArray} (h : w.ownsRow B 9 1 v n (svals l)) (hm : n ≤ 9223372036854775807) : ∃ a c, v = .slice a n c ∧ StrsAt w a n l := by
 obtain rfl : l.length = n := by have := h.1; unfold svals at this; rw [List.length_map] at this; omega
 exact own_strs h hm
/-- what commit hands back -/
def RoComOut (w : World) (b : Nat) (S : List UInt8) (r : Rd) (e : Ending) (w' : World) : Prop :=
 ∃ tr l h nt a n c, e = .returned (.agg (obCs (comX tr l h nt) (.slice none 0 0) (.slice a n c))) ∧ StrsAt w' a n l ∧ ((comRd r).bad = false → comX tr l h nt = comOb r) ∧ RrAt w' b S (comRd r) ∧ Only (· = b) w w' ∧ (0 ≤ h ∧ h ≤ 4294967295) ∧ ∀ k, (Value.slice a n c).ownBlock = some k → w.heap.size ≤ k
theorem rocom_results (tmps : Array Value) (g : Nat) (x : Ob) (ev pv : Value) (w : World) (h2 : tmps.getD 2 undef = .pointer (some ⟨g, 0, none⟩)) (H : Blk w g 98 (obCs x ev pv)) : (results Tryz.f145 tmps).run Tryz.prog w = .ok (.agg (obCs x ev pv)) w := by
 have c0 : w.cell? ⟨g, 0, none⟩ = some (.int .i64 x.kind) := Blk.cell H 0
 have c1 : w.cell? ⟨g, 1, none⟩ = some (.string x.data) := Blk.cell H 1
 have c2 : w.cell? ⟨g, 2, none⟩ = some ev := Blk.cell H 2
 have c3 : w.cell? ⟨g, 3, none⟩ = some (.string x.tree) := Blk.cell H 3
 have c4 : w.cell? ⟨g, 4, none⟩ = some pv := Blk.cell H 4
 have c5 : w.cell? ⟨g, 5, none⟩ = some (.int .i64 x.height) := Blk.cell H 5
 have c6 : w.cell? ⟨g, 6, none⟩ = some (.string x.note) := Blk.cell H 6
 have h2' : tmps[2]?.getD undef = .pointer (some ⟨g, 0, none⟩) := by simpa using h2
 simp [results, Tryz.results145, go_sem, h2', c0, c1, c2, c3, c4, c5, c6, obCs]
set_option maxRecDepth 100000 in
set_option maxHeartbeats 16000000 in
theorem rocom_any (b : Nat) (S : List UInt8) (r : Rd) (w : World) (h : RrAt w b S r) (hS : S.length ≤ 1000000000) (hr : r.rest.length ≤ 1000000000) : Calls Tryz.prog 145 #[.pointer (some ⟨b, 0, none⟩)] w (RoComOut w b S r) := by
 obtain ⟨i0, hi0, hz0, hz1, hz2⟩ := info_parts Tryz.infoS
 have hbw : b < w.heap.size := by obtain ⟨k, hb, -⟩ := h; exact Blk.lt hb
 have HT1 : Hid (RtAt w b S w.heap.size ((w.alloc (.cells (obCs zero (.slice none 0 0) (.slice none 0 0)) 98)).alloc (.cells (obCs (comX ⟨#[]⟩ [] 0 ⟨#[]⟩) (.slice none 0 0) (.slice none 0 0)) 98)) (comX ⟨#[]⟩ [] 0 ⟨#[]⟩) (.slice none 0 0) (.slice none 0 0) r) := by
  refine ⟨Blk.alloc (Blk.new w _ _) _, ?_, World.ownsRow_nil _ _ _ _, World.ownsRow_nil _ _ _ _, (h.only ((Only.refl NoF _).alloc _) (fun e => e)).only ((Only.refl NoF _).alloc _) (fun e => e), ((Only.refl _ _).alloc _).alloc _⟩
  have := Blk.new (w.alloc (.cells (obCs zero (.slice none 0 0) (.slice none 0 0)) 98)) 98 (obCs (comX ⟨#[]⟩ [] 0 ⟨#[]⟩) (.slice none 0 0) (.slice none 0 0))
  rw [World.size_alloc] at this; exact this
 have hrt0 : (takeR r 32).2.rest.length ≤ 1000000000 := Nat.le_trans (takeR_rest r 32) hr
 have hn32 : (numR (takeR r 32).2).1 < 4294967296 := numV_lt _
 have hrl : (numR (takeR r 32).2).2.rest.length ≤ 1000000000 := Nat.le_trans (takeR_rest _ 4) hrt0
 have HTT : Hid (parsR (takeR r 32).2 = idsR (numR (takeR r 32).2).1 (spoil (numR (takeR r 32).2).2 (numR (takeR r 32).2).1 8)) := rfl
 have HC1 : Hid (comRd r = (textR (numR (parsR (takeR r 32).2).2).2 1000).2) := rfl
 have HC2 : Hid (comOb r = comX (bz (takeR r 32).1) (parsR (takeR r 32).2).1 (numR (parsR (takeR r 32).2).2).1 (bz (textR (numR (parsR (takeR r 32).2).2).2 1000).1)) := rfl
 rw [zero_cs, comX_cs] at HT1
 clear h
 go_enter Tryz.func145, Tryz.ntmps145
 go_upto_region 2 with fail
 generalize ((w.alloc (.cells #[.int .i64 0, .string ⟨#[]⟩, .slice none 0 0, .string ⟨#[]⟩, .slice none 0 0, .int .i64 0, .string ⟨#[]⟩] 98)).alloc (.cells #[.int .i64 3, .string ⟨#[]⟩, .slice none 0 0, .string ⟨#[]⟩, .slice none 0 0, .int .i64 0, .string ⟨#[]⟩] 98)) = w2 at HT1 ⊢
 obtain ⟨g, hg⟩ : ∃ g, w.heap.size = g := ⟨_, rfl⟩
 have HG := hid hg
 rw [hg] at HT1 hbw ⊢
 clear hg
 have HG2 := hid (Nat.le_of_eq HG.out)
 have HTK := hid (rrtake_any 32 HT1.out.rd (by omega) (by omega))
 obtain ⟨tr, htr⟩ : ∃ x, bz (takeR r 32).1 = x := ⟨_, rfl⟩
 have htr2 : bx (takeR r 32).1 = tr := htr
 obtain ⟨rt, hrt⟩ : ∃ x, (takeR r 32).2 = x := ⟨_, rfl⟩
 rw [htr2, hrt] at HTK
 rw [hrt] at hrt0 hn32 hrl HTT HC1
 rw [htr, hrt] at HC2
 clear htr htr2 hrt
 go_wp2_with fail
 refine HTK.out.mono ?_; rintro e w3 ⟨rfl, hs, ho⟩
 have ht3 := HT1.out.step hs ho hbw
 have k3 := Blk.cell ht3.blk 3
 have f3 := Blk.frozen ht3.blk 3
 rw [comX_cs] at k3
 simp at k3
 have HT3 : Hid (RtAt w b S g (w3.setCell ⟨g + 1, 3, none⟩ (.string tr)) (comX tr [] 0 ⟨#[]⟩) (.slice none 0 0) (.slice none 0 0) rt) := ht3.setF hbw HG2.out 3 (.string tr) rfl rfl rfl
 clear hs ho HTK HT1 ht3
 go_upto_region 3 with fail
 clear k3 f3
 generalize w3.setCell ⟨g + 1, 3, none⟩ (.string tr) = w4 at HT3 ⊢
 have HNUM := hid (rrnum_any HT3.out.rd (by omega))
 obtain ⟨n, hn⟩ : ∃ n, (numR rt).1 = n := ⟨_, rfl⟩
 obtain ⟨r2, hr2⟩ : ∃ x, (numR rt).2 = x := ⟨_, rfl⟩
 rw [hn, hr2] at HNUM HTT
 rw [hn] at hn32
 rw [hr2] at hrl
 clear hn hr2
 have ewn : IntKind.i64.wrap (n : Int) = n := by rw [IntKind.wrap_i64]; omega
 go_wp2_with fail
 refine HNUM.out.mono ?_; rintro e w5 ⟨rfl, hs, ho⟩
 have HT5 := hid (HT3.out.step hs ho hbw)
 clear hs ho HNUM HT3
 go_upto_block 0 with fail
 clear ewn
 go_cut [5] (fun s5 wx => ∃ (l : List ByteArray) (ri : Rd) (a : Option Addr) (m c : Nat) (k : Int), s5 = .int .i64 k ∧ Hid (l.length = m ∧ m ≤ 9) ∧ Hid (RtAt w b S g wx (comX tr l 0 ⟨#[]⟩) (.slice none 0 0) (.slice a m c) ri) ∧ Hid (n ≤ 8 → idsR n r2 = (l, ri)) ∧ Hid (ri.rest.length ≤ 1000000000))
 case first =>
  go_wp2_with fail
  go_loopw [5] (fun iv wr => ∃ (i : Nat) (l : List ByteArray) (ri : Rd) (a : Option Addr) (c : Nat), i ≤ n ∧ i ≤ 9 ∧ iv = .int .i64 i ∧ Hid (l.length = i) ∧ Hid (RtAt w b S g wr (comX tr l 0 ⟨#[]⟩) (.slice none 0 0) (.slice a i c) ri) ∧ Hid (ri.rest.length ≤ 1000000000) ∧ Hid (n ≤ 8 → idsR n r2 = (l ++ (idsR (n - i) ri).1, (idsR (n - i) ri).2))) (fun iv _ => 9 - (intOf iv).toNat)
  case atStart => exact ⟨0, [], r2, none, 0, Nat.zero_le _, by omega, rfl, rfl, HT5, hrl, fun _ => rfl⟩
  case round =>
   obtain ⟨i, l, ri, va, vc, hi, hi7, rfl, HL, HT, HRl, HE⟩ := hrel
   have kb : wr.cell? ⟨b, 2, none⟩ = some (.bool ri.bad) := HT.out.rd.bad_cell
   by_cases hlt : i < n
   ·have ci : (i : Int) < n := by omega
    by_cases h257 : i < 9
    ·have c7 : (i : Int) < 9 := by omega
     obtain ⟨bad, hbad⟩ : ∃ q, ri.bad = q := ⟨_, rfl⟩
     rw [hbad] at kb
     cases bad
     ·have HST : Hid (idsR (n - i) ri = (bz (takeR ri 32).1 :: (idsR (n - (i + 1)) (takeR ri 32).2).1, (idsR (n - (i + 1)) (takeR ri 32).2).2)) := by
       show _ = _
       rw [show n - i = (n - (i + 1)) + 1 by omega]
       exact idsR_step hbad
      clear hbad
      have hrl1 := HRl.out
      have HTd := hid HT.out.drew1
      have HTK := hid (rrtake_any 32 HTd.out.rd (by omega) (by omega))
      obtain ⟨id, hid1⟩ : ∃ x, bz (takeR ri 32).1 = x := ⟨_, rfl⟩
      have hid2 : bx (takeR ri 32).1 = id := hid1
      have hre : (takeR ri 32).2.rest.length ≤ 1000000000 := Nat.le_trans (takeR_rest _ _) hrl1
      obtain ⟨re, hre2⟩ : ∃ x, (takeR ri 32).2 = x := ⟨_, rfl⟩
      rw [hid1, hre2] at HST
      rw [hid2, hre2] at HTK
      rw [hre2] at hre
      clear hid1 hid2 hre2
      have x4 : wr.cell? ⟨g + 1, 4, none⟩ = some (.slice va i vc) := Blk.cell HT.out.blk 4
      have HL9 : Hid ((l ++ [id]).length = i + 1) := by show _ = _; rw [List.length_append, HL.out]; rfl
      go_upto_block 1 with fail
      go_cut [5] (fun s5 wx => s5 = .int .i64 i ∧ ∃ (a : Option Addr) (c : Nat), Hid (RtAt w b S g wx (comX tr (l ++ [id]) 0 ⟨#[]⟩) (.slice none 0 0) (.slice a (i + 1) c) re))
      case first =>
       go_upto_region 7 with fail
       go_region_law (first | (refine step_append_lies _ (by rfl) (.tmp 30) (.tmp 33) 40 (by rfl) g 9 i0 (.string ⟨#[]⟩) 1 16 Tryz.underlying40 hi0 hz0 hz1 hz2 rfl (by decide) (.slice va i vc) i (svals l) (by simp [Act.eval, Act.put]) (HP7.out.alloc _) ⟨w7.heap.size, 0, none⟩ 1 1 [.string id] (by simp [Act.eval, Act.put]) rfl (cellNew1 _ _ _) (one_bytes rfl) (by decide) (by unfold maxLen; omega) (by omega) (by simp; omega) (w7.heap.size + 1) (by simp) ?_; intro g1 cap1 wf hown hgrow hat hglt; have HOWN : Hid (wf.ownsRow g 9 1 (.slice (some ⟨g1, 0, none⟩) (i + 1) cap1) (l ++ [id]).length (svals (l ++ [id]))) := (by have h := hown; rw [HL9.out, svals_append]; exact h); have HPU := hid (HT7.out.pushP hbw HG2.out HOWN.out hgrow); have kf4 : wf.cell? ⟨g + 1, 4, none⟩ = some (.slice va i vc) := Blk.cell HPU.out.1 4; have ff4 := Blk.frozen HPU.out.1 4; clear hown hgrow hat hglt) | (go_simp; go_at_call 199; refine HTK.out.mono ?_; rintro e w7 ⟨rfl, hs, ho⟩; have HT7 := hid (HTd.out.step hs ho hbw); have x47 : w7.cell? ⟨g + 1, 4, none⟩ = some (.slice va i vc) := Blk.cell HT7.out.blk 4; have x47a : (w7.alloc (.cells #[.string id] 9)).cell? ⟨g + 1, 4, none⟩ = some (.slice va i vc) := Blk.cell (Blk.alloc HT7.out.blk _) 4; have hg7 : g ≤ w7.heap.size := Nat.le_of_lt (Blk.lt HT7.out.z); have HP7 : Hid (w7.ownsRow g 9 1 (.slice va i vc) i (svals l)) := (by have h := HT7.out.pars; rw [show (comX tr l 0 ⟨#[]⟩).pars.length = i from HL.out] at h; exact h); clear hs ho))
       all_goals
        have HT9 := hid HPU.out.2
        go_wp2_with fail
        go_meet
        case rel => exact ⟨rfl, _, _, HT9⟩
      case rest =>
       obtain ⟨rfl, va', vc', HT9⟩ := hcut
       have HE9 : Hid (n ≤ 8 → idsR n r2 = ((l ++ [id]) ++ (idsR (n - (i + 1)) re).1, (idsR (n - (i + 1)) re).2)) := fun h => by
        rw [HE.out h, HST.out, List.append_assoc]; rfl
       clear x4 kb
       go_wp2_with fail
       go_roundw
       case rel => first | exact ⟨i + 1, _, re, va', vc', by omega, by omega, by go_num, HL9, HT9, hre, HE9⟩ | ((repeat apply Exists.intro); exact ⟨⟨i + 1, _, re, va', vc', by omega, by omega, by go_num, HL9, HT9, hre, HE9⟩, rfl⟩)
       case measure => simp [intOf]; omega
     ·have HF : Hid (n ≤ 8 → idsR n r2 = (l, ri)) := fun h => by rw [HE.out h, idsR_bad hbad, List.append_nil]
      clear hbad
      go_wp2_with fail
      go_meet
      case rel => exact ⟨l, ri, va, i, vc, _, rfl, ⟨HL.out, hi7⟩, HT, HF, HRl⟩
    ·have c7 : ¬ (i : Int) < 9 := by omega
     go_wp2_with fail
     go_meet
     case rel => exact ⟨l, ri, va, i, vc, _, rfl, ⟨HL.out, hi7⟩, HT, fun h => by omega, HRl⟩
   ·obtain rfl : i = n := by omega
    have ci : ¬ (i : Int) < i := by omega
    have HF : Hid (i ≤ 8 → idsR i r2 = (l, ri)) := fun h => by
     rw [HE.out h, Nat.sub_self]
     show (l ++ [], ri) = _
     rw [List.append_nil]
    go_wp2_with fail
    go_meet
    case rel => exact ⟨l, ri, va, i, vc, _, rfl, ⟨HL.out, hi7⟩, HT, HF, HRl⟩
 case rest =>
  obtain ⟨l, ri, va, m, vc, k, rfl, HL, HT, HF, HRl⟩ := hcut
  go_upto_if 37 with fail
  go_cut [5] (fun s5 wx => s5 = .int .i64 k ∧ ∃ rp : Rd, Hid (rp = (parsR rt).2) ∧ Hid (rp.bad = false → l = (parsR rt).1) ∧ Hid (rp.rest.length ≤ 1000000000) ∧ Hid (RtAt w b S g wx (comX tr l 0 ⟨#[]⟩) (.slice none 0 0) (.slice va m vc) rp))
  case first =>
   by_cases hgt : 8 < n
   ·have c6 : (8 : Int) < n := by omega
    have HTR : Hid (parsR rt = ([], ⟨[], true⟩)) := by
     show _ = _
     rw [HTT.out]
     unfold spoil
     rw [if_pos hgt]
     exact idsR_bad rfl
    have kb : wc.cell? ⟨b, 2, none⟩ = some (.bool ri.bad) := HT.out.rd.bad_cell
    have fb : wc.frozen? ⟨b, 2, none⟩ = false := by obtain ⟨k, hb, -⟩ := HT.out.rd; exact hb.frozen 2
    obtain ⟨hsp1, hsp2⟩ := rrspoil HT.out.rd 0
    have HT2 : Hid (RtAt w b S g (wc.setCell ⟨b, 2, none⟩ (.bool true)) (comX tr l 0 ⟨#[]⟩) (.slice none 0 0) (.slice va m vc) ⟨[], true⟩) := HT.out.step (w' := wc.setCell ⟨b, 2, none⟩ (.bool true)) hsp1 hsp2 hbw
    clear hsp1 hsp2 HTT HT hgt
    go_wp2_with fail
    go_meet
    case rel => exact ⟨rfl, ⟨[], true⟩, (by show _ = _; rw [HTR.out]), fun h => (by cases h), (by show (0 : Nat) ≤ _; omega), HT2⟩
   ·have c6 : ¬ (8 : Int) < n := by omega
    have HTR : Hid (parsR rt = (l, ri)) := by
     show _ = _
     rw [HTT.out]
     unfold spoil
     rw [if_neg hgt]
     exact HF.out (by omega)
    clear HTT HF hgt
    go_wp2_with fail
    go_meet
    case rel => exact ⟨rfl, ri, (by show _ = _; rw [HTR.out]), fun _ => (by rw [HTR.out]), HRl, HT⟩
  case rest =>
   obtain ⟨rfl, rp, HRP, HLP, HRR, HTp⟩ := hcut
   rw [← HRP.out] at HC1 HC2
   clear HT HF HRl HTT
   have hrr := HRR.out
   have HNU := hid (rrnum_any HTp.out.rd (by omega))
   have hh32 : (numR rp).1 < 4294967296 := numV_lt _
   have hrn : (numR rp).2.rest.length ≤ 1000000000 := Nat.le_trans (takeR_rest _ 4) hrr
   obtain ⟨hh, hhe⟩ : ∃ x, (numR rp).1 = x := ⟨_, rfl⟩
   obtain ⟨rh, hrh⟩ : ∃ x, (numR rp).2 = x := ⟨_, rfl⟩
   have HRH := hid hrh
   rw [hhe, hrh] at HNU
   rw [hrh] at HC1 hrn
   rw [hhe, hrh] at HC2
   rw [hhe] at hh32
   clear hhe hrh
   have ewh : IntKind.i64.wrap (hh : Int) = hh := by rw [IntKind.wrap_i64]; omega
   go_wp2_with fail
   refine HNU.out.mono ?_; rintro e wd ⟨rfl, hs, ho⟩
   have htd := HTp.out.step hs ho hbw
   have k5 := Blk.cell htd.blk 5
   have f5 := Blk.frozen htd.blk 5
   rw [comX_cs] at k5
   simp at k5
   have HTd : Hid (RtAt w b S g (wd.setCell ⟨g + 1, 5, none⟩ (.int .i64 (hh : Int))) (comX tr l hh ⟨#[]⟩) (.slice none 0 0) (.slice va m vc) rh) := htd.setF hbw HG2.out 5 (.int .i64 (hh : Int)) rfl rfl rfl
   clear hs ho HNU HTp htd
   go_upto_region 11 with fail
   clear k5 f5 ewh
   generalize wd.setCell ⟨g + 1, 5, none⟩ (.int .i64 (hh : Int)) = we at HTd ⊢
   have HTX := hid (rrtext_any 1000 (by omega) HTd.out.rd (by omega))
   obtain ⟨nt, hnt⟩ : ∃ x, bz (textR rh 1000).1 = x := ⟨_, rfl⟩
   have hnt2 : bx (textR rh 1000).1 = nt := hnt
   obtain ⟨rf, hrf⟩ : ∃ x, (textR rh 1000).2 = x := ⟨_, rfl⟩
   have HRF := hid hrf
   rw [hnt2, hrf] at HTX
   rw [hrf] at HC1
   rw [hnt] at HC2
   clear hnt hnt2 hrf
   go_wp2_with fail
   refine HTX.out.mono ?_; rintro e wf ⟨rfl, hs, ho⟩
   have htf := HTd.out.step hs ho hbw
   have k6 := Blk.cell htf.blk 6
   have f6 := Blk.frozen htf.blk 6
   rw [comX_cs] at k6
   simp at k6
   have HTf : Hid (RtAt w b S g (wf.setCell ⟨g + 1, 6, none⟩ (.string nt)) (comX tr l hh nt) (.slice none 0 0) (.slice va m vc) rf) := htf.setF hbw HG2.out 6 (.string nt) rfl rfl rfl
   clear hs ho HTX HTd htf
   go_upto_region 12 with fail
   clear k6 f6
   generalize wf.setCell ⟨g + 1, 6, none⟩ (.string nt) = wg at HTf ⊢
   have j0 : wg.cell? ⟨g + 1, 0, none⟩ = some (.int .i64 3) := Blk.cell HTf.out.blk 0
   have j1 : wg.cell? ⟨g + 1, 1, none⟩ = some (.string ⟨#[]⟩) := Blk.cell HTf.out.blk 1
   have j2 : wg.cell? ⟨g + 1, 2, none⟩ = some (.slice none 0 0) := Blk.cell HTf.out.blk 2
   have j3 : wg.cell? ⟨g + 1, 3, none⟩ = some (.string tr) := Blk.cell HTf.out.blk 3
   have j4 : wg.cell? ⟨g + 1, 4, none⟩ = some (.slice va m vc) := Blk.cell HTf.out.blk 4
   have j5 : wg.cell? ⟨g + 1, 5, none⟩ = some (.int .i64 (hh : Int)) := Blk.cell HTf.out.blk 5
   have j6 : wg.cell? ⟨g + 1, 6, none⟩ = some (.string nt) := Blk.cell HTf.out.blk 6
   have HDN := hid (HTf.out.done hbw HG2.out)
   have HZ := hid HTf.out.z
   obtain ⟨wz, hwz⟩ : ∃ wz, wg.setRow g (obCs (comX tr l hh nt) (.slice none 0 0) (.slice va m vc)) = wz := ⟨_, rfl⟩
   have HWZ := hid hwz
   rw [hwz] at HDN
   clear hwz
   go_wp2_with (first
    | (refine wpList_store_row rfl _ (.tmp 2) (.tmp 48) rfl g (obCs (comX tr l hh nt) (.slice none 0 0) (.slice va m vc)) rfl rfl 98 (obCs zero (.slice none 0 0) (.slice none 0 0)) HZ.out (Tryz.infoObj _ _ _) rfl (obcs_one _ _ _ _ _ _ _) ?_; rw [HWZ.out]))
   go_wp2_with fail
   obtain ⟨d1, d2, d3, d4, d5⟩ := HDN.out
   have hst : StrsAt wz va m l := by
    have h : wz.ownsRow g 9 1 (.slice va m vc) l.length (svals l) := d3
    obtain ⟨a', c', he', hst⟩ := own_texts0 h (by have := HL.out; omega)
    injection he' with e1 e2 e3
    rw [e1, e2]; exact hst
   refine bodyPost_ret (v := .agg (obCs (comX tr l hh nt) (.slice none 0 0) (.slice va m vc))) ?hr1 rfl ⟨tr, l, hh, nt, va, m, vc, rfl, hst, ?_, ?_, d5, ⟨by omega, by omega⟩, ?_⟩
   case hr1 => exact rocom_results _ g _ _ _ wz rfl d1
   ·intro hb
    rw [HC1.out] at hb
    rw [HC2.out]
    have hb2 : rp.bad = false := commit_keep (r := rp) (by rw [HRH.out, HRF.out]; exact hb)
    rw [HLP.out hb2]
   ·rw [HC1.out]; exact d4
   ·intro k hk; rw [HG.out]; exact (d3.lt k hk).1
end Go.Proofs.YtmpjdoiogbbcoaaGreatDoor
/- The reference's Good and bytes; the law's same. -/
namespace Go.Proofs.YtmpjdoiogbbcoaaGreatDoor
open Go.RowKit Pap
set_option linter.unusedVariables false

theorem notin_succ {l : List UInt8} {k : Nat} (hk : k < l.length) {c : UInt8} (h : c ∉ l.take k) (hc : l[k] ≠ c) : c ∉ l.take (k + 1) := by
 rw [List.take_add_one, List.getElem?_eq_getElem hk]
 intro hm
 rcases List.mem_append.1 hm with hm | hm
 ·exact h hm
 ·simp at hm; exact hc hm.symm
theorem ba_get (s : ByteArray) (k : Nat) (h : k < s.data.toList.length) (h2 : k < s.size) : s.data.toList[k] = s[k]'h2 := rfl
theorem byte_eq (x : UInt8) (c : UInt8) : ((x.toNat : Int) == (c.toNat : Int)) = decide (x = c) := by
 rw [Bool.eq_iff_iff, beq_iff_eq, decide_eq_true_eq]
 constructor
 ·intro h; exact UInt8.toNat_inj.1 (by omega)
 ·rintro rfl; rfl

set_option maxHeartbeats 2000000 in
theorem rgood_any (s : ByteArray) (w : World) (hsz : s.size ≤ 9223372036854775807) : Calls Tryz.prog 137 #[.string s] w fun e w' => e = .returned (.bool (goodL s.data.toList)) ∧ w = w' := by
 by_cases h0 : s.size = 0
 ·have HX := hid (goodL_no (s := s) (.inl h0))
  have n1 : (s.size : Int) < 1 := by omega
  go_enter Tryz.func137, Tryz.ntmps137
  go_wp2
  go_ret
  exact ⟨ret_bool (by rw [HX.out]), rfl⟩
 ·have n1 : ¬ (s.size : Int) < 1 := by omega
  by_cases h255 : 255 < s.size
  ·have HX := hid (goodL_no (s := s) (.inr (.inl h255)))
   have n2 : (255 : Int) < s.size := by omega
   go_enter Tryz.func137, Tryz.ntmps137
   go_wp2
   go_ret
   exact ⟨ret_bool (by rw [HX.out]), rfl⟩
  ·have n2 : ¬ (255 : Int) < s.size := by omega
   by_cases h1 : s = ⟨#[46]⟩
   ·have HX := hid (goodL_no (s := s) (.inr (.inr (.inl h1))))
    have n3 : s.toList = [46] := by rw [ba_toList, h1]
    have n4 : (s.toList == [46]) = true := by rw [n3]; rfl
    clear h1
    go_enter Tryz.func137, Tryz.ntmps137
    go_wp2
    go_ret
    exact ⟨ret_bool (by rw [HX.out]), rfl⟩
   ·have m1 : (s.toList == [46]) = false := by
     rw [beq_eq_false_iff_ne, ba_toList]; exact fun e => h1 (ba_ext (y := ⟨#[46]⟩) e)
    have m1' : ¬ s.toList = [46] := by rw [ba_toList]; exact fun e => h1 (ba_ext (y := ⟨#[46]⟩) e)
    by_cases h2 : s = ⟨#[46, 46]⟩
    ·have HX := hid (goodL_no (s := s) (.inr (.inr (.inr h2))))
     have n3 : s.toList = [46, 46] := by rw [ba_toList, h2]
     have n4 : (s.toList == [46, 46]) = true := by rw [n3]; rfl
     clear h1 h2
     go_enter Tryz.func137, Tryz.ntmps137
     go_wp2
     go_ret
     exact ⟨ret_bool (by rw [HX.out]), rfl⟩
    ·have m2 : (s.toList == [46, 46]) = false := by
      rw [beq_eq_false_iff_ne, ba_toList]; exact fun e => h2 (ba_ext (y := ⟨#[46, 46]⟩) e)
     have m2' : ¬ s.toList = [46, 46] := by rw [ba_toList]; exact fun e => h2 (ba_ext (y := ⟨#[46, 46]⟩) e)
     have HG := hid (goodL_yes h0 (by omega) h1 h2)
     have hlen : s.data.toList.length = s.size := by simp
     clear h1 h2
     go_enter Tryz.func137, Tryz.ntmps137
     go_wp2
     go_loop [3] (fun i => ∃ k : Nat, k ≤ s.size ∧ i = .int .i64 k ∧ Hid (47 ∉ s.data.toList.take k) ∧ Hid (0 ∉ s.data.toList.take k)) (fun i => s.size - (intOf i).toNat)
     case atStart => exact ⟨0, by omega, rfl, by unfold Hid; simp, by unfold Hid; simp⟩
     case round =>
      obtain ⟨k, hk, rfl, K1, K2⟩ := hrel
      by_cases hlt : k < s.size
      ·have hk' : k < s.data.toList.length := by omega
       have e1 : ((s[k].toNat : Int) == 47) = decide (s[k] = 47) := byte_eq s[k] 47
       have e2 : ((s[k].toNat : Int) == 0) = decide (s[k] = 0) := byte_eq s[k] 0
       by_cases c1 : s[k] = 47
       ·rw [decide_eq_true c1] at e1
        have HX : Hid (goodL s.data.toList = false) := by
         rw [Hid, HG.out, decide_eq_false (fun h => h (c1 ▸ List.getElem_mem hk'))]; rfl
        clear e2 c1
        go_wp2
        go_ret
        exact ⟨ret_bool (by rw [HX.out]), rfl⟩
       ·rw [decide_eq_false c1] at e1
        by_cases c2 : s[k] = 0
        ·rw [decide_eq_true c2] at e2
         have HX : Hid (goodL s.data.toList = false) := by
          rw [Hid, HG.out, decide_eq_false (p := (0 : UInt8) ∉ s.data.toList) (fun h => h (c2 ▸ List.getElem_mem hk')), Bool.and_false]
         clear c1 c2
         go_wp2
         go_ret
         exact ⟨ret_bool (by rw [HX.out]), rfl⟩
        ·rw [decide_eq_false c2] at e2
         have N1 := hid (notin_succ hk' K1.out c1)
         have N2 := hid (notin_succ hk' K2.out c2)
         clear c1 c2
         go_wp2
         go_round
         case rel => exact ⟨k + 1, by omega, by go_num, N1, N2⟩
         case measure => simp [intOf]; omega
      ·have HX : Hid (goodL s.data.toList = true) := by
        have t1 := K1.out; have t2 := K2.out
        rw [List.take_of_length_le (by omega)] at t1 t2
        rw [Hid, HG.out, decide_eq_true t1, decide_eq_true t2]; rfl
       go_wp2
       go_ret
       exact ⟨ret_bool (by rw [HX.out]), rfl⟩

theorem cmpL_step (a b : List UInt8) (k : Nat) (ha : k < a.length) (hb : k < b.length) : cmpL (a.drop k) (b.drop k) = if a[k].toNat < b[k].toNat then -1 else if b[k].toNat < a[k].toNat then 1 else cmpL (a.drop (k + 1)) (b.drop (k + 1)) := by
 rw [List.drop_eq_getElem_cons ha, List.drop_eq_getElem_cons hb]; rfl
theorem cmpL_ends (a b : List UInt8) (k : Nat) (hka : k ≤ a.length) (hkb : k ≤ b.length) (h : a.length ≤ k ∨ b.length ≤ k) : cmpL (a.drop k) (b.drop k) = if a.length < b.length then -1 else if b.length < a.length then 1 else 0 := by
 rcases Nat.lt_trichotomy a.length b.length with h1 | h1 | h1
 ·rw [List.drop_eq_nil_of_le (by omega), List.drop_eq_getElem_cons (by omega : k < b.length), if_pos h1]; rfl
 ·rw [List.drop_eq_nil_of_le (by omega), List.drop_eq_nil_of_le (by omega), if_neg (by omega), if_neg (by omega)]; rfl
 ·rw [List.drop_eq_getElem_cons (by omega : k < a.length), List.drop_eq_nil_of_le (by omega : b.length ≤ k), if_neg (by omega), if_pos h1]; rfl
set_option maxHeartbeats 2000000 in
theorem rbytes_any (a b : ByteArray) (w : World) (ha : a.size ≤ 9223372036854775807) (hb : b.size ≤ 9223372036854775807) : Calls Tryz.prog 79 #[.string a, .string b] w fun e w' => e = .returned (.int .i64 (cmpL a.data.toList b.data.toList)) ∧ Below w.heap.size w w' := by
 have la : a.data.toList.length = a.size := by simp
 have lb : b.data.toList.length = b.size := by simp
 go_enter Tryz.func79, Tryz.ntmps79
 go_wp2
 go_loopw [5] (fun i wr => ∃ k : Nat, k ≤ a.size ∧ k ≤ b.size ∧ i = .int .i64 k ∧ Below w.heap.size w wr ∧ Hid (cmpL a.data.toList b.data.toList = cmpL (a.data.toList.drop k) (b.data.toList.drop k))) (fun i _ => a.size - (intOf i).toNat)
 case atStart => exact ⟨0, by omega, by omega, rfl, Below.refl _ _, rfl⟩
 case round =>
  obtain ⟨k, hk, hk2, rfl, hbel, HK⟩ := hrel
  by_cases hlt : k < a.size ∧ k < b.size
  ·obtain ⟨h1, h2⟩ := hlt
   have st := HK.out.trans (cmpL_step _ _ k (by omega) (by omega))
   rw [ba_get a k (by omega) h1, ba_get b k (by omega) h2] at st
   by_cases c1 : a[k].toNat < b[k].toNat
   ·rw [if_pos c1] at st
    have d1 : (a[k].toNat : Int) < (b[k].toNat : Int) := by omega
    have HX := hid st; clear st c1
    go_wp2
    go_quiet (fail)
    go_wp2
    go_ret
    exact ⟨ret_int (by rw [HX.out]), by first | exact hbel | exact below_drewN hbel _ | exact below_drewN (below_drewN hbel _) _⟩
   ·rw [if_neg c1] at st
    have d1 : ¬ (a[k].toNat : Int) < (b[k].toNat : Int) := by omega
    by_cases c2 : b[k].toNat < a[k].toNat
    ·rw [if_pos c2] at st
     have d2 : (b[k].toNat : Int) < (a[k].toNat : Int) := by omega
     have HX := hid st; clear st c1 c2
     go_wp2
     go_quiet (fail)
     go_wp2
     go_quiet (fail)
     go_wp2
     go_ret
     exact ⟨ret_int (by rw [HX.out]), by first | exact hbel | exact below_drewN hbel _ | exact below_drewN (below_drewN hbel _) _⟩
    ·rw [if_neg c2] at st
     have d2 : ¬ (b[k].toNat : Int) < (a[k].toNat : Int) := by omega
     have HX := hid st; clear st c1 c2
     go_wp2
     go_quiet (fail)
     go_wp2
     go_quiet (fail)
     go_wp2
     go_roundw
     case rel => exact ⟨k + 1, by omega, by omega, by go_num, by first | exact hbel | exact below_drewN hbel _ | exact below_drewN (below_drewN hbel _) _, HX⟩
     case measure => simp [intOf]; omega
  ·have st := HK.out.trans (cmpL_ends _ _ k (by omega) (by omega) (by omega))
   rw [la, lb] at st
   rcases Nat.lt_trichotomy a.size b.size with c | c | c
   ·rw [if_pos c] at st
    have g1 : ¬ (k : Int) < a.size := by omega
    have g2 : (a.size : Int) < b.size := by omega
    have HX := hid st; clear st hlt
    go_wp2
    go_ret
    exact ⟨ret_int (by rw [HX.out]), by first | exact hbel | exact below_drewN hbel _ | exact below_drewN (below_drewN hbel _) _⟩
   ·rw [if_neg (by omega), if_neg (by omega)] at st
    have g1 : ¬ (k : Int) < a.size := by omega
    have g2 : ¬ (a.size : Int) < b.size := by omega
    have g3 : ¬ (b.size : Int) < a.size := by omega
    have HX := hid st; clear st hlt
    go_wp2
    go_ret
    exact ⟨ret_int (by rw [HX.out]), by first | exact hbel | exact below_drewN hbel _ | exact below_drewN (below_drewN hbel _) _⟩
   ·rw [if_neg (by omega), if_pos c] at st
    have g1 : (k : Int) < a.size := by omega
    have g0 : ¬ (k : Int) < b.size := by omega
    have g2 : ¬ (a.size : Int) < b.size := by omega
    have g3 : (b.size : Int) < a.size := by omega
    have HX := hid st; clear st hlt
    go_wp2
    go_ret
    exact ⟨ret_int (by rw [HX.out]), by first | exact hbel | exact below_drewN hbel _ | exact below_drewN (below_drewN hbel _) _⟩

end Go.Proofs.YtmpjdoiogbbcoaaGreatDoor
