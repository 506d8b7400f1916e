/- Texts in a row: SnY, Awg, LkC, LkD, LkE, LkF, LkG. -/
import Derived.Test.YtmpjdoiogbbcoaaGreatDoorMhK
import Derived.Laws.OwnMore
import Derived.BigQuiet
import Derived.Deep.DeepCutAuto
import Derived.Deep.CutBlock
/- What two commits differ in: Diff, its two tables. -/
namespace Go.Proofs.YtmpjdoiogbbcoaaGreatDoor
open Go.RowKit Book Pap Ojt Sn
set_option linter.unusedVariables false
set_option linter.unusedSimpArgs false

def chCs (c : Ch) : List Value := [.string c.path, .string c.was, .string c.is]
def valC (c : Ch) : Value := .agg (chCs c).toArray
def datC (c : Ch) : DataW Unit := .agg [datS c.path, datS c.was, datS c.is]
theorem valC_inj (x y : Ch) (h : valC x = valC y) : x = y := by
 obtain ⟨a, b, c⟩ := x
 obtain ⟨a', b', c'⟩ := y
 simp [valC, chCs] at h
 obtain ⟨h1, h2, h3⟩ := h
 subst h1 h2 h3; rfl
theorem datC_inj (x y : Ch) (h : datC x = datC y) : x = y := by
 obtain ⟨a, b, c⟩ := x
 obtain ⟨a', b', c'⟩ := y
 unfold datC at h
 injection h with h
 injection h with h1 h
 injection h with h2 h
 injection h with h3 _
 have := datS_inj _ _ h1
 have := datS_inj _ _ h2
 have := datS_inj _ _ h3
 simp_all
abbrev ChMap := MapFn (α := Ch) Tryz.prog 9 valC datC
theorem Tryz.infoCh : (Tryz.prog.info? 34).map (fun i => (i.zero, i.size, i.bytes)) = some (some (.agg #[.string ⟨#[]⟩, .string ⟨#[]⟩, .string ⟨#[]⟩]), 3, 48) := by kernel_rfl
theorem zeroC (w : World) : (zeroValue 34).run Tryz.prog w = .ok (valC noCh) w := by
 obtain ⟨i, hi, hz, -⟩ := info_parts Tryz.infoCh
 have e : valC noCh = .agg #[.string ⟨#[]⟩, .string ⟨#[]⟩, .string ⟨#[]⟩] := rfl
 simp [zeroValue, typeInfo, hi, hz, e]
theorem chMap_get1 {w : World} {m n : Nat} {f : ByteArray → Option Ch} (h : ChMap w m n f) (s : ByteArray) (hs : s.size ≤ maxLen) : (Instr.lookup 86 (.map (some m)) (.string s) false).run Tryz.prog w = .ok (valC ((f s).getD noCh)) w :=
 MapFn.get1 Tryz.underlying9 Tryz.underlying86 valC_inj datC_inj (z0 := noCh) zeroC h s hs
/-- a slice of changes in memory -/
def ChsAt (w : World) (a : Option Addr) (n : Nat) (l : List Ch) : Prop :=
 l.length = n ∧ n ≤ 1000000 ∧ (n = 0 ∨ ∃ b off, a = some ⟨b, off, none⟩ ∧ ∀ j, j < n → w.cell? ⟨b, off + j * 3, none⟩ = some (.string (l.getD j noCh).path) ∧ w.cell? ⟨b, off + j * 3 + 1, none⟩ = some (.string (l.getD j noCh).was) ∧ w.cell? ⟨b, off + j * 3 + 2, none⟩ = some (.string (l.getD j noCh).is))
def DiffOut (G : Sw.Src) (a b : ByteArray) (w : World) (e : Ending) (w' : World) : Prop :=
 ∃ p n c D er, e = .returned (.tuple #[.slice p n c, .int .i64 er]) ∧ ChsAt w' p n D ∧ Below w.heap.size w w' ∧
  (if (listS G a).2 ≠ 0 then er = (listS G a).2 ∧ D = [] else if (listS G b).2 ≠ 0 then er = (listS G b).2 ∧ D = [] else er = 0 ∧ IsDiff (listS G a).1 (listS G b).1 D)
theorem chvals_get : ∀ (l : List Ch) (j : Nat), j < l.length → (l.flatMap chCs)[j * 3]? = some (.string (l.getD j noCh).path) ∧ (l.flatMap chCs)[j * 3 + 1]? = some (.string (l.getD j noCh).was) ∧ (l.flatMap chCs)[j * 3 + 2]? = some (.string (l.getD j noCh).is)
 | [], j, h => by simp at h
 | a :: r, 0, h => ⟨rfl, rfl, rfl⟩
 | a :: r, j + 1, h => by
  have ih := chvals_get r j (by simp only [List.length_cons] at h; omega)
  have e : (a :: r).flatMap chCs = chCs a ++ r.flatMap chCs := rfl
  have l3 : (chCs a).length = 3 := rfl
  rw [e, List.getElem?_append_right (by rw [l3]; omega), List.getElem?_append_right (by rw [l3]; omega), List.getElem?_append_right (by rw [l3]; omega), l3]
  rw [show (j + 1) * 3 - 3 = j * 3 by omega, show (j + 1) * 3 + 1 - 3 = j * 3 + 1 by omega, show (j + 1) * 3 + 2 - 3 = j * 3 + 2 by omega]
  exact ih
theorem diff1_any (x y : Ch) (W : World) (hx : OkName x.path) (hy : OkName y.path) (hm : MaxAt W) :
  Calls Tryz.prog 31 #[valC x, valC y] W fun e w' => e = .returned (.int .i64 (cmpP (pieces x.path.data.toList) (pieces y.path.data.toList))) ∧ Lays W w' := by
 have e1 : valC x = .agg #[.string x.path, .string x.was, .string x.is] := rfl
 have e2 : valC y = .agg #[.string y.path, .string y.was, .string y.is] := rfl
 rw [e1, e2]
 clear e1 e2
 have HLY : Hid (Lays W ((W.alloc (.cells #[.string x.path, .string x.was, .string x.is] 34)).alloc (.cells #[.string y.path, .string y.was, .string y.is] 34))) := ((Lays.refl W).alloc _).alloc _
 have HXB : Hid (Blk ((W.alloc (.cells #[.string x.path, .string x.was, .string x.is] 34)).alloc (.cells #[.string y.path, .string y.was, .string y.is] 34)) W.heap.size 34 #[.string x.path, .string x.was, .string x.is]) := Blk.alloc (Blk.new W _ _) _
 have HYB : Hid (Blk ((W.alloc (.cells #[.string x.path, .string x.was, .string x.is] 34)).alloc (.cells #[.string y.path, .string y.was, .string y.is] 34)) (W.heap.size + 1) 34 #[.string y.path, .string y.was, .string y.is]) := by
  have h := Blk.new (W.alloc (.cells #[.string x.path, .string x.was, .string x.is] 34)) 34 #[.string y.path, .string y.was, .string y.is]
  rw [World.size_alloc] at h; exact h
 have HCMP := hid (compareX_any x.path y.path ((W.alloc (.cells #[.string x.path, .string x.was, .string x.is] 34)).alloc (.cells #[.string y.path, .string y.was, .string y.is] 34)) (by have := hx.2; omega) (by have := hy.2; omega) (hm.later HLY.out.below))
 have hcr : compareR x.path.data.toList y.path.data.toList = cmpP (pieces x.path.data.toList) (pieces y.path.data.toList) := by unfold compareR; rw [if_pos ⟨hx.1, hy.1⟩]
 rw [hcr] at HCMP
 clear hcr hm
 go_enter Tryz.func31, Tryz.ntmps31
 go_upto_region 1 with fail
 generalize ((W.alloc (.cells #[.string x.path, .string x.was, .string x.is] 34)).alloc (.cells #[.string y.path, .string y.was, .string y.is] 34)) = w2 at HLY HXB HYB HCMP ⊢
 have k0 : w2.cell? ⟨W.heap.size, 0, none⟩ = some (.string x.path) := Blk.cell HXB.out 0
 have k1 : w2.cell? ⟨W.heap.size + 1, 0, none⟩ = some (.string y.path) := Blk.cell HYB.out 0
 go_wp2_with (go_at_call 32; refine HCMP.out.mono ?_; rintro e w3 ⟨rfl, hl3⟩)
 go_ret
 exact ⟨rfl, HLY.out.trans hl3⟩
theorem nodup_of_map {α β : Type} {f : α → β} : ∀ {l : List α}, (l.map f).Nodup → l.Nodup
 | [], _ => List.nodup_nil
 | a :: l, h => by
  rw [List.map_cons] at h
  obtain ⟨h1, h2⟩ := List.nodup_cons.1 h
  exact List.nodup_cons.2 ⟨fun hm => h1 (List.mem_map.2 ⟨a, hm, rfl⟩), nodup_of_map h2⟩
/-- an own slice of changes with a table sorted by paths -/
theorem sortCh_own {tab : ByteArray → Option Ch} (htb : PathTab tab) (B n : Nat) (v : Value) (O : List Ch) (w : World) (w0 : World) (hm : MaxAt w0) (hw : Below w0.heap.size w0 w) (hB : w0.heap.size ≤ B) (hO : ∀ c ∈ O, tab c.path = some c) (hnd : (O.map (fun c : Ch => c.path)).Nodup)
  (h : w.ownsRow B 34 3 v n (O.flatMap chCs)) (hn : n ≤ 1000000) (hOn : O.length = n) :
  Calls Tryz.prog 30 #[v, .func (.func 31) #[] #[]] w fun e w' => ∃ D : List Ch, e = .returned (.tuple #[]) ∧ w'.ownsRow B 34 3 v n (D.flatMap chCs) ∧ w.grownBy w' v.ownBlock ∧
   D.length = n ∧ D.Pairwise (fun x y => cmpP (pieces x.path.data.toList) (pieces y.path.data.toList) = -1) ∧ ∀ c, c ∈ D ↔ c ∈ O := by
 by_cases h0 : O = []
 ·subst h0
  have hn0 : n = 0 := hOn.symm
  subst hn0
  obtain ⟨va, vc, rfl, hvc⟩ := own_slice' h
  refine (AnyF.slices_SortFunc_none Tryz.sortF30 va vc _ w).mono ?_
  rintro e w' ⟨rfl, rfl⟩
  exact ⟨[], rfl, h, ⟨rfl, rfl, rfl, Nat.le_refl _, fun _ _ _ => rfl⟩, rfl, List.Pairwise.nil, fun c => Iff.rfl⟩
 ·obtain ⟨c0, hc0⟩ := List.exists_mem_of_ne_nil O h0
  haveI : Inhabited {c : Ch // tab c.path = some c} := ⟨⟨c0, hO c0 hc0⟩⟩
  obtain ⟨l, hl⟩ : ∃ l : List {c : Ch // tab c.path = some c}, l.map Subtype.val = O := ⟨O.pmap Subtype.mk hO, by simp [List.map_pmap]⟩
  have hflat : l.flatMap (fun c => chCs c.1) = O.flatMap chCs := by rw [← hl, List.flatMap_map]
  have hself : ∀ x : {c : Ch // tab c.path = some c}, cmpP (pieces x.1.path.data.toList) (pieces x.1.path.data.toList) = 0 := fun x => cmpP_self _
  have hone : ∀ x y : {c : Ch // tab c.path = some c}, cmpP (pieces x.1.path.data.toList) (pieces y.1.path.data.toList) = 0 → x = y := fun x y hxy => by
   have h1 := cmpP_zero _ _ hxy
   have h2 : x.1.path.data.toList = y.1.path.data.toList := by rw [← join_pieces x.1.path.data.toList, ← join_pieces y.1.path.data.toList, h1]
   have h3 : x.1.path = y.1.path := ba_ext h2
   have h4 := x.2
   rw [h3, y.2] at h4
   injection h4 with h4
   exact Subtype.ext h4.symm
  have hSW : Go.Sort.SWO (Go.Proofs.ltOf (fun x y : {c : Ch // tab c.path = some c} => cmpP (pieces x.1.path.data.toList) (pieces y.1.path.data.toList))) := by
   refine ⟨fun x => ?_, fun x y z h1 h2 => ?_, fun x y z h1 h2 => ?_⟩
   ·simp [ltOf, hself x]
   ·unfold ltOf at *
    simp only [decide_eq_true_eq] at *
    have r1 := cmpP_range (pieces x.1.path.data.toList) (pieces y.1.path.data.toList)
    have r2 := cmpP_range (pieces y.1.path.data.toList) (pieces z.1.path.data.toList)
    have := cmpP_trans (pieces x.1.path.data.toList) (pieces y.1.path.data.toList) (pieces z.1.path.data.toList) (by omega) (by omega)
    omega
   ·unfold ltOf at *
    simp only [decide_eq_false_iff_not] at *
    have n1 := cmpP_neg (pieces x.1.path.data.toList) (pieces y.1.path.data.toList)
    have n2 := cmpP_neg (pieces y.1.path.data.toList) (pieces z.1.path.data.toList)
    have n3 := cmpP_neg (pieces x.1.path.data.toList) (pieces z.1.path.data.toList)
    have := (cmp_le_trans (pieces z.1.path.data.toList) (pieces y.1.path.data.toList) (pieces x.1.path.data.toList) (by omega) (by omega)).1
    omega
  have hT : ∀ x y : {c : Ch // tab c.path = some c}, Go.Proofs.ltOf (fun x y : {c : Ch // tab c.path = some c} => cmpP (pieces x.1.path.data.toList) (pieces y.1.path.data.toList)) x y = false → Go.Proofs.ltOf (fun x y : {c : Ch // tab c.path = some c} => cmpP (pieces x.1.path.data.toList) (pieces y.1.path.data.toList)) y x = false → x = y := fun x y h1 h2 => by
   unfold ltOf at *
   simp only [decide_eq_false_iff_not] at *
   have n1 := cmpP_neg (pieces x.1.path.data.toList) (pieces y.1.path.data.toList)
   exact hone x y (by omega)
  have hrow : w.ownsRow B 34 3 v n (l.flatMap (fun c => chCs c.1)) := by rw [hflat]; exact h
  refine (sortK_own Tryz.sortF30 3 (by decide) Tryz.isAgg34 Tryz.sizeOf34 (fun c : {c : Ch // tab c.path = some c} => chCs c.1) (fun x => rfl) (fun x u hu => by simp [chCs] at hu; rcases hu with rfl | rfl | rfl <;> rfl) _ hSW hT 31 #[] B n v l w
   (enters_of Tryz.func31 (by kernel_rfl) rfl) (fun W hg x y => ?_) hrow hn).mono ?_
  ·have hmW : MaxAt W := hm.later (hw.grown hg hw.size (fun j hj => Nat.le_trans hB (h.lt j hj).1))
   refine (diff1_any x.1 y.1 W (htb _ _ x.2).2 (htb _ _ y.2).2 hmW).mono ?_
   rintro e w' ⟨rfl, os, rfl⟩
   exact ⟨rfl, 0, os, rfl⟩
  ·rintro e w' ⟨rfl, hrow', hg'⟩
   refine ⟨(l.mergeSort fun x y => !(Go.Proofs.ltOf (fun x y : {c : Ch // tab c.path = some c} => cmpP (pieces x.1.path.data.toList) (pieces y.1.path.data.toList))) y x).map Subtype.val, rfl, ?_, hg', ?_, ?_, fun c => ?_⟩
   ·rw [List.flatMap_map]; exact hrow'
   ·rw [List.length_map, List.length_mergeSort, ← hOn, ← hl, List.length_map]
   ·rw [List.pairwise_map]
    have hp := List.pairwise_mergeSort (le := fun x y : {c : Ch // tab c.path = some c} => !(Go.Proofs.ltOf (fun x y : {c : Ch // tab c.path = some c} => cmpP (pieces x.1.path.data.toList) (pieces y.1.path.data.toList))) y x) (fun a b c h1 h2 => by
     simp only [Bool.not_eq_true', ] at *
     exact hSW.ntrans _ _ _ h2 h1) (fun a b => by
     have n1 := cmpP_neg (pieces a.1.path.data.toList) (pieces b.1.path.data.toList)
     unfold ltOf
     by_cases hlt : cmpP (pieces b.1.path.data.toList) (pieces a.1.path.data.toList) < 0
     ·have : ¬ cmpP (pieces a.1.path.data.toList) (pieces b.1.path.data.toList) < 0 := by omega
      simp [this]
     ·simp [hlt]) l
    have hnl : l.Nodup := by
     rw [← hl, List.map_map] at hnd
     exact (nodup_of_map hnd)
    have hnd2 : (l.mergeSort fun x y => !(Go.Proofs.ltOf (fun x y : {c : Ch // tab c.path = some c} => cmpP (pieces x.1.path.data.toList) (pieces y.1.path.data.toList))) y x).Nodup := (List.mergeSort_perm l _).nodup_iff.2 hnl
    refine (hp.and hnd2).imp ?_
    rintro a b ⟨h1, hne⟩
    simp only [Bool.not_eq_true'] at h1
    unfold ltOf at h1
    simp only [decide_eq_false_iff_not] at h1
    have n1 := cmpP_neg (pieces a.1.path.data.toList) (pieces b.1.path.data.toList)
    have r1 := cmpP_range (pieces a.1.path.data.toList) (pieces b.1.path.data.toList)
    have hne0 : cmpP (pieces a.1.path.data.toList) (pieces b.1.path.data.toList) ≠ 0 := fun e => hne (hone a b e)
    omega
   ·rw [List.mem_map]
    constructor
    ·rintro ⟨x, hx, rfl⟩
     rw [List.mem_mergeSort] at hx
     rw [← hl]; exact List.mem_map.2 ⟨x, hx, rfl⟩
    ·intro hc
     rw [← hl] at hc
     obtain ⟨x, hx, rfl⟩ := List.mem_map.1 hc
     exact ⟨x, by rw [List.mem_mergeSort]; exact hx, rfl⟩
theorem foldl_take {α β : Type} (f : β → α → β) (z : β) (l : List α) (d : α) {i : Nat} (h : i < l.length) : (l.take (i + 1)).foldl f z = f ((l.take i).foldl f z) (l.getD i d) := by
 rw [List.take_succ_eq_append_getElem h, List.foldl_append, List.getD_eq_getElem?_getD, List.getElem?_eq_getElem h]; rfl
set_option maxRecDepth 100000 in
set_option maxHeartbeats 16000000 in
theorem diff_any (t : TypeId) (rv : Value) (G : Sw.Src) (hz : SrcSz G) (ia ib : ByteArray) (w : World) (hs : SrcAt w t rv G) (hm : MaxAt w) : Calls Tryz.prog 7 #[.iface t rv, .string ia, .string ib] w (DiffOut G ia ib w) := by
 obtain ⟨i0, hi0, hz0, hz1, hz2⟩ := info_parts Tryz.infoCh
 have HLA := hid (list_any t rv G hz ia w hs)
 have HS := hid hs
 have HM := hid hm
 clear hs hm
 have hmk : ∀ (T : TypeId) (W : World), (Instr.makeMap T none).run Tryz.prog W = .ok (.map (some W.heap.size)) (W.alloc (.map #[] 0)) := fun T W => run_makeMap T W
 have HNA := hid (listS_names G ia)
 have HNB := hid (listS_names G ib)
 obtain ⟨l1, e1, hl1⟩ : ∃ l e, listS G ia = (l, e) := ⟨_, _, rfl⟩
 obtain ⟨l2, e2, hl2⟩ : ∃ l e, listS G ib = (l, e) := ⟨_, _, rfl⟩
 have HL1 := hid hl1
 have HL2 := hid hl2
 rw [hl1] at HLA HNA
 rw [hl2] at HNB
 clear hl1
 go_enter Tryz.func7, Tryz.ntmps7
 go_wp2_with fail
 refine HLA.out.mono ?_; rintro e w1 ⟨a1, n1, c1, rfl, hE1, hb1, hf1, hn1⟩
 simp only at hE1 ⊢
 have HE1 := hid hE1
 have HB1 := hid hb1
 have hs1 : w.heap.size ≤ w1.heap.size := hb1.size
 have HLB := hid (list_any t rv G hz ib w1 (HS.out.later hb1))
 rw [hl2] at HLB
 clear hE1 hb1 hf1 HLA hl2
 by_cases he1 : e1 = 0
 ·subst he1
  go_wp2_with fail
  refine HLB.out.mono ?_; rintro e w2 ⟨a2, n2, c2, rfl, hE2, hb2, hf2, hn2⟩
  simp only at hE2 ⊢
  have HE2 := hid hE2
  have HE1' := hid (HE1.out.later hb2)
  have HB2 : Hid (Below w.heap.size w w2) := HB1.out.trans (hb2.mono hs1)
  have hs2 : w.heap.size ≤ w2.heap.size := HB2.out.size
  clear hE2 hb2 hf2 HLB HE1 HB1 hs1
  by_cases he2 : e2 = 0
  ·subst he2
   obtain ⟨m, hmd⟩ : ∃ m, w2.heap.size = m := ⟨_, rfl⟩
   have HMD := hid hmd
   have HC0 : Hid (ChMap (w2.alloc (.map #[] 0)) m 0 (fun _ => none)) := by rw [← hmd]; exact MapFn.made w2
   have HB3 : Hid (Below w.heap.size w (w2.alloc (.map #[] 0))) := HB2.out.alloc hs2 _
   have HE13 := hid (HE1'.out.later ((Below.refl _ _).alloc (Nat.le_refl _) (.map #[] 0)))
   have HE23 := hid (HE2.out.later ((Below.refl _ _).alloc (Nat.le_refl _) (.map #[] 0)))
   have HB23 : Hid (Below m w2 (w2.alloc (.map #[] 0))) := by rw [← hmd]; exact (Below.refl _ _).alloc (Nat.le_refl _) _
   rw [hmd] at hs2
   clear hmd
   go_upto_region 9 with fail
   rw [HMD.out]
   generalize (w2.alloc (.map #[] 0)) = w3 at HC0 HB3 HE13 HE23 HB23 ⊢
   go_loopw [41] (fun iv wr => ∃ i : Nat, i ≤ n1 ∧ iv = .int .i64 i ∧ Hid (ChMap wr m i ((l1.take i).foldl putA (fun _ => none))) ∧ Hid (Below m w2 wr)) (fun iv _ => n1 - (intOf iv).toNat)
   case atStart => exact ⟨0, Nat.zero_le _, rfl, HC0, HB23⟩
   case round =>
    obtain ⟨i, hi, rfl, HC, HB⟩ := hrel
    have hszr := HB.out.size
    rw [HMD.out] at hszr
    by_cases hlt : i < n1
    ·have ci : (i : Int) < n1 := by omega
     have ci0 : (0 : Int) ≤ (i : Int) := by omega
     obtain ⟨hil0, -, h3⟩ := HE1'.out.later (by rw [HMD.out]; exact HB.out)
     obtain ⟨eb, eoff, rfl, hcell⟩ := h3.resolve_left (by omega)
     obtain ⟨q0, q1, q2⟩ := hcell i hlt
     have hil : i < l1.length := by rw [hil0]; exact hlt
     have HT : Hid ((l1.take (i + 1)).foldl putA (fun _ => none) = putA ((l1.take i).foldl putA (fun _ => none)) (l1.getD i ⟨ByteArray.empty, 0, ByteArray.empty⟩)) := foldl_take putA _ l1 _ hil
     have hok := HNA.out (l1.getD i ⟨ByteArray.empty, 0, ByteArray.empty⟩) (by rw [List.getD_eq_getElem?_getD, List.getElem?_eq_getElem hil]; exact List.getElem_mem hil)
     obtain ⟨z, hzz⟩ : ∃ z, l1.getD i ⟨ByteArray.empty, 0, ByteArray.empty⟩ = z := ⟨_, rfl⟩
     rw [hzz] at q0 q1 q2 HT hok
     obtain ⟨nm, kd, yd⟩ := z
     simp only at q0 q1 q2
     have hnm : nm.size ≤ maxLen := by have h := hok.2; have h : nm.size ≤ 100000 := h; unfold maxLen; omega
     clear hzz hcell h3 hil hil0 hok
     go_upto_region 11 with fail
     have HX1 : Hid (Blk (wr.alloc (.cells #[.string nm, .int .i64 kd, .string yd] 76)) wr.heap.size 76 #[.string nm, .int .i64 kd, .string yd]) := Blk.new wr _ _
     have HC1 : Hid (ChMap (wr.alloc (.cells #[.string nm, .int .i64 kd, .string yd] 76)) m i ((l1.take i).foldl putA (fun _ => none))) := HC.out.later ((Below.refl _ _).alloc (Nat.le_refl _) _)
     have HB1 : Hid (Below m w2 (wr.alloc (.cells #[.string nm, .int .i64 kd, .string yd] 76))) := HB.out.alloc hszr _
     have hs1 : m ≤ (wr.alloc (.cells #[.string nm, .int .i64 kd, .string yd] 76)).heap.size := by rw [World.size_alloc]; omega
     clear q0 q1 q2 HC HB
     generalize (wr.alloc (.cells #[.string nm, .int .i64 kd, .string yd] 76)) = w4 at HX1 HC1 HB1 hs1 ⊢
     generalize wr.heap.size = g4 at HX1 ⊢
     have k0 : w4.cell? ⟨g4, 0, none⟩ = some (.string nm) := Blk.cell HX1.out 0
     have k2 : w4.cell? ⟨g4, 2, none⟩ = some (.string yd) := Blk.cell HX1.out 2
     have him : i < maxLen := by unfold maxLen; omega
     go_wp2_with (first
      | (at_mapUpdate; refine wpList_mapFn_set rfl (.tmp 45) (.tmp 47) (.tmp 52) 86 rfl Tryz.underlying9 Tryz.underlying86 valC_inj HC1.out him nm hnm ⟨nm, yd, ByteArray.empty⟩ rfl rfl rfl ?_; intro w5 hm5 hg5; have HM5 := hid hm5; have HG5 := hid hg5; clear hm5 hg5)
      | go_in)
     have HM6 : Hid (ChMap w5 m (i + 1) ((l1.take (i + 1)).foldl putA (fun _ => none))) := by
      show ChMap _ _ _ _
      rw [HT.out]; exact HM5.out
     have HB6 : Hid (Below m w2 w5) := HB1.out.grown HG5.out hs1 (fun j hj => by cases hj; exact Nat.le_refl _)
     go_roundw
     case rel => first | exact ⟨i + 1, by omega, by go_num, HM6, HB6⟩ | ((repeat apply Exists.intro); exact ⟨⟨i + 1, by omega, by go_num, HM6, HB6⟩, rfl⟩)
     case measure => simp [intOf]; omega
    ·obtain rfl : i = n1 := by omega
     have ci : ¬ (i : Int) < i := by omega
     have HCA : Hid (ChMap wr m i (l1.foldl putA (fun _ => none))) := by
      have h := HC.out
      rw [List.take_of_length_le (by rw [HE1'.out.1]; exact Nat.le_refl _)] at h; exact h
     clear HC
     go_upto_region 14 with fail
     have HBA := HB
     clear HB
     rename World => wA
     go_loopw [56] (fun iv wx => ∃ j : Nat, j ≤ n2 ∧ iv = .int .i64 j ∧ Hid (ChMap wx m (i + j) ((l2.take j).foldl putB (l1.foldl putA (fun _ => none)))) ∧ Hid (Below m w2 wx)) (fun iv _ => n2 - (intOf iv).toNat)
     case atStart => exact ⟨0, Nat.zero_le _, rfl, HCA, HBA⟩
     case round =>
      obtain ⟨j, hj, rfl, HC, HB⟩ := hrel
      have hszr := HB.out.size
      rw [HMD.out] at hszr
      by_cases hlt : j < n2
      ·have ci : (j : Int) < n2 := by omega
       have ci0 : (0 : Int) ≤ (j : Int) := by omega
       obtain ⟨hil0, -, h3⟩ := HE2.out.later (by rw [HMD.out]; exact HB.out)
       obtain ⟨eb, eoff, rfl, hcell⟩ := h3.resolve_left (by omega)
       obtain ⟨q0, q1, q2⟩ := hcell j hlt
       have hil : j < l2.length := by rw [hil0]; exact hlt
       have HT : Hid ((l2.take (j + 1)).foldl putB (l1.foldl putA (fun _ => none)) = putB ((l2.take j).foldl putB (l1.foldl putA (fun _ => none))) (l2.getD j ⟨ByteArray.empty, 0, ByteArray.empty⟩)) := foldl_take putB _ l2 _ hil
       have hok := HNB.out (l2.getD j ⟨ByteArray.empty, 0, ByteArray.empty⟩) (by rw [List.getD_eq_getElem?_getD, List.getElem?_eq_getElem hil]; exact List.getElem_mem hil)
       obtain ⟨z, hzz⟩ : ∃ z, l2.getD j ⟨ByteArray.empty, 0, ByteArray.empty⟩ = z := ⟨_, rfl⟩
       rw [hzz] at q0 q1 q2 HT hok
       obtain ⟨nm, kd, yd⟩ := z
       simp only at q0 q1 q2
       have hnm : nm.size ≤ maxLen := by have h := hok.2; have h : nm.size ≤ 100000 := h; unfold maxLen; omega
       obtain ⟨f, hf⟩ : ∃ f, (l2.take j).foldl putB (l1.foldl putA (fun _ => none)) = f := ⟨_, rfl⟩
       rw [hf] at HT HC
       clear hzz hcell h3 hil hil0 hok hf
       go_upto_region 16 with fail
       have HX1 : Hid (Blk (wr.alloc (.cells #[.string nm, .int .i64 kd, .string yd] 76)) wr.heap.size 76 #[.string nm, .int .i64 kd, .string yd]) := Blk.new wr _ _
       have HC1 : Hid (ChMap (wr.alloc (.cells #[.string nm, .int .i64 kd, .string yd] 76)) m (i + j) f) := HC.out.later ((Below.refl _ _).alloc (Nat.le_refl _) _)
       have HB1 : Hid (Below m w2 (wr.alloc (.cells #[.string nm, .int .i64 kd, .string yd] 76))) := HB.out.alloc hszr _
       have hs1 : m ≤ (wr.alloc (.cells #[.string nm, .int .i64 kd, .string yd] 76)).heap.size := by rw [World.size_alloc]; omega
       clear q0 q1 q2 HC HB
       generalize (wr.alloc (.cells #[.string nm, .int .i64 kd, .string yd] 76)) = w4 at HX1 HC1 HB1 hs1 ⊢
       generalize wr.heap.size = g4 at HX1 ⊢
       have k0 : w4.cell? ⟨g4, 0, none⟩ = some (.string nm) := Blk.cell HX1.out 0
       have hlk := chMap_get1 HC1.out nm hnm
       obtain ⟨cc, hcc⟩ : ∃ cc, (f nm).getD noCh = cc := ⟨_, rfl⟩
       rw [hcc] at hlk
       have HCC := hid hcc
       clear hcc
       obtain ⟨pc, wc, ic⟩ := cc
       have ev : valC ⟨pc, wc, ic⟩ = .agg #[.string pc, .string wc, .string ic] := rfl
       rw [ev] at hlk
       clear ev
       go_upto_region 17 with fail
       have HX5 : Hid (Blk (w4.alloc (.cells #[.string pc, .string wc, .string ic] 34)) w4.heap.size 34 #[.string pc, .string wc, .string ic]) := Blk.new w4 _ _
       have HE5 : Hid (Blk (w4.alloc (.cells #[.string pc, .string wc, .string ic] 34)) g4 76 #[.string nm, .int .i64 kd, .string yd]) := Blk.alloc HX1.out _
       have HC5 : Hid (ChMap (w4.alloc (.cells #[.string pc, .string wc, .string ic] 34)) m (i + j) f) := HC1.out.later ((Below.refl _ _).alloc (Nat.le_refl _) _)
       have HB5 : Hid (Below m w2 (w4.alloc (.cells #[.string pc, .string wc, .string ic] 34))) := HB1.out.alloc hs1 _
       have hg4 : g4 < w4.heap.size := Blk.lt HX1.out
       have hm5 : m < w4.heap.size := HC1.out.lt
       have hs5 : m ≤ (w4.alloc (.cells #[.string pc, .string wc, .string ic] 34)).heap.size := by rw [World.size_alloc]; omega
       clear hlk k0 HX1 HC1 HB1 hs1
       generalize (w4.alloc (.cells #[.string pc, .string wc, .string ic] 34)) = w5 at HX5 HE5 HC5 HB5 hs5 ⊢
       generalize w4.heap.size = g5 at HX5 hg4 hm5 ⊢
       have k0 : w5.cell? ⟨g4, 0, none⟩ = some (.string nm) := Blk.cell HE5.out 0
       have k2 : w5.cell? ⟨g4, 2, none⟩ = some (.string yd) := Blk.cell HE5.out 2
       have d0 : w5.cell? ⟨g5, 0, none⟩ = some (.string pc) := Blk.cell HX5.out 0
       have d2 : w5.cell? ⟨g5, 2, none⟩ = some (.string ic) := Blk.cell HX5.out 2
       have f0 := Blk.frozen HX5.out 0
       have f2 := Blk.frozen HX5.out 2
       go_cut [] (fun wx => wx = ((w5.setCell ⟨g5, 0, none⟩ (.string nm)).setCell ⟨g5, 2, none⟩ (.string yd)).drew)
       case first =>
        go_region
        all_goals
         go_wp2_with fail
         go_meet
         case rel => exact rfl
       case rest =>
        subst hcut
        have ho6 : Only (· = g5) w5 ((w5.setCell ⟨g5, 0, none⟩ (.string nm)).setCell ⟨g5, 2, none⟩ (.string yd)).drew := (((Only.refl (· = g5) w5).setCell (p := ⟨g5, 0, none⟩) (.inl rfl) _).setCell (p := ⟨g5, 2, none⟩) (.inl rfl) _).drew
        have HX6 : Hid (Blk ((w5.setCell ⟨g5, 0, none⟩ (.string nm)).setCell ⟨g5, 2, none⟩ (.string yd)).drew g5 34 #[.string nm, .string wc, .string yd]) := by
         have := Blk.drew (Blk.set (Blk.set HX5.out 0 (.string nm)) 2 (.string yd))
         show Blk _ _ _ _
         simpa using this
        have HE6 := hid (HE5.out.only ho6 (fun (e : g4 = g5) => by omega))
        have HC6 := hid (HC5.out.only ho6 (fun (e : m = g5) => by omega))
        have HB6 : Hid (Below m w2 ((w5.setCell ⟨g5, 0, none⟩ (.string nm)).setCell ⟨g5, 2, none⟩ (.string yd)).drew) := HB5.out.trans (ho6.below (fun k (e : k = g5) => by omega) hs5)
        have hs6 : m ≤ ((w5.setCell ⟨g5, 0, none⟩ (.string nm)).setCell ⟨g5, 2, none⟩ (.string yd)).drew.heap.size := Nat.le_trans hs5 ho6.size
        clear k0 k2 d0 d2 f0 f2 ho6 HX5 HE5 HC5 HB5
        generalize ((w5.setCell ⟨g5, 0, none⟩ (.string nm)).setCell ⟨g5, 2, none⟩ (.string yd)).drew = w6 at HX6 HE6 HC6 HB6 hs6 ⊢
        have k0 : w6.cell? ⟨g4, 0, none⟩ = some (.string nm) := Blk.cell HE6.out 0
        have d0 : w6.cell? ⟨g5, 0, none⟩ = some (.string nm) := Blk.cell HX6.out 0
        have d1 : w6.cell? ⟨g5, 1, none⟩ = some (.string wc) := Blk.cell HX6.out 1
        have d2 : w6.cell? ⟨g5, 2, none⟩ = some (.string yd) := Blk.cell HX6.out 2
        have him : i + j < maxLen := by unfold maxLen; omega
        go_wp2_with (first
         | (at_mapUpdate; refine wpList_mapFn_set rfl (.tmp 70) (.tmp 72) (.tmp 73) 86 rfl Tryz.underlying9 Tryz.underlying86 valC_inj HC6.out him nm hnm ⟨nm, wc, yd⟩ rfl rfl rfl ?_; intro w7 hm7 hg7; have HM7 := hid hm7; have HG7 := hid hg7; clear hm7 hg7)
         | go_in)
        have HM8 : Hid (ChMap w7 m (i + (j + 1)) ((l2.take (j + 1)).foldl putB (l1.foldl putA (fun _ => none)))) := by
         show ChMap _ _ _ _
         rw [HT.out]
         have h := HM7.out
         have e : putB f ⟨nm, kd, yd⟩ = fun q => if q = nm then some ⟨nm, wc, yd⟩ else f q := by
          funext q
          unfold putB
          simp only
          rw [HCC.out]
         rw [e]; exact h
        have HB8 : Hid (Below m w2 w7) := HB6.out.grown HG7.out hs6 (fun j hj => by cases hj; exact Nat.le_refl _)
        go_roundw
        case rel => first | exact ⟨j + 1, by omega, by go_num, HM8, HB8⟩ | ((repeat apply Exists.intro); exact ⟨⟨j + 1, by omega, by go_num, HM8, HB8⟩, rfl⟩)
        case measure => simp [intOf]; omega
      ·obtain rfl : j = n2 := by omega
       have ci : ¬ (j : Int) < j := by omega
       have HCD : Hid (ChMap wr m (i + j) (tabD l1 l2)) := by
        have h := HC.out
        rw [List.take_of_length_le (by rw [HE2.out.1]; exact Nat.le_refl _)] at h; exact h
       clear HC
       obtain ⟨D0, ho0, hs0⟩ := HCD.out
       have HTB := hid (tabD_tab HNA.out HNB.out)
       obtain ⟨tab, htab⟩ : ∃ f, tabD l1 l2 = f := ⟨_, rfl⟩
       have HTAB := hid htab
       rw [htab] at hs0 HTB
       have HO0 := hid ho0
       have HS0 := hid hs0
       have hz0' : Maps.size D0 ≤ i + j := ho0.size_le
       have hmr : m < wr.heap.size := ho0.lt
       have HBw : Hid (Below w.heap.size w wr) := HB2.out.trans (HB.out.mono (by rw [← HMD.out] at hs2 ⊢; exact hs2))
       have hsw : w.heap.size ≤ wr.heap.size := HBw.out.size
       clear ho0 hs0 htab HCD HBA HB hszr HC0 HB3 HE13 HE23 HB23 HE1' HE2
       rename World => wB
       go_wp2_with (first
        | (at_range; refine wpList_range_own _ rfl _ 86 rfl 9 34 (Maps.string_keyed Tryz.underlying9) Tryz.underlying86 _ m (i + j) _ rfl HO0.out ?_; intro w0 hrg0 hg0 hsz0; have HR0 := hid hrg0; have HG0 := hid hg0; clear hrg0 hg0 hsz0)
        | go_in)
       try go_frame
       go_loopw [17] (fun v wx => ∃ (left : Lit → Bool) (cnt : Nat) (ss : List (List UInt8)) (O : List Ch), Hid (wx.ranges Tryz.prog 9 (elemR valC datC) m wB.heap.size (i + j) D0 left cnt) ∧ Hid (ss.length + cnt ≤ Maps.size D0) ∧
        Hid (wx.ownsRow wB.heap.size 34 3 v O.length (O.flatMap chCs)) ∧ Hid (Collected D0 left ss) ∧ Hid (Below wB.heap.size wB wx) ∧ Hid (∀ c : Ch, c ∈ O ↔ c.path.data.toList ∈ ss ∧ tab c.path = some c ∧ c.was ≠ c.is) ∧ Hid ((O.map (fun c : Ch => c.path)).Nodup) ∧ O.length ≤ ss.length) (fun _ wx => wx.rangeLeft m wB.heap.size)
       case atStart =>
        exact ⟨_, _, [], [], HR0, by show 0 + _ ≤ _; omega, World.ownsRow_nil _ _ _ _, Collected.start D0, (Below.refl _ _).grown HG0.out (Nat.le_refl _) (fun j hj => by cases hj), fun c => by simp, List.nodup_nil, Nat.le_refl _⟩
       case round =>
        obtain ⟨left, cnt, ss, O, HRG, HCS, HRW, HC, HB, HIN, HND, hOs⟩ := hrel
        obtain ⟨va, vc, rfl, hvc⟩ := own_slice' HRW.out
        have hszr := HB.out.size
        go_wp2_with (first
         | (at_next; refine wpList_next_ranges _ rfl _ rfl 9 (Maps.string_keyed Tryz.underlying9) (elemR valC datC) encStr valC (fun key kl hk => by obtain ⟨x, hx, _⟩ := Maps.keyOf_str Tryz.underlying9 hk; exact ⟨x, hx⟩) (fun v y hv => by obtain ⟨c, rfl, _⟩ := elemR_inv hv; exact ⟨c, rfl⟩) m wB.heap.size (i + j) _ _ _ rfl HRG.out ?_ ?_)
         | go_in)
        ·intro hc0 hl0
         have HMEM : Hid (∀ c : Ch, c ∈ O ↔ tab c.path = some c ∧ c.was ≠ c.is) := fun c => by
          refine (HIN.out c).trans ⟨fun h => h.2, fun h => ⟨?_, h⟩⟩
          refine (HC.out.2 _).2 ⟨?_, hl0 _⟩
          have := (HS0.out c.path).1
          rw [h.1] at this
          exact this
         have hO6 : O.length ≤ 1000000 := by have := HCS.out; omega
         have HBW : Hid (Below w.heap.size w wr) := HBw.out.trans (HB.out.mono hsw)
         have HSO := hid (sortCh_own HTB.out wB.heap.size O.length (.slice va O.length vc) O wr w HM.out HBW.out hsw (fun c hc => ((HMEM.out c).1 hc).1) HND.out HRW.out hO6 rfl)
         clear hc0 hl0
         go_wp2_with (go_at_call 30; refine HSO.out.mono ?_; rintro e w9 ⟨D, rfl, hrow, hg, hDl, hDp, hDm⟩)
         go_ret2
         have HB9 : Below w.heap.size w w9 := HBW.out.grown hg HBW.out.size (fun j hj => Nat.le_trans hsw (HRW.out.lt j hj).1)
         refine ⟨va, O.length, vc, D, 0, rfl, ⟨hDl, hO6, ?_⟩, HB9, ?_⟩
         ·by_cases h0 : O.length = 0
          ·exact .inl h0
          ·rcases hrow.2 with ⟨h1, h2⟩ | ⟨g, cap, cur, h1, hb, hg2, hn1, hc1, hsz, htk⟩
           ·exact .inl h2
           ·cases h1
            refine .inr ⟨g, 0, rfl, fun jj hjj => ?_⟩
            have hjd : jj < D.length := by omega
            obtain ⟨x0, x1, x2⟩ := chvals_get D jj hjd
            have c0 := hrow.cellAt (jj * 3) (by omega)
            have c1 := hrow.cellAt (jj * 3 + 1) (by omega)
            have c2 := hrow.cellAt (jj * 3 + 2) (by omega)
            rw [Nat.zero_add]
            exact ⟨c0.trans x0, c1.trans x1, c2.trans x2⟩
         ·rw [HL1.out, HL2.out]
          simp only [ne_eq, not_true_eq_false, if_false]
          refine ⟨trivial, hDp, fun c => ?_⟩
          rw [HTAB.out]
          exact (hDm c).trans (HMEM.out c)
        ·intro x c kk yd yp w4 cnt2 hkey hlk hv hat hrg2 hlt2 hg2 hs2' hen
         obtain ⟨x', ex, rfl, _⟩ := Maps.keyOf_str Tryz.underlying9 hkey
         obtain rfl : x = x' := encStr_inj ex
         have hct : tab (bz x) = some c := by
          obtain ⟨c', ec, ey⟩ := elemR_inv hv
          have ecc : c = c' := valC_inj _ _ ec
          subst ecc
          have hk : kl (bz x) = .string x := by unfold kl; simp [bz]
          obtain ⟨b1, b2⟩ := HS0.out (bz x)
          rw [hk] at b1 b2
          have hhas : Maps.has D0 (.string x) = true := Maps.has_true_of_atKey hat
          rw [hhas] at b1
          cases ht : tab (bz x) with
          | none => rw [ht] at b1; cases b1
          | some d =>
           have h1 := b2 d ht (datC d)
           have h2 := hat (datC d)
           rw [h1] at h2
           have h3 : datC d = datC c := h2.trans (Prod.mk.inj ey).1
           rw [datC_inj _ _ h3]
         have hcp := (HTB.out _ _ hct).1
         have HCT := hid hct
         have HCP := hid hcp
         have HRW2 := hid (HRW.out.kept hg2 (Or.inr (row_ne_iter HRW.out HRG.out).symm))
         have HRG2 := hid hrg2; have HLT := hid hlt2
         have HC2 := hid (HC.out.step hlk hat)
         have hw4 : wB.heap.size ≤ w4.heap.size := Nat.le_trans hszr hg2.size
         have HB2' : Hid (Below wB.heap.size wB w4) := HB.out.grown hg2 hszr (fun j hj => by cases hj; exact Nat.le_refl _)
         have hOl : O.length ≤ 100000 := by have := HCS.out; omega
         have hxs : Hid (x ∉ ss) := fun hx => by
          have := ((HC.out.2 x).1 hx).2
          rw [hlk] at this; cases this
         clear hs2' hrg2 hlt2 hg2 hlk hat hkey hv hct hcp HRW HB HC
         obtain ⟨pc, wc, ic⟩ := c
         have ev : valC ⟨pc, wc, ic⟩ = .agg #[.string pc, .string wc, .string ic] := rfl
         rw [ev] at hen ⊢
         clear ev
         go_upto_region 24 with fail
         have HX1 : Hid (Blk (w4.alloc (.cells #[.string pc, .string wc, .string ic] 34)) w4.heap.size 34 #[.string pc, .string wc, .string ic]) := Blk.new w4 _ _
         have HRW3 : Hid ((w4.alloc (.cells #[.string pc, .string wc, .string ic] 34)).ownsRow wB.heap.size 34 3 (.slice va O.length vc) O.length (O.flatMap chCs)) := HRW2.out.alloc _
         have HRG3 := hid (HRG2.out.alloc (.cells #[.string pc, .string wc, .string ic] 34))
         have HB3' : Hid (Below wB.heap.size wB (w4.alloc (.cells #[.string pc, .string wc, .string ic] 34))) := HB2'.out.alloc hw4 _
         have hs3 : wB.heap.size ≤ (w4.alloc (.cells #[.string pc, .string wc, .string ic] 34)).heap.size := by rw [World.size_alloc]; omega
         clear HRW2 HRG2 HB2' hen
         generalize (w4.alloc (.cells #[.string pc, .string wc, .string ic] 34)) = w5 at HX1 HRW3 HRG3 HB3' hs3 ⊢
         generalize w4.heap.size = g5 at HX1 ⊢
         have k0 : w5.cell? ⟨g5, 0, none⟩ = some (.string pc) := Blk.cell HX1.out 0
         have k1 : w5.cell? ⟨g5, 1, none⟩ = some (.string wc) := Blk.cell HX1.out 1
         have k2 : w5.cell? ⟨g5, 2, none⟩ = some (.string ic) := Blk.cell HX1.out 2
         have hE : (wc.toList == ic.toList) = decide (wc = ic) := by
          rw [ba_toList, ba_toList, Bool.eq_iff_iff, beq_iff_eq, decide_eq_true_eq]
          exact ⟨fun e => ba_ext e, fun e => by rw [e]⟩
         have HIN2 : Hid (∀ c : Ch, c ∈ (if wc = ic then O else O ++ [⟨pc, wc, ic⟩]) ↔ c.path.data.toList ∈ ss ++ [x] ∧ tab c.path = some c ∧ c.was ≠ c.is) := by
          intro c
          have hct := HCT.out
          have hpx : pc = bz x := HCP.out
          rw [List.mem_append, List.mem_singleton]
          constructor
          ·intro h
           split at h
           ·have := (HIN.out c).1 h; exact ⟨.inl this.1, this.2⟩
           ·rename_i hne
            rcases List.mem_append.1 h with h | h
            ·have := (HIN.out c).1 h; exact ⟨.inl this.1, this.2⟩
            ·rw [List.mem_singleton] at h; subst h
             refine ⟨.inr ?_, ?_, hne⟩
             ·show pc.data.toList = x
              rw [hpx]; simp [bz]
             ·show tab pc = _
              rw [hpx, hct, hpx]
          ·rintro ⟨h1 | h1, h2, h3⟩
           ·have := (HIN.out c).2 ⟨h1, h2, h3⟩
            split
            ·exact this
            ·exact List.mem_append.2 (.inl this)
           ·have hcx : c.path = bz x := by rw [← h1, bz_bl]
            rw [hcx, hct] at h2
            cases h2
            rw [if_neg h3]
            exact List.mem_append.2 (.inr (List.mem_singleton.2 rfl))
         have HND2 : Hid (((if wc = ic then O else O ++ [⟨pc, wc, ic⟩]).map (fun c : Ch => c.path)).Nodup) := by
          show List.Nodup _
          split
          ·exact HND.out
          ·rw [List.map_append]
           refine List.nodup_append.2 ⟨HND.out, by simp, fun p hp q hq e => ?_⟩
           subst e
           obtain ⟨c, hc, rfl⟩ := List.mem_map.1 hp
           rw [List.map_singleton, List.mem_singleton] at hq
           have h1 := ((HIN.out c).1 hc).1
           have hq : c.path = pc := hq
           have hpx : pc = bz x := HCP.out
           rw [hq, hpx] at h1
           exact hxs.out (by simpa [bz] using h1)
         have hcs2 := HCS.out
         by_cases hne : wc = ic
         ·have e1 : (wc.toList == ic.toList) = true := by rw [hE]; simp [hne]
          rw [if_pos hne] at HIN2 HND2
          have hlw : wB.heap.size ≤ w5.heap.size := hs3
          clear hE
          subst hne
          go_wp2_with fail
          go_roundw
          case rel => first | exact ⟨_, cnt2, ss ++ [x], O, HRG3, by show _ ≤ _; have := HLT.out; rw [List.length_append]; simp only [List.length_cons, List.length_nil]; omega, HRW3, HC2, HB3', HIN2, HND2, by rw [List.length_append]; omega⟩ | ((repeat apply Exists.intro); exact ⟨⟨_, cnt2, ss ++ [x], O, HRG3, by show _ ≤ _; have := HLT.out; rw [List.length_append]; simp only [List.length_cons, List.length_nil]; omega, HRW3, HC2, HB3', HIN2, HND2, by rw [List.length_append]; omega⟩, rfl⟩)
          case measure => rw [HRG3.out.left_eq, HRG.out.left_eq]; exact HLT.out
         ·have e1 : (wc.toList == ic.toList) = false := by rw [hE]; simp [hne]
          rw [if_neg hne] at HIN2 HND2
          clear hE hne
          go_wp2_with (first
           | (at_builtin; refine wpList_append_own _ rfl (.tmp 86) (.tmp 88) 25 rfl wB.heap.size 34 i0 (.agg #[.string ⟨#[]⟩, .string ⟨#[]⟩, .string ⟨#[]⟩]) 3 48 Tryz.underlying25 hi0 hz0 hz1 hz2 rfl (by decide) (.slice va O.length vc) _ _ rfl (HRW3.out.alloc _) ⟨w5.heap.size, 0, none⟩ 1 1 [.string pc, .string wc, .string ic] rfl rfl (cellNew3 _ _ _ _ _) (one3 rfl rfl rfl) (by unfold maxLen; omega) (by omega) (by rw [World.size_alloc]; omega) ?_; intro v' w9 hown' hgrow _; have HOWN := hid hown'; have HGR := hid hgrow; clear hown' hgrow)
           | go_in)
          have HRG9 := hid ((HRG3.out.alloc _).kept HGR.out (fun e => by have := (HRW3.out.lt m e.symm).1; omega) (row_ne_iter HRW3.out HRG3.out))
          have HO9 : Hid (w9.ownsRow wB.heap.size 34 3 v' (O ++ [(⟨pc, wc, ic⟩ : Ch)]).length ((O ++ [(⟨pc, wc, ic⟩ : Ch)]).flatMap chCs)) := by
           have h := HOWN.out
           rw [List.flatMap_append, List.length_append]
           exact h
          have HB9 : Hid (Below wB.heap.size wB w9) := below_grown1 HB3'.out HRW3.out _ hs3 HGR.out
          go_roundw
          case rel => first | exact ⟨_, cnt2, ss ++ [x], O ++ [⟨pc, wc, ic⟩], HRG9, by show _ ≤ _; have := HLT.out; rw [List.length_append]; simp only [List.length_cons, List.length_nil]; omega, HO9, HC2, HB9, HIN2, HND2, by rw [List.length_append, List.length_append]; exact Nat.succ_le_succ hOs⟩ | ((repeat apply Exists.intro); exact ⟨⟨_, cnt2, ss ++ [x], O ++ [⟨pc, wc, ic⟩], HRG9, by show _ ≤ _; have := HLT.out; rw [List.length_append]; simp only [List.length_cons, List.length_nil]; omega, HO9, HC2, HB9, HIN2, HND2, by rw [List.length_append, List.length_append]; exact Nat.succ_le_succ hOs⟩, rfl⟩)
          case measure => rw [HRG9.out.left_eq, HRG.out.left_eq]; exact HLT.out
  ·have HRES : Hid (DiffOut G ia ib w (.returned (.tuple #[.slice none 0 0, .int .i64 e2])) w2) := by
    refine ⟨none, 0, 0, [], e2, rfl, ⟨rfl, by omega, .inl rfl⟩, HB2.out, ?_⟩
    rw [HL1.out, HL2.out]
    simp [he2]
   go_wp2_with fail
   go_ret2
   exact HRES.out
 ·have HRES : Hid (DiffOut G ia ib w (.returned (.tuple #[.slice none 0 0, .int .i64 e1])) w1) := by
   refine ⟨none, 0, 0, [], e1, rfl, ⟨rfl, by omega, .inl rfl⟩, HB1.out, ?_⟩
   rw [HL1.out]
   simp [he1]
  go_wp2_with fail
  go_ret2
  exact HRES.out
end Go.Proofs.YtmpjdoiogbbcoaaGreatDoor
/- awake(): the answers that the document fixes by number (by the general walk of Log). -/
namespace Go.Proofs.YtmpjdoiogbbcoaaGreatDoor
open Go.RowKit Book Pap Ojt Sn
set_option linter.unusedVariables false
set_option linter.unusedSimpArgs false

theorem src_small {l : List Fi} (h : ∀ f ∈ l, f.data.size ≤ 1000000000) : SrcSz (getF l) := fun id t ht => by
 unfold getF at ht
 cases hf : l.find? (fun f => decide (f.path = id)) with
 | none => rw [hf] at ht; cases ht
 | some f =>
  rw [hf] at ht
  cases ht
  exact h f (List.mem_of_find?_eq_some hf)
theorem items_small {l : List ByteArray} (h : ∀ s ∈ l, s.size ≤ 1000000000) : SrcSz (getF (itemsS l)) := src_small (fun f hf => by
 unfold itemsS at hf
 obtain ⟨t, ht, rfl⟩ := List.mem_map.1 hf
 exact h t ht)
set_option maxRecDepth 100000 in
set_option maxHeartbeats 16000000 in
theorem awakeG_any (w : World) (hm : MaxAt w) : Calls Tryz.prog 5 #[] w fun e w' => e = .returned (.bool true) ∧ Below w.heap.size w w' := by
 have HM := hid hm
 have HB0 : Hid (Below w.heap.size w ((w.alloc (.cells #[.slice none 0 0] 31)).alloc (.cells #[.string ⟨#[98]⟩, .string ⟨#[50]⟩, .string ⟨#[97, 47, 120]⟩, .string ⟨#[49]⟩] 71))) := ((Below.refl _ _).alloc (Nat.le_refl _) _).alloc (by rw [World.size_alloc]; omega) _
 have HBK : Hid (BookAt ((w.alloc (.cells #[.slice none 0 0] 31)).alloc (.cells #[.string ⟨#[98]⟩, .string ⟨#[50]⟩, .string ⟨#[97, 47, 120]⟩, .string ⟨#[49]⟩] 71)) w.heap.size []) := ⟨none, 0, 0, Blk.alloc (Blk.new w _ _) _, rfl, by omega, .inl rfl⟩
 have HFS : Hid (FisAt ((w.alloc (.cells #[.slice none 0 0] 31)).alloc (.cells #[.string ⟨#[98]⟩, .string ⟨#[50]⟩, .string ⟨#[97, 47, 120]⟩, .string ⟨#[49]⟩] 71)) (some ⟨w.heap.size + 1, 0, none⟩) 2 awF) := by
  have hb : Blk ((w.alloc (.cells #[.slice none 0 0] 31)).alloc (.cells #[.string ⟨#[98]⟩, .string ⟨#[50]⟩, .string ⟨#[97, 47, 120]⟩, .string ⟨#[49]⟩] 71)) (w.heap.size + 1) 71 #[.string ⟨#[98]⟩, .string ⟨#[50]⟩, .string ⟨#[97, 47, 120]⟩, .string ⟨#[49]⟩] := by
   have := Blk.new (w.alloc (.cells #[.slice none 0 0] 31)) 71 #[.string ⟨#[98]⟩, .string ⟨#[50]⟩, .string ⟨#[97, 47, 120]⟩, .string ⟨#[49]⟩]
   rw [World.size_alloc] at this; exact this
  refine ⟨rfl, by omega, .inr ⟨w.heap.size + 1, 0, rfl, fun j hj => ?_⟩⟩
  rcases (by omega : j = 0 ∨ j = 1) with rfl | rfl
  ·exact ⟨Blk.cell hb 0, Blk.cell hb 1⟩
  ·exact ⟨Blk.cell hb 2, Blk.cell hb 3⟩
 have HCO := hid (commit_any 29 (.pointer (some ⟨w.heap.size, 0, none⟩)) (getF []) (fun id t h => by cases h) (some ⟨w.heap.size + 1, 0, none⟩) 2 2 awF none 0 0 [] ⟨#[110]⟩ _ (book_src _ _ _ HBK.out) HFS.out (fun f hf => by unfold awF at hf; simp only [List.mem_cons, List.not_mem_nil, or_false] at hf; rcases hf with rfl | rfl <;> (constructor <;> decide)) ⟨rfl, by omega, .inl rfl⟩ (by decide) (HM.out.later HB0.out))
 have e0 : commitS (getF []) awF [] ⟨#[110]⟩ = awR := rfl
 rw [e0] at HCO
 obtain ⟨⟨⟨L, I⟩, er⟩, hr⟩ : ∃ r, awR = r := ⟨_, rfl⟩
 have HER : Hid (er = 0) := by have := aw_err; rw [hr] at this; exact this
 have HLL : Hid (awL = L) := by show awR.1.1 = L; rw [hr]
 have HII : Hid (awI = I) := by show awR.1.2 = I; rw [hr]
 rw [hr] at HCO
 clear hr e0 hm
 go_enter Tryz.func5, Tryz.ntmps5
 go_wp2_with fail
 generalize ((w.alloc (.cells #[.slice none 0 0] 31)).alloc (.cells #[.string ⟨#[98]⟩, .string ⟨#[50]⟩, .string ⟨#[97, 47, 120]⟩, .string ⟨#[49]⟩] 71)) = w1 at HB0 HBK HFS HCO ⊢
 refine HCO.out.mono ?_; rintro e w2 ⟨hb2, v, rfl, ho2⟩
 have hl5 : L.length = 5 := by rw [← HLL.out]; exact aw_len
 simp only at ho2
 rw [hl5] at ho2
 obtain ⟨la, lc, rfl, hst⟩ := own_strs (l := L) (by rw [hl5]; exact ho2) (by omega)
 rw [hl5] at hst
 have HST := hid hst
 have HB2 : Hid (Below w.heap.size w w2) := HB0.out.trans (hb2.mono HB0.out.size)
 obtain ⟨lb, loff, rfl, hc⟩ := hst.2.2.resolve_left (by omega)
 have q0 := hc 0 (by omega)
 have q2 := hc 2 (by omega)
 have g0 : L.getD 0 ByteArray.empty = ⟨#[1, 49]⟩ := by rw [← HLL.out]; exact aw_0
 have g2 : L.getD 2 ByteArray.empty = ⟨#[1, 50]⟩ := by rw [← HLL.out]; exact aw_2
 rw [g0, Nat.add_zero] at q0
 rw [g2] at q2
 have HSZ : Hid (∀ s ∈ L, s.size ≤ 1000000000) := fun s hs => by rw [← HLL.out] at hs; have := aw_sz s hs; omega
 have HIT := hid (items_any (some ⟨lb, loff, none⟩) 5 lc L w2 hst (by omega) HSZ.out)
 have her := HER.out
 rw [hl5]
 subst her
 clear hst ho2 hb2 hc g0 g2 hl5 HCO HER HBK HFS HB0
 go_wp2_with (go_at_call 26; refine HIT.out.mono ?_; rintro e w3 ⟨ia, ic, rfl, ho3, hb3⟩; have HO3 := hid ho3; have HB3 : Hid (Below w.heap.size w w3) := (below_then HB2.out hb3); clear ho3 hb3)
 have HS4 : Hid (SrcAt (w3.alloc (.cells #[.slice ia 5 ic] 31)) 29 (.pointer (some ⟨w3.heap.size, 0, none⟩)) awG) := by
  obtain ⟨ia', ic', he, hF⟩ := own_items HO3.out (by omega)
  injection he with e1 e2 e3
  subst e1; subst e3
  have hbk : BookAt (w3.alloc (.cells #[.slice ia 5 ic] 31)) w3.heap.size (itemsS L) := ⟨ia, 5, ic, Blk.new w3 _ _, hF.later ((Below.refl _ _).alloc (Nat.le_refl _) _)⟩
  have h := book_src w3.heap.size (itemsS L) _ hbk
  have e : getF (itemsS L) = awG := by show _ = getF (itemsS awL); rw [HLL.out]
  rw [e] at h
  exact h
 have HB4 : Hid (Below w.heap.size w (w3.alloc (.cells #[.slice ia 5 ic] 31))) := HB3.out.alloc HB3.out.size _
 have HZG : Hid (SrcSz awG) := items_small (fun s hs => by have := aw_sz s hs; omega)
 clear HO3 HB3 HIT HB2 q0 q2 HST
 generalize (w3.alloc (.cells #[.slice ia 5 ic] 31)) = w4 at HS4 HB4 ⊢
 generalize w3.heap.size = bb at HS4 ⊢
 have hI : awI = I := HII.out
 -- Files
 have HFI := hid (files_any 29 (.pointer (some ⟨bb, 0, none⟩)) awG HZG.out awI w4 HS4.out)
 rw [aw_files, hI] at HFI
 refine HFI.out.mono ?_; rintro e w5 ⟨fa, fn, fc, rfl, hF, hb5, -, -, -⟩
 obtain rfl : fn = 2 := hF.1.symm
 have HF5 := hid hF
 have HB5 : Hid (Below w.heap.size w w5) := below_then HB4.out hb5
 have HS5 : Hid (SrcAt w5 29 (.pointer (some ⟨bb, 0, none⟩)) awG) := HS4.out.later hb5
 clear hF hb5 HFI HS4 HB4
 -- Find
 have HFD := hid (find_any 29 (.pointer (some ⟨bb, 0, none⟩)) awG HZG.out awI ⟨#[97, 47, 120]⟩ w5 HS5.out (by decide) (HM.out.later HB5.out))
 have hfd := aw_find
 obtain ⟨⟨⟨xn, xk, xi⟩, xe⟩, hx⟩ : ∃ r, findS awG awI ⟨#[97, 47, 120]⟩ = r := ⟨_, rfl⟩
 rw [hx] at HFD hfd
 obtain ⟨h1, h2⟩ := hfd
 simp only at h1 h2
 subst h1; subst h2
 rw [hI] at HFD
 clear hx
 go_wp2_with fail
 refine HFD.out.mono ?_; rintro e w6 ⟨rfl, hb6⟩
 simp only [entCs]
 have HF6 : Hid (FisAt w6 fa 2 [⟨⟨#[97, 47, 120]⟩, ⟨#[49]⟩⟩, ⟨⟨#[98]⟩, ⟨#[50]⟩⟩]) := HF5.out.later hb6
 have HB6 : Hid (Below w.heap.size w w6) := below_then HB5.out hb6
 have HS6 : Hid (SrcAt w6 29 (.pointer (some ⟨bb, 0, none⟩)) awG) := HS5.out.later hb6
 clear hb6 HFD HF5 HB5 HS5
 have hb7 : Below w6.heap.size w6 (w6.alloc (.cells #[.string ⟨#[120]⟩, .int .i64 xk, .string xi] 76)) := (Below.refl _ _).alloc (Nat.le_refl _) _
 have HX7 : Hid (Blk (w6.alloc (.cells #[.string ⟨#[120]⟩, .int .i64 xk, .string xi] 76)) w6.heap.size 76 #[.string ⟨#[120]⟩, .int .i64 xk, .string xi]) := Blk.new w6 _ _
 have HF7 := hid (HF6.out.later hb7)
 have HS7 := hid (HS6.out.later hb7)
 have HB7 := hid (below_then HB6.out hb7)
 clear hb7 HF6 HS6 HB6
 go_upto_region 7 with fail
 generalize (w6.alloc (.cells #[.string ⟨#[120]⟩, .int .i64 xk, .string xi] 76)) = w7 at HX7 HF7 HS7 HB7 ⊢
 generalize w6.heap.size = xb at HX7 ⊢
 -- Log
 have hlk := aw_look
 obtain ⟨⟨X, xe⟩, hx⟩ : ∃ r, lookK awG awI 3 21 = r := ⟨_, rfl⟩
 rw [hx] at hlk
 obtain ⟨h1, h2, h3⟩ := hlk
 simp only at h1 h2 h3
 subst h1
 have HLG := hid (slog_any 29 (.pointer (some ⟨bb, 0, none⟩)) awG HZG.out awI (by have := aw_id; unfold maxLen; omega) _ (univ_of (itemsS awL) (by unfold itemsS; rw [List.length_map, aw_len]; omega) awI) w7 HS7.out)
 have HRT : Hid (∀ er S, SLogIs awG awI er S → er = 0 ∧ S = [awI]) := fun er S h => slog_root hx h2 h3 h
 rw [hI] at HLG HRT
 clear hx h2 h3
 go_wp2_with fail
 refine HLG.out.mono ?_; rintro e w8 ⟨er8, S8, ka, kn, kc, hsl, rfl, hK, hb8⟩
 obtain ⟨rfl, rfl⟩ := HRT.out er8 S8 hsl
 obtain rfl : kn = 1 := hK.1.symm
 clear hsl HRT
 have HK8 := hid hK
 have HX8 : Hid (Blk w8 xb 76 #[.string ⟨#[120]⟩, .int .i64 xk, .string xi]) := (hb8.block xb (Blk.lt HX7.out)).trans HX7.out
 have HF8 := hid (HF7.out.later hb8)
 have HS8 := hid (HS7.out.later hb8)
 have HB8 := hid (below_then HB7.out hb8)
 clear hK hb8 HX7 HF7 HS7 HB7 HLG
 -- Diff
 have HDI := hid (diff_any 29 (.pointer (some ⟨bb, 0, none⟩)) awG HZG.out awI awI w8 HS8.out (HM.out.later HB8.out))
 have HDE : Hid (∀ (D : List Ch) (er : Int), (if (listS awG awI).2 ≠ 0 then er = (listS awG awI).2 ∧ D = [] else if (listS awG awI).2 ≠ 0 then er = (listS awG awI).2 ∧ D = [] else er = 0 ∧ IsDiff (listS awG awI).1 (listS awG awI).1 D) → er = 0 ∧ D = []) := fun D er h => by
  rw [aw_list, if_neg (by simp), if_neg (by simp)] at h
  exact ⟨h.1, aw_diff h.2⟩
 unfold DiffOut at HDI
 rw [hI] at HDI HDE
 go_wp2_with fail
 refine HDI.out.mono ?_; rintro e w9 ⟨da, dn, dc, D, de, rfl, hD, hb9, hde⟩
 obtain ⟨rfl, rfl⟩ := HDE.out D de hde
 obtain rfl : dn = 0 := hD.1.symm
 have HK9 := hid (HK8.out.later hb9)
 have HX9 : Hid (Blk w9 xb 76 #[.string ⟨#[120]⟩, .int .i64 xk, .string xi]) := (hb9.block xb (Blk.lt HX8.out)).trans HX8.out
 have HF9 := hid (HF8.out.later hb9)
 have HS9 := hid (HS8.out.later hb9)
 have HB9 := hid (below_then HB8.out hb9)
 clear hD hb9 hde HK8 HX8 HF8 HS8 HB8 HDI HDE
 -- Files of nothing
 have HFN := hid (files_any 29 (.pointer (some ⟨bb, 0, none⟩)) awG HZG.out ⟨#[120]⟩ w9 HS9.out)
 obtain ⟨⟨ML, me⟩, hmr⟩ : ∃ r, filesS awG ⟨#[120]⟩ = r := ⟨_, rfl⟩
 have hme := aw_none
 rw [hmr] at HFN hme
 simp only at hme
 subst hme
 clear hmr
 go_wp2_with fail
 refine HFN.out.mono ?_; rintro e wx ⟨ma, mn, mc, rfl, -, hbx, -, -, -⟩
 have HKX := hid (HK9.out.later hbx)
 have HXX : Hid (Blk wx xb 76 #[.string ⟨#[120]⟩, .int .i64 xk, .string xi]) := (hbx.block xb (Blk.lt HX9.out)).trans HX9.out
 have HFX := hid (HF9.out.later hbx)
 have HBX := hid (below_then HB9.out hbx)
 clear hbx HK9 HX9 HF9 HS9 HB9 HFN
 obtain ⟨fb, foff, rfl, hfc⟩ := HFX.out.2.2.resolve_left (by omega)
 obtain ⟨kb, koff, rfl, hkc⟩ := HKX.out.2.2.resolve_left (by omega)
 obtain ⟨f0, f1⟩ := hfc 0 (by omega)
 have f0 : wx.cell? ⟨fb, foff, none⟩ = some (.string ⟨#[97, 47, 120]⟩) := f0
 have f1 : wx.cell? ⟨fb, foff + 1, none⟩ = some (.string ⟨#[49]⟩) := f1
 have k0 := hkc 0 (by omega)
 have k0 : wx.cell? ⟨kb, koff, none⟩ = some (.string I) := k0
 have x0 : wx.cell? ⟨xb, 0, none⟩ = some (.string ⟨#[120]⟩) := Blk.cell HXX.out 0
 clear hfc hkc HFX HKX HXX
 go_wp2_with fail
 go_ret
 exact ⟨rfl, HBX.out⟩
end Go.Proofs.YtmpjdoiogbbcoaaGreatDoor
/- What an object names: an own row of links written into, cleared, cut; adjacent alike ones left out (plain). -/
namespace Go.Proofs.YtmpjdoiogbbcoaaGreatDoor
open Go.RowKit Book Pap Ojt Go.Sort
set_option linter.unusedVariables false
set_option linter.unusedSimpArgs false

def noLk : Lnk := ⟨0, ByteArray.empty⟩
theorem lkvals_append (a b : List Lnk) : lkvals (a ++ b) = lkvals a ++ lkvals b := by simp [lkvals]
theorem lkvals_length : ∀ (l : List Lnk), (lkvals l).length = l.length * 2
 | [] => rfl
 | a :: r => by
  show (lkCs a ++ lkvals r).length = _
  rw [List.length_append, lkvals_length r, List.length_cons]
  show 2 + _ = _; omega
theorem lkvals_get : ∀ (l : List Lnk) (j : Nat), j < l.length → (lkvals l)[j * 2]? = some (.int .i64 (l.getD j noLk).kind) ∧ (lkvals l)[j * 2 + 1]? = some (.string (l.getD j noLk).id)
 | [], j, h => by simp at h
 | a :: r, 0, h => ⟨rfl, rfl⟩
 | a :: r, j + 1, h => by
  obtain ⟨h1, h2⟩ := lkvals_get r j (by simpa using h)
  have e1 : (j + 1) * 2 = j * 2 + 2 := by omega
  rw [e1]
  exact ⟨h1, h2⟩
theorem lkvals_set : ∀ (l : List Lnk) (k : Nat) (y : Lnk), ((lkvals l).set (k * 2) (.int .i64 y.kind)).set (k * 2 + 1) (.string y.id) = lkvals (l.set k y)
 | [], k, y => rfl
 | a :: r, 0, y => rfl
 | a :: r, k + 1, y => by
  have e1 : (k + 1) * 2 = k * 2 + 2 := by omega
  rw [e1]
  show _ :: _ :: _ = _ :: _ :: _
  congr 2
  exact lkvals_set r k y
theorem own_putLk {w : World} {B g n cap : Nat} {R : List Lnk} (h : w.ownsRow B 201 2 (.slice (some ⟨g, 0, none⟩) n cap) n (lkvals R)) (k : Nat) (y : Lnk) :
  ((w.setCell ⟨g, k * 2, none⟩ (.int .i64 y.kind)).setCell ⟨g, k * 2 + 1, none⟩ (.string y.id)).ownsRow B 201 2 (.slice (some ⟨g, 0, none⟩) n cap) n (lkvals (R.set k y)) ∧
  w.grownBy ((w.setCell ⟨g, k * 2, none⟩ (.int .i64 y.kind)).setCell ⟨g, k * 2 + 1, none⟩ (.string y.id)) (some g) := by
 obtain ⟨h1, h2⟩ := h.stored (k * 2) (.int .i64 y.kind)
 obtain ⟨h3, h4⟩ := h1.stored (k * 2 + 1) (.string y.id)
 rw [lkvals_set] at h3
 exact ⟨h3, h2.trans h4⟩
theorem own_setCells {e : TypeId} {s B g n cap : Nat} : ∀ (vs : List Value) (o : Nat) (xs : List Value) (w : World), w.ownsRow B e s (.slice (some ⟨g, 0, none⟩) n cap) n xs → o + vs.length ≤ xs.length →
  (w.setCells g o vs).ownsRow B e s (.slice (some ⟨g, 0, none⟩) n cap) n (xs.take o ++ vs ++ xs.drop (o + vs.length)) ∧ w.grownBy (w.setCells g o vs) (some g)
 | [], o, xs, w, h, ho => by
  refine ⟨?_, rfl, rfl, rfl, Nat.le_refl _, fun _ _ _ => rfl⟩
  show w.ownsRow _ _ _ _ _ _
  rw [List.append_nil, List.length_nil, Nat.add_zero, List.take_append_drop]; exact h
 | v :: r, o, xs, w, h, ho => by
  rw [List.length_cons] at ho
  obtain ⟨h1, h2⟩ := h.stored o v
  obtain ⟨h3, h4⟩ := own_setCells r (o + 1) (xs.set o v) _ h1 (by rw [List.length_set]; omega)
  refine ⟨?_, h2.trans h4⟩
  show ((w.setCell ⟨g, o, none⟩ v).setCells g (o + 1) r).ownsRow _ _ _ _ _ _
  have e1 : (xs.set o v).take (o + 1) = xs.take o ++ [v] := by
   rw [List.take_succ_eq_append_getElem (by rw [List.length_set]; omega), List.getElem_set_self, List.take_set_of_le (Nat.le_refl _)]
  have e2 : (xs.set o v).drop (o + 1 + r.length) = xs.drop (o + (r.length + 1)) := by
   rw [List.drop_set_of_lt (by omega)]
   congr 1; omega
  rw [e1, e2, List.append_assoc (xs.take o)] at h3
  exact h3
theorem own_take2 {w : World} {base : Nat} {e : TypeId} {n c k : Nat} {a : Option Addr} {xs : List Value} (h : w.ownsRow base e 2 (.slice a n c) n xs) (hk : k ≤ n) : w.ownsRow base e 2 (.slice a k c) k (xs.take (k * 2)) := by
 obtain ⟨h1, h2⟩ := h
 refine ⟨by rw [List.length_take, h1]; omega, ?_⟩
 rcases h2 with ⟨h2, rfl⟩ | ⟨g', cap, cur, h2, hb, hg, hn, hc, hs, ht⟩
 ·injection h2 with h3 h4 h5
  subst h3 h5
  obtain rfl : k = 0 := by omega
  exact .inl ⟨rfl, rfl⟩
 ·injection h2 with h3 h4 h5
  subst h3 h5
  refine .inr ⟨g', c, cur, rfl, hb, hg, by omega, hc, hs, ?_⟩
  rw [← ht, List.take_take, Nat.min_eq_left (by omega)]
/-- what Compact leaves of the first k -/
def ddp (l : List Lnk) (k : Nat) : List Lnk := (List.range k).filterMap (fun j => if j = 0 ∨ l.getD j noLk ≠ l.getD (j - 1) noLk then some (l.getD j noLk) else none)
theorem ddp_zero (l : List Lnk) : ddp l 0 = [] := rfl
theorem ddp_succ (l : List Lnk) (k : Nat) : ddp l (k + 1) = ddp l k ++ (if k = 0 ∨ l.getD k noLk ≠ l.getD (k - 1) noLk then [l.getD k noLk] else []) := by
 unfold ddp
 rw [List.range_succ, List.filterMap_append]
 congr 1
 rw [List.filterMap_cons, List.filterMap_nil]
 by_cases h : k = 0 ∨ l.getD k noLk ≠ l.getD (k - 1) noLk
 ·rw [if_pos h, if_pos h]
 ·rw [if_neg h, if_neg h]
theorem ddp_le (l : List Lnk) (k : Nat) : (ddp l k).length ≤ k := by
 have := List.length_filterMap_le (fun j => if j = 0 ∨ l.getD j noLk ≠ l.getD (j - 1) noLk then some (l.getD j noLk) else none) (List.range k)
 rw [List.length_range] at this; exact this
/-- none alike so far: all stay -/
theorem ddp_all (l : List Lnk) : ∀ k, k ≤ l.length → (∀ j, 0 < j → j < k → l.getD j noLk ≠ l.getD (j - 1) noLk) → ddp l k = l.take k
 | 0, _, _ => rfl
 | k + 1, hk, h => by
  rw [ddp_succ, ddp_all l k (by omega) (fun j h1 h2 => h j h1 (by omega)), if_pos, List.take_succ_eq_append_getElem (by omega), List.getD_eq_getElem?_getD, List.getElem?_eq_getElem (by omega)]
  ·rfl
  ·rcases Nat.eq_zero_or_pos k with e | e
   ·exact .inl e
   ·exact .inr (h k e (by omega))
/-- of links in a row that rise, Compact makes the links -/
theorem ddp_ris {l : List Lnk} (h : l.Pairwise (fun a b => ltK b a = false)) : ∀ k, k ≤ l.length → RisK (ddp l k) ∧ (∀ x, x ∈ ddp l k ↔ x ∈ l.take k) ∧ (∀ x ∈ ddp l k, 0 < k → ltK (l.getD (k - 1) noLk) x = false) := by
 intro k
 induction k with
 | zero => intro _; exact ⟨List.Pairwise.nil, fun x => by simp [ddp_zero], fun x hx => by cases hx⟩
 | succ k ih =>
  intro hk
  obtain ⟨h1, h2, h3⟩ := ih (by omega)
  have hg : l.getD k noLk = l[k] := by rw [List.getD_eq_getElem?_getD, List.getElem?_eq_getElem (by omega)]; rfl
  have hlast : ∀ x ∈ ddp l (k + 1), ltK l[k] x = false := fun x hx => by
   rw [ddp_succ, List.mem_append] at hx
   rcases hx with hx | hx
   ·have hx2 := (h2 x).1 hx
    obtain ⟨j, hj, e⟩ := List.getElem_of_mem hx2
    rw [List.length_take] at hj
    rw [List.getElem_take] at e
    rw [← e]
    exact List.pairwise_iff_getElem.1 h j k (by omega) (by omega) (by omega)
   ·split at hx
    ·rw [List.mem_singleton.1 hx, hg]; exact ltK_irr _
    ·cases hx
  refine ⟨?_, fun x => ?_, fun x hx _ => by rw [Nat.add_sub_cancel, hg]; exact hlast x hx⟩
  ·rw [ddp_succ]
   split
   ·rename_i hc
    refine List.pairwise_append.2 ⟨h1, List.pairwise_singleton _ _, fun a ha b hb => ?_⟩
    rw [List.mem_singleton.1 hb, hg]
    rcases hc with rfl | hc
    ·cases ha
    ·have hk0 : 0 < k := by
      rcases Nat.eq_zero_or_pos k with e | e
      ·subst e; cases ha
      ·exact e
     have hgp : l.getD (k - 1) noLk = l[k - 1] := by rw [List.getD_eq_getElem?_getD, List.getElem?_eq_getElem (by omega)]; rfl
     rw [hg, hgp] at hc
     have a1 := h3 a ha hk0
     rw [hgp] at a1
     have a2 := List.pairwise_iff_getElem.1 h (k - 1) k (by omega) (by omega) (by omega)
     cases hlt : ltK a l[k]
     ·
      cases hlt2 : ltK l[k - 1] l[k]
      ·exact absurd (ltK_tri a2 hlt2) hc
      ·cases hlt3 : ltK a l[k - 1]
       ·have := ltK_tri hlt3 a1
        rw [this, hlt2] at hlt; cases hlt
       ·have := ltK_trans hlt3 hlt2
        rw [this] at hlt; cases hlt
     ·rfl
   ·rw [List.append_nil]; exact h1
  ·rw [ddp_succ, List.mem_append, h2, List.take_succ_eq_append_getElem (by omega), List.mem_append]
   split
   ·rw [hg]
   ·rename_i hc
    have hc1 : k ≠ 0 := fun e => hc (.inl e)
    have hc2 : l.getD k noLk = l.getD (k - 1) noLk := Classical.not_not.1 (fun e => hc (.inr e))
    have hgp : l.getD (k - 1) noLk = l[k - 1] := by rw [List.getD_eq_getElem?_getD, List.getElem?_eq_getElem (by omega)]; rfl
    rw [hg, hgp] at hc2
    constructor
    ·rintro (hx | hx)
     ·exact .inl hx
     ·cases hx
    ·rintro (hx | hx)
     ·exact .inl hx
     ·rw [List.mem_singleton.1 hx, hc2]
      exact .inl (List.mem_iff_getElem.2 ⟨k - 1, by rw [List.length_take]; omega, by rw [List.getElem_take]⟩)
theorem ddp_links {x : Ob} (h : good x = true) : ddp (sortL (rawLinks x)) (sortL (rawLinks x)).length = links x := by
 obtain ⟨h1, h2, -⟩ := ddp_ris (sortL_ris (rawLinks x)) _ (Nat.le_refl _)
 refine risK_ext h1 (links_ris x) (fun y => ?_)
 rw [h2, List.take_length, links_mem h, (sortL_perm _).mem_iff]
end Go.Proofs.YtmpjdoiogbbcoaaGreatDoor
/- What an object names: slices.Compact at an own row of links. -/
namespace Go.Proofs.YtmpjdoiogbbcoaaGreatDoor
open Go.RowKit Book Pap Ojt Go.Sort
set_option linter.unusedVariables false
set_option linter.unusedSimpArgs false

def CompLk (B : Nat) (w : World) (v : Value) (l : List Lnk) (e : Ending) (w' : World) : Prop :=
 ∃ v', e = .returned v' ∧ w'.ownsRow B 201 2 v' (ddp l l.length).length (lkvals (ddp l l.length)) ∧ w.grownBy w' v.ownBlock
theorem drop_getD (R : List Lnk) (c j : Nat) : (R.drop c).getD j noLk = R.getD (c + j) noLk := by simp [List.getD_eq_getElem?_getD, List.getElem?_drop]
theorem run_clearLk (W : World) (g o n c : Nat) (ty : TypeId) (hc : ∀ j, j < n * 2 → (W.cell? ⟨g, o + j, none⟩).isSome = true) (hf : ∀ j, W.frozen? ⟨g, j, none⟩ = false) :
  (Builtin.clear_ #[198] ty #[.slice (some ⟨g, o, none⟩) n c]).run Tryz.prog W = .ok (.tuple #[]) (W.setCells g o (Builtin.zeroCells #[.int .i64 0, .string ⟨#[]⟩] n).toList) := by
 have hlen : (Builtin.zeroCells #[.int .i64 0, .string ⟨#[]⟩] n).toList.length = n * 2 := by simp [Builtin.zeroCells]
 have hone : ∀ v ∈ (Builtin.zeroCells #[.int .i64 0, .string ⟨#[]⟩] n).toList, v.oneCell' = true := by
  intro v hv
  unfold Builtin.zeroCells at hv
  rw [Array.toList_map] at hv
  obtain ⟨i, -, rfl⟩ := List.mem_map.1 hv
  rcases Nat.mod_two_eq_zero_or_one i with e | e
  ·show ((#[Value.int .i64 0, .string ⟨#[]⟩] : Array Value)[i % 2]!).oneCell' = true
   rw [e]; rfl
  ·show ((#[Value.int .i64 0, .string ⟨#[]⟩] : Array Value)[i % 2]!).oneCell' = true
   rw [e]; rfl
 have hst := run_storeCells_cells (P := Tryz.prog) g o (Builtin.zeroCells #[.int .i64 0, .string ⟨#[]⟩] n).toList 0 W (fun j hj => by rw [hlen] at hj; exact hc j hj) (fun j _ => hf _) hone
 simp only [Nat.add_zero] at hst
 have hzv : ∀ w : World, (zeroValue 201).run Tryz.prog w = .ok (.agg #[.int .i64 0, .string ⟨#[]⟩]) w := fun w => Tryz.zeroValue201 w
 cases n with
 | zero => simp [Builtin.clear_, run_underlying Tryz.underlying198, Builtin.zeroCells, World.setCells]
 | succ n => simp [Builtin.clear_, run_underlying Tryz.underlying198, hzv, Value.cells, hst]
theorem grown_refl (w : World) (r : Option Nat) : w.grownBy w r := ⟨rfl, rfl, rfl, Nat.le_refl _, fun _ _ _ => rfl⟩
set_option maxRecDepth 100000 in
set_option maxHeartbeats 8000000 in
theorem compLk_own (B n : Nat) (v : Value) (l : List Lnk) (w : World) (h : w.ownsRow B 201 2 v n (lkvals l)) (hn : n ≤ 1000000) :
  Calls Tryz.prog 179 #[v] w (CompLk B w v l) := by
 have hl : l.length = n := by have := h.1; rw [lkvals_length] at this; omega
 by_cases h2 : n < 2
 ·obtain ⟨va, vc, rfl, hvc⟩ := own_slice' h
  have hd : ddp l l.length = l := by
   rw [ddp_all l l.length (Nat.le_refl _) (fun j h1 h3 => by omega), List.take_length]
  have HD := hid hd
  have HO := hid h
  have ci : (n : Int) < 2 := by omega
  clear hd h
  go_enter Tryz.func179, Tryz.ntmps179
  go_wp2_with fail
  go_ret
  refine ⟨_, rfl, ?_, grown_refl _ _⟩
  rw [HD.out, hl]; exact HO.out
 ·obtain ⟨g, cap, rfl, hBg, hgl⟩ := h.form (by omega)
  have ci : ¬ (n : Int) < 2 := by omega
  have HO := hid h
  have HG := hid (grown_refl w (some g))
  clear h
  go_enter Tryz.func179, Tryz.ntmps179
  go_wp2_with fail
  clear ci
  go_loopw [3] (fun iv wr => ∃ k : Nat, 1 ≤ k ∧ k ≤ n ∧ iv = .int .i64 k ∧ Hid (∀ j, 0 < j → j < k → l.getD j noLk ≠ l.getD (j - 1) noLk) ∧ Hid (wr.ownsRow B 201 2 (.slice (some ⟨g, 0, none⟩) n cap) n (lkvals l)) ∧ Hid (w.grownBy wr (some g))) (fun iv _ => n - (intOf iv).toNat)
  case atStart => exact ⟨1, Nat.le_refl _, by omega, rfl, fun j h1 h3 => by omega, HO, HG⟩
  case round =>
   clear HO HG
   obtain ⟨k, hk1, hk, rfl, HN, HO, HG⟩ := hrel
   by_cases hlt : k < n
   ·have ck : (k : Int) < n := by omega
    have ck0 : (0 : Int) ≤ (k : Int) := by omega
    have em : IntKind.i64.wrap ((k : Int) - 1) = ((k - 1 : Nat) : Int) := by rw [IntKind.wrap_i64]; omega
    have cm0 : (0 : Int) ≤ ((k - 1 : Nat) : Int) := by omega
    have cmn : ((k - 1 : Nat) : Int) < n := by omega
    obtain ⟨x0, x1⟩ := lkvals_get l k (by omega)
    obtain ⟨y0, y1⟩ := lkvals_get l (k - 1) (by omega)
    have q0 := HO.out.cellAt (k * 2) (by omega)
    have q1 := HO.out.cellAt (k * 2 + 1) (by omega)
    have p0 := HO.out.cellAt ((k - 1) * 2) (by omega)
    have p1 := HO.out.cellAt ((k - 1) * 2 + 1) (by omega)
    rw [x0] at q0
    rw [x1] at q1
    rw [y0] at p0
    rw [y1] at p1
    obtain ⟨a, ha⟩ : ∃ a, l.getD k noLk = a := ⟨_, rfl⟩
    obtain ⟨b, hb⟩ : ∃ b, l.getD (k - 1) noLk = b := ⟨_, rfl⟩
    rw [ha] at q0 q1
    rw [hb] at p0 p1
    clear x0 x1 y0 y1
    have HGD : Hid (w.grownBy wr.drew (some g)) := ⟨HG.out.os, HG.out.tape, HG.out.output, HG.out.size, HG.out.block⟩
    have hcap : cap ≠ k := by have := (own_slice' HO.out); obtain ⟨_, _, e, hc⟩ := this; injection e with _ _ e3; omega
    have HAB : Hid (a.kind = b.kind → a.id.toList = b.id.toList → a = b) := fun h1 h2 => by
     obtain ⟨ak, ai⟩ := a
     obtain ⟨bk, bi⟩ := b
     simp only at h1 h2
     rw [h1, show ai = bi from ba_ext (by rw [← ba_toList, ← ba_toList]; exact h2)]
    by_cases hk1' : a.kind = b.kind
    ·by_cases hk2 : a.id.toList = b.id.toList
     ·have HEQ : Hid (ddp l (k + 1) = l.take k) := by
       show _ = _
       rw [ddp_succ, ddp_all l k (by omega) HN.out, if_neg, List.append_nil]
       rintro (e | e)
       ·omega
       ·exact e (by rw [ha, hb]; exact HAB.out hk1' hk2)
      clear ha hb
      go_upto_region 6 with fail
      go_region
      all_goals
       have HO2 : Hid (wr.drew.ownsRow B 201 2 (.slice (some ⟨g, 0, none⟩) n cap) n (lkvals l)) := HO.out.drew
       have HS0 : Hid (k = (ddp l (k + 1)).length ∧ l.take k = ddp l (k + 1)) := by rw [HEQ.out]; exact ⟨by rw [List.length_take]; omega, rfl⟩
       go_wp2_with fail
       go_loopw [3, 5] (fun kv iv wx => ∃ (m i : Nat) (R : List Lnk), 1 ≤ i ∧ i ≤ n - k ∧ m < k + i ∧ kv = .int .i64 m ∧ iv = .int .i64 i ∧ R.length = n ∧ Hid (m = (ddp l (k + i)).length ∧ R.take m = ddp l (k + i)) ∧ Hid (R.drop (k + i - 1) = l.drop (k + i - 1)) ∧ Hid (wx.ownsRow B 201 2 (.slice (some ⟨g, 0, none⟩) n cap) n (lkvals R)) ∧ Hid (w.grownBy wx (some g))) (fun _ iv _ => n - (intOf iv).toNat)
       case atStart => exact ⟨k, 1, l, Nat.le_refl _, by omega, by omega, rfl, rfl, hl, HS0, rfl, HO2, HGD⟩
       case round =>
        clear q0 q1 p0 p1 hk1' hk2 HAB HGD HO HG HO2 HS0 em cm0 cmn
        obtain ⟨m, i, R, hi1, hi, hmk, rfl, rfl, hR, HMM, HDR, HO3, HG3⟩ := hrel
        by_cases hlt2 : i < n - k
        ·have ci : (i : Int) < ((n - k : Nat) : Int) := by omega
         have ci0 : (0 : Int) ≤ (i : Int) := by omega
         have em : IntKind.i64.wrap ((i : Int) - 1) = ((i - 1 : Nat) : Int) := by rw [IntKind.wrap_i64]; omega
         have cm0 : (0 : Int) ≤ ((i - 1 : Nat) : Int) := by omega
         have cmn : ((i - 1 : Nat) : Int) < ((n - k : Nat) : Int) := by omega
         have hx : R.getD (k + i) noLk = l.getD (k + i) noLk := by
          have h1 := drop_getD R (k + i - 1) 1
          have h2 := drop_getD l (k + i - 1) 1
          rw [HDR.out] at h1
          rw [h1] at h2
          have e : k + i - 1 + 1 = k + i := by omega
          rw [e] at h2; exact h2
         have hy : R.getD (k + i - 1) noLk = l.getD (k + i - 1) noLk := by
          have h1 := drop_getD R (k + i - 1) 0
          have h2 := drop_getD l (k + i - 1) 0
          rw [HDR.out] at h1
          rw [h1] at h2; exact h2
         obtain ⟨x0, x1⟩ := lkvals_get R (k + i) (by omega)
         obtain ⟨y0, y1⟩ := lkvals_get R (k + i - 1) (by omega)
         have q0 := HO3.out.cellAt (k * 2 + i * 2) (by omega)
         have q1 := HO3.out.cellAt (k * 2 + i * 2 + 1) (by omega)
         have p0 := HO3.out.cellAt (k * 2 + (i - 1) * 2) (by omega)
         have p1 := HO3.out.cellAt (k * 2 + (i - 1) * 2 + 1) (by omega)
         rw [show k * 2 + i * 2 = (k + i) * 2 by omega, x0, hx] at q0
         rw [show k * 2 + i * 2 + 1 = (k + i) * 2 + 1 by omega, x1, hx] at q1
         rw [show k * 2 + (i - 1) * 2 = (k + i - 1) * 2 by omega, y0, hy] at p0
         rw [show k * 2 + (i - 1) * 2 + 1 = (k + i - 1) * 2 + 1 by omega, y1, hy] at p1
         rw [show (k + i) * 2 = k * 2 + i * 2 by omega] at q0 q1
         rw [show (k + i - 1) * 2 = k * 2 + (i - 1) * 2 by omega] at p0 p1
         obtain ⟨c, hc⟩ : ∃ c, l.getD (k + i) noLk = c := ⟨_, rfl⟩
         obtain ⟨d, hd⟩ : ∃ d, l.getD (k + i - 1) noLk = d := ⟨_, rfl⟩
         rw [hc] at q0 q1
         rw [hd] at p0 p1
         clear x0 x1 y0 y1 hx hy
         have HGD3 : Hid (w.grownBy wr.drew (some g)) := ⟨HG3.out.os, HG3.out.tape, HG3.out.output, HG3.out.size, HG3.out.block⟩
         have HDR2 : Hid (R.drop (k + (i + 1) - 1) = l.drop (k + (i + 1) - 1)) := by
          have h := congrArg (List.drop 1) HDR.out
          rw [List.drop_drop, List.drop_drop] at h
          rw [show k + (i + 1) - 1 = k + i - 1 + 1 by omega]; exact h
         obtain ⟨z0, z1⟩ := lkvals_get R m (by omega)
         have o0 := HO3.out.cellAt (m * 2) (by omega)
         have o1 := HO3.out.cellAt (m * 2 + 1) (by omega)
         rw [z0] at o0
         rw [z1] at o1
         have f0 := HO3.out.frozenAt (m * 2)
         have f1 := HO3.out.frozenAt (m * 2 + 1)
         have cm : (m : Int) < n := by omega
         have cmz : (0 : Int) ≤ (m : Int) := by omega
         clear z0 z1
         by_cases hk1' : c.kind = d.kind
         ·by_cases hk2 : c.id.toList = d.id.toList
          ·have hcd : c = d := by
            obtain ⟨ak, ai⟩ := c
            obtain ⟨bk, bi⟩ := d
            simp only at hk1' hk2
            rw [hk1', show ai = bi from ba_ext (by rw [← ba_toList, ← ba_toList]; exact hk2)]
           have HM2 : Hid (m = (ddp l (k + (i + 1))).length ∧ R.take m = ddp l (k + (i + 1))) := by
            have e : ddp l (k + (i + 1)) = ddp l (k + i) := by
             rw [← Nat.add_assoc, ddp_succ, if_neg, List.append_nil]
             rintro (e | e)
             ·omega
             ·exact e (by rw [hc, hd, hcd])
            rw [e]; exact HMM.out
           clear hc hd hcd
           go_upto_region 11 with fail
           go_region
           all_goals
            go_wp2_with fail
            go_roundw
            case rel => first | exact ⟨m, i + 1, R, by omega, by omega, by omega, by first | rfl | go_num, by go_num, hR, HM2, HDR2, HO3.out.drew, HGD3⟩ | ((repeat apply Exists.intro); exact ⟨⟨m, i + 1, R, by omega, by omega, by omega, by first | rfl | go_num, by go_num, hR, HM2, HDR2, HO3.out.drew, HGD3⟩, rfl⟩)
            case measure => simp [intOf]; omega
          ·have HNE : Hid (l.getD (k + i) noLk ≠ l.getD (k + i - 1) noLk) := fun e => hk2 (by rw [hc, hd] at e; rw [e])
           have HM2 : Hid (m + 1 = (ddp l (k + (i + 1))).length ∧ (R.set m c).take (m + 1) = ddp l (k + (i + 1))) := by
            have e : ddp l (k + (i + 1)) = ddp l (k + i) ++ [c] := by
             rw [← Nat.add_assoc, ddp_succ, if_pos (.inr HNE.out), hc]
            refine ⟨by rw [e, List.length_append, ← HMM.out.1]; rfl, ?_⟩
            rw [e, ← HMM.out.2, List.take_succ_eq_append_getElem (by rw [List.length_set]; omega), List.getElem_set_self, List.take_set_of_le (Nat.le_refl _)]
           have hR9 : (R.set m c).length = n := by rw [List.length_set]; exact hR
           have HDR9 : Hid ((R.set m c).drop (k + (i + 1) - 1) = l.drop (k + (i + 1) - 1)) := by
            show _ = _
            rw [List.drop_set_of_lt (by omega)]; exact HDR2.out
           have HO9 := hid (own_putLk HO3.out.drew m c).1
           have HG9 : Hid (w.grownBy _ (some g)) := HGD3.out.trans (own_putLk HO3.out.drew m c).2
           rw [hk1'] at HO9 HG9
           clear hc hd
           go_upto_region 11 with fail
           go_region
           all_goals
            go_wp2_with fail
            go_roundw
            case rel => first | exact ⟨m + 1, i + 1, R.set m c, by omega, by omega, by omega, by go_num, by go_num, hR9, HM2, HDR9, HO9, HG9⟩ | ((repeat apply Exists.intro); exact ⟨⟨m + 1, i + 1, R.set m c, by omega, by omega, by omega, by go_num, by go_num, hR9, HM2, HDR9, HO9, HG9⟩, rfl⟩)
            case measure => simp [intOf]; omega
         ·have HNE : Hid (l.getD (k + i) noLk ≠ l.getD (k + i - 1) noLk) := fun e => hk1' (by rw [hc, hd] at e; rw [e])
          have HM2 : Hid (m + 1 = (ddp l (k + (i + 1))).length ∧ (R.set m c).take (m + 1) = ddp l (k + (i + 1))) := by
           have e : ddp l (k + (i + 1)) = ddp l (k + i) ++ [c] := by
            rw [← Nat.add_assoc, ddp_succ, if_pos (.inr HNE.out), hc]
           refine ⟨by rw [e, List.length_append, ← HMM.out.1]; rfl, ?_⟩
           rw [e, ← HMM.out.2, List.take_succ_eq_append_getElem (by rw [List.length_set]; omega), List.getElem_set_self, List.take_set_of_le (Nat.le_refl _)]
          have hR9 : (R.set m c).length = n := by rw [List.length_set]; exact hR
          have HDR9 : Hid ((R.set m c).drop (k + (i + 1) - 1) = l.drop (k + (i + 1) - 1)) := by
           show _ = _
           rw [List.drop_set_of_lt (by omega)]; exact HDR2.out
          have HO9 := hid (own_putLk HO3.out.drew m c).1
          have HG9 : Hid (w.grownBy _ (some g)) := HGD3.out.trans (own_putLk HO3.out.drew m c).2
          clear hc hd
          go_upto_region 11 with fail
          go_region
          all_goals
           go_wp2_with fail
           go_roundw
           case rel => first | exact ⟨m + 1, i + 1, R.set m c, by omega, by omega, by omega, by go_num, by go_num, hR9, HM2, HDR9, HO9, HG9⟩ | ((repeat apply Exists.intro); exact ⟨⟨m + 1, i + 1, R.set m c, by omega, by omega, by omega, by go_num, by go_num, hR9, HM2, HDR9, HO9, HG9⟩, rfl⟩)
           case measure => simp [intOf]; omega
        ·obtain rfl : i = n - k := by omega
         have ci : ¬ ((n - k : Nat) : Int) < ((n - k : Nat) : Int) := by omega
         have hnc : n ≤ cap := by obtain ⟨_, _, e, hc⟩ := own_slice' HO3.out; injection e with _ _ e3; omega
         have hcm : cap ≠ m := by omega
         have hmn : m ≤ n := by omega
         have hkn : k + (n - k) = n := by omega
         have hmc : m ≤ cap := by omega
         have hcl : ∀ ty, (Builtin.clear_ #[198] ty #[.slice (some ⟨g, m * 2, none⟩) (n - m) (cap - m)]).run Tryz.prog wr = .ok (.tuple #[]) (wr.setCells g (m * 2) (Builtin.zeroCells #[.int .i64 0, .string ⟨#[]⟩] (n - m)).toList) := fun ty =>
          run_clearLk wr g (m * 2) (n - m) (cap - m) ty (fun j hj => by
           have hlt : m * 2 + j < (lkvals R).length := by rw [lkvals_length]; omega
           rw [HO3.out.cellAt (m * 2 + j) (by omega)]
           simp [List.getElem?_eq_getElem hlt]) (fun j => HO3.out.frozenAt j)
         have HEND : Hid ((wr.setCells g (m * 2) (Builtin.zeroCells #[.int .i64 0, .string ⟨#[]⟩] (n - m)).toList).ownsRow B 201 2 (.slice (some ⟨g, 0, none⟩) m cap) m (lkvals (ddp l l.length)) ∧ m = (ddp l l.length).length ∧ w.grownBy (wr.setCells g (m * 2) (Builtin.zeroCells #[.int .i64 0, .string ⟨#[]⟩] (n - m)).toList) (some g)) := by
          obtain ⟨h1, h2⟩ := own_setCells (Builtin.zeroCells #[.int .i64 0, .string ⟨#[]⟩] (n - m)).toList (m * 2) (lkvals R) wr HO3.out (by rw [lkvals_length]; simp [Builtin.zeroCells]; omega)
          have h3 := own_take2 h1 hmn
          have hM := HMM.out
          rw [hkn] at hM
          rw [hl]
          refine ⟨?_, hM.1, HG3.out.trans h2⟩
          rw [← hM.2]
          have e : ((lkvals R).take (m * 2) ++ (Builtin.zeroCells #[.int .i64 0, .string ⟨#[]⟩] (n - m)).toList ++ (lkvals R).drop (m * 2 + (Builtin.zeroCells #[.int .i64 0, .string ⟨#[]⟩] (n - m)).toList.length)).take (m * 2) = lkvals (R.take m) := by
           have hll : ((lkvals R).take (m * 2)).length = m * 2 := by rw [List.length_take, lkvals_length]; omega
           rw [List.append_assoc, List.take_append_of_le_length (by rw [hll]; exact Nat.le_refl _), List.take_take, Nat.min_self]
           have h5 : lkvals R = lkvals (R.take m) ++ lkvals (R.drop m) := by rw [← lkvals_append, List.take_append_drop]
           rw [h5, List.take_append_of_le_length (by rw [lkvals_length, List.length_take]; omega), List.take_of_length_le (by rw [lkvals_length, List.length_take]; omega)]
          rw [← e]; exact h3
         go_wp2_with fail
         go_ret
         exact ⟨_, rfl, by have h := HEND.out; rw [← h.2.1]; exact h.1, HEND.out.2.2⟩
     ·have HNE : Hid (l.getD k noLk ≠ l.getD (k - 1) noLk) := fun e => hk2 (by rw [ha, hb] at e; rw [e])
      clear ha hb
      go_upto_region 6 with fail
      go_region
      all_goals
       go_wp2_with fail
       go_roundw
       case rel => first | exact ⟨k + 1, by omega, by omega, by go_num, fun j h1 h3 => (by rcases Nat.lt_or_ge j k with h | h; exact HN.out j h1 h; obtain rfl : j = k := (by omega); exact HNE.out), HO.out.drew, HGD⟩ | ((repeat apply Exists.intro); exact ⟨⟨k + 1, by omega, by omega, by go_num, fun j h1 h3 => (by rcases Nat.lt_or_ge j k with h | h; exact HN.out j h1 h; obtain rfl : j = k := (by omega); exact HNE.out), HO.out.drew, HGD⟩, rfl⟩)
       case measure => simp [intOf]; omega
    ·have HNE : Hid (l.getD k noLk ≠ l.getD (k - 1) noLk) := fun e => hk1' (by rw [ha, hb] at e; rw [e])
     clear ha hb
     go_upto_region 6 with fail
     go_region
     all_goals
      go_wp2_with fail
      go_roundw
      case rel => first | exact ⟨k + 1, by omega, by omega, by go_num, fun j h1 h3 => (by rcases Nat.lt_or_ge j k with h | h; exact HN.out j h1 h; obtain rfl : j = k := (by omega); exact HNE.out), HO.out.drew, HGD⟩ | ((repeat apply Exists.intro); exact ⟨⟨k + 1, by omega, by omega, by go_num, fun j h1 h3 => (by rcases Nat.lt_or_ge j k with h | h; exact HN.out j h1 h; obtain rfl : j = k := (by omega); exact HNE.out), HO.out.drew, HGD⟩, rfl⟩)
      case measure => simp [intOf]; omega
   ·obtain rfl : k = n := by omega
    have ck : ¬ (k : Int) < k := by omega
    have hd : ddp l l.length = l := by
     rw [hl, ddp_all l k (by omega) HN.out, ← hl, List.take_length]
    have HD := hid hd
    clear hd
    go_wp2_with fail
    go_ret
    refine ⟨_, rfl, ?_, HG.out⟩
    rw [HD.out, hl]; exact HO.out
end Go.Proofs.YtmpjdoiogbbcoaaGreatDoor
/- What an object names: object.Links. -/
namespace Go.Proofs.YtmpjdoiogbbcoaaGreatDoor
open Go.RowKit Book Pap Ojt Go.Sort
set_option linter.unusedVariables false
set_option linter.unusedSimpArgs false

theorem Tryz.infoLk : (Tryz.prog.info? 201).map (fun i => (i.zero, i.size, i.bytes)) = some (some (.agg #[.int .i64 0, .string ⟨#[]⟩]), 2, 24) := by kernel_rfl
theorem raw_few {x : Ob} (h : good x = true) : (rawLinks x).length ≤ 1000000 := by
 unfold rawLinks
 split
 ·rename_i h2
  unfold good at h
  rw [if_neg (by rw [h2]; decide), if_pos h2] at h
  unfold goodTree at h
  simp only [Bool.and_eq_true, decide_eq_true_eq] at h
  rw [List.length_map]; omega
 ·rename_i h2
  split
  ·rename_i h3
   unfold good at h
   rw [if_neg (by rw [h3]; decide), if_neg h2, if_pos h3] at h
   unfold goodCommit goodPars at h
   simp only [Bool.and_eq_true, decide_eq_true_eq] at h
   rw [List.length_cons, List.length_map]; omega
  ·exact Nat.zero_le _
def LinksOut (x : Ob) (w : World) (e : Ending) (w' : World) : Prop :=
 ∃ v', e = .returned v' ∧ w'.ownsRow w.heap.size 201 2 v' (links x).length (lkvals (links x)) ∧ Below w.heap.size w w'
set_option maxRecDepth 100000 in
set_option maxHeartbeats 8000000 in
theorem links_any (x : Ob) (ev pv : Value) (w : World) (h : ObAt w ev pv x) (hn : ObN x) : Calls Tryz.prog 117 #[.agg (obCs x ev pv)] w (LinksOut x w) := by
 have h0 := h
 obtain ⟨ea, en, ec, pa, pn, pc, rfl, he, rfl, hp⟩ := h
 have hX1 : Blk (w.alloc (.cells (obCs x (.slice ea en ec) (.slice pa pn pc)) 98)) w.heap.size 98 (obCs x (.slice ea en ec) (.slice pa pn pc)) := Blk.new w _ _
 have hB1 : Below w.heap.size w (w.alloc (.cells (obCs x (.slice ea en ec) (.slice pa pn pc)) 98)) := (Below.refl _ _).alloc (Nat.le_refl _) _
 have hO1 : ObAt (w.alloc (.cells (obCs x (.slice ea en ec) (.slice pa pn pc)) 98)) (.slice ea en ec) (.slice pa pn pc) x := h0.later hB1
 unfold obCs at hX1 hB1 hO1 ⊢
 have HX1 := hid hX1; have HB1 := hid hB1; have HO1 := hid hO1; have HON := hid hn
 have HEW := hid he; have HPW := hid hp
 clear h0 he hp hX1 hB1 hO1 hn
 go_enter Tryz.func117, Tryz.ntmps117
 go_upto_region 1 with fail
 obtain ⟨g, hg⟩ : ∃ g, w.heap.size = g := ⟨_, rfl⟩
 have HG := hid hg
 rw [hg] at HX1 HB1 ⊢
 clear hg
 generalize (w.alloc (.cells #[.int .i64 x.kind, .string x.data, .slice ea en ec, .string x.tree, .slice pa pn pc, .int .i64 x.height, .string x.note] 98)) = w1 at HX1 HB1 HO1 ⊢
 have k0 : w1.cell? ⟨g, 0, none⟩ = some (.int .i64 x.kind) := Blk.cell HX1.out 0
 have k1 : w1.cell? ⟨g, 1, none⟩ = some (.string x.data) := Blk.cell HX1.out 1
 have k2 : w1.cell? ⟨g, 2, none⟩ = some (.slice ea en ec) := Blk.cell HX1.out 2
 have k3 : w1.cell? ⟨g, 3, none⟩ = some (.string x.tree) := Blk.cell HX1.out 3
 have k4 : w1.cell? ⟨g, 4, none⟩ = some (.slice pa pn pc) := Blk.cell HX1.out 4
 have k5 : w1.cell? ⟨g, 5, none⟩ = some (.int .i64 x.height) := Blk.cell HX1.out 5
 have k6 : w1.cell? ⟨g, 6, none⟩ = some (.string x.note) := Blk.cell HX1.out 6
 have HGD := hid (obgood_any x _ _ w1 HO1.out HON.out)
 go_wp2_with fail
 refine HGD.out.mono ?_; rintro e w2 ⟨rfl, hb⟩
 have HX2 : Hid (Blk w2 g 98 #[.int .i64 x.kind, .string x.data, .slice ea en ec, .string x.tree, .slice pa pn pc, .int .i64 x.height, .string x.note]) := (hb.block g (Blk.lt HX1.out)).trans HX1.out
 have HO2 : Hid (ObAt w2 (.slice ea en ec) (.slice pa pn pc) x) := HO1.out.later hb
 have HB2 : Hid (Below g w w2) := HB1.out.trans (hb.mono (Nat.le_of_lt (Blk.lt HX1.out)))
 clear k0 k1 k2 k3 k4 k5 k6 hb HX1 HB1 HO1 HGD
 cases hgx : good x
 ·have HE : Hid (links x = []) := by
   show _ = _
   unfold links; rw [if_neg (by rw [hgx]; simp)]
  go_wp2_with fail
  go_ret
  refine ⟨_, rfl, ?_, by rw [HG.out]; exact HB2.out⟩
  rw [HE.out]; exact World.ownsRow_nil _ _ _ _
 ·have HGX := hid hgx
  clear hgx
  have hrn : (rawLinks x).length ≤ 1000000 := raw_few HGX.out
  have HLK : Hid (ddp (sortL (rawLinks x)) (sortL (rawLinks x)).length = links x) := ddp_links HGX.out
  have hgw : g ≤ w2.heap.size := by have := HB2.out.size; rw [HG.out] at this; exact this
  have k0 : w2.cell? ⟨g, 0, none⟩ = some (.int .i64 x.kind) := Blk.cell HX2.out 0
  have k2 : w2.cell? ⟨g, 2, none⟩ = some (.slice ea en ec) := Blk.cell HX2.out 2
  have k3 : w2.cell? ⟨g, 3, none⟩ = some (.string x.tree) := Blk.cell HX2.out 3
  have k4 : w2.cell? ⟨g, 4, none⟩ = some (.slice pa pn pc) := Blk.cell HX2.out 4
  go_upto_block 0 with fail
  go_cut [3] (fun s3 wx => ∃ v, s3 = v ∧ Hid (wx.ownsRow g 201 2 v (rawLinks x).length (lkvals (rawLinks x))) ∧ Hid (Below g w wx))
  case first =>
   obtain ⟨i0, hi0, hz0, hz1, hz2⟩ := info_parts Tryz.infoLk
   by_cases h2 : x.kind = 2
   ·have HRW : Hid (rawLinks x = x.ents.map (fun e => ⟨e.kind, e.id⟩)) := by show _ = _; unfold rawLinks; rw [if_pos h2]
    have hel : x.ents.length = en := HEW.out.1
    have hen : en ≤ 1000000 := by rw [HRW.out, List.length_map] at hrn; omega
    have hkd : (x.kind == 2) = true := by rw [h2]; rfl
    have hkd2 : decide (x.kind = 2) = true := decide_eq_true h2
    clear h2
    go_wp2_with fail
    go_loopw [3, 18] (fun ov iv wr => ∃ i : Nat, i ≤ en ∧ iv = .int .i64 i ∧ Hid (wr.ownsRow g 201 2 ov i (lkvals ((rawLinks x).take i))) ∧ Hid (Below g w wr)) (fun _ iv _ => en - (intOf iv).toNat)
    case atStart => exact ⟨0, Nat.zero_le _, rfl, World.ownsRow_nil _ _ _ _, HB2.out⟩
    case round =>
     obtain ⟨i, hi, rfl, HO, HB⟩ := hrel
     obtain ⟨oa, oc, rfl, hoc⟩ := own_slice' HO.out
     by_cases hlt : i < en
     ·have ci : (i : Int) < en := by omega
      have ci0 : (0 : Int) ≤ (i : Int) := by omega
      obtain ⟨-, -, h3⟩ := HEW.out.later (by rw [HG.out]; exact HB.out)
      obtain ⟨b, off, rfl, hc⟩ := h3.resolve_left (by omega)
      obtain ⟨q0, q1, q2⟩ := hc i hlt
      have hil : i < x.ents.length := by omega
      have HT : Hid (lkvals ((rawLinks x).take (i + 1)) = lkvals ((rawLinks x).take i) ++ [.int .i64 (x.ents.getD i ⟨ByteArray.empty, 0, ByteArray.empty⟩).kind, .string (x.ents.getD i ⟨ByteArray.empty, 0, ByteArray.empty⟩).id]) := by
       show _ = _
       rw [List.take_succ_eq_append_getElem (by rw [HRW.out, List.length_map]; exact hil), lkvals_append]
       congr 1
       simp only [HRW.out, List.getElem_map, List.getD_eq_getElem?_getD, List.getElem?_eq_getElem hil]; rfl
      obtain ⟨y, hy⟩ : ∃ y, x.ents.getD i ⟨ByteArray.empty, 0, ByteArray.empty⟩ = y := ⟨_, rfl⟩
      rw [hy] at q0 q1 q2 HT
      obtain ⟨yn, yk, yi⟩ := y
      simp only at q0 q1 q2 HT
      clear hc h3 hy
      go_upto_region 9 with fail
      have HX4 : Hid (Blk (wr.alloc (.cells #[.string yn, .int .i64 yk, .string yi] 76)) wr.heap.size 76 #[.string yn, .int .i64 yk, .string yi]) := Blk.new wr _ _
      have HO4 : Hid ((wr.alloc (.cells #[.string yn, .int .i64 yk, .string yi] 76)).ownsRow g 201 2 (.slice oa i oc) i (lkvals ((rawLinks x).take i))) := HO.out.alloc _
      have hgr : g ≤ wr.heap.size := by have := HB.out.size; rw [HG.out] at this; exact this
      have HB4 : Hid (Below g w (wr.alloc (.cells #[.string yn, .int .i64 yk, .string yi] 76))) := HB.out.alloc hgr _
      generalize (wr.alloc (.cells #[.string yn, .int .i64 yk, .string yi] 76)) = w4 at HX4 HO4 HB4 ⊢
      generalize wr.heap.size = xb at HX4 ⊢
      have j1 : w4.cell? ⟨xb, 1, none⟩ = some (.int .i64 yk) := Blk.cell HX4.out 1
      have j2 : w4.cell? ⟨xb, 2, none⟩ = some (.string yi) := Blk.cell HX4.out 2
      have hg4 : g ≤ w4.heap.size := by have := HB4.out.size; rw [HG.out] at this; exact this
      clear HO HB q0 q1 q2
      go_wp2_with (at_builtin; refine wpList_append_own _ rfl (.tmp 22) (.tmp 28) 198 rfl g 201 i0 (.agg #[.int .i64 0, .string ⟨#[]⟩]) 2 24 Tryz.underlying198 hi0 hz0 hz1 hz2 rfl (by decide) (.slice oa i oc) _ _ rfl (HO4.out.alloc _) ⟨w4.heap.size, 0, none⟩ 1 1 [.int .i64 yk, .string yi] rfl rfl (cellNew2 _ _ _ _) (one2 rfl rfl) (by unfold maxLen; omega) (by omega) (by rw [World.size_alloc]; omega) ?_; intro v' w9 hown' hgrow _; have HOWN := hid hown'; have HGR := hid hgrow; clear hown' hgrow)
      have HO9 : Hid (w9.ownsRow g 201 2 v' (i + 1) (lkvals ((rawLinks x).take (i + 1)))) := by
       show World.ownsRow _ _ _ _ _ _ _
       rw [HT.out]; exact HOWN.out
      have HB9 : Hid (Below g w w9) := (HB4.out.alloc hg4 _).grown HGR.out (by rw [World.size_alloc]; omega) (fun j hj => (HO4.out.lt j hj).1)
      go_roundw
      case rel => first | exact ⟨i + 1, by omega, by go_num, HO9, HB9⟩ | ((repeat apply Exists.intro); exact ⟨⟨i + 1, by omega, by go_num, HO9, HB9⟩, rfl⟩)
      case measure => simp [intOf]; omega
     ·obtain rfl : i = en := by omega
      have ci : ¬ (i : Int) < i := by omega
      have hrl : (rawLinks x).length = i := by rw [HRW.out, List.length_map]; exact hel
      have hall : (rawLinks x).take i = rawLinks x := List.take_of_length_le (by omega)
      rw [hall] at HO
      clear hall
      go_wp2_with fail
      go_meet
      case rel => exact ⟨_, rfl, by rw [hrl]; exact HO, HB⟩
   ·by_cases h3 : x.kind = 3
    ·have HRW : Hid (rawLinks x = ⟨2, x.tree⟩ :: x.pars.map (fun p => ⟨3, p⟩)) := by show _ = _; unfold rawLinks; rw [if_neg h2, if_pos h3]
     have hpl : x.pars.length = pn := HPW.out.1
     have hpn : pn + 1 ≤ 1000000 := by rw [HRW.out, List.length_cons, List.length_map] at hrn; omega
     have hkd : (x.kind == 2) = false := by rw [h3]; rfl
     have hkd2 : decide (x.kind = 2) = false := decide_eq_false h2
     have hkd3 : (x.kind == 3) = true := by rw [h3]; rfl
     have hkd4 : decide (x.kind = 3) = true := decide_eq_true h3
     have H20 := hid h2; have H30 := hid h3
     have HT0 : Hid (lkvals ((rawLinks x).take 1) = [.int .i64 2, .string x.tree]) := by show _ = _; rw [HRW.out]; rfl
     clear h2 h3
     go_wp2_with (at_builtin; refine wpList_append_own _ rfl (.tmp 33) (.tmp 37) 198 rfl g 201 i0 (.agg #[.int .i64 0, .string ⟨#[]⟩]) 2 24 Tryz.underlying198 hi0 hz0 hz1 hz2 rfl (by decide) (.slice none 0 0) 0 [] rfl (World.ownsRow_nil _ _ _ _) ⟨w2.heap.size, 0, none⟩ 1 1 [.int .i64 2, .string x.tree] rfl rfl (cellNew2 _ _ _ _) (one2 rfl rfl) (by unfold maxLen; omega) (by omega) (by rw [World.size_alloc]; omega) ?_; intro v' w9 hown' hgrow _; obtain ⟨oa, oc, hov, -⟩ := own_slice' hown'; subst hov; have HOWN := hid hown'; have HGR := hid hgrow; clear hown' hgrow; have HX9 := hid ((HX2.out.alloc _).grown HGR.out (fun e => by simp [Value.ownBlock] at e)); have k49 : w9.cell? ⟨g, 4, none⟩ = some (.slice pa pn pc) := Blk.cell HX9.out 4)
     have HO9 : Hid (w9.ownsRow g 201 2 (.slice oa 1 oc) 1 (lkvals ((rawLinks x).take 1))) := by
      show World.ownsRow _ _ _ _ _ _ _
      rw [HT0.out]; exact HOWN.out
     have HB9 : Hid (Below g w w9) := (HB2.out.alloc hgw _).grown HGR.out (by rw [World.size_alloc]; omega) (fun j hj => by simp [Value.ownBlock] at hj)
     go_loopw [3, 42] (fun ov iv wr => ∃ i : Nat, i ≤ pn ∧ iv = .int .i64 i ∧ Hid (wr.ownsRow g 201 2 ov (i + 1) (lkvals ((rawLinks x).take (i + 1)))) ∧ Hid (Below g w wr)) (fun _ iv _ => pn - (intOf iv).toNat)
     case atStart => exact ⟨0, Nat.zero_le _, rfl, HO9, HB9⟩
     case round =>
      obtain ⟨i, hi, rfl, HO, HB⟩ := hrel
      obtain ⟨ob, od, rfl, hoc⟩ := own_slice' HO.out
      by_cases hlt : i < pn
      ·have ci : (i : Int) < pn := by omega
       have ci0 : (0 : Int) ≤ (i : Int) := by omega
       obtain ⟨-, -, h3⟩ := HPW.out.later (by rw [HG.out]; exact HB.out)
       obtain ⟨b, off, rfl, hc⟩ := h3.resolve_left (by omega)
       have q0 := hc i hlt
       have hil : i < x.pars.length := by omega
       have HT : Hid (lkvals ((rawLinks x).take (i + 1 + 1)) = lkvals ((rawLinks x).take (i + 1)) ++ [.int .i64 3, .string (x.pars.getD i ByteArray.empty)]) := by
        show _ = _
        rw [List.take_succ_eq_append_getElem (by rw [HRW.out, List.length_cons, List.length_map]; omega), lkvals_append]
        congr 1
        simp only [HRW.out, List.getElem_cons_succ, List.getElem_map, List.getD_eq_getElem?_getD, List.getElem?_eq_getElem hil]; rfl
       obtain ⟨y, hy⟩ : ∃ y, x.pars.getD i ByteArray.empty = y := ⟨_, rfl⟩
       rw [hy] at q0 HT
       have hgr : g ≤ wr.heap.size := by have := HB.out.size; rw [HG.out] at this; exact this
       clear hc h3 hy
       go_wp2_with (at_builtin; refine wpList_append_own _ rfl (.tmp 46) (.tmp 49) 198 rfl g 201 i0 (.agg #[.int .i64 0, .string ⟨#[]⟩]) 2 24 Tryz.underlying198 hi0 hz0 hz1 hz2 rfl (by decide) (.slice ob (i + 1) od) _ _ rfl (HO.out.alloc _) ⟨wr.heap.size, 0, none⟩ 1 1 [.int .i64 3, .string y] rfl rfl (cellNew2 _ _ _ _) (one2 rfl rfl) (by unfold maxLen; omega) (by omega) (by rw [World.size_alloc]; omega) ?_; intro v' wn hown' hgrow _; have HOWM := hid hown'; have HGS := hid hgrow; clear hown' hgrow)
       have HOn : Hid (wn.ownsRow g 201 2 v' (i + 1 + 1) (lkvals ((rawLinks x).take (i + 1 + 1)))) := by
        show World.ownsRow _ _ _ _ _ _ _
        rw [HT.out]; exact HOWM.out
       have HBn : Hid (Below g w wn) := (HB.out.alloc hgr _).grown HGS.out (by rw [World.size_alloc]; omega) (fun j hj => (HO.out.lt j hj).1)
       go_roundw
       case rel => first | exact ⟨i + 1, by omega, by go_num, HOn, HBn⟩ | ((repeat apply Exists.intro); exact ⟨⟨i + 1, by omega, by go_num, HOn, HBn⟩, rfl⟩)
       case measure => simp [intOf]; omega
      ·obtain rfl : i = pn := by omega
       have ci : ¬ (i : Int) < i := by omega
       have hrl : (rawLinks x).length = i + 1 := by rw [HRW.out, List.length_cons, List.length_map]; omega
       have hall : (rawLinks x).take (i + 1) = rawLinks x := List.take_of_length_le (by omega)
       rw [hall] at HO
       clear hall
       go_wp2_with fail
       go_meet
       case rel => exact ⟨_, rfl, by rw [hrl]; exact HO, HB⟩
    ·have HRW : Hid (rawLinks x = []) := by show _ = _; unfold rawLinks; rw [if_neg h2, if_neg h3]
     have hkd : (x.kind == 2) = false := by rw [beq_eq_false_iff_ne]; exact h2
     have hkd2 : decide (x.kind = 2) = false := decide_eq_false h2
     have hkd3 : (x.kind == 3) = false := by rw [beq_eq_false_iff_ne]; exact h3
     have hkd4 : decide (x.kind = 3) = false := decide_eq_false h3
     go_wp2_with fail
     go_meet
     case rel => exact ⟨_, rfl, by rw [HRW.out]; exact World.ownsRow_nil _ _ _ _, HB2⟩
  case rest =>
   obtain ⟨v3, rfl, HO3, HB3⟩ := hcut
   have hgc : g ≤ wc.heap.size := by have := HB3.out.size; rw [HG.out] at this; exact this
   have HST := hid (sortLk_own g (rawLinks x).length _ (rawLinks x) wc HO3.out hrn)
   go_wp2_with fail
   refine HST.out.mono ?_; rintro e w5 ⟨rfl, ho5, hg5⟩
   have hsl : (sortL (rawLinks x)).length = (rawLinks x).length := (sortL_perm _).length_eq
   have HB5 : Hid (Below g w w5) := HB3.out.grown hg5 hgc (fun j hj => (HO3.out.lt j hj).1)
   have hg5c : g ≤ w5.heap.size := Nat.le_trans hgc hg5.size
   have HO5 := hid ho5
   have HCP := hid (compLk_own g (rawLinks x).length _ (sortL (rawLinks x)) w5 ho5 hrn)
   clear ho5 hg5 HST
   go_wp2_with fail
   refine HCP.out.mono ?_; rintro e w6 ⟨v6, rfl, ho6, hg6⟩
   rw [HLK.out] at ho6
   have HO6 := hid ho6
   have HB6 : Hid (Below g w w6) := HB5.out.grown hg6 hg5c (fun j hj => (HO5.out.lt j hj).1)
   clear ho6 hg6 HCP
   go_wp2_with fail
   go_ret
   exact ⟨v6, rfl, by rw [HG.out]; exact HO6.out, by rw [HG.out]; exact HB6.out⟩
end Go.Proofs.YtmpjdoiogbbcoaaGreatDoor
/- An object looked up by its id (sweep.look); a source with what came ahead (hall.Get). -/
namespace Go.Proofs.YtmpjdoiogbbcoaaGreatDoor
open Go.RowKit Book Pap Ojt Sn
set_option linter.unusedVariables false
set_option linter.unusedSimpArgs false

theorem swlook_results (tmps : Array Value) (g : Nat) (er : Int) (x : Ob) (ev pv : Value) (w : World) (h2 : tmps.getD 4 undef = .pointer (some ⟨g, 0, none⟩)) (h3 : tmps.getD 5 undef = .int .i64 er) (H : Blk w g 98 (obCs x ev pv)) : (results Tryz.f118 tmps).run Tryz.prog w = .ok (.tuple #[.agg (obCs x ev pv), .int .i64 er]) w := by
 have c0 : w.cell? ⟨g, 0, none⟩ = some (.int .i64 x.kind) := Blk.cell H 0
 have c1 : w.cell? ⟨g, 1, none⟩ = some (.string x.data) := Blk.cell H 1
 have c2 : w.cell? ⟨g, 2, none⟩ = some ev := Blk.cell H 2
 have c3 : w.cell? ⟨g, 3, none⟩ = some (.string x.tree) := Blk.cell H 3
 have c4 : w.cell? ⟨g, 4, none⟩ = some pv := Blk.cell H 4
 have c5 : w.cell? ⟨g, 5, none⟩ = some (.int .i64 x.height) := Blk.cell H 5
 have c6 : w.cell? ⟨g, 6, none⟩ = some (.string x.note) := Blk.cell H 6
 have h2' : tmps[4]?.getD undef = .pointer (some ⟨g, 0, none⟩) := by simpa using h2
 have h3' : tmps[5]?.getD undef = .int .i64 er := by simpa using h3
 simp [results, Tryz.results118, go_sem, h2', h3', c0, c1, c2, c3, c4, c5, c6, obCs]
set_option maxRecDepth 100000 in
set_option maxHeartbeats 8000000 in
theorem swlook_any (t : TypeId) (rv : Value) (G : Sw.Src) (id : ByteArray) (w : World) (hs : SrcIn w t rv G) (hz : SrcSz G) (his : id.size ≤ 1000000) : Calls Tryz.prog 118 #[.iface t rv, .string id] w (LookOut w (Sw.look G id).2 (Sw.look G id).1) := by
 obtain ⟨f, r, hm, hen, hget⟩ := hs
 have HGT := hid (fun W hW => hget id W his hW)
 have HLK : Hid (Sw.look G id = match G id with | none => (21, zero) | some t => match Sw.decO t with | none => (4, zero) | some x => (0, x)) := rfl
 clear hget
 go_enter Tryz.func118, Tryz.ntmps118
 go_upto_region 1 with fail
 obtain ⟨g, hg⟩ : ∃ g, w.heap.size = g := ⟨_, rfl⟩
 have HG := hid hg
 have HZ1 : Hid (Blk (w.alloc (.cells (obCs zero (.slice none 0 0) (.slice none 0 0)) 98)) g 98 (obCs zero (.slice none 0 0) (.slice none 0 0))) := by
  have := Blk.new w 98 (obCs zero (.slice none 0 0) (.slice none 0 0)); rw [hg] at this; exact this
 have HB1 : Hid (Below g w (w.alloc (.cells (obCs zero (.slice none 0 0) (.slice none 0 0)) 98))) := (Below.refl _ _).alloc (Nat.le_of_eq hg.symm) _
 rw [hg]
 rw [zero_cs] at HZ1 HB1
 clear hg
 generalize (w.alloc (.cells #[.int .i64 0, .string ⟨#[]⟩, .slice none 0 0, .string ⟨#[]⟩, .slice none 0 0, .int .i64 0, .string ⟨#[]⟩] 98)) = w1 at HZ1 HB1 ⊢
 have hgl1 := Blk.lt HZ1.out
 go_wp2_with fail
 refine (HGT.out w1 (by rw [HG.out]; exact HB1.out)).mono ?_; rintro e w2 ⟨rfl, hb2⟩
 have HZ2 : Hid (Blk w2 g 98 #[.int .i64 0, .string ⟨#[]⟩, .slice none 0 0, .string ⟨#[]⟩, .slice none 0 0, .int .i64 0, .string ⟨#[]⟩]) := (hb2.block g hgl1).trans HZ1.out
 have HB2 : Hid (Below g w w2) := HB1.out.trans (hb2.mono (Nat.le_of_lt hgl1))
 clear hb2 HZ1 HB1
 cases hG : G id with
 | none =>
  rw [hG] at HLK
  have HL : Hid (Sw.look G id = (21, zero)) := HLK.out
  clear HLK
  obtain ⟨wz, hwz⟩ : ∃ wz, w2.setRow g (obCs zero (.slice none 0 0) (.slice none 0 0)) = wz := ⟨_, rfl⟩
  have HBZ : Hid (Blk wz g 98 (obCs zero (.slice none 0 0) (.slice none 0 0))) := by rw [← hwz]; exact setRow_heap _ _ _ _ _ _ HZ2.out
  have HLZ : Hid (Below g w wz) := by rw [← hwz]; exact below_setRow HB2.out (Nat.le_refl _) _
  have HWZ := hid hwz
  clear hwz
  go_wp2_with (first
   | (refine wpList_store_row rfl _ (.tmp 4) (.tmp 16) rfl g (obCs zero (.slice none 0 0) (.slice none 0 0)) rfl rfl 98 (obCs zero (.slice none 0 0) (.slice none 0 0)) HZ2.out (Tryz.infoObj _ _ _) rfl (obcs_one _ _ _ _ _ _ _) ?_; rw [HWZ.out]))
  go_wp2_with fail
  refine bodyPost_ret (v := .tuple #[.agg (obCs zero (.slice none 0 0) (.slice none 0 0)), .int .i64 21]) ?hr1 rfl ⟨.slice none 0 0, .slice none 0 0, ?_, ?_, ?_, fun k hk => by simp [Value.ownBlock] at hk⟩
  case hr1 => exact swlook_results _ g 21 zero _ _ wz rfl rfl HBZ.out
  ·rw [HL.out]
  ·rw [HL.out]; exact zero_at _
  ·rw [HG.out]; exact HLZ.out
 | some tx =>
  have hzt := hz id tx hG
  rw [hG] at HLK
  clear hz hG
  obtain ⟨er, x, hlx⟩ : ∃ er x, Sw.look G id = (er, x) := ⟨_, _, rfl⟩
  have HDX : Hid (decR tx.data.toList = (x, er)) := by
   show _ = _
   rw [decO_R]
   have h := HLK.out
   rw [hlx] at h
   simp only at h
   cases hd : Sw.decO tx with
   | none => rw [hd] at h; simp only at h ⊢; cases h; rfl
   | some y => rw [hd] at h; simp only at h ⊢; cases h; rfl
  have HDC := hid (decode_any tx hzt w2)
  have HLX := hid hlx
  clear HLK hlx
  go_wp2_with fail
  refine HDC.out.mono ?_; rintro e w3 ⟨x', ev, pv, er', hdr, rfl, hO3, hb3, hf3⟩
  rw [HDX.out] at hdr
  obtain ⟨hd1, hd2⟩ := Prod.mk.inj hdr
  subst x'
  subst er'
  have HO3 := hid hO3
  obtain ⟨ea, en, ec, pa, pn, pc, rfl, -, rfl, -⟩ := hO3
  have hgl2 := Blk.lt HZ2.out
  have HZ3 : Hid (Blk w3 g 98 (obCs zero (.slice none 0 0) (.slice none 0 0))) := by rw [zero_cs]; exact (hb3.block g hgl2).trans HZ2.out
  have HB3 : Hid (Below g w w3) := HB2.out.trans (hb3.mono (Nat.le_of_lt hgl2))
  have HF3 : Hid (∀ k, ((Value.slice ea en ec).ownBlock = some k ∨ (Value.slice pa pn pc).ownBlock = some k) → g < k) := fun k hk => by have := hf3 k hk; omega
  clear hdr hb3 hf3 HDC HZ2 HB2
  obtain ⟨wz, hwz⟩ : ∃ wz, w3.setRow g (obCs x (.slice ea en ec) (.slice pa pn pc)) = wz := ⟨_, rfl⟩
  have HBZ : Hid (Blk wz g 98 (obCs x (.slice ea en ec) (.slice pa pn pc))) := by rw [← hwz]; exact setRow_heap _ _ _ _ _ _ HZ3.out
  have HLZ : Hid (Below g w wz) := by rw [← hwz]; exact below_setRow HB3.out (Nat.le_refl _) _
  have HOZ : Hid (ObAt wz (.slice ea en ec) (.slice pa pn pc) x) := by rw [← hwz]; exact HO3.out.far (fun k hk => by have := HF3.out k (.inl hk); omega) (fun k hk => by have := HF3.out k (.inr hk); omega) _
  have HWZ := hid hwz
  clear hwz
  go_wp2_with (first
   | (refine wpList_store_row rfl _ (.tmp 4) (.tmp 19) rfl g (obCs x (.slice ea en ec) (.slice pa pn pc)) rfl rfl 98 (obCs zero (.slice none 0 0) (.slice none 0 0)) HZ3.out (Tryz.infoObj _ _ _) rfl (obcs_one _ _ _ _ _ _ _) ?_; rw [HWZ.out]))
  go_wp2_with fail
  refine bodyPost_ret (v := .tuple #[.agg (obCs x (.slice ea en ec) (.slice pa pn pc)), .int .i64 er]) ?hr3 rfl ⟨.slice ea en ec, .slice pa pn pc, by rw [HLX.out], by rw [HLX.out]; exact HOZ.out, by rw [HG.out]; exact HLZ.out, fun k hk => by rw [HG.out]; exact Nat.le_of_lt (HF3.out k hk)⟩
  case hr3 => exact swlook_results _ g er x _ _ wz rfl rfl HBZ.out
/-- the cells of a hall -/
def hallCs (t : TypeId) (rv : Value) (m : Nat) : Array Value := #[.iface t rv, .map (some m)]
set_option maxRecDepth 100000 in
set_option maxHeartbeats 8000000 in
theorem hallget_any (t : TypeId) (rv : Value) (G : Sw.Src) (m n : Nat) (came : List Sw.It) (id : ByteArray) (w : World) (hs : SrcIn w t rv G) (hm : StrMap w m n (Sw.getI came)) (his : id.size ≤ 1000000) :
  Calls Tryz.prog 64 #[.agg (hallCs t rv m), .string id] w (GetOut (Sw.over came G) id w) := by
 have hb1 : Below w.heap.size w (w.alloc (.cells (hallCs t rv m) 140)) := (Below.refl _ _).alloc (Nat.le_refl _) _
 have HX1 : Hid (Blk (w.alloc (.cells (hallCs t rv m) 140)) w.heap.size 140 (hallCs t rv m)) := Blk.new w _ _
 have hm1 := hm.later hb1
 have hs1 := hs.later hb1
 have hlk := strMap_get2 hm1 id (by unfold maxLen; omega)
 obtain ⟨f, r, hmm, hen, hget⟩ := hs1
 have HGT := hid (fun W hW => hget id W his hW)
 have HB1 := hid hb1
 have HOV : Hid (Sw.over came G id = match Sw.getI came id with | some t => some t | none => G id) := rfl
 unfold hallCs at hlk HX1 HGT HB1 ⊢
 clear hget hm1 hm hs hb1
 go_enter Tryz.func64, Tryz.ntmps64
 go_upto_region 1 with fail
 generalize (w.alloc (.cells #[.iface t rv, .map (some m)] 140)) = w1 at HX1 hlk HGT HB1 ⊢
 obtain ⟨g, hg⟩ : ∃ g, w.heap.size = g := ⟨_, rfl⟩
 have HG := hid hg
 rw [hg] at HX1 HB1 ⊢
 clear hg
 have k0 : w1.cell? ⟨g, 0, none⟩ = some (.iface t rv) := Blk.cell HX1.out 0
 have k1 : w1.cell? ⟨g, 1, none⟩ = some (.map (some m)) := Blk.cell HX1.out 1
 cases hgc : Sw.getI came id with
 | some u =>
  rw [hgc] at hlk HOV
  simp only [Option.getD_some, Option.isSome_some] at hlk
  have HR : Hid (Sw.over came G id = some u) := HOV.out
  clear HOV hgc
  go_wp2_with fail
  go_ret2
  unfold GetOut
  rw [HR.out]
  exact ⟨rfl, by rw [HG.out]; exact HB1.out⟩
 | none =>
  rw [hgc] at hlk HOV
  simp only [Option.getD_none, Option.isSome_none] at hlk
  have HR : Hid (Sw.over came G id = G id) := HOV.out
  clear HOV hgc
  go_wp2_with fail
  refine (HGT.out w1 (Below.refl _ _)).mono ?_; rintro e w2 ⟨rfl, hb2⟩
  have HB2 : Hid (Below g w w2) := HB1.out.trans (hb2.mono (Nat.le_of_lt (Blk.lt HX1.out)))
  clear hb2
  go_wp2_with fail
  go_ret2
  unfold GetOut
  rw [HR.out]
  exact ⟨rfl, by rw [HG.out]; exact HB2.out⟩
theorem hall_src (t : TypeId) (rv : Value) (G : Sw.Src) (m n : Nat) (came : List Sw.It) (w : World) (hs : SrcIn w t rv G) (hm : StrMap w m n (Sw.getI came)) : SrcIn w 140 (.agg (hallCs t rv m)) (Sw.over came G) :=
 ⟨64, .agg (hallCs t rv m), fun W => by kernel_rfl, enters_of Tryz.func64 (by kernel_rfl) rfl, fun id W hi hW => hallget_any t rv G m n came id W (hs.later hW) (hm.later hW) hi⟩
end Go.Proofs.YtmpjdoiogbbcoaaGreatDoor
/- Whether an object may come: sweep.fits. -/
namespace Go.Proofs.YtmpjdoiogbbcoaaGreatDoor
open Go.RowKit Book Pap Ojt Sn
set_option linter.unusedVariables false
set_option linter.unusedSimpArgs false

theorem links_few (x : Ob) : (links x).length ≤ 1000000 := by
 cases hg : good x
 ·unfold links; rw [hg, if_neg (by simp)]; exact Nat.zero_le _
 ·rw [← ddp_links hg]
  have h1 := ddp_le (sortL (rawLinks x)) (sortL (rawLinks x)).length
  have h2 := (sortL_perm (rawLinks x)).length_eq
  have h3 := raw_few hg
  omega
theorem links_ids {x : Ob} {k : Lnk} (h : k ∈ links x) : k.id.size = 32 := by
 cases hg : good x
 ·unfold links at h; rw [hg, if_neg (by simp)] at h; cases h
 ·have h := (links_mem hg k).1 h
  unfold rawLinks at h
  split at h
  ·rename_i h2
   obtain ⟨e, he, rfl⟩ := List.mem_map.1 h
   exact (goodEnt_facts ((good_tree hg h2).2 e he)).2.2.2
  ·split at h
   ·rename_i h3
    have hc := good_commit hg h3
    rcases List.mem_cons.1 h with rfl | h
    ·exact hc.2.2.2.2.1
    ·obtain ⟨p, hp, rfl⟩ := List.mem_map.1 h
     exact hc.2.1 p hp
   ·cases h
/-- links in memory -/
def LksAt (w : World) (a : Option Addr) (n : Nat) (l : List Lnk) : Prop :=
 l.length = n ∧ (n = 0 ∨ ∃ b off, a = some ⟨b, off, none⟩ ∧ ∀ j, j < n → w.cell? ⟨b, off + j * 2, none⟩ = some (.int .i64 (l.getD j noLk).kind) ∧ w.cell? ⟨b, off + j * 2 + 1, none⟩ = some (.string (l.getD j noLk).id))
theorem LksAt.later {w w' : World} {a : Option Addr} {n : Nat} {l : List Lnk} (h : LksAt w a n l) (hb : Below w.heap.size w w') : LksAt w' a n l := by
 obtain ⟨h1, h3⟩ := h
 refine ⟨h1, h3.imp id ?_⟩
 rintro ⟨b, off, ha, hc⟩
 refine ⟨b, off, ha, fun j hj => ?_⟩
 obtain ⟨c0, c1⟩ := hc j hj
 exact ⟨(hb.cell (World.block_lt_of_cell? w _ c0)).trans c0, (hb.cell (World.block_lt_of_cell? w _ c1)).trans c1⟩
theorem own_lks {w : World} {B : Nat} {v : Value} {l : List Lnk} (h : w.ownsRow B 201 2 v l.length (lkvals l)) : ∃ a c, v = .slice a l.length c ∧ LksAt w a l.length l := by
 have h' := h
 rcases h.2 with ⟨rfl, h0⟩ | ⟨g, cap, cur, rfl, hb, hg, hn, hc, hsz, htk⟩
 ·exact ⟨none, 0, by rw [h0], rfl, .inl h0⟩
 ·refine ⟨_, _, rfl, rfl, .inr ⟨g, 0, rfl, fun j hj => ?_⟩⟩
  obtain ⟨h1, h2⟩ := lkvals_get l j hj
  have c0 := h'.cellAt (j * 2) (by omega)
  have c1 := h'.cellAt (j * 2 + 1) (by omega)
  rw [Nat.zero_add]
  exact ⟨c0.trans h1, c1.trans h2⟩
def FitsOut (w : World) (r : Int) (e : Ending) (w' : World) : Prop := e = .returned (.int .i64 r) ∧ Below w.heap.size w w'
theorem fits_err {G : Sw.Src} {x : Ob} {er : Int} {H : List Int} (h : Sw.fitsK G (links x) [] = (er, H)) (he : er ≠ 0) : Sw.fits G x = er := by
 unfold Sw.fits; rw [h, if_pos he]
theorem fits_ok {G : Sw.Src} {x : Ob} {H : List Int} (h : Sw.fitsK G (links x) [] = (0, H)) : Sw.fits G x = if x.kind = 3 ∧ x.height ≠ heightL H then 41 else 0 := by
 unfold Sw.fits; rw [h, if_neg (by simp)]
set_option maxRecDepth 100000 in
set_option maxHeartbeats 8000000 in
theorem fits_any (t : TypeId) (rv : Value) (G : Sw.Src) (hz : SrcSz G) (x : Ob) (ev pv : Value) (w : World) (hs : SrcIn w t rv G) (h : ObAt w ev pv x) (hn : ObN x) :
  Calls Tryz.prog 65 #[.iface t rv, .agg (obCs x ev pv)] w (FitsOut w (Sw.fits G x)) := by
 obtain ⟨i0, hi0, hz0, hz1, hz2⟩ := info_parts Tryz.infoInt15
 have hO := h
 obtain ⟨ea, en, ec, pa, pn, pc, rfl, -, rfl, -⟩ := h
 have hb1 : Below w.heap.size w (w.alloc (.cells (obCs x (.slice ea en ec) (.slice pa pn pc)) 98)) := (Below.refl _ _).alloc (Nat.le_refl _) _
 have HX1 : Hid (Blk (w.alloc (.cells (obCs x (.slice ea en ec) (.slice pa pn pc)) 98)) w.heap.size 98 (obCs x (.slice ea en ec) (.slice pa pn pc))) := Blk.new w _ _
 have HO1 := hid (hO.later hb1)
 have HS1 := hid (hs.later hb1)
 have HB1 := hid hb1
 unfold obCs at HX1 HB1 HO1 HS1 ⊢
 clear hO hb1 hs
 have HON := hid hn
 clear hn
 go_enter Tryz.func65, Tryz.ntmps65
 go_upto_region 2 with fail
 generalize (w.alloc (.cells #[.int .i64 x.kind, .string x.data, .slice ea en ec, .string x.tree, .slice pa pn pc, .int .i64 x.height, .string x.note] 98)) = w1 at HX1 HB1 HO1 HS1 ⊢
 obtain ⟨g, hg⟩ : ∃ g, w.heap.size = g := ⟨_, rfl⟩
 have HG := hid hg
 rw [hg] at HX1 HB1 ⊢
 clear hg
 have k0 : w1.cell? ⟨g, 0, none⟩ = some (.int .i64 x.kind) := Blk.cell HX1.out 0
 have k1 : w1.cell? ⟨g, 1, none⟩ = some (.string x.data) := Blk.cell HX1.out 1
 have k2 : w1.cell? ⟨g, 2, none⟩ = some (.slice ea en ec) := Blk.cell HX1.out 2
 have k3 : w1.cell? ⟨g, 3, none⟩ = some (.string x.tree) := Blk.cell HX1.out 3
 have k4 : w1.cell? ⟨g, 4, none⟩ = some (.slice pa pn pc) := Blk.cell HX1.out 4
 have k5 : w1.cell? ⟨g, 5, none⟩ = some (.int .i64 x.height) := Blk.cell HX1.out 5
 have k6 : w1.cell? ⟨g, 6, none⟩ = some (.string x.note) := Blk.cell HX1.out 6
 have HLK := hid (links_any x (.slice ea en ec) (.slice pa pn pc) w1 HO1.out HON.out)
 unfold obCs at HLK
 have HLF := hid (links_few x)
 have HLI : Hid (∀ k ∈ links x, k.id.size = 32) := fun k hk => links_ids hk
 have HFE : Hid (∀ er H, Sw.fitsK G (links x) [] = (er, H) → er ≠ 0 → Sw.fits G x = er) := fun er H h he => fits_err h he
 have HFO : Hid (∀ H, Sw.fitsK G (links x) [] = (0, H) → Sw.fits G x = if x.kind = 3 ∧ x.height ≠ heightL H then 41 else 0) := fun H h => fits_ok h
 unfold LinksOut at HLK
 obtain ⟨L, hL⟩ : ∃ L, links x = L := ⟨_, rfl⟩
 rw [hL] at HLK HLF HLI HFE HFO
 clear hL
 go_wp2_with fail
 refine HLK.out.mono ?_; rintro e w2 ⟨v', rfl, ho2, hb2⟩
 obtain ⟨la, lc, rfl, hlk⟩ := own_lks ho2
 have HL2 := hid hlk
 have HX2 : Hid (Blk w2 g 98 #[.int .i64 x.kind, .string x.data, .slice ea en ec, .string x.tree, .slice pa pn pc, .int .i64 x.height, .string x.note]) := (hb2.block g (Blk.lt HX1.out)).trans HX1.out
 have HS2 := hid (HS1.out.later hb2)
 have HB2 : Hid (Below g w w2) := HB1.out.trans (hb2.mono (Nat.le_of_lt (Blk.lt HX1.out)))
 obtain ⟨n, hn⟩ : ∃ n, L.length = n := ⟨_, rfl⟩
 have HLL := hid hn
 rw [hn] at HL2 HLF ⊢
 clear hn ho2 hb2 HX1 HB1 HO1 HS1 HLK k0 k1 k2 k3 k4 k5 k6 hlk
 have hn6 : n ≤ 1000000 := HLF.out
 have hg2 : g < w2.heap.size := Blk.lt HX2.out
 obtain ⟨B, hB⟩ : ∃ B, w2.heap.size = B := ⟨_, rfl⟩
 have HBe := hid hB
 have hgB : g < B := by omega
 clear hg2 hB
 go_wp2_with fail
 go_loopw [5, 13] (fun hv iv wr => ∃ (i : Nat) (H : List Int), i ≤ n ∧ H.length ≤ i ∧ iv = .int .i64 i ∧ Hid (wr.ownsRow B 3 1 hv H.length (nvals H)) ∧ Hid (Below B w2 wr) ∧ Hid (Sw.fitsK G L [] = Sw.fitsK G (L.drop i) H) ∧ Hid (∀ z ∈ H, 0 ≤ z ∧ z ≤ 1073741824)) (fun _ iv _ => n - (intOf iv).toNat)
 case atStart => exact ⟨0, [], Nat.zero_le _, Nat.le_refl _, rfl, World.ownsRow_nil _ _ _ _, Below.refl _ _, rfl, fun z hz => by cases hz⟩
 case round =>
  obtain ⟨i, H, hi, hHi, rfl, HO, HB, HE, HZ⟩ := hrel
  obtain ⟨va, vc, rfl, hvc⟩ := own_slice' HO.out
  have hBr : B ≤ wr.heap.size := by have := HB.out.size; rw [HBe.out] at this; exact this
  have HBr : Hid (Below w2.heap.size w2 wr) := by rw [HBe.out]; exact HB
  by_cases hlt : i < n
  ·have ci : (i : Int) < n := by omega
   have ci0 : (0 : Int) ≤ (i : Int) := by omega
   obtain ⟨-, h3⟩ := HL2.out.later HBr.out
   obtain ⟨lb, loff, rfl, hcell⟩ := h3.resolve_left (by omega)
   obtain ⟨q0, q1⟩ := hcell i hlt
   have hil : i < L.length := by rw [HLL.out]; exact hlt
   have HT : Hid (L.drop i = L.getD i noLk :: L.drop (i + 1)) := by
    show _ = _
    rw [List.drop_eq_getElem_cons hil, List.getD_eq_getElem?_getD, List.getElem?_eq_getElem hil]; rfl
   have hid32 := HLI.out (L.getD i noLk) (by rw [List.getD_eq_getElem?_getD, List.getElem?_eq_getElem hil]; exact List.getElem_mem hil)
   obtain ⟨y, hy⟩ : ∃ y, L.getD i noLk = y := ⟨_, rfl⟩
   rw [hy] at q0 q1 HT hid32
   have HE1 : Hid (Sw.fitsK G L [] = Sw.fitsK G (y :: L.drop (i + 1)) H) := by show _ = _; rw [HE.out, HT.out]
   obtain ⟨kd, kid⟩ := y
   simp only at q0 q1 hid32
   clear hcell h3 hy HT hil HE
   go_upto_region 5 with fail
   have HXa : Hid (Blk (wr.alloc (.cells #[.int .i64 kd, .string kid] 201)) wr.heap.size 201 #[.int .i64 kd, .string kid]) := Blk.new wr _ _
   have HOa : Hid ((wr.alloc (.cells #[.int .i64 kd, .string kid] 201)).ownsRow B 3 1 (.slice va H.length vc) H.length (nvals H)) := HO.out.alloc _
   have HBa : Hid (Below B w2 (wr.alloc (.cells #[.int .i64 kd, .string kid] 201))) := HB.out.alloc hBr _
   clear HO HB HBr q0 q1
   generalize (wr.alloc (.cells #[.int .i64 kd, .string kid] 201)) = wa at HXa HOa HBa ⊢
   generalize wr.heap.size = e0 at hBr HXa ⊢
   have k1 : wa.cell? ⟨e0, 1, none⟩ = some (.string kid) := Blk.cell HXa.out 1
   obtain ⟨er, xx, hlk⟩ : ∃ er xx, Sw.look G kid = (er, xx) := ⟨_, _, rfl⟩
   have HLK := hid (swlook_any t rv G kid wa (HS2.out.later (by rw [HBe.out]; exact HBa.out)) hz (by omega))
   rw [hlk] at HLK
   go_wp2_with fail
   refine HLK.out.mono ?_; rintro e w3 ⟨ev, pv, rfl, hO3, hb3, hf3⟩
   simp only at hO3 ⊢
   obtain ⟨ea', en', ec', pa', pn', pc', rfl, -, rfl, -⟩ := hO3
   have hea := Blk.lt HXa.out
   have hB3 : B ≤ w3.heap.size := by have := hb3.size; omega
   have HX4 : Hid (Blk (w3.alloc (.cells (obCs xx (.slice ea' en' ec') (.slice pa' pn' pc')) 98)) w3.heap.size 98 (obCs xx (.slice ea' en' ec') (.slice pa' pn' pc'))) := Blk.new w3 _ _
   have HE4 : Hid (Blk (w3.alloc (.cells (obCs xx (.slice ea' en' ec') (.slice pa' pn' pc')) 98)) e0 201 #[.int .i64 kd, .string kid]) := Blk.alloc ((hb3.block e0 hea).trans HXa.out) _
   have HO4 : Hid ((w3.alloc (.cells (obCs xx (.slice ea' en' ec') (.slice pa' pn' pc')) 98)).ownsRow B 3 1 (.slice va H.length vc) H.length (nvals H)) := (own_below HOa.out hb3).alloc _
   have HB4 : Hid (Below B w2 (w3.alloc (.cells (obCs xx (.slice ea' en' ec') (.slice pa' pn' pc')) 98))) := (HBa.out.trans (hb3.mono (by omega))).alloc hB3 _
   unfold obCs at HX4 HE4 HO4 HB4
   simp only [obCs]
   clear hb3 hf3 HLK HXa HOa HBa k1 hea
   go_upto_region 6 with fail
   generalize (w3.alloc (.cells #[.int .i64 xx.kind, .string xx.data, .slice ea' en' ec', .string xx.tree, .slice pa' pn' pc', .int .i64 xx.height, .string xx.note] 98)) = w4 at HX4 HE4 HO4 HB4 ⊢
   generalize w3.heap.size = g4 at HX4 ⊢
   have hB4 : B ≤ w4.heap.size := by have := HB4.out.size; rw [HBe.out] at this; exact this
   have HBF : Hid (Below g w w4) := HB2.out.trans (HB4.out.mono (by omega))
   by_cases he : er = 0
   ·subst he
    have HGX := hid (swlook_good hlk)
    have j0 : w4.cell? ⟨g4, 0, none⟩ = some (.int .i64 xx.kind) := Blk.cell HX4.out 0
    have j5 : w4.cell? ⟨g4, 5, none⟩ = some (.int .i64 xx.height) := Blk.cell HX4.out 5
    have l0 : w4.cell? ⟨e0, 0, none⟩ = some (.int .i64 kd) := Blk.cell HE4.out 0
    by_cases hk : xx.kind = kd
    ·have q1 : (xx.kind != kd) = false := by simp [hk]
     have q2 : (xx.kind == kd) = true := by simp [hk]
     by_cases h3 : kd = 3
     ·have HN : Hid (Sw.fitsK G L [] = Sw.fitsK G (L.drop (i + 1)) (H ++ [xx.height])) := HE1.out.trans (fitsK_com hlk hk h3)
      have hgc := good_commit HGX.out (hk.trans h3)
      have HZ1 : Hid (∀ z ∈ H ++ [xx.height], 0 ≤ z ∧ z ≤ 1073741824) := fun z hz => by
       rcases List.mem_append.1 hz with hz | hz
       ·exact HZ.out z hz
       ·rw [List.mem_singleton.1 hz]; exact ⟨hgc.2.2.1, hgc.2.2.2.1⟩
      have c3 : (kd == 3) = true := by simp [h3]
      have HK := hid hk; have H3 := hid h3
      clear hk h3 hgc hlk HE1
      go_wp2_with (first
       | (at_builtin; refine wpList_append_own _ rfl (.tmp 38) (.tmp 41) 52 rfl B 3 i0 (.int .i64 0) 1 8 Tryz.underlying52 hi0 hz0 hz1 hz2 rfl (by decide) (.slice va H.length vc) _ _ rfl (HO4.out.alloc _) ⟨w4.heap.size, 0, none⟩ 1 1 [.int .i64 xx.height] rfl rfl (cellNew1 _ _ _) (one_bytes rfl) (by unfold maxLen; omega) (by omega) (by rw [World.size_alloc]; omega) ?_; intro v' w9 hown' hgrow _; have HOWN := hid hown'; have HGR := hid hgrow; clear hown' hgrow))
      obtain ⟨va', vc', rfl, hvc'⟩ := own_slice' HOWN.out
      have HO9 : Hid (w9.ownsRow B 3 1 (.slice va' (H.length + 1) vc') (H ++ [xx.height]).length (nvals (H ++ [xx.height]))) := by
       have h := HOWN.out
       rw [nvals_append, List.length_append]; exact h
      have HB9 : Hid (Below B w2 w9) := below_grown1 HB4.out HO4.out _ hB4 HGR.out
      have hHl : (H ++ [xx.height]).length ≤ i + 1 := by rw [List.length_append]; simp only [List.length_cons, List.length_nil]; omega
      go_roundw
      case rel => first | exact ⟨i + 1, _, by omega, hHl, by go_num, HO9, HB9, HN, HZ1⟩ | ((repeat apply Exists.intro); exact ⟨⟨i + 1, _, by omega, hHl, by go_num, HO9, HB9, HN, HZ1⟩, rfl⟩)
      case measure => simp [intOf]; omega
     ·have HN : Hid (Sw.fitsK G L [] = Sw.fitsK G (L.drop (i + 1)) H) := HE1.out.trans (fitsK_one hlk hk h3)
      have c3 : (kd == 3) = false := by simp [h3]
      have HK := hid hk; have H3 := hid h3
      clear hk h3 hlk HE1
      go_wp2_with fail
      go_roundw
      case rel => first | exact ⟨i + 1, _, by omega, by omega, by go_num, HO4, HB4, HN, HZ⟩ | ((repeat apply Exists.intro); exact ⟨⟨i + 1, _, by omega, by omega, by go_num, HO4, HB4, HN, HZ⟩, rfl⟩)
      case measure => simp [intOf]; omega
    ·have HF : Hid (Sw.fits G x = 22) := HFE.out 22 H (HE1.out.trans (fitsK_kind hlk hk)) (by decide)
     have q1 : (xx.kind != kd) = true := by simp [hk]
     have q2 : (xx.kind == kd) = false := by simp [hk]
     clear hk hlk HE1
     go_wp2_with fail
     go_ret
     rw [HF.out]
     exact ⟨rfl, by rw [HG.out]; exact HBF.out⟩
   ·have HF : Hid (Sw.fits G x = er) := HFE.out er H (HE1.out.trans (fitsK_err hlk he)) he
    have q1 : (er != 0) = true := by simp [he]
    have q2 : (er == 0) = false := by simp [he]
    clear he hlk HE1
    go_wp2_with fail
    go_ret
    rw [HF.out]
    exact ⟨rfl, by rw [HG.out]; exact HBF.out⟩
  ·obtain rfl : i = n := by omega
   have ci : ¬ (i : Int) < i := by omega
   have HF : Hid (Sw.fits G x = if x.kind = 3 ∧ x.height ≠ heightL H then 41 else 0) := HFO.out H (by rw [HE.out, List.drop_of_length_le (by rw [HLL.out]; exact Nat.le_refl _)]; rfl)
   have HXr : Hid (Blk wr g 98 #[.int .i64 x.kind, .string x.data, .slice ea en ec, .string x.tree, .slice pa pn pc, .int .i64 x.height, .string x.note]) := (HBr.out.block g (by rw [HBe.out]; exact hgB)).trans HX2.out
   have j0 : wr.cell? ⟨g, 0, none⟩ = some (.int .i64 x.kind) := Blk.cell HXr.out 0
   have j5 : wr.cell? ⟨g, 5, none⟩ = some (.int .i64 x.height) := Blk.cell HXr.out 5
   have HNU : Hid (NumsAt wr va H.length H) := own_nums HO.out
   have HHT := hid (fun q => objheight_any va H.length vc H (wr.drewN q) HNU.out (by omega) (fun z hz => by have := HZ.out z hz; omega))
   have HBF : Hid (Below g w wr) := HB2.out.trans (HBr.out.mono (by rw [HBe.out]; omega))
   clear HE HZ
   obtain ⟨ht, hht⟩ : ∃ h, heightL H = h := ⟨_, rfl⟩
   rw [hht] at HHT HF
   clear hht
   go_wp2_with fail
   by_cases h3 : x.kind = 3
   ·have c3 : (x.kind == 3) = true := by simp [h3]
    have c3d : decide (x.kind = 3) = true := by simp [h3]
    by_cases hh : x.height = ht
    ·have HF2 : Hid (Sw.fits G x = 0) := by show _ = _; rw [HF.out, if_neg (fun e => e.2 hh)]
     have d1 : (x.height != ht) = false := by simp [hh]
     have d2 : (x.height == ht) = true := by simp [hh]
     clear hh h3 HF
     go_quiet (first | (go_at_call 56; exact Calls.quiet_of_same ((HHT.out _).mono fun _ _ h => ⟨h.1, h.2.symm⟩)))
     go_wp2_with fail
     go_ret
     rw [HF2.out]
     exact ⟨rfl, by rw [HG.out]; exact below_drewN HBF.out _⟩
    ·have HF2 : Hid (Sw.fits G x = 41) := by show _ = _; rw [HF.out, if_pos ⟨h3, hh⟩]
     have d1 : (x.height != ht) = true := by simp [hh]
     have d2 : (x.height == ht) = false := by simp [hh]
     clear hh h3 HF
     go_quiet (first | (go_at_call 56; exact Calls.quiet_of_same ((HHT.out _).mono fun _ _ h => ⟨h.1, h.2.symm⟩)))
     go_wp2_with fail
     go_ret
     rw [HF2.out]
     exact ⟨rfl, by rw [HG.out]; exact below_drewN HBF.out _⟩
   ·have HF2 : Hid (Sw.fits G x = 0) := by show _ = _; rw [HF.out, if_neg (fun e => h3 e.1)]
    have c3 : (x.kind == 3) = false := by simp [h3]
    have c3d : decide (x.kind = 3) = false := by simp [h3]
    clear h3 HF
    go_quiet (fail)
    go_wp2_with fail
    go_ret
    rw [HF2.out]
    exact ⟨rfl, by rw [HG.out]; exact below_drewN HBF.out _⟩
end Go.Proofs.YtmpjdoiogbbcoaaGreatDoor
