/- Texts in a row: ObH, AppC, SnO, SnL, OpenFis, OpenRows, SetP, GoMap. -/
import Derived.Test.YtmpjdoiogbbcoaaGreatDoorMhC
import Derived.Lib.Join
import Derived.Maps.AppendAt
import Derived.Deep.RegionLaw
import Derived.BigRegion
import Derived.Deep.AppendLies
import Derived.Deep.Slices
import Derived.Deep.Fields
import Derived.ChangeSame
import Derived.SizedLaws
import Derived.ChangeSlices
import Derived.WalkKit
import Derived.ProofKit
import Derived.OpenShut
import Derived.ChangeOld
import Derived.DataShut
import Derived.Deep.Matrix
import Derived.Lib.SlicesCompact
import Derived.Lib.RowBridge
import Derived.Maps.OwnSet
import Derived.Maps.RangeWalk
import Derived.StringKeys
/- Objects: written as bytes: Encode. -/
namespace Go.Proofs.YtmpjdoiogbbcoaaGreatDoor
open Go.RowKit Book Pap Ojt
set_option linter.unusedVariables false

def encR (x : Ob) : ByteArray × Int := if good x = true then (bx (encL x), 0) else (⟨#[]⟩, 1)
theorem good_kind {x : Ob} (h : good x = true) : x.kind = 1 ∨ x.kind = 2 ∨ x.kind = 3 := by
 unfold good at h
 split at h
 ·exact .inl ‹_›
 ·split at h
  ·exact .inr (.inl ‹_›)
  ·split at h
   ·exact .inr (.inr ‹_›)
   ·cases h
theorem good_blob {x : Ob} (h : good x = true) (hk : x.kind = 1) : x.data.size ≤ 65536 := by
 unfold good at h; rw [if_pos hk] at h; exact of_decide_eq_true h
theorem goodEnt_facts {e : Ent} (h : goodEnt e = true) : goodL e.name.data.toList = true ∧ e.name.size ≤ 255 ∧ (e.kind = 1 ∨ e.kind = 2) ∧ e.id.size = 32 := by
 unfold goodEnt at h
 simp only [Bool.and_eq_true, Bool.or_eq_true, decide_eq_true_eq] at h
 refine ⟨h.1.1, ?_, h.1.2, h.2⟩
 have := h.1.1
 unfold goodL at this
 rw [decide_eq_true_eq] at this
 have h2 := this.2.1
 have : e.name.data.toList.length = e.name.size := Array.length_toList
 omega
theorem good_tree {x : Ob} (h : good x = true) (hk : x.kind = 2) : x.ents.length ≤ 256 ∧ ∀ e ∈ x.ents, goodEnt e = true := by
 unfold good at h
 rw [if_neg (by omega), if_pos hk] at h
 unfold Ojt.goodTree at h
 simp only [Bool.and_eq_true, decide_eq_true_eq] at h
 exact ⟨h.2.1, fun e he => List.all_eq_true.1 h.1 e he⟩
theorem good_commit {x : Ob} (h : good x = true) (hk : x.kind = 3) : x.pars.length ≤ 8 ∧ (∀ p ∈ x.pars, p.size = 32) ∧ 0 ≤ x.height ∧ x.height ≤ 1073741824 ∧ x.tree.size = 32 ∧ x.note.size ≤ 1000 := by
 unfold good at h
 rw [if_neg (by omega), if_neg (by omega), if_pos hk] at h
 unfold Ojt.goodCommit goodPars at h
 simp only [Bool.and_eq_true, decide_eq_true_eq] at h
 exact ⟨h.1.1.1, fun p hp => by have := List.all_eq_true.1 h.1.1.2.2 p hp; simpa using this, h.1.2.1, h.1.2.2.1, h.2.1, h.2.2⟩
theorem bx_data (s : ByteArray) : s.data.toList.length = s.size := Array.length_toList
theorem textL_lenE (x : List UInt8) : (textL x).length = 4 + x.length := by unfold textL; simp [numL]; omega
theorem entL_len {e : Ent} (h : goodEnt e = true) : (entL e).length ≤ 292 := by
 obtain ⟨-, h1, -, h2⟩ := goodEnt_facts h
 have h3 := textL_lenE e.name.data.toList
 have h4 := bx_data e.name
 have h5 := bx_data e.id
 unfold entL
 simp only [List.cons_append, List.length_cons, List.length_append]
 omega
/-- the bytes of a tree up to an entry -/
def preT (l : List Ent) (k : Nat) : List UInt8 := 2 :: numL l.length ++ (l.take k).flatMap entL
theorem preT_len (l : List Ent) (hl : ∀ e ∈ l, goodEnt e = true) : ∀ k, k ≤ 256 → (preT l k).length ≤ 80000 := by
 have key : ∀ m : List Ent, (∀ e ∈ m, goodEnt e = true) → (m.flatMap entL).length ≤ 292 * m.length := by
  intro m
  induction m with
  | nil => intro _; simp
  | cons y r ih =>
   intro h
   have h1 := entL_len (h y (List.mem_cons_self ..))
   have h2 := ih (fun e he => h e (List.mem_cons_of_mem _ he))
   rw [List.flatMap_cons, List.length_append, List.length_cons]; omega
 intro k hk
 have h1 := key (l.take k) (fun e he => hl e (List.mem_of_mem_take he))
 have h2 : (l.take k).length ≤ k := by rw [List.length_take]; omega
 have h3 : (numL l.length).length = 4 := rfl
 unfold preT
 rw [List.length_append, List.length_cons, h3]
 omega
theorem join_empty : ∀ (xs : List (List UInt8)), Lib.join xs [] = xs.flatten
 | [] => rfl
 | x :: r => by
  rw [Lib.join_cons]
  unfold Lib.joinTail
  simp
theorem lem_flat (l : List ByteArray) : (l.map (·.data.toList)).flatten = l.flatMap (fun p => p.data.toList) := by rw [List.flatMap_def]
theorem joinP_any (a : Option Addr) (n c : Nat) (l : List ByteArray) (w : World) (hS : StrsAt w a n l) (hc : n ≤ c) (hn : n ≤ 1000000) (hb : (l.flatMap (fun p => p.data.toList)).length ≤ 140737488355328) :
  Calls Tryz.prog 125 #[.slice a n c, .string ⟨#[]⟩] w fun e w' => e = .returned (.string (bx (l.flatMap (fun p => p.data.toList)))) ∧ Below w.heap.size w w' := by
 obtain ⟨h1, h2, h3⟩ := hS
 rcases Nat.eq_zero_or_pos n with rfl | hp
 ·have : l = [] := List.length_eq_zero_iff.1 h1
  subst this
  refine (Tryz.strings_Join_none a c ⟨#[]⟩ w).mono ?_
  rintro e w' ⟨rfl, hw⟩
  exact ⟨rfl, hw ▸ Below.refl _ _⟩
 ·obtain ⟨b, off, rfl, hcell⟩ := h3.resolve_left (by omega)
  have hj := Tryz.strings_Join b off c l ⟨#[]⟩ w (fun j x hx => by
   obtain ⟨hj, he⟩ := List.getElem?_eq_some_iff.1 hx
   rw [hcell j (by omega), List.getD_eq_getElem?_getD, hx]; rfl) (World.block_lt_of_cell? w _ (hcell 0 (by omega))) (by omega) (by omega) (by
    show (Lib.join (l.map (·.data.toList)) []).length ≤ _
    rw [join_empty, lem_flat]; exact hb)
  have e1 : Lib.join (l.map (·.data.toList)) (⟨#[]⟩ : ByteArray).data.toList = l.flatMap (fun p => p.data.toList) := by
   show Lib.join (l.map (·.data.toList)) [] = _
   rw [join_empty, lem_flat]
  rw [e1, h1] at hj
  exact hj
theorem bis_later {B b : Nat} {bs : List Value} {w w' : World} (h : BIs B b bs w) (hb : Below w.heap.size w w') : BIs B b bs w' := by
 have key : ∀ {p : Value}, BAt B b p bs w → BAt B b p bs w' := by
  rintro p ⟨hB, v, hbk, hown, hne⟩
  have hlt : b < w.heap.size := (Array.getElem?_eq_some_iff.1 hbk).1
  exact ⟨hB, v, (hb.block b hlt).trans hbk, own_below hown hb, hne⟩
 rcases h with h | h
 ·exact .inl (key h)
 ·exact .inr (key h)
theorem bis_new (w : World) : BIs w.heap.size w.heap.size (bvals []) (w.alloc (.cells #[.pointer none, .slice none 0 0] 242)) :=
 .inl ⟨Nat.le_refl _, .slice none 0 0, heap_alloc_new w _, World.ownsRow_nil _ _ _ _, by simp [Value.ownBlock]⟩
set_option maxRecDepth 100000 in
set_option maxHeartbeats 8000000 in
theorem encode_any (x : Ob) (ev pv : Value) (w : World) (h : ObAt w ev pv x) (hn : ObN x) (hcp : ∀ a n c, pv = .slice a n c → n ≤ c) : Calls Tryz.prog 105 #[.agg (obCs x ev pv)] w fun e w' => e = .returned (.tuple #[.string (encR x).1, .int .i64 (encR x).2]) ∧ Below w.heap.size w w' := by
 have h0 := h
 obtain ⟨ea, en, ec, pa, pn, pc, rfl, he, rfl, hp⟩ := h
 have hpc : pn ≤ pc := hcp _ _ _ rfl
 have hX1 : Blk (w.alloc (.cells (obCs x (.slice ea en ec) (.slice pa pn pc)) 98)) w.heap.size 98 (obCs x (.slice ea en ec) (.slice pa pn pc)) := Blk.new w _ _
 have hB1 : Below w.heap.size w (w.alloc (.cells (obCs x (.slice ea en ec) (.slice pa pn pc)) 98)) := (Below.refl _ _).alloc (Nat.le_refl _) _
 have hO1 : ObAt (w.alloc (.cells (obCs x (.slice ea en ec) (.slice pa pn pc)) 98)) (.slice ea en ec) (.slice pa pn pc) x := h0.later hB1
 unfold obCs at hX1 hB1 hO1 ⊢
 have HX1 := hid hX1; have HB1 := hid hB1; have HO1 := hid hO1; have HON := hid hn
 clear h0 he hp hcp hX1 hB1 hO1 hn
 go_enter Tryz.func105, Tryz.ntmps105
 go_upto_region 1 with fail
 obtain ⟨g, hg⟩ : ∃ g, w.heap.size = g := ⟨_, rfl⟩
 have HG := hid hg
 rw [hg] at HX1 HB1 ⊢
 clear hg
 generalize (w.alloc (.cells #[.int .i64 x.kind, .string x.data, .slice ea en ec, .string x.tree, .slice pa pn pc, .int .i64 x.height, .string x.note] 98)) = w1 at HX1 HB1 HO1 ⊢
 have k0 : w1.cell? ⟨g, 0, none⟩ = some (.int .i64 x.kind) := Blk.cell HX1.out 0
 have k1 : w1.cell? ⟨g, 1, none⟩ = some (.string x.data) := Blk.cell HX1.out 1
 have k2 : w1.cell? ⟨g, 2, none⟩ = some (.slice ea en ec) := Blk.cell HX1.out 2
 have k3 : w1.cell? ⟨g, 3, none⟩ = some (.string x.tree) := Blk.cell HX1.out 3
 have k4 : w1.cell? ⟨g, 4, none⟩ = some (.slice pa pn pc) := Blk.cell HX1.out 4
 have k5 : w1.cell? ⟨g, 5, none⟩ = some (.int .i64 x.height) := Blk.cell HX1.out 5
 have k6 : w1.cell? ⟨g, 6, none⟩ = some (.string x.note) := Blk.cell HX1.out 6
 have HGD := hid (obgood_any x _ _ w1 HO1.out HON.out)
 go_wp2_with fail
 refine HGD.out.mono ?_; rintro e w2 ⟨rfl, hb⟩
 have HX2 : Hid (Blk w2 g 98 #[.int .i64 x.kind, .string x.data, .slice ea en ec, .string x.tree, .slice pa pn pc, .int .i64 x.height, .string x.note]) := (hb.block g (Blk.lt HX1.out)).trans HX1.out
 have HO2 : Hid (ObAt w2 (.slice ea en ec) (.slice pa pn pc) x) := HO1.out.later hb
 have HB2 : Hid (Below g w w2) := HB1.out.trans (hb.mono (Nat.le_of_lt (Blk.lt HX1.out)))
 clear k0 k1 k2 k3 k4 k5 k6 hb HX1 HB1 HO1 HGD
 cases hgx : good x
 ·have HE : Hid (encR x = (⟨#[]⟩, 1)) := by
   show _ = _
   unfold encR; rw [if_neg (by rw [hgx]; simp)]
  go_wp2_with fail
  go_ret2
  exact ⟨by rw [HE.out]; rfl, by rw [HG.out]; exact HB2.out⟩
 ·have HE : Hid (encR x = (bx (encL x), 0)) := by
   show _ = _
   unfold encR; rw [if_pos hgx]
  have HGX := hid hgx
  go_upto_region 4 with fail
  obtain ⟨B, hB⟩ : ∃ B, w2.heap.size = B := ⟨_, rfl⟩
  have hgB : g < B := by rw [← hB]; exact Blk.lt HX2.out
  have B3 : Hid (BIs B B (bvals []) (w2.alloc (.cells #[.pointer none, .slice none 0 0] 242))) := by
   have := bis_new w2; rw [hB] at this; exact this
  have L3 : Hid (Below B w2 (w2.alloc (.cells #[.pointer none, .slice none 0 0] 242))) := (Below.refl _ _).alloc (Nat.le_of_eq hB.symm) _
  have HBB := hid hB
  rw [hB]
  clear hB hgx
  generalize (w2.alloc (.cells #[.pointer none, .slice none 0 0] 242)) = w3 at B3 L3 ⊢
  have HBG : Hid (∀ W, Below B w2 W → Blk W g 98 #[.int .i64 x.kind, .string x.data, .slice ea en ec, .string x.tree, .slice pa pn pc, .int .i64 x.height, .string x.note]) := fun W hW => (hW.block g hgB).trans HX2.out
  have HBS : Hid (∀ W, Below B w2 W → B ≤ W.heap.size) := fun W hW => by have := hW.size; rw [HBB.out] at this; exact this
  have HFB : Hid (∀ W, Below B w2 W → Below g w W) := fun W hW => HB2.out.trans (hW.mono (Nat.le_of_lt hgB))
  have HOB : Hid (∀ W, Below B w2 W → ObAt W (.slice ea en ec) (.slice pa pn pc) x) := fun W hW => HO2.out.later (by rw [HBB.out]; exact hW)
  have hB3 := HBS.out w3 L3.out
  clear HX2 HB2 HO2
  rcases good_kind HGX.out with hk | hk | hk
  ·have HEL : Hid (encL x = 1 :: x.data.data.toList) := by show _ = _; unfold encL; rw [if_pos hk]
   have hds := good_blob HGX.out hk
   rw [hk] at HBG
   have HB' := hid HBG.out
   have k0 : w3.cell? ⟨g, 0, none⟩ = some (.int .i64 1) := Blk.cell (HB'.out w3 L3.out) 0
   clear HBG hk
   go_wp2_with fail
   refine (writeByte_keep B B [] 1 w3 B3.out (by simp) hB3 1 rfl).mono ?_; rintro e w4 ⟨rfl, hb4, hl4, -⟩
   have L4 := hid (L3.out.trans hl4)
   have B4 := hid hb4
   have hB4 := HBS.out w4 L4.out
   clear k0 hb4 hl4
   have k0 : w4.cell? ⟨g, 0, none⟩ = some (.int .i64 1) := Blk.cell (HB'.out w4 L4.out) 0
   have k1 : w4.cell? ⟨g, 1, none⟩ = some (.string x.data) := Blk.cell (HB'.out w4 L4.out) 1
   go_wp2_with fail
   refine (writeString_keep B B [1] x.data w4 B4.out (by simp; omega) hB4).mono ?_; rintro e w5 ⟨rfl, hb5, hl5, -⟩
   have L5 := hid (L4.out.trans hl5)
   have hB5 := HBS.out w5 L5.out
   have HST := hid (Tryz.Builder_String_any B B ([1] ++ x.data.data.toList) w5 hb5 hB5)
   clear k0 k1 hb5 hl5
   go_wp2_with fail
   refine HST.out.mono ?_; rintro e w6 ⟨rfl, hb6⟩
   have L6 := hid (HFB.out w6 (L5.out.trans hb6))
   clear hb6
   go_wp2_with fail
   go_ret2
   exact ⟨by rw [HE.out, HEL.out]; rfl, by rw [HG.out]; exact L6.out⟩
  ·have HEL : Hid (encL x = preT x.ents x.ents.length) := by show _ = _; unfold encL preT; rw [if_neg (by omega), if_pos hk, List.take_length]
   obtain ⟨hel, hge⟩ := good_tree HGX.out hk
   have HGE := hid hge
   have HPL := hid (preT_len x.ents hge)
   rw [hk] at HBG
   have HB' := hid HBG.out
   have k0 : w3.cell? ⟨g, 0, none⟩ = some (.int .i64 2) := Blk.cell (HB'.out w3 L3.out) 0
   clear HBG hk hge
   go_wp2_with fail
   refine (writeByte_keep B B [] 2 w3 B3.out (by simp) hB3 2 rfl).mono ?_; rintro e w4 ⟨rfl, hb4, hl4, -⟩
   have L4 := hid (L3.out.trans hl4)
   have B4 := hid hb4
   have hB4 := HBS.out w4 L4.out
   clear k0 hb4 hl4
   have k0 : w4.cell? ⟨g, 0, none⟩ = some (.int .i64 2) := Blk.cell (HB'.out w4 L4.out) 0
   have k2 : w4.cell? ⟨g, 2, none⟩ = some (.slice ea en ec) := Blk.cell (HB'.out w4 L4.out) 2
   have hel2 : x.ents.length = en := by
    obtain ⟨_, _, _, _, _, _, e1, he, -⟩ := HOB.out w4 L4.out
    injection e1 with e2 e3 e4
    rw [e3]; exact he.1
   have hen : en ≤ 256 := by omega
   have ew : IntKind.u32.wrap (en : Int) = en := by rw [IntKind.wrap_u32]; omega
   rw [hel2] at HEL
   have HLE := hid hel2
   clear hel2 hel
   go_wp2_with fail
   refine (onumw_any en (by omega) w4).mono ?_; rintro e w5 ⟨rfl, hb5⟩
   have L5 := hid (L4.out.trans (hb5.mono hB4))
   have B5 := hid (bis_later B4.out hb5)
   have hB5 := HBS.out w5 L5.out
   have hs4 : (bx (numL en)).size = 4 := by rw [bx_size]; rfl
   have hb44 : (bx (numL en)).data.toList = numL en := bx_list _
   obtain ⟨y, hy⟩ : ∃ y, bx (numL en) = y := ⟨_, rfl⟩
   rw [hy] at hs4 hb44 ⊢
   have HN4 := hid hb44
   clear hb44 hy hb5 k0 k2
   go_wp2_with fail
   refine (writeString_keep B B [2] y w5 B5.out (by simp; omega) hB5).mono ?_; rintro e w6 ⟨rfl, hb6, hl6, -⟩
   have L6 := hid (L5.out.trans hl6)
   have B6 : Hid (BIs B B (bvals (preT x.ents 0)) w6) := by
    rw [HN4.out] at hb6
    show BIs _ _ _ _
    unfold preT
    rw [HLE.out, List.take_zero, List.flatMap_nil, List.append_nil]
    exact hb6
   have hB6 := HBS.out w6 L6.out
   clear hb6 hl6
   have k2 : w6.cell? ⟨g, 2, none⟩ = some (.slice ea en ec) := Blk.cell (HB'.out w6 L6.out) 2
   go_wp2_with fail
   go_loopw [32] (fun iv wr => ∃ i : Nat, i ≤ en ∧ iv = .int .i64 i ∧ Hid (BIs B B (bvals (preT x.ents i)) wr) ∧ Hid (Below B w2 wr)) (fun iv _ => en - (intOf iv).toNat)
   case atStart => exact ⟨0, Nat.zero_le _, rfl, B6, L6⟩
   case round =>
    obtain ⟨i, hi, rfl, BX, LX⟩ := hrel
    clear B6 L6 k2
    have hBr := HBS.out wr LX.out
    have hpl := HPL.out i (by omega)
    by_cases hlt : i < en
    ·have ci : (i : Int) < en := by omega
     have ci0 : (0 : Int) ≤ (i : Int) := by omega
     obtain ⟨_, _, _, _, _, _, e1, heW, -⟩ := HOB.out wr LX.out
     injection e1 with e2 e3 e4
     subst e2 e3 e4
     obtain ⟨-, -, h3⟩ := heW
     obtain ⟨eb, eoff, rfl, hcell⟩ := h3.resolve_left (by omega)
     obtain ⟨q0, q1, q2⟩ := hcell i hlt
     have hMem : x.ents.getD i ⟨ByteArray.empty, 0, ByteArray.empty⟩ ∈ x.ents := by
      have hl : i < x.ents.length := by rw [HLE.out]; exact hlt
      rw [List.getD_eq_getElem?_getD, List.getElem?_eq_getElem hl]; exact List.getElem_mem hl
     have HT : Hid (x.ents.take (i + 1) = x.ents.take i ++ [x.ents.getD i ⟨ByteArray.empty, 0, ByteArray.empty⟩]) := by
      show _ = _
      have hl : i < x.ents.length := by rw [HLE.out]; exact hlt
      rw [List.take_succ_eq_append_getElem hl, List.getD_eq_getElem?_getD, List.getElem?_eq_getElem hl]; rfl
     have hgood := HGE.out _ hMem
     obtain ⟨z, hz⟩ : ∃ z, x.ents.getD i ⟨ByteArray.empty, 0, ByteArray.empty⟩ = z := ⟨_, rfl⟩
     rw [hz] at q0 q1 q2 HT hgood
     obtain ⟨nm, kd, id⟩ := z
     obtain ⟨-, f1, f2, f3⟩ := goodEnt_facts hgood
     simp only at q0 q1 q2 f1 f2 f3
     have HPS : Hid (preT x.ents (i + 1) = preT x.ents i ++ (UInt8.ofNat kd.toNat :: textL nm.data.toList ++ id.data.toList)) := by
      show _ = _
      unfold preT
      rw [HT.out, List.flatMap_append, List.append_assoc]
      simp [entL]
     clear hz hMem HT hcell h3 hgood
     go_upto_region 13 with fail
     have HEX : Hid (Blk (wr.alloc (.cells #[.string nm, .int .i64 kd, .string id] 76)) wr.heap.size 76 #[.string nm, .int .i64 kd, .string id]) := Blk.new wr _ _
     have BX1 : Hid (BIs B B (bvals (preT x.ents i)) (wr.alloc (.cells #[.string nm, .int .i64 kd, .string id] 76))) := bis_later BX.out ((Below.refl _ _).alloc (Nat.le_refl _) _)
     have LX1 : Hid (Below B w2 (wr.alloc (.cells #[.string nm, .int .i64 kd, .string id] 76))) := LX.out.alloc hBr _
     clear q0 q1 q2 BX LX
     generalize (wr.alloc (.cells #[.string nm, .int .i64 kd, .string id] 76)) = v1 at HEX BX1 LX1 ⊢
     generalize wr.heap.size = t1 at HEX ⊢
     have hBv := HBS.out v1 LX1.out
     have k1 : v1.cell? ⟨t1, 1, none⟩ = some (.int .i64 kd) := Blk.cell HEX.out 1
     obtain ⟨kb, hkb, hkw⟩ : ∃ kb : UInt8, UInt8.ofNat kd.toNat = kb ∧ IntKind.u8.wrap kd = (kb.toNat : Int) := by
      rcases f2 with rfl | rfl
      ·exact ⟨1, rfl, rfl⟩
      ·exact ⟨2, rfl, rfl⟩
     rw [hkb] at HPS
     clear hkb
     go_wp2_with fail
     refine (writeByte_keep B B (preT x.ents i) kb v1 BX1.out (by omega) hBv _ rfl).mono ?_; rintro e v2 ⟨rfl, hb2, hl2, hkp⟩
     have HEX2 : Hid (Blk v2 t1 76 #[.string nm, .int .i64 kd, .string id]) := hkp t1 _ _ (by decide) (by decide) HEX.out
     have LX2 := hid (LX1.out.trans hl2)
     have BX2 := hid hb2
     have hBv2 := HBS.out v2 LX2.out
     clear k1 hkw hb2 hl2 hkp HEX BX1 LX1
     have EN : ∀ z : After v2, z.val.cell? ⟨t1, 0, none⟩ = some (.string nm) := fun z => Blk.cell ((z.below.block t1 (Blk.lt HEX2.out)).trans HEX2.out) 0
     have EI : ∀ z : After v2, z.val.cell? ⟨t1, 2, none⟩ = some (.string id) := fun z => Blk.cell ((z.below.block t1 (Blk.lt HEX2.out)).trans HEX2.out) 2
     have hts : (bx (textL nm.data.toList)).size ≤ 259 := by rw [bx_size, textL_lenE, bx_data]; omega
     have htl : (bx (textL nm.data.toList)).data.toList = textL nm.data.toList := bx_list _
     have CT : ∀ z : After v2, Calls Tryz.prog 168 #[.string nm] z.val fun e w' => e = .returned (.string (bx (textL nm.data.toList))) ∧ Below z.val.heap.size z.val w' := fun z => otextw_any nm (by omega) z.val
     obtain ⟨tt, htt⟩ : ∃ tt, bx (textL nm.data.toList) = tt := ⟨_, rfl⟩
     rw [htt] at hts htl CT
     have HTL := hid htl
     have CTH := hid CT
     clear htt htl CT
     have hcat : ¬ 9223372036854775807 < tt.size + id.size := by omega
     go_wp2_with fail
     refine wp_region_tail_after 6 (by kernel_rfl) (by kernel_rfl) ?_
     simp only [List.take_succ_cons, List.take_zero, List.drop_succ_cons, List.drop_zero]
     repeat (go_big_quiet_step ((go_at_call 168; exact calls_after (CTH.out _))))
     refine wpQuiet_nil ?_
     intro _ hw'
     obtain ⟨z, rfl⟩ := hw'
     have HZB := hid z.below
     have LX3 : Hid (Below B w2 z.val) := LX2.out.trans (z.below.mono hBv2)
     have BX3 : Hid (BIs B B (bvals (preT x.ents i ++ [kb])) z.val) := bis_later BX2.out z.below
     have hBv3 := HBS.out z.val LX3.out
     clear EN EI
     generalize z.val = v3 at LX3 BX3 hBv3 HZB ⊢
     have hsz2 : (tt ++ id).size = tt.size + id.size := by simp
     have hdl : (tt ++ id).data.toList = textL nm.data.toList ++ id.data.toList := by
      rw [← HTL.out]; simp
     have HDL := hid hdl
     clear hdl
     go_wp2_with fail
     refine (writeString_keep B B (preT x.ents i ++ [kb]) (tt ++ id) v3 BX3.out (by rw [hsz2, List.length_append]; simp only [List.length_cons, List.length_nil]; omega) hBv3).mono ?_; rintro e v4 ⟨rfl, hb4, hl4, -⟩
     have LX4 := hid (LX3.out.trans hl4)
     have BX4 : Hid (BIs B B (bvals (preT x.ents (i + 1))) v4) := by
      show BIs _ _ _ _
      rw [HPS.out]
      rw [HDL.out] at hb4
      simpa [List.append_assoc] using hb4
     clear hb4 hl4 LX2 LX3 BX2 BX3
     go_wp2_with fail
     go_roundw
     case rel => first | exact ⟨i + 1, by omega, by go_num, BX4, LX4⟩ | ((repeat apply Exists.intro); exact ⟨⟨i + 1, by omega, by go_num, BX4, LX4⟩, rfl⟩)
     case measure => simp [intOf]; omega
    ·obtain rfl : i = en := by omega
     have HST := hid (Tryz.Builder_String_any B B (preT x.ents i) wr BX.out hBr)
     go_wp2_with fail
     refine HST.out.mono ?_; rintro e w7 ⟨rfl, hb7⟩
     have L7 := hid (HFB.out w7 (LX.out.trans hb7))
     clear hb7
     go_wp2_with fail
     go_ret2
     exact ⟨by rw [HE.out, HEL.out]; rfl, by rw [HG.out]; exact L7.out⟩
  ·obtain ⟨hpl, hp32, hh0, hh1, ht32, hnt⟩ := good_commit HGX.out hk
   obtain ⟨hN, hhN⟩ : ∃ n : Nat, x.height = (n : Int) := ⟨x.height.toNat, by omega⟩
   have hel2 : x.pars.length = pn := by
    obtain ⟨_, _, _, _, _, _, -, -, e1, hp⟩ := HOB.out w3 L3.out
    injection e1 with e2 e3 e4
    rw [e3]; exact hp.1
   have HEL : Hid (encL x = [3] ++ (x.tree.data.toList ++ numL pn ++ x.pars.flatMap (fun p => p.data.toList)) ++ (numL hN ++ textL x.note.data.toList)) := by
    show _ = _
    unfold encL
    rw [if_neg (by omega), if_neg (by omega), hel2, hhN, Int.toNat_natCast]
    simp [List.append_assoc]
   have hfl : (x.pars.flatMap (fun p => p.data.toList)).length ≤ 32 * x.pars.length := by
    have key : ∀ l : List ByteArray, (∀ p ∈ l, p.size = 32) → (l.flatMap (fun p => p.data.toList)).length = 32 * l.length := by
     intro l
     induction l with
     | nil => intro _; rfl
     | cons y r ih =>
      intro h
      rw [List.flatMap_cons, List.length_append, ih (fun q hq => h q (List.mem_cons_of_mem _ hq)), bx_data, h y (List.mem_cons_self ..), List.length_cons]; omega
    rw [key _ hp32]; omega
   have HPP : Hid (∀ W, Below B w2 W → StrsAt W pa pn x.pars) := fun W hW => by
    obtain ⟨_, _, _, _, _, _, -, -, e1, hp⟩ := HOB.out W hW
    injection e1 with e2 e3 e4
    rw [e2, e3]; exact hp
   have hpn : pn ≤ 8 := by omega
   have hN32 : hN ≤ 1073741824 := by omega
   rw [hk, hhN] at HBG
   have HB' := hid HBG.out
   have k0 : w3.cell? ⟨g, 0, none⟩ = some (.int .i64 3) := Blk.cell (HB'.out w3 L3.out) 0
   clear HBG hk hh0 hh1 hhN hp32
   go_wp2_with fail
   refine (writeByte_keep B B [] 3 w3 B3.out (by simp) hB3 3 rfl).mono ?_; rintro e w4 ⟨rfl, hb4, hl4, -⟩
   have L4 := hid (L3.out.trans hl4)
   have B4 := hid hb4
   have hB4 := HBS.out w4 L4.out
   clear k0 hb4 hl4
   have k0 : w4.cell? ⟨g, 0, none⟩ = some (.int .i64 3) := Blk.cell (HB'.out w4 L4.out) 0
   go_upto_region 17 with fail
   clear k0
   have HZ4 : Hid (∀ z : After w4, Below B w2 z.val) := fun z => L4.out.trans (z.below.mono hB4)
   have K3 : ∀ z : After w4, z.val.cell? ⟨g, 3, none⟩ = some (.string x.tree) := fun z => Blk.cell (HB'.out z.val (HZ4.out z)) 3
   have K4 : ∀ z : After w4, z.val.cell? ⟨g, 4, none⟩ = some (.slice pa pn pc) := fun z => Blk.cell (HB'.out z.val (HZ4.out z)) 4
   have hw32 : IntKind.u32.wrap (pn : Int) = pn := by rw [IntKind.wrap_u32]; omega
   have CN : ∀ z : After w4, Calls Tryz.prog 167 #[.int .u32 pn] z.val fun e w' => e = .returned (.string (bx (numL pn))) ∧ Below z.val.heap.size z.val w' := fun z => onumw_any pn (by omega) z.val
   have CJ : ∀ z : After w4, Calls Tryz.prog 125 #[.slice pa pn pc, .string ⟨#[]⟩] z.val fun e w' => e = .returned (.string (bx (x.pars.flatMap (fun p => p.data.toList)))) ∧ Below z.val.heap.size z.val w' := fun z => joinP_any pa pn pc x.pars z.val (HPP.out z.val (HZ4.out z)) hpc (by omega) (by omega)
   have hy1 : (bx (numL pn)).size = 4 := by rw [bx_size]; rfl
   have hy1l : (bx (numL pn)).data.toList = numL pn := bx_list _
   have hy2 : (bx (x.pars.flatMap (fun p => p.data.toList))).size ≤ 1000 := by rw [bx_size]; omega
   have hy2l : (bx (x.pars.flatMap (fun p => p.data.toList))).data.toList = x.pars.flatMap (fun p => p.data.toList) := bx_list _
   obtain ⟨y1, hq1⟩ : ∃ y, bx (numL pn) = y := ⟨_, rfl⟩
   obtain ⟨y2, hq2⟩ : ∃ y, bx (x.pars.flatMap (fun p => p.data.toList)) = y := ⟨_, rfl⟩
   rw [hq1] at CN hy1 hy1l
   rw [hq2] at CJ hy2 hy2l
   have HY1 := hid hy1l; have HY2 := hid hy2l; have CNH := hid CN; have CJH := hid CJ
   clear hq1 hq2 hy1l hy2l CN CJ hfl hel2 hpl
   have c1 : ¬ 9223372036854775807 < x.tree.size + y1.size := by omega
   have hs1 : (x.tree ++ y1).size = x.tree.size + y1.size := by simp
   have c2 : ¬ 9223372036854775807 < (x.tree ++ y1).size + y2.size := by omega
   have c3 : ¬ 9223372036854775807 < x.tree.size + y1.size + y2.size := by omega
   refine wp_region_tail_after 12 (by kernel_rfl) (by kernel_rfl) ?_
   simp only [List.take_succ_cons, List.take_zero, List.drop_succ_cons, List.drop_zero]
   repeat (go_big_quiet_step (first
    | (go_at_call 167; exact calls_after (CNH.out _))
    | (go_at_call 125; exact calls_after (CJH.out _))))
   refine wpQuiet_nil ?_
   intro _ hw'
   obtain ⟨z, rfl⟩ := hw'
   have L5 := hid (HZ4.out z)
   have B5 : Hid (BIs B B (bvals [3]) z.val) := bis_later B4.out z.below
   have hB5 := HBS.out z.val L5.out
   clear K3 K4 c1 c2 c3
   generalize z.val = v5 at L5 B5 hB5 ⊢
   have hs2 : (x.tree ++ y1 ++ y2).size ≤ 2000 := by simp; omega
   have hdl : (x.tree ++ y1 ++ y2).data.toList = x.tree.data.toList ++ numL pn ++ x.pars.flatMap (fun p => p.data.toList) := by
    rw [← HY1.out, ← HY2.out]; simp
   have HDL := hid hdl
   clear hdl hs1
   go_wp2_with fail
   refine (writeString_keep B B [3] (x.tree ++ y1 ++ y2) v5 B5.out (by simp only [List.length_cons, List.length_nil]; omega) hB5).mono ?_; rintro e w6 ⟨rfl, hb6, hl6, -⟩
   have L6 := hid (L5.out.trans hl6)
   have B6 := hid hb6
   have hB6 := HBS.out w6 L6.out
   clear hb6 hl6 L5 B5 HZ4 CNH CJH
   go_upto_region 18 with fail
   have HZ6 : Hid (∀ z : After w6, Below B w2 z.val) := fun z => L6.out.trans (z.below.mono hB6)
   have K5 : ∀ z : After w6, z.val.cell? ⟨g, 5, none⟩ = some (.int .i64 hN) := fun z => Blk.cell (HB'.out z.val (HZ6.out z)) 5
   have K6 : ∀ z : After w6, z.val.cell? ⟨g, 6, none⟩ = some (.string x.note) := fun z => Blk.cell (HB'.out z.val (HZ6.out z)) 6
   have hwN : IntKind.u32.wrap (hN : Int) = hN := by rw [IntKind.wrap_u32]; omega
   have CN : ∀ z : After w6, Calls Tryz.prog 167 #[.int .u32 hN] z.val fun e w' => e = .returned (.string (bx (numL hN))) ∧ Below z.val.heap.size z.val w' := fun z => onumw_any hN (by omega) z.val
   have CT : ∀ z : After w6, Calls Tryz.prog 168 #[.string x.note] z.val fun e w' => e = .returned (.string (bx (textL x.note.data.toList))) ∧ Below z.val.heap.size z.val w' := fun z => otextw_any x.note (by omega) z.val
   have hy3 : (bx (numL hN)).size = 4 := by rw [bx_size]; rfl
   have hy3l : (bx (numL hN)).data.toList = numL hN := bx_list _
   have hy4 : (bx (textL x.note.data.toList)).size ≤ 1004 := by rw [bx_size, textL_lenE, bx_data]; omega
   have hy4l : (bx (textL x.note.data.toList)).data.toList = textL x.note.data.toList := bx_list _
   obtain ⟨y3, hq3⟩ : ∃ y, bx (numL hN) = y := ⟨_, rfl⟩
   obtain ⟨y4, hq4⟩ : ∃ y, bx (textL x.note.data.toList) = y := ⟨_, rfl⟩
   rw [hq3] at CN hy3 hy3l
   rw [hq4] at CT hy4 hy4l
   have HY3 := hid hy3l; have HY4 := hid hy4l; have CNH := hid CN; have CTH := hid CT
   clear hq3 hq4 hy3l hy4l CN CT
   have c1 : ¬ 9223372036854775807 < y3.size + y4.size := by omega
   refine wp_region_tail_after 8 (by kernel_rfl) (by kernel_rfl) ?_
   simp only [List.take_succ_cons, List.take_zero, List.drop_succ_cons, List.drop_zero]
   repeat (go_big_quiet_step (first
    | (go_at_call 167; exact calls_after (CNH.out _))
    | (go_at_call 168; exact calls_after (CTH.out _))))
   refine wpQuiet_nil ?_
   intro _ hw'
   obtain ⟨z', rfl⟩ := hw'
   have L7 := hid (HZ6.out z')
   have B7 : Hid (BIs B B (bvals ([3] ++ (x.tree ++ y1 ++ y2).data.toList)) z'.val) := bis_later B6.out z'.below
   have hB7 := HBS.out z'.val L7.out
   clear K5 K6 c1
   generalize z'.val = v7 at L7 B7 hB7 ⊢
   have hs3 : (y3 ++ y4).size ≤ 2000 := by simp; omega
   have hdl : (y3 ++ y4).data.toList = numL hN ++ textL x.note.data.toList := by
    rw [← HY3.out, ← HY4.out]; simp
   have HDL2 := hid hdl
   clear hdl
   have hl7 : ([3] ++ (x.tree ++ y1 ++ y2).data.toList : List UInt8).length ≤ 3000 := by
    have := bx_data (x.tree ++ y1 ++ y2)
    rw [List.length_append]; simp only [List.length_cons, List.length_nil]; omega
   go_wp2_with fail
   refine (writeString_keep B B _ (y3 ++ y4) v7 B7.out (by omega) hB7).mono ?_; rintro e w8 ⟨rfl, hb8, hl8, -⟩
   have L8 := hid (L7.out.trans hl8)
   have hB8 := HBS.out w8 L8.out
   rw [HDL.out, HDL2.out, ← HEL.out] at hb8
   have HST := hid (Tryz.Builder_String_any B B (encL x) w8 hb8 hB8)
   clear hb8 hl8
   go_wp2_with fail
   refine HST.out.mono ?_; rintro e w9 ⟨rfl, hb9⟩
   have L9 := hid (HFB.out w9 (L8.out.trans hb9))
   clear hb9
   go_wp2_with fail
   go_ret2
   exact ⟨by rw [HE.out]; rfl, by rw [HG.out]; exact L9.out⟩
end Go.Proofs.YtmpjdoiogbbcoaaGreatDoor
/- append of one text to a slice of texts that came in, whose room is full: it lies anew. -/
namespace Go.Proofs.YtmpjdoiogbbcoaaGreatDoor
open Go.RowKit
set_option linter.unusedVariables false

theorem run_append_came (w : World) (a : Option Addr) (n : Nat) (l : List ByteArray) (hS : StrsAt w a n l) (hn : n ≤ 1000) (ad : Addr) (c1 : Nat) (s : ByteArray) (hc : ∀ j u, [Value.string s][j]? = some u → w.cell? (ad.add j) = some u) (ty : TypeId) :
  ∃ c' w', (Builtin.append_ #[40, 40] ty #[.slice a n n, .slice (some ad) 1 c1]).run Tryz.prog w = .ok (.slice (some ⟨w.heap.size, 0, none⟩) (n + 1) c') w' ∧ n + 1 ≤ c' ∧ c' ≤ maxLen ∧ w'.ownsRow w.heap.size 9 1 (.slice (some ⟨w.heap.size, 0, none⟩) (n + 1) c') (n + 1) (svals (l ++ [s])) ∧ Below w.heap.size w w' := by
 obtain ⟨i, hi, hz, hz1, hz2⟩ := info_parts Tryz.infoS
 obtain ⟨h1, h2, h3⟩ := hS
 have hml : n + 1 ≤ maxLen := by unfold maxLen; omega
 have hsl : (svals l).length = n := by unfold svals; rw [List.length_map, h1]
 have hge := grownCap_ge w (n + 1) n 9
 have hcm := grownCap_le_maxLen w (n + 1) n 9 hml
 have fin : ∀ (C : Nat), n + 1 ≤ C → C ≤ maxLen → (w.drew.alloc (.cells ((svals l).toArray ++ [Value.string s].toArray ++ Builtin.zeroCells (Value.string ⟨#[]⟩).cells (C - (n + 1))) 9)).ownsRow w.heap.size 9 1 (.slice (some ⟨w.heap.size, 0, none⟩) (n + 1) C) (n + 1) (svals (l ++ [s])) ∧ Below w.heap.size w (w.drew.alloc (.cells ((svals l).toArray ++ [Value.string s].toArray ++ Builtin.zeroCells (Value.string ⟨#[]⟩).cells (C - (n + 1))) 9)) := by
  intro C hC hCm
  have hlen : (svals (l ++ [s])).length = (n + 1) * 1 := by rw [svals_append, List.length_append, hsl]; simp [svals]
  refine ⟨⟨hlen, .inr ⟨w.heap.size, _, _, rfl, Nat.le_refl _, heap_alloc_new w.drew _, hC, hCm, ?_, ?_⟩⟩, ((Below.refl _ _).drew).alloc (Nat.le_refl _) _⟩
  ·have hzs : (Value.string ⟨#[]⟩).cells.size = 1 := rfl
   simp only [Array.size_append, List.size_toArray, size_zeroCells, hsl, hzs, List.length_cons, List.length_nil]
   omega
  ·rw [svals_append]
   simp only [Array.toList_append, List.append_assoc]
   rw [← List.append_assoc]
   have : (svals l ++ svals [s]).length = (n + 1) * 1 := by rw [List.length_append, hsl]; simp [svals]
   rw [← this]
   exact List.take_left
 cases a with
 | none =>
  have hn0 : n = 0 := by
   rcases h3 with h | ⟨b, off, hab, _⟩
   ·exact h
   ·cases hab
  subst hn0
  have hl : l = [] := List.length_eq_zero_iff.1 h1
  subst hl
  have hr := run_append_nil (P := Tryz.prog) w 40 ty 9 i (.string ⟨#[]⟩) Tryz.underlying40 hi hz ad 1 c1 [.string s] (by rw [hz1]; rfl) hc (by omega) (by omega) (by rw [hz2]; omega)
  obtain ⟨f1, f2⟩ := fin (grownCap w 1 0 9) hge hcm
  rw [show (svals []).toArray ++ [Value.string s].toArray = [Value.string s].toArray by simp [svals]] at f1 f2
  exact ⟨_, _, hr, hge, hcm, f1, f2⟩
 | some base =>
  have holds : ∀ j v, (svals l)[j]? = some v → w.cell? (base.add j) = some v := by
   intro j v hj
   have hjl : j < n := by have := (List.getElem?_eq_some_iff.1 hj).1; rw [hsl] at this; exact this
   obtain ⟨b, off, hab, hcell⟩ := h3.resolve_left (by omega)
   cases hab
   rw [Addr.add_lit, hcell j hjl]
   unfold svals at hj
   rw [List.getElem?_map] at hj
   have hjl2 : j < l.length := by omega
   rw [List.getElem?_eq_getElem hjl2] at hj
   rw [List.getD_eq_getElem?_getD, List.getElem?_eq_getElem hjl2]
   exact hj
  have hr := run_append_grow (P := Tryz.prog) w 40 ty 9 i (.string ⟨#[]⟩) Tryz.underlying40 hi hz base n n (svals l) (by rw [hsl, hz1]; omega) holds ad 1 c1 [.string s] (by rw [hz1]; rfl) hc (by omega) (by omega) (growslice_fits (by omega) (by rw [hz2]; omega))
  obtain ⟨f1, f2⟩ := fin (grownCap w (n + 1) n 9) hge hcm
  exact ⟨_, _, hr, hge, hcm, f1, f2⟩
theorem step_append_came {ops : Array Oper} {o : Oper} {act : Act} {w : World} {K : Act → World → Prop} {Q : Exit → Act → World → Prop} {E : Prop} (hgd : o.guard = none) (sx x : Operand)
  (ho : o.op = .call { callee := .builtin .append, args := #[sx, x], argTypes := #[40, 40] }) (a : Option Addr) (n : Nat) (l : List ByteArray) (hs : act.eval sx = .slice a n n) (hS : StrsAt w a n l) (hn : n ≤ 1000)
  (ad : Addr) (c1 : Nat) (s : ByteArray) (hx : act.eval x = .slice (some ad) 1 c1) (hc : ∀ j u, [Value.string s][j]? = some u → w.cell? (ad.add j) = some u)
  (hK : ∀ c' w', n + 1 ≤ c' → c' ≤ maxLen → w'.ownsRow w.heap.size 9 1 (.slice (some ⟨w.heap.size, 0, none⟩) (n + 1) c') (n + 1) (svals (l ++ [s])) → Below w.heap.size w w' → K (act.put o.dst (.slice (some ⟨w.heap.size, 0, none⟩) (n + 1) c')) w') :
  if Region.wanted o (yielded ops act.tmps) = true then Oper.wp Tryz.prog o act w K Q else E := by
 have hw : Region.wanted o (yielded ops act.tmps) = true := by simp [Region.wanted, hgd]
 rw [if_pos hw]
 obtain ⟨c', w', hr, h2, h3, h4, h5⟩ := run_append_came w a n l hS hn ad c1 s hc o.type
 unfold Oper.wp execOp
 simp only [ho, resolve, invoke, builtin, Sem.run_bind, Sem.run_pure, Result.andThen_ok, List.map_toArray, List.map_cons, List.map_nil, hs, hx, hr]
 exact hK c' w' h2 h3 h4 h5
end Go.Proofs.YtmpjdoiogbbcoaaGreatDoor
/- Going over a commit's trees: over. -/
namespace Go.Proofs.YtmpjdoiogbbcoaaGreatDoor
open Go.RowKit Book Pap Ojt Sn
set_option linter.unusedVariables false
set_option linter.unusedSimpArgs false

def wkCs (t : TypeId) (rv : Value) (met : Nat) (v : Value) : Array Value := #[.iface t rv, .int .i64 met, v]
/-- a going over in memory -/
def WkAt (B : Nat) (w : World) (b : Nat) (t : TypeId) (rv : Value) (v : Value) (s : Wk) : Prop :=
 Blk w b 150 (wkCs t rv s.met v) ∧ w.ownsRow B 76 3 v s.blobs.length (evals s.blobs) ∧ B ≤ b ∧ s.met ≤ 4097 ∧ s.blobs.length ≤ s.met
def WF (b : Nat) (v : Value) : Nat → Prop := fun k => k = b ∨ v.ownBlock = some k
theorem EntsAt.only {F : Nat → Prop} {w w' : World} {a : Option Addr} {n c : Nat} {l : List Ent} (h : EntsAt w a n l) (ho : Only F w w') (hf : ∀ k, (Value.slice a n c).ownBlock = some k → k < w.heap.size → ¬ F k) : EntsAt w' a n l := by
 obtain ⟨b1, b2, b3⟩ := h
 refine ⟨b1, b2, b3.imp id ?_⟩
 rintro ⟨b, off, rfl, hc⟩
 refine ⟨b, off, rfl, fun j hj => ?_⟩
 obtain ⟨c0, c1, c2⟩ := hc j hj
 have hl := World.block_lt_of_cell? w _ c0
 have hk := ho.block b hl (hf b rfl hl)
 exact ⟨(World.cell?_of_block (a := ⟨b, _, none⟩) hk).trans c0, (World.cell?_of_block (a := ⟨b, _, none⟩) hk).trans c1, (World.cell?_of_block (a := ⟨b, _, none⟩) hk).trans c2⟩
theorem StrsAt.only {F : Nat → Prop} {w w' : World} {a : Option Addr} {n c : Nat} {l : List ByteArray} (h : StrsAt w a n l) (ho : Only F w w') (hf : ∀ k, (Value.slice a n c).ownBlock = some k → k < w.heap.size → ¬ F k) : StrsAt w' a n l :=
 StrsAt.kept (c := c) h (fun b hb hl => ho.block b hl (hf b hb hl))
theorem look_good {G : Sw.Src} {id : ByteArray} {k lacks : Int} {x : Ob} (h : lookK G id k lacks = (x, 0)) (hl : lacks ≠ 0) : good x = true ∧ x.kind = k := by
 unfold lookK at h
 split at h
 ·cases h; exact absurd rfl hl
 ·split at h
  ·cases h
  ·rename_i y hy
   split at h
   ·cases h
   ·rename_i hk
    cases h
    exact ⟨dec_good hy, by simpa using hk⟩
theorem overS_err {G : Sw.Src} {d : Nat} {id : ByteArray} {above : List ByteArray} {s : Wk} {x : Ob} {er : Int} (h : lookK G id 2 21 = (x, er)) (he : er ≠ 0) : overS G (d + 1) id above s = (s, er) := by
 show (if (lookK G id 2 21).2 ≠ 0 then (s, (lookK G id 2 21).2) else _) = _
 rw [h, if_pos he]
theorem overS_ok {G : Sw.Src} {d : Nat} {id : ByteArray} {above : List ByteArray} {s : Wk} {x : Ob} (h : lookK G id 2 21 = (x, 0)) : overS G (d + 1) id above s = overE (overS G d) above x.ents s := by
 show (if (lookK G id 2 21).2 ≠ 0 then (s, (lookK G id 2 21).2) else overE (overS G d) above (lookK G id 2 21).1.ents s) = _
 rw [h]; rfl
theorem overE_many {rec : ByteArray → List ByteArray → Wk → Wk × Int} {above : List ByteArray} {y : Ent} {r : List Ent} {s : Wk} (h : 4096 < s.met + 1) : overE rec above (y :: r) s = ({ s with met := s.met + 1 }, 6) := by
 show (if 4096 < s.met + 1 then _ else _) = _; rw [if_pos h]
theorem overE_deep {rec : ByteArray → List ByteArray → Wk → Wk × Int} {above : List ByteArray} {y : Ent} {r : List Ent} {s : Wk} (h : ¬ 4096 < s.met + 1) (h2 : 64 < above.length + 1) : overE rec above (y :: r) s = ({ s with met := s.met + 1 }, 33) := by
 show (if 4096 < s.met + 1 then _ else if 64 < above.length + 1 then _ else _) = _; rw [if_neg h, if_pos h2]
theorem overE_dir {rec : ByteArray → List ByteArray → Wk → Wk × Int} {above : List ByteArray} {y : Ent} {r : List Ent} {s : Wk} (h : ¬ 4096 < s.met + 1) (h2 : ¬ 64 < above.length + 1) (h3 : y.kind = 2) {r1 : Wk} {er : Int} (hr : rec y.id (above ++ [y.name]) { s with met := s.met + 1 } = (r1, er)) :
  overE rec above (y :: r) s = if er ≠ 0 then (r1, er) else overE rec above r r1 := by
 show (if 4096 < s.met + 1 then _ else if 64 < above.length + 1 then _ else if y.kind = 2 then (if (rec y.id (above ++ [y.name]) { s with met := s.met + 1 }).2 ≠ 0 then rec y.id (above ++ [y.name]) { s with met := s.met + 1 } else overE rec above r (rec y.id (above ++ [y.name]) { s with met := s.met + 1 }).1) else _) = _
 rw [if_neg h, if_neg h2, if_pos h3, hr]
theorem overE_leaf {rec : ByteArray → List ByteArray → Wk → Wk × Int} {above : List ByteArray} {y : Ent} {r : List Ent} {s : Wk} (h : ¬ 4096 < s.met + 1) (h2 : ¬ 64 < above.length + 1) (h3 : ¬ y.kind = 2) :
  overE rec above (y :: r) s = overE rec above r ⟨s.met + 1, s.blobs ++ [⟨pathOf (above ++ [y.name]), y.kind, y.id⟩]⟩ := by
 show (if 4096 < s.met + 1 then _ else if 64 < above.length + 1 then _ else if y.kind = 2 then _ else _) = _
 rw [if_neg h, if_neg h2, if_neg h3]
theorem joinS_any (b n c : Nat) (l : List ByteArray) (w : World) (hS : StrsAt w (some ⟨b, 0, none⟩) n l) (hn : 1 ≤ n) (hn2 : n ≤ 100) (hc : n ≤ c) (hz : ∀ x ∈ l, x.size ≤ 255) :
  Calls Tryz.prog 125 #[.slice (some ⟨b, 0, none⟩) n c, .string ⟨#[47]⟩] w fun e w' => e = .returned (.string (pathOf l)) ∧ Below w.heap.size w w' := by
 obtain ⟨h1, h2, h3⟩ := hS
 obtain ⟨b', off, hab, hcell⟩ := h3.resolve_left (by omega)
 cases hab
 have h := Tryz.strings_Join b 0 c l ⟨#[47]⟩ w (fun j x hx => by
  obtain ⟨hj, he⟩ := List.getElem?_eq_some_iff.1 hx
  rw [hcell j (by omega), List.getD_eq_getElem?_getD, hx]; rfl) (World.block_lt_of_cell? w _ (hcell 0 (by omega))) (by omega) (by omega) (by
  show (Lib.join (ls l) [47]).length ≤ _
  rw [join_eq]
  have := joinL_len (ls l) 255 (fun x hx => by
   unfold ls at hx
   obtain ⟨y, hy, rfl⟩ := List.mem_map.1 hx
   have := hz y hy
   have e : y.data.toList.length = y.size := Array.length_toList
   omega)
  rw [ls_length] at this; omega)
 rw [h1] at h
 have e1 : (Lib.join (l.map (·.data.toList)) (⟨#[47]⟩ : ByteArray).data.toList) = joinL (l.map fun s => s.data.toList) := join_eq (ls l)
 rw [e1] at h
 exact h
/-- what over hands back -/
def OverOut (B : Nat) (w : World) (b : Nat) (t : TypeId) (rv v : Value) (r : Wk × Int) (e : Ending) (w' : World) : Prop :=
 ∃ v', e = .returned (.int .i64 r.2) ∧ WkAt B w' b t rv v' r.1 ∧ Only (WF b v) w w' ∧ (∀ k, v'.ownBlock = some k → v.ownBlock = some k ∨ w.heap.size ≤ k) ∧ (r.2 = 0 → r.1.met ≤ 4096)
/-- a going over in memory, behind the names of an entry -/
def NmAt (B : Nat) (wc : World) (b : Nat) (t : TypeId) (rv vi : Value) (si : Wk) (v : Value) (w2 : World) (e0 n c' : Nat) (names : List ByteArray) (y : Ent) : Prop :=
 n + 1 ≤ c' ∧ c' ≤ maxLen ∧ StrsAt wc (some ⟨e0 + 2, 0, none⟩) (n + 1) names ∧ Blk wc b 150 (wkCs t rv (si.met + 1) vi) ∧ Blk wc e0 76 #[.string y.name, .int .i64 y.kind, .string y.id] ∧ wc.ownsRow B 76 3 vi si.blobs.length (evals si.blobs) ∧ Only (WF b v) w2 wc ∧ e0 + 2 ≤ wc.heap.size
set_option maxRecDepth 100000 in
set_option maxHeartbeats 16000000 in
theorem over_any (t : TypeId) (rv : Value) (G : Sw.Src) (hz : SrcSz G) (w0 : World) (hs : SrcAt w0 t rv G) : ∀ (d : Nat) (id : ByteArray) (above : List ByteArray) (a : Option Addr) (n c b : Nat) (v : Value) (s : Wk) (w : World),
  StrsAt w a n above → n ≤ c → c ≤ maxLen → n ≤ 64 → 66 ≤ d + n → Below w0.heap.size w0 w → WkAt w0.heap.size w b t rv v s → s.met ≤ 4096 → (∀ x ∈ above, x.size ≤ 255) →
  (∀ k, (Value.slice a n c).ownBlock = some k → k < w.heap.size → ¬ WF b v k) →
  Calls Tryz.prog 73 #[.pointer (some ⟨b, 0, none⟩), .string id, .slice a n c] w (OverOut w0.heap.size w b t rv v (overS G d id above s)) := by
 intro d
 induction d with
 | zero => intro id above a n c b v s w _ _ _ hn hd; omega
 | succ d ih =>
  intro id above a n c b v s w hA hnc hcm hn hd hB0 hW hmet hsz hsep
  have IH := hid ih
  clear ih
  obtain ⟨B, hB⟩ : ∃ B, w0.heap.size = B := ⟨_, rfl⟩
  have HSW := hid (hs.later hB0)
  have hBw : B ≤ w.heap.size := by rw [← hB]; exact hB0.size
  have HB0 := hid hB0
  have HA := hid hA
  have HSEP := hid hsep
  have HSZ := hid hsz
  rw [hB] at hW
  have HB := hid hB
  rw [hB]
  obtain ⟨hW1, hW2, hW3, hW4, hW5⟩ := hW
  have hbl := Blk.lt hW1
  have HW1 := hid hW1; have HW2 := hid hW2
  have hvl : ∀ k, v.ownBlock = some k → B ≤ k ∧ k < w.heap.size := fun k hk => hW2.lt k hk
  have HVL := hid hvl
  have k0 : w.cell? ⟨b, 0, none⟩ = some (.iface t rv) := Blk.cell hW1 0
  have HLKS := hid (look_any t rv G id 2 21 w HSW.out hz)
  clear hA hsep hsz hB hW1 hW2 hvl hB0 hs
  go_enter Tryz.func73, Tryz.ntmps73
  obtain ⟨x, er, hlk⟩ : ∃ x er, lookK G id 2 21 = (x, er) := ⟨_, _, rfl⟩
  rw [hlk] at HLKS
  go_wp2_with fail
  refine HLKS.out.mono ?_; rintro e w1 ⟨ev, pv, rfl, hO1, hb1, hf1⟩
  simp only at hO1 ⊢
  have HO1 := hid hO1
  obtain ⟨ea, en, ec, pa, pn, pc, rfl, -, rfl, -⟩ := hO1
  have HX2 : Hid (Blk (w1.alloc (.cells (obCs x (.slice ea en ec) (.slice pa pn pc)) 98)) w1.heap.size 98 (obCs x (.slice ea en ec) (.slice pa pn pc))) := Blk.new w1 _ _
  have HL2 : Hid (Below w.heap.size w (w1.alloc (.cells (obCs x (.slice ea en ec) (.slice pa pn pc)) 98))) := hb1.alloc hb1.size _
  have HO2 : Hid (ObAt (w1.alloc (.cells (obCs x (.slice ea en ec) (.slice pa pn pc)) 98)) (.slice ea en ec) (.slice pa pn pc) x) := HO1.out.later ((Below.refl _ _).alloc (Nat.le_refl _) _)
  have HF1 : Hid (∀ k, (Value.slice ea en ec).ownBlock = some k → w.heap.size ≤ k) := fun k hk => hf1 k (.inl hk)
  unfold obCs at HX2 HL2 HO2
  simp only [obCs]
  clear hb1 hf1 HO1 HLKS k0
  go_upto_region 2 with fail
  generalize (w1.alloc (.cells #[.int .i64 x.kind, .string x.data, .slice ea en ec, .string x.tree, .slice pa pn pc, .int .i64 x.height, .string x.note] 98)) = w2 at HX2 HL2 HO2 ⊢
  generalize w1.heap.size = g2 at HX2 ⊢
  have hsz2 : w.heap.size ≤ w2.heap.size := HL2.out.size
  have HWK2 : Hid (Blk w2 b 150 (wkCs t rv s.met v)) := (HL2.out.block b hbl).trans HW1.out
  have HOW2 : Hid (w2.ownsRow B 76 3 v s.blobs.length (evals s.blobs)) := own_below HW2.out HL2.out
  by_cases he : er = 0
  ·subst he
   obtain ⟨hgd, hkd⟩ := look_good hlk (by decide)
   obtain ⟨hel, hge⟩ := good_tree hgd hkd
   have HGE := hid hge
   have HOS := hid (overS_ok (d := d) (above := above) (s := s) hlk)
   have hen : x.ents.length = en := by
    obtain ⟨_, _, _, _, _, _, e1, he, -⟩ := HO2.out
    injection e1 with e2 e3 e4
    rw [e3]; exact he.1
   have HEN := hid hen
   have hen2 : en ≤ 256 := by omega
   have HEA : Hid (EntsAt w2 ea en x.ents) := by
    obtain ⟨_, _, _, _, _, _, e1, he, -⟩ := HO2.out
    injection e1 with e2 e3 e4
    rw [e2, e3]; exact he
   have k2 : w2.cell? ⟨g2, 2, none⟩ = some (.slice ea en ec) := Blk.cell HX2.out 2
   clear hlk hgd hkd hge hel hen HX2 HO2
   go_wp2_with fail
   go_loopw [28] (fun iv wr => ∃ (i : Nat) (vi : Value) (si : Wk), i ≤ en ∧ iv = .int .i64 i ∧ Hid (Blk wr b 150 (wkCs t rv si.met vi)) ∧ Hid (wr.ownsRow B 76 3 vi si.blobs.length (evals si.blobs)) ∧ Hid (si.met ≤ 4096 ∧ si.blobs.length ≤ si.met) ∧ Hid (Only (WF b v) w2 wr) ∧ Hid (∀ k, vi.ownBlock = some k → v.ownBlock = some k ∨ w2.heap.size ≤ k) ∧ Hid (overE (overS G d) above x.ents s = overE (overS G d) above (x.ents.drop i) si)) (fun iv _ => en - (intOf iv).toNat)
   case atStart => exact ⟨0, v, s, Nat.zero_le _, rfl, HWK2, HOW2, ⟨hmet, hW5⟩, Only.refl _ _, fun k hk => .inl hk, rfl⟩
   case round =>
    obtain ⟨i, vi, si, hi, rfl, HK, HOW, HM, HO, HV, HE⟩ := hrel
    have hszr : w2.heap.size ≤ wr.heap.size := HO.out.size
    by_cases hlt : i < en
    ·have ci : (i : Int) < en := by omega
     have ci0 : (0 : Int) ≤ (i : Int) := by omega
     have heA : EntsAt wr ea en x.ents := EntsAt.only (c := ec) HEA.out HO.out (fun k hk hl hf => by
      have h1 := HF1.out k hk
      rcases hf with hf | hf
      ·omega
      ·have := (HVL.out k hf).2; omega)
     obtain ⟨-, -, h3⟩ := heA
     obtain ⟨eb, eoff, rfl, hcell⟩ := h3.resolve_left (by omega)
     obtain ⟨q0, q1, q2⟩ := hcell i hlt
     have hil : i < x.ents.length := by rw [HEN.out]; exact hlt
     have hMem : x.ents.getD i ⟨ByteArray.empty, 0, ByteArray.empty⟩ ∈ x.ents := by
      rw [List.getD_eq_getElem?_getD, List.getElem?_eq_getElem hil]; exact List.getElem_mem hil
     have HT : Hid (x.ents.drop i = x.ents.getD i ⟨ByteArray.empty, 0, ByteArray.empty⟩ :: x.ents.drop (i + 1)) := by
      show _ = _
      rw [List.drop_eq_getElem_cons hil, List.getD_eq_getElem?_getD, List.getElem?_eq_getElem hil]; rfl
     have hgood := HGE.out _ hMem
     obtain ⟨z, hzz⟩ : ∃ z, x.ents.getD i ⟨ByteArray.empty, 0, ByteArray.empty⟩ = z := ⟨_, rfl⟩
     rw [hzz] at q0 q1 q2 HT hgood
     obtain ⟨nm, kd, yd⟩ := z
     obtain ⟨-, f1, f2, f3⟩ := goodEnt_facts hgood
     simp only at q0 q1 q2 f1 f2 f3
     have HE1 : Hid (overE (overS G d) above x.ents s = overE (overS G d) above (⟨nm, kd, yd⟩ :: x.ents.drop (i + 1)) si) := by
      show _ = _
      rw [HE.out, HT.out]
     clear hzz hMem HT hcell h3 hgood HE
     obtain ⟨hm1, hm2⟩ := HM.out
     go_upto_region 7 with fail
     have HXa : Hid (Blk (wr.alloc (.cells #[.string nm, .int .i64 kd, .string yd] 76)) wr.heap.size 76 #[.string nm, .int .i64 kd, .string yd]) := Blk.new wr _ _
     have HKa : Hid (Blk (wr.alloc (.cells #[.string nm, .int .i64 kd, .string yd] 76)) b 150 (wkCs t rv si.met vi)) := HK.out.alloc _
     have HOWa : Hid ((wr.alloc (.cells #[.string nm, .int .i64 kd, .string yd] 76)).ownsRow B 76 3 vi si.blobs.length (evals si.blobs)) := HOW.out.alloc _
     have HOa : Hid (Only (WF b v) w2 (wr.alloc (.cells #[.string nm, .int .i64 kd, .string yd] 76))) := HO.out.alloc _
     have hza : (wr.alloc (.cells #[.string nm, .int .i64 kd, .string yd] 76)).heap.size = wr.heap.size + 1 := by simp
     have HVr : Hid (∀ k, vi.ownBlock = some k → k < wr.heap.size) := fun k hk => own_lt HOW.out hk
     clear q0 q1 q2 HK HOW
     generalize (wr.alloc (.cells #[.string nm, .int .i64 kd, .string yd] 76)) = wa at HXa HKa HOWa HOa hza ⊢
     obtain ⟨e0, he0⟩ : ∃ e0, wr.heap.size = e0 := ⟨_, rfl⟩
     rw [he0] at HXa hza HVr ⊢
     have hbe : b < e0 := by omega
     have k1 : wa.cell? ⟨b, 1, none⟩ = some (.int .i64 si.met) := Blk.cell HKa.out 1
     have f1c := Blk.frozen HKa.out 1
     have e1 : ((si.met + 1 : Nat) : Int) = (si.met : Int) + 1 := by omega
     have hEW0 := e1
     have ew : IntKind.i64.wrap ((si.met : Int) + 1) = (si.met : Int) + 1 := by rw [IntKind.wrap_i64]; omega
     have HKb : Hid (Blk (wa.setCell ⟨b, 1, none⟩ (.int .i64 ((si.met : Int) + 1))) b 150 (wkCs t rv (si.met + 1) vi)) := by
      have h := Blk.set HKa.out 1 (.int .i64 ((si.met : Int) + 1))
      show Blk _ _ _ _
      unfold wkCs
      rw [hEW0]
      exact h
     have hob : Only (· = b) wa (wa.setCell ⟨b, 1, none⟩ (.int .i64 ((si.met : Int) + 1))) := (Only.refl (· = b) wa).setCell (p := ⟨b, 1, none⟩) (.inl rfl) _
     have HXb : Hid (Blk (wa.setCell ⟨b, 1, none⟩ (.int .i64 ((si.met : Int) + 1))) e0 76 #[.string nm, .int .i64 kd, .string yd]) := HXa.out.only hob (fun e => by have e : e0 = b := e; omega)
     have HOWb : Hid ((wa.setCell ⟨b, 1, none⟩ (.int .i64 ((si.met : Int) + 1))).ownsRow B 76 3 vi si.blobs.length (evals si.blobs)) := own_only HOWa.out hob (fun k hk e => own_blk_ne HOWa.out HKa.out (by decide) (e ▸ hk))
     have HOb : Hid (Only (WF b v) w2 (wa.setCell ⟨b, 1, none⟩ (.int .i64 ((si.met : Int) + 1)))) := HOa.out.setCell (p := ⟨b, 1, none⟩) (.inl (.inl rfl)) _
     have hzb : (wa.setCell ⟨b, 1, none⟩ (.int .i64 ((si.met : Int) + 1))).heap.size = e0 + 1 := by simp [World.setCell, hza]
     clear hob HXa HKa HOWa HOa e1
     go_upto_region 8 with fail
     clear k1 f1c
     generalize (wa.setCell ⟨b, 1, none⟩ (.int .i64 ((si.met : Int) + 1))) = wb at HKb HXb HOWb HOb hzb ⊢
     have hAb : StrsAt wb a n above := StrsAt.only (c := c) HA.out ((Only.of_below HL2.out _).then HOb.out) HSEP.out
     have HAL := hid hAb.1
     have HAb := hid hAb
     have kE : wb.cell? ⟨e0, 0, none⟩ = some (.string nm) := Blk.cell HXb.out 0
     have gn : ¬ (n : Int) < 0 := by omega
     have gn0 : (0 : Int) ≤ (n : Int) := by omega
     have gnc : (n : Int) ≤ (c : Int) := by omega
     have HZB := hid hzb
     have HEW := hid hEW0
     have HKEY : Hid (∀ c' wc, n + 1 ≤ c' → c' ≤ maxLen → wc.ownsRow (wb.drew.alloc (.cells #[.string nm] 9)).heap.size 9 1 (.slice (some ⟨(wb.drew.alloc (.cells #[.string nm] 9)).heap.size, 0, none⟩) (n + 1) c') (n + 1) (svals (above ++ [nm])) → Below (wb.drew.alloc (.cells #[.string nm] 9)).heap.size (wb.drew.alloc (.cells #[.string nm] 9)) wc →
       NmAt B wc b t rv vi si v w2 e0 n c' (above ++ [nm]) ⟨nm, kd, yd⟩) := fun c' wc hc1 hc2 hoc hbc => by
      have hz : (wb.drew.alloc (.cells #[.string nm] 9)).heap.size = e0 + 2 := by rw [World.size_alloc]; have : wb.drew.heap.size = wb.heap.size := rfl; rw [this, HZB.out]
      have hO : Only (WF b v) w2 wc := ((HOb.out.drew).alloc _).then (Only.of_below hbc _)
      have hll : (above ++ [nm]).length = n + 1 := by rw [List.length_append, HAL.out]; rfl
      rw [hz] at hoc
      obtain ⟨a', c'', e1, hst⟩ := own_strs (l := above ++ [nm]) (by rw [hll]; exact hoc) (by rw [hll]; omega)
      injection e1 with e2 e3 e4
      rw [hll, ← e2] at hst
      exact ⟨hc1, hc2, hst, (hbc.block b (by rw [hz]; omega)).trans (HKb.out.drew.alloc _), (hbc.block e0 (by rw [hz]; omega)).trans (HXb.out.drew.alloc _), own_below (HOWb.out.drew.alloc _) hbc, hO, by have := hbc.size; rw [hz] at this; exact this⟩
     have HGK : Hid (wb.heap.size + 1 = e0 + 2) := by show _ = _; rw [hzb]
     clear hAb hzb
     go_cut [11] (fun s11 wx => ∃ c' : Nat, s11 = .slice (some ⟨e0 + 2, 0, none⟩) (n + 1) c' ∧ Hid (NmAt B wx b t rv vi si v w2 e0 n c' (above ++ [nm]) ⟨nm, kd, yd⟩))
     case first =>
      go_region_law (refine step_append_came rfl (.tmp 44) (.tmp 47) rfl a n above (by simp [Act.eval, Act.put]) (HAb.out.later (((Below.refl _ _).drew).alloc (Nat.le_refl _) _)) (by omega) ⟨wb.heap.size, 0, none⟩ 1 nm (by simp [Act.eval, Act.put]) (cellNew1 _ _ _) ?_; intro c' wc hc1 hc2 hoc hbc; have HNM := hid (HKEY.out c' wc hc1 hc2 hoc hbc); clear hoc hbc hc1 hc2)
      go_wp2_with fail
      rw [HGK.out]
      go_meet
      case rel => exact ⟨_, rfl, HNM⟩
     case rest =>
      obtain ⟨c', rfl, HNM⟩ := hcut
      clear HKEY HAb HKb HXb HOWb HOb kE
      obtain ⟨hc1, hc2, hst, hk1, hk2, hk3, hk4, hk5⟩ := HNM.out
      have HST := hid hst; have HK1 := hid hk1; have HK2 := hid hk2; have HK3 := hid hk3; have HK4 := hid hk4; have HK5 := hid hk5
      clear HNM hst hk1 hk2 hk3 hk4 hk5
      have km : wc.cell? ⟨b, 1, none⟩ = some (.int .i64 ((si.met : Int) + 1)) := (Blk.cell HK1.out 1).trans (by show some (Value.int .i64 ((si.met + 1 : Nat) : Int)) = _; rw [HEW.out])
      have HFINC : Hid (Only (WF b v) w wc) := (Only.of_below HL2.out _).then HK4.out
      by_cases h4 : 4096 < si.met + 1
      ·have c4 : (4096 : Int) < (si.met : Int) + 1 := by omega
       have HFN := hid (HE1.out.trans (overE_many h4))
       go_wp2_with fail
       go_ret
       rw [HOS.out, HFN.out]
       exact ⟨vi, rfl, ⟨HK1.out, HK3.out, hW3, by show si.met + 1 ≤ 4097; omega, by show si.blobs.length ≤ si.met + 1; omega⟩, HFINC.out, fun k hk => (HV.out k hk).imp (fun e => e) (fun e => by omega), fun h0 => by cases h0⟩
      ·have c4 : ¬ (4096 : Int) < (si.met : Int) + 1 := by omega
       by_cases h64 : 64 < n + 1
       ·have c64 : (64 : Int) < (n : Int) + 1 := by omega
        have HFN := hid (HE1.out.trans (overE_deep h4 (by rw [HAL.out]; exact h64)))
        go_wp2_with fail
        go_ret
        rw [HOS.out, HFN.out]
        exact ⟨vi, rfl, ⟨HK1.out, HK3.out, hW3, by show si.met + 1 ≤ 4097; omega, by show si.blobs.length ≤ si.met + 1; omega⟩, HFINC.out, fun k hk => (HV.out k hk).imp (fun e => e) (fun e => by omega), fun h0 => by cases h0⟩
       ·have c64 : ¬ (64 : Int) < (n : Int) + 1 := by omega
        have HSW2 : Hid (∀ x ∈ above ++ [nm], x.size ≤ 255) := by
         intro q hq
         rcases List.mem_append.1 hq with hq | hq
         ·exact HSZ.out q hq
         ·rw [List.mem_singleton.1 hq]; exact f1
        have ke0 : wc.cell? ⟨e0, 0, none⟩ = some (.string nm) := Blk.cell HK2.out 0
        have ke1 : wc.cell? ⟨e0, 1, none⟩ = some (.int .i64 kd) := Blk.cell HK2.out 1
        have ke2 : wc.cell? ⟨e0, 2, none⟩ = some (.string yd) := Blk.cell HK2.out 2
        by_cases hk2 : kd = 2
        ·subst hk2
         obtain ⟨r1, er, hrec⟩ : ∃ r1 er, overS G d yd (above ++ [nm]) { si with met := si.met + 1 } = (r1, er) := ⟨_, _, rfl⟩
         have HFN := hid (HE1.out.trans (overE_dir h4 (by rw [HAL.out]; exact h64) rfl hrec))
         have HCC : Hid (Calls Tryz.prog 73 #[.pointer (some ⟨b, 0, none⟩), .string yd, .slice (some ⟨e0 + 2, 0, none⟩) (n + 1) c'] wc (OverOut B wc b t rv vi (r1, er))) := by
          have := IH.out yd (above ++ [nm]) (some ⟨e0 + 2, 0, none⟩) (n + 1) c' b vi { si with met := si.met + 1 } wc HST.out hc1 hc2 (by omega) (by omega)
           (HB0.out.trans (by
            have h1 : Below w.heap.size w w2 := HL2.out
            have h2 : Below B w2 wc := HK4.out.below (fun k hk => hk.elim (fun e => by omega) (fun e => (HVL.out k e).1)) (by omega)
            rw [HB.out]
            exact (h1.mono hBw).trans h2)) (by rw [HB.out]; exact ⟨HK1.out, HK3.out, hW3, by show si.met + 1 ≤ 4097; omega, by show si.blobs.length ≤ si.met + 1; omega⟩) (by show si.met + 1 ≤ 4096; omega) HSW2.out (fun k hk hl hf => by
            have e : e0 + 2 = k := by simpa [Value.ownBlock] using hk
            rcases hf with hf | hf
            ·omega
            ·have := HVr.out k hf; omega)
          rw [hrec, HB.out] at this
          exact this
         go_wp2_with fail
         refine HCC.out.mono ?_; rintro e wd ⟨v', rfl, ⟨hw1, hw2, hw3, hw4, hw5⟩, ho5, hv5, hm5⟩
         have HFIN : Hid (Only (WF b v) w2 wd) := HK4.out.trans ho5 (fun k hk => by
          rcases hk with hk | hk
          ·exact .inl (.inl hk)
          ·exact (HV.out k hk).imp (fun e => .inr e) (fun e => e))
         have hk5 := HK5.out
         have HV' : Hid (∀ k, v'.ownBlock = some k → v.ownBlock = some k ∨ w2.heap.size ≤ k) := fun k hk => by
          rcases hv5 k hk with h | h
          ·exact HV.out k h
          ·exact .inr (by omega)
         have HM5 := hid hm5
         have HW1' := hid hw1; have HW2' := hid hw2
         clear km ke0 ke1 ke2 ho5 hv5 hm5 hw1 hw2 HCC hrec
         by_cases he : er = 0
         ·subst he
          have HN : Hid (overE (overS G d) above x.ents s = overE (overS G d) above (x.ents.drop (i + 1)) r1) := by
           show _ = _
           rw [HFN.out]; rfl
          have hm6 : r1.met ≤ 4096 := HM5.out rfl
          go_wp2_with fail
          go_roundw
          case rel => first | exact ⟨i + 1, v', r1, by omega, by go_num, HW1', HW2', ⟨hm6, hw5⟩, HFIN, HV', HN⟩ | ((repeat apply Exists.intro); exact ⟨⟨i + 1, v', r1, by omega, by go_num, HW1', HW2', ⟨hm6, hw5⟩, HFIN, HV', HN⟩, rfl⟩)
          case measure => simp [intOf]; omega
         ·have q1 : (er != 0) = true := by simpa using he
          have q2 : (er == 0) = false := by simpa using he
          have HN : Hid (overE (overS G d) above x.ents s = (r1, er)) := by
           show _ = _
           rw [HFN.out, if_pos he]
          go_wp2_with fail
          go_ret
          rw [HOS.out, HN.out]
          exact ⟨v', rfl, ⟨HW1'.out, HW2'.out, hw3, hw4, hw5⟩, (Only.of_below HL2.out _).then HFIN.out, fun k hk => (HV'.out k hk).imp (fun e => e) (fun e => by omega), fun h0 => absurd h0 he⟩
        ·have HFN := hid (HE1.out.trans (overE_leaf h4 (by rw [HAL.out]; exact h64) hk2))
         have q1 : (kd == 2) = false := by rw [beq_eq_false_iff_ne]; exact hk2
         obtain ⟨va, vc, hvi, -⟩ := own_slice' HK3.out
         subst hvi
         have HJN := hid (joinS_any (e0 + 2) (n + 1) c' (above ++ [nm]) wc HST.out (by omega) (by omega) hc1 HSW2.out)
         obtain ⟨pt, hpt⟩ : ∃ p, pathOf (above ++ [nm]) = p := ⟨_, rfl⟩
         rw [hpt] at HJN
         have HPT := hid hpt
         clear hpt
         go_wp2_with fail
         refine HJN.out.mono ?_; rintro e wd ⟨rfl, hbd⟩
         have hk5 := HK5.out
         have HX9 : Hid (Blk wd e0 76 #[.string nm, .int .i64 kd, .string yd]) := (hbd.block e0 (by omega)).trans HK2.out
         have HK9 : Hid (Blk wd b 150 (wkCs t rv (si.met + 1) (.slice va si.blobs.length vc))) := (hbd.block b (by omega)).trans HK1.out
         have HOW9 : Hid (wd.ownsRow B 76 3 (.slice va si.blobs.length vc) si.blobs.length (evals si.blobs)) := own_below HK3.out hbd
         have HO9 : Hid (Only (WF b v) w2 wd) := HK4.out.then (Only.of_below hbd _)
         have hz9 : e0 + 2 ≤ wd.heap.size := Nat.le_trans hk5 hbd.size
         clear km ke0 ke1 ke2 hbd HJN
         have ke0 : wd.cell? ⟨e0, 0, none⟩ = some (.string nm) := Blk.cell HX9.out 0
         have fe0 := Blk.frozen HX9.out 0
         have HXe : Hid (Blk (wd.setCell ⟨e0, 0, none⟩ (.string pt)) e0 76 #[.string pt, .int .i64 kd, .string yd]) := Blk.set HX9.out 0 (.string pt)
         have hoe : Only (· = e0) wd (wd.setCell ⟨e0, 0, none⟩ (.string pt)) := (Only.refl (· = e0) wd).setCell (p := ⟨e0, 0, none⟩) (.inl rfl) _
         have HKe : Hid (Blk (wd.setCell ⟨e0, 0, none⟩ (.string pt)) b 150 (wkCs t rv (si.met + 1) (.slice va si.blobs.length vc))) := HK9.out.only hoe (fun e => by have e : b = e0 := e; omega)
         have HOWe : Hid ((wd.setCell ⟨e0, 0, none⟩ (.string pt)).ownsRow B 76 3 (.slice va si.blobs.length vc) si.blobs.length (evals si.blobs)) := own_only HOW9.out hoe (fun k hk e => by have := HVr.out k hk; have e : k = e0 := e; omega)
         have HOe : Hid (Only (WF b v) w2 (wd.setCell ⟨e0, 0, none⟩ (.string pt))) := HO9.out.setCell (p := ⟨e0, 0, none⟩) (.inr (by show w2.heap.size ≤ e0; omega)) _
         have hze : e0 + 2 ≤ (wd.setCell ⟨e0, 0, none⟩ (.string pt)).heap.size := by simp [World.setCell]; exact hz9
         clear hoe HX9 HK9 HOW9 HO9 hz9
         go_upto_region 10 with fail
         clear ke0 fe0
         generalize (wd.setCell ⟨e0, 0, none⟩ (.string pt)) = we at HXe HKe HOWe HOe hze ⊢
         have hBe : B ≤ we.heap.size := by omega
         have hw2e : w2.heap.size ≤ we.heap.size := HOe.out.size
         have HW2E := hid hw2e
         have HZE := hid hze
         clear hw2e hze
         obtain ⟨i0, hi0, hz0, hz1, hz2⟩ := info_parts Tryz.infoEnt
         have kb2 : we.cell? ⟨b, 2, none⟩ = some (.slice va si.blobs.length vc) := Blk.cell HKe.out 2
         have kb2a : (we.alloc (.cells #[.string pt, .int .i64 kd, .string yd] 76)).cell? ⟨b, 2, none⟩ = some (.slice va si.blobs.length vc) := Blk.cell (HKe.out.alloc _) 2
         have ke0 : we.cell? ⟨e0, 0, none⟩ = some (.string pt) := Blk.cell HXe.out 0
         have ke1 : we.cell? ⟨e0, 1, none⟩ = some (.int .i64 kd) := Blk.cell HXe.out 1
         have ke2 : we.cell? ⟨e0, 2, none⟩ = some (.string yd) := Blk.cell HXe.out 2
         have hbm : si.blobs.length ≤ 4096 := by omega
         have HN : Hid (overE (overS G d) above x.ents s = overE (overS G d) above (x.ents.drop (i + 1)) ⟨si.met + 1, si.blobs ++ [⟨pt, kd, yd⟩]⟩) := by
          show _ = _
          rw [HFN.out]
          show overE (overS G d) above (x.ents.drop (i + 1)) ⟨si.met + 1, si.blobs ++ [⟨pathOf (above ++ [nm]), kd, yd⟩]⟩ = _
          rw [HPT.out]
         have HM' : Hid ((⟨si.met + 1, si.blobs ++ [(⟨pt, kd, yd⟩ : Ent)]⟩ : Wk).met ≤ 4096 ∧ (si.blobs ++ [(⟨pt, kd, yd⟩ : Ent)]).length ≤ si.met + 1) := ⟨by show si.met + 1 ≤ 4096; omega, by rw [List.length_append]; simp only [List.length_cons, List.length_nil]; omega⟩
         go_region_law (refine step_append_lies _ (by rfl) (.tmp 56) (.tmp 58) 83 (by rfl) B 76 i0 (.agg #[.string ⟨#[]⟩, .int .i64 0, .string ⟨#[]⟩]) 3 40 Tryz.underlying83 hi0 hz0 hz1 hz2 rfl (by decide) (.slice va si.blobs.length vc) si.blobs.length (evals si.blobs) (by simp [Act.eval, Act.put]) ((HOWe.out.alloc _).drew) ⟨we.heap.size, 0, none⟩ 1 1 [.string pt, .int .i64 kd, .string yd] (by simp [Act.eval, Act.put]) rfl (cellNew3 _ _ _ _ _) (one3 rfl rfl rfl) (by decide) (by unfold maxLen; omega) (by omega) (by simp; omega) (we.heap.size + 1) (by simp) ?_; intro g1 cap1 wf hown hgrow hat hglt; have HKf := hid ((HKe.out.drew.alloc _).grown hgrow (fun e => own_blk_ne HOWe.out HKe.out (by decide) e.symm)); have kf2 : wf.cell? ⟨b, 2, none⟩ = some (.slice va si.blobs.length vc) := (Blk.cell HKf.out 2).trans rfl; have ff2 := Blk.frozen HKf.out 2; have HOWN := hid hown; have HGR := hid hgrow; have HAT := hid hat; have HFX : Hid (Blk (wf.setCell ⟨b, 2, none⟩ (.slice (some ⟨g1, 0, none⟩) (si.blobs.length + 1) cap1)) b 150 (wkCs t rv (si.met + 1) (.slice (some ⟨g1, 0, none⟩) (si.blobs.length + 1) cap1))) := Blk.set HKf.out 2 _; have HFO : Hid ((wf.setCell ⟨b, 2, none⟩ (.slice (some ⟨g1, 0, none⟩) (si.blobs.length + 1) cap1)).ownsRow B 76 3 (.slice (some ⟨g1, 0, none⟩) (si.blobs.length + 1) cap1) (si.blobs ++ [(⟨pt, kd, yd⟩ : Ent)]).length (evals (si.blobs ++ [⟨pt, kd, yd⟩]))) := (by have h := own_only HOWN.out ((Only.refl (· = b) wf).setCell (p := ⟨b, 2, none⟩) (.inl rfl) (.slice (some ⟨g1, 0, none⟩) (si.blobs.length + 1) cap1)) (fun k hk e => own_blk_ne HOWN.out HKf.out (by decide) (e ▸ hk)); rw [evals_append, List.length_append]; exact h); have HFW : Hid (Only (WF b v) w2 (wf.setCell ⟨b, 2, none⟩ (.slice (some ⟨g1, 0, none⟩) (si.blobs.length + 1) cap1))) := ((HOe.out.drew.alloc _).grown HGR.out (fun k hk => (HV.out k hk).imp (fun e => .inr e) (fun e => e))).setCell (p := ⟨b, 2, none⟩) (.inl (.inl rfl)) _; have HFV : Hid (∀ k, (Value.slice (some ⟨g1, 0, none⟩) (si.blobs.length + 1) cap1).ownBlock = some k → v.ownBlock = some k ∨ w2.heap.size ≤ k) := (fun k hk => by have e : g1 = k := (by simpa [Value.ownBlock] using hk); subst e; exact HAT.out.elim (fun e => HV.out _ e) (fun e => .inr (by rw [e]; exact Nat.le_succ_of_le HW2E.out))); clear hown hgrow hat hglt)
         all_goals (go_wp2_with fail; exact ⟨⟨i + 1, _, ⟨si.met + 1, si.blobs ++ [⟨pt, kd, yd⟩]⟩, by omega, by go_num, HFX, HFO, HM', HFW, HFV, HN⟩, by simp [intOf]; omega⟩)
    ·obtain rfl : i = en := by omega
     have HN : Hid (overE (overS G d) above x.ents s = (si, 0)) := by
      show _ = _
      rw [HE.out, List.drop_of_length_le (by rw [HEN.out]; exact Nat.le_refl _)]; rfl
     obtain ⟨hm1, hm2⟩ := HM.out
     go_wp2_with fail
     go_ret
     rw [HOS.out, HN.out]
     exact ⟨vi, rfl, ⟨HK.out, HOW.out, hW3, by show si.met ≤ 4097; omega, hm2⟩, (Only.of_below HL2.out _).then HO.out, fun k hk => (HV.out k hk).imp (fun e => e) (fun e => by omega), fun _ => hm1⟩
  ·have q1 : (er != 0) = true := by simpa using he
   have q2 : (er == 0) = false := by simpa using he
   have HOS := hid (overS_err (d := d) (above := above) (s := s) hlk he)
   clear he hlk HX2 HO2
   go_wp2_with fail
   go_ret
   rw [HOS.out]
   exact ⟨v, rfl, ⟨HWK2.out, HOW2.out, hW3, hW4, hW5⟩, Only.of_below HL2.out _, fun k hk => .inl hk, fun _ => hmet⟩
end Go.Proofs.YtmpjdoiogbbcoaaGreatDoor
/- A commit's blobs and files: List, Files. -/
namespace Go.Proofs.YtmpjdoiogbbcoaaGreatDoor
open Go.RowKit Book Pap Ojt Sn
set_option linter.unusedVariables false
set_option linter.unusedSimpArgs false

/-- what List hands back -/
def ListOut (w : World) (r : List Ent × Int) (e : Ending) (w' : World) : Prop :=
 ∃ a n c, e = .returned (.tuple #[.slice a n c, .int .i64 r.2]) ∧ EntsAt w' a n r.1 ∧ Below w.heap.size w w' ∧ (∀ k, (Value.slice a n c).ownBlock = some k → w.heap.size ≤ k) ∧ n ≤ 4097
theorem listS_err {G : Sw.Src} {id : ByteArray} {x : Ob} {er : Int} (h : lookK G id 3 12 = (x, er)) (he : er ≠ 0) : listS G id = ([], er) := by
 unfold listS; rw [h, if_pos he]
theorem listS_ok {G : Sw.Src} {id : ByteArray} {x : Ob} (h : lookK G id 3 12 = (x, 0)) {s : Wk} {er : Int} (h2 : overS G 66 x.tree [] ⟨0, []⟩ = (s, er)) : listS G id = if er ≠ 0 then ([], er) else (s.blobs, 0) := by
 unfold listS; rw [h]; simp only [ne_eq, not_true, if_false]; rw [h2]
set_option maxRecDepth 100000 in
set_option maxHeartbeats 8000000 in
theorem list_any (t : TypeId) (rv : Value) (G : Sw.Src) (hz : SrcSz G) (id : ByteArray) (w : World) (hs : SrcAt w t rv G) : Calls Tryz.prog 29 #[.iface t rv, .string id] w (ListOut w (listS G id)) := by
 have HLKS := hid (look_any t rv G id 3 12 w hs hz)
 have HS := hid hs
 clear hs
 go_enter Tryz.func29, Tryz.ntmps29
 obtain ⟨x, er, hlk⟩ : ∃ x er, lookK G id 3 12 = (x, er) := ⟨_, _, rfl⟩
 rw [hlk] at HLKS
 go_wp2_with fail
 refine HLKS.out.mono ?_; rintro e w1 ⟨ev, pv, rfl, hO1, hb1, hf1⟩
 simp only at hO1 ⊢
 obtain ⟨ea, en, ec, pa, pn, pc, rfl, -, rfl, -⟩ := hO1
 have HX2 : Hid (Blk (w1.alloc (.cells (obCs x (.slice ea en ec) (.slice pa pn pc)) 98)) w1.heap.size 98 (obCs x (.slice ea en ec) (.slice pa pn pc))) := Blk.new w1 _ _
 have HL2 : Hid (Below w.heap.size w (w1.alloc (.cells (obCs x (.slice ea en ec) (.slice pa pn pc)) 98))) := hb1.alloc hb1.size _
 unfold obCs at HX2 HL2
 simp only [obCs]
 clear hb1 hf1 HLKS
 go_upto_region 2 with fail
 generalize (w1.alloc (.cells #[.int .i64 x.kind, .string x.data, .slice ea en ec, .string x.tree, .slice pa pn pc, .int .i64 x.height, .string x.note] 98)) = w2 at HX2 HL2 ⊢
 generalize w1.heap.size = g2 at HX2 ⊢
 have hsz2 : w.heap.size ≤ w2.heap.size := HL2.out.size
 by_cases he : er = 0
 ·subst he
  obtain ⟨s, er, hov⟩ : ∃ s er, overS G 66 x.tree [] ⟨0, []⟩ = (s, er) := ⟨_, _, rfl⟩
  have HLS := hid (listS_ok hlk hov)
  have k3 : w2.cell? ⟨g2, 3, none⟩ = some (.string x.tree) := Blk.cell HX2.out 3
  have k3a : (w2.alloc (.cells #[.iface t rv, .int .i64 0, .slice none 0 0] 150)).cell? ⟨g2, 3, none⟩ = some (.string x.tree) := Blk.cell (HX2.out.alloc _) 3
  have HWK : Hid (WkAt w.heap.size (w2.alloc (.cells #[.iface t rv, .int .i64 0, .slice none 0 0] 150)) w2.heap.size t rv (.slice none 0 0) ⟨0, []⟩) :=
   ⟨Blk.new w2 _ _, World.ownsRow_nil _ _ _ _, hsz2, by show 0 ≤ 4097; omega, Nat.le_refl _⟩
  have HL3 : Hid (Below w.heap.size w (w2.alloc (.cells #[.iface t rv, .int .i64 0, .slice none 0 0] 150))) := HL2.out.alloc hsz2 _
  have HCC := hid (over_any t rv G hz w HS.out 66 x.tree [] none 0 0 w2.heap.size (.slice none 0 0) ⟨0, []⟩ _ ⟨rfl, by omega, .inl rfl⟩ (Nat.le_refl _) (by omega) (by omega) (by omega) HL3.out HWK.out (by show 0 ≤ 4096; omega) (fun q hq => by cases hq) (fun k hk => by simp [Value.ownBlock] at hk))
  rw [hov] at HCC
  clear hlk hov HX2 HL2 HWK
  go_wp2_with fail
  refine HCC.out.mono ?_; rintro e w3 ⟨v', rfl, ⟨hw1, hw2, hw3, hw4, hw5⟩, ho, hv, hm⟩
  simp only at hw1 hw2 hw4 hw5 ⊢
  have HFL : Hid (Below w.heap.size w w3) := HL3.out.trans (ho.below (fun k hk => hk.elim (fun e => by omega) (fun e => by simp [Value.ownBlock] at e)) (by rw [World.size_alloc]; omega))
  obtain ⟨va, vc, hvi, -⟩ := own_slice' hw2
  subst hvi
  obtain ⟨a', c', e1, hst⟩ := own_ents hw2 (by omega)
  injection e1 with e2 e3 e4
  subst e2 e4
  have HST := hid hst
  have HVL : Hid (∀ k, (Value.slice va s.blobs.length vc).ownBlock = some k → w.heap.size ≤ k) := fun k hk => (hw2.lt k hk).1
  have kb : w3.cell? ⟨w2.heap.size, 2, none⟩ = some (.slice va s.blobs.length vc) := Blk.cell hw1 2
  have hbl : s.blobs.length ≤ 4097 := by omega
  clear k3 k3a hw1 hw2 hw3 hw4 hw5 ho hv hm hst HCC HL3
  by_cases he : er = 0
  ·subst he
   have HF : Hid (listS G id = (s.blobs, 0)) := HLS.out
   go_wp2_with fail
   go_ret2
   rw [HF.out]
   exact ⟨_, _, _, rfl, HST.out, HFL.out, HVL.out, hbl⟩
  ·have q1 : (er != 0) = true := by simpa using he
   have q2 : (er == 0) = false := by simpa using he
   have HF : Hid (listS G id = ([], er)) := by
    show _ = _
    rw [HLS.out, if_pos he]
   go_wp2_with fail
   go_ret2
   rw [HF.out]
   exact ⟨none, 0, 0, rfl, ⟨rfl, by omega, .inl rfl⟩, HFL.out, fun k hk => by simp [Value.ownBlock] at hk, by omega⟩
 ·have q1 : (er != 0) = true := by simpa using he
  have q2 : (er == 0) = false := by simpa using he
  have HF := hid (listS_err hlk he)
  clear he hlk HX2
  go_wp2_with fail
  go_ret2
  rw [HF.out]
  exact ⟨none, 0, 0, rfl, ⟨rfl, by omega, .inl rfl⟩, HL2.out, fun k hk => by simp [Value.ownBlock] at hk, by omega⟩
def ficells (f : Fi) : List Value := [.string f.path, .string f.data]
def fivals (l : List Fi) : List Value := l.flatMap ficells
theorem fivals_append (a b : List Fi) : fivals (a ++ b) = fivals a ++ fivals b := by simp [fivals]
theorem fivals_length : ∀ (l : List Fi), (fivals l).length = l.length * 2
 | [] => rfl
 | x :: r => by
  unfold fivals at *
  have := fivals_length r
  unfold fivals at this
  rw [List.flatMap_cons, List.length_append, this, List.length_cons]
  simp only [ficells, List.length_cons, List.length_nil]; omega
def noFi : Fi := ⟨ByteArray.empty, ByteArray.empty⟩
theorem fivals_get : ∀ (l : List Fi) (j : Nat), j < l.length → (fivals l)[j * 2]? = some (.string (l.getD j noFi).path) ∧ (fivals l)[j * 2 + 1]? = some (.string (l.getD j noFi).data)
 | [], j, h => by simp at h
 | x :: r, 0, h => by simp [fivals, ficells]
 | x :: r, j + 1, h => by
  have ih := fivals_get r j (by simp only [List.length_cons] at h; omega)
  have e : fivals (x :: r) = ficells x ++ fivals r := by simp [fivals]
  have l2 : (ficells x).length = 2 := rfl
  rw [e, List.getElem?_append_right (by rw [l2]; omega), List.getElem?_append_right (by rw [l2]; omega), l2]
  rw [show (j + 1) * 2 - 2 = j * 2 by omega, show (j + 1) * 2 + 1 - 2 = j * 2 + 1 by omega]
  exact ih
/-- a slice of files in memory: path, bytes -/
def FisAt (w : World) (a : Option Addr) (n : Nat) (l : List Fi) : Prop :=
 l.length = n ∧ n ≤ 9223372036854775807 ∧ (n = 0 ∨ ∃ b off, a = some ⟨b, off, none⟩ ∧ ∀ j, j < n → w.cell? ⟨b, off + j * 2, none⟩ = some (.string (l.getD j noFi).path) ∧ w.cell? ⟨b, off + j * 2 + 1, none⟩ = some (.string (l.getD j noFi).data))
theorem FisAt.later {w w' : World} {a : Option Addr} {n : Nat} {l : List Fi} (h : FisAt w a n l) (hb : Below w.heap.size w w') : FisAt w' a n l := by
 obtain ⟨h1, h2, h3⟩ := h
 refine ⟨h1, h2, h3.imp id ?_⟩
 rintro ⟨b, off, ha, hc⟩
 refine ⟨b, off, ha, fun j hj => ?_⟩
 obtain ⟨c0, c1⟩ := hc j hj
 exact ⟨(hb.cell (World.block_lt_of_cell? w _ c0)).trans c0, (hb.cell (World.block_lt_of_cell? w _ c1)).trans c1⟩
theorem own_fis {w : World} {B : Nat} {v : Value} {l : List Fi} (h : w.ownsRow B 71 2 v l.length (fivals l)) (hm : l.length ≤ 9223372036854775807) : ∃ a c, v = .slice a l.length c ∧ FisAt w a l.length l := by
 have h' := h
 rcases h.2 with ⟨rfl, h0⟩ | ⟨g, cap, cur, rfl, hb, hg, hn, hc, hsz, htk⟩
 ·exact ⟨none, 0, by rw [h0], rfl, by omega, .inl h0⟩
 ·refine ⟨_, _, rfl, rfl, hm, .inr ⟨g, 0, rfl, fun j hj => ?_⟩⟩
  obtain ⟨x0, x1⟩ := fivals_get l j hj
  have hl := fivals_length l
  have h1 := h'.cellAt (j * 2) (by omega)
  have h2 := h'.cellAt (j * 2 + 1) (by omega)
  rw [Nat.zero_add]
  rw [x0] at h1
  rw [x1] at h2
  exact ⟨h1, h2⟩
theorem Tryz.infoFi : (Tryz.prog.info? 71).map (fun i => (i.zero, i.size, i.bytes)) = some (some (.agg #[.string ⟨#[]⟩, .string ⟨#[]⟩]), 2, 32) := by kernel_rfl
theorem cellNew2 (w : World) (x0 x1 : Value) (t : TypeId) : ∀ j u, [x0, x1][j]? = some u → (w.alloc (.cells #[x0, x1] t)).cell? ((⟨w.heap.size, 0, none⟩ : Addr).add j) = some u := by
 intro j u h
 have hb : Blk (w.alloc (.cells #[x0, x1] t)) w.heap.size t #[x0, x1] := Blk.new w _ _
 rw [Addr.add_lit, Nat.zero_add, hb.cell]
 simpa using h
theorem one2 {P : Value → Prop} {a b : Value} (ha : P a) (hb : P b) : ∀ u ∈ [a, b], P u := by
 intro u hu; simp only [List.mem_cons, List.mem_nil_iff, or_false] at hu; rcases hu with rfl | rfl <;> assumption
/-- what Files hands back -/
def FilesOut (w : World) (r : List Fi × Int) (e : Ending) (w' : World) : Prop :=
 ∃ a n c, e = .returned (.tuple #[.slice a n c, .int .i64 r.2]) ∧ FisAt w' a n r.1 ∧ Below w.heap.size w w' ∧ (∀ k, (Value.slice a n c).ownBlock = some k → w.heap.size ≤ k) ∧ n ≤ 4097 ∧ n ≤ c
theorem filesF_err {G : Sw.Src} {y : Ent} {r : List Ent} {F : List Fi} {x : Ob} {er : Int} (h : lookK G y.id 1 21 = (x, er)) (he : er ≠ 0) : filesF G (y :: r) F = ([], er) := by
 show (if (lookK G y.id 1 21).2 ≠ 0 then ([], (lookK G y.id 1 21).2) else _) = _
 rw [h, if_pos he]
theorem filesF_ok {G : Sw.Src} {y : Ent} {r : List Ent} {F : List Fi} {x : Ob} (h : lookK G y.id 1 21 = (x, 0)) : filesF G (y :: r) F = filesF G r (F ++ [⟨y.name, x.data⟩]) := by
 show (if (lookK G y.id 1 21).2 ≠ 0 then ([], (lookK G y.id 1 21).2) else filesF G r (F ++ [⟨y.name, (lookK G y.id 1 21).1.data⟩])) = _
 rw [h]; rfl
set_option maxRecDepth 100000 in
set_option maxHeartbeats 8000000 in
theorem files_any (t : TypeId) (rv : Value) (G : Sw.Src) (hz : SrcSz G) (id : ByteArray) (w : World) (hs : SrcAt w t rv G) : Calls Tryz.prog 27 #[.iface t rv, .string id] w (FilesOut w (filesS G id)) := by
 have HLI := hid (list_any t rv G hz id w hs)
 have HS := hid hs
 clear hs
 obtain ⟨i0, hi0, hz0, hz1, hz2⟩ := info_parts Tryz.infoFi
 obtain ⟨l, er, hls⟩ : ∃ l er, listS G id = (l, er) := ⟨_, _, rfl⟩
 have HFS : Hid (filesS G id = if er ≠ 0 then ([], er) else filesF G l []) := by
  show _ = _
  unfold filesS; rw [hls]
 rw [hls] at HLI
 go_enter Tryz.func27, Tryz.ntmps27
 go_wp2_with fail
 refine HLI.out.mono ?_; rintro e w1 ⟨la, ln, lc, rfl, hE, hb1, hf1, hn1⟩
 simp only at hE ⊢
 have HL1 := hid hb1
 have HE := hid hE
 have HLN := hid hE.1
 have hsz1 := hb1.size
 clear hb1 hf1 hE HLI hls
 by_cases he : er = 0
 ·subst he
  have HFS2 : Hid (filesS G id = filesF G l []) := HFS.out
  clear HFS
  go_wp2_with fail
  go_loopw [24, 8] (fun iv v wr => ∃ (i : Nat) (F : List Fi), i ≤ ln ∧ iv = .int .i64 i ∧ Hid (F.length = i) ∧ Hid (wr.ownsRow w1.heap.size 71 2 v i (fivals F)) ∧ Hid (Below w1.heap.size w1 wr) ∧ Hid (filesS G id = filesF G (l.drop i) F)) (fun iv _ _ => ln - (intOf iv).toNat)
  case atStart => exact ⟨0, [], Nat.zero_le _, rfl, rfl, World.ownsRow_nil _ _ _ _, Below.refl _ _, HFS2.out⟩
  case round =>
   obtain ⟨i, F, hi, rfl, HL, HO, HB, HF⟩ := hrel
   obtain ⟨va, vc, rfl, hvc⟩ := own_slice' HO.out
   have hszr := HB.out.size
   by_cases hlt : i < ln
   ·have ci : (i : Int) < ln := by omega
    have ci0 : (0 : Int) ≤ (i : Int) := by omega
    obtain ⟨-, -, h3⟩ := HE.out.later HB.out
    obtain ⟨eb, eoff, rfl, hcell⟩ := h3.resolve_left (by omega)
    obtain ⟨q0, q1, q2⟩ := hcell i hlt
    have hil : i < l.length := by rw [HLN.out]; exact hlt
    have HT : Hid (l.drop i = l.getD i ⟨ByteArray.empty, 0, ByteArray.empty⟩ :: l.drop (i + 1)) := by
     show _ = _
     rw [List.drop_eq_getElem_cons hil, List.getD_eq_getElem?_getD, List.getElem?_eq_getElem hil]; rfl
    obtain ⟨z, hzz⟩ : ∃ z, l.getD i ⟨ByteArray.empty, 0, ByteArray.empty⟩ = z := ⟨_, rfl⟩
    rw [hzz] at q0 q1 q2 HT
    obtain ⟨nm, kd, yd⟩ := z
    simp only at q0 q1 q2
    have HF1 : Hid (filesS G id = filesF G (⟨nm, kd, yd⟩ :: l.drop (i + 1)) F) := by
     show _ = _
     rw [HF.out, HT.out]
    clear hzz HT hcell h3 HF
    go_upto_region 8 with fail
    have HXa : Hid (Blk (wr.alloc (.cells #[.string nm, .int .i64 kd, .string yd] 76)) wr.heap.size 76 #[.string nm, .int .i64 kd, .string yd]) := Blk.new wr _ _
    have HOa : Hid ((wr.alloc (.cells #[.string nm, .int .i64 kd, .string yd] 76)).ownsRow w1.heap.size 71 2 (.slice va i vc) i (fivals F)) := HO.out.alloc _
    have HBa : Hid (Below w1.heap.size w1 (wr.alloc (.cells #[.string nm, .int .i64 kd, .string yd] 76))) := HB.out.alloc hszr _
    clear q0 q1 q2 HO HB
    generalize (wr.alloc (.cells #[.string nm, .int .i64 kd, .string yd] 76)) = wa at HXa HOa HBa ⊢
    generalize wr.heap.size = e0 at HXa ⊢
    have k2 : wa.cell? ⟨e0, 2, none⟩ = some (.string yd) := Blk.cell HXa.out 2
    obtain ⟨x, er, hlk⟩ : ∃ x er, lookK G yd 1 21 = (x, er) := ⟨_, _, rfl⟩
    have HLK := hid (look_any t rv G yd 1 21 wa (HS.out.later (HL1.out.trans (HBa.out.mono hsz1))) hz)
    rw [hlk] at HLK
    go_wp2_with fail
    refine HLK.out.mono ?_; rintro e w3 ⟨ev, pv, rfl, hO3, hb3, hf3⟩
    simp only at hO3 ⊢
    obtain ⟨ea, en, ec, pa, pn, pc, rfl, -, rfl, -⟩ := hO3
    have hea := Blk.lt HXa.out
    have HX4 : Hid (Blk (w3.alloc (.cells (obCs x (.slice ea en ec) (.slice pa pn pc)) 98)) w3.heap.size 98 (obCs x (.slice ea en ec) (.slice pa pn pc))) := Blk.new w3 _ _
    have HE4 : Hid (Blk (w3.alloc (.cells (obCs x (.slice ea en ec) (.slice pa pn pc)) 98)) e0 76 #[.string nm, .int .i64 kd, .string yd]) := Blk.alloc ((hb3.block e0 hea).trans HXa.out) _
    have HO4 : Hid ((w3.alloc (.cells (obCs x (.slice ea en ec) (.slice pa pn pc)) 98)).ownsRow w1.heap.size 71 2 (.slice va i vc) i (fivals F)) := (own_below HOa.out hb3).alloc _
    have HB4 : Hid (Below w1.heap.size w1 (w3.alloc (.cells (obCs x (.slice ea en ec) (.slice pa pn pc)) 98))) := (below_then HBa.out hb3).alloc (Nat.le_trans HBa.out.size hb3.size) _
    unfold obCs at HX4 HE4 HO4 HB4
    simp only [obCs]
    clear hb3 hf3 HLK HXa HOa HBa k2 hea
    go_upto_region 9 with fail
    generalize (w3.alloc (.cells #[.int .i64 x.kind, .string x.data, .slice ea en ec, .string x.tree, .slice pa pn pc, .int .i64 x.height, .string x.note] 98)) = w4 at HX4 HE4 HO4 HB4 ⊢
    generalize w3.heap.size = g4 at HX4 ⊢
    by_cases he : er = 0
    ·subst he
     have HN : Hid (filesS G id = filesF G (l.drop (i + 1)) (F ++ [⟨nm, x.data⟩])) := HF1.out.trans (filesF_ok hlk)
     have k0 : w4.cell? ⟨e0, 0, none⟩ = some (.string nm) := Blk.cell HE4.out 0
     have k1 : w4.cell? ⟨g4, 1, none⟩ = some (.string x.data) := Blk.cell HX4.out 1
     have hs4 := HB4.out.size
     have HS4 := hid hs4
     clear hlk hs4
     go_wp2_with (first
      | (at_builtin; refine wpList_append_own _ rfl (.tmp 38) (.tmp 44) 47 rfl w1.heap.size 71 i0 (.agg #[.string ⟨#[]⟩, .string ⟨#[]⟩]) 2 32 Tryz.underlying47 hi0 hz0 hz1 hz2 rfl (by decide) (.slice va i vc) _ _ rfl (HO4.out.alloc _) ⟨w4.heap.size, 0, none⟩ 1 1 [.string nm, .string x.data] rfl rfl (cellNew2 _ _ _ _) (one2 rfl rfl) (by unfold maxLen; omega) (by omega) (by rw [World.size_alloc]; have := HS4.out; omega) ?_; intro v' w9 hown' hgrow _; have HOWN := hid hown'; have HGR := hid hgrow; clear hown' hgrow))
     obtain ⟨va', vc', rfl, hvc'⟩ := own_slice' HOWN.out
     have HL9 : Hid ((F ++ [(⟨nm, x.data⟩ : Fi)]).length = i + 1) := by show _ = _; rw [List.length_append, HL.out]; rfl
     have HO9 : Hid (w9.ownsRow w1.heap.size 71 2 (.slice va' (i + 1) vc') (i + 1) (fivals (F ++ [⟨nm, x.data⟩]))) := by
      have h := HOWN.out
      rw [fivals_append]; exact h
     have HB9 : Hid (Below w1.heap.size w1 w9) := below_grown1 HB4.out HO4.out _ HS4.out HGR.out
     go_roundw
     case rel => first | exact ⟨i + 1, _, by omega, by go_num, HL9, HO9, HB9, HN⟩ | ((repeat apply Exists.intro); exact ⟨⟨i + 1, _, by omega, by go_num, HL9, HO9, HB9, HN⟩, rfl⟩)
     case measure => simp [intOf]; omega
    ·have q1 : (er != 0) = true := by simpa using he
     have q2 : (er == 0) = false := by simpa using he
     have HN := hid (HF1.out.trans (filesF_err hlk he))
     clear hlk
     go_wp2_with fail
     go_ret2
     rw [HN.out]
     exact ⟨none, 0, 0, rfl, ⟨rfl, by omega, .inl rfl⟩, HL1.out.trans (HB4.out.mono hsz1), fun k hk => by simp [Value.ownBlock] at hk, by omega, Nat.le_refl _⟩
   ·obtain rfl : i = ln := by omega
    have HN : Hid (filesS G id = (F, 0)) := by
     show _ = _
     rw [HF.out, List.drop_of_length_le (by rw [HLN.out]; exact Nat.le_refl _)]; rfl
    have HST : Hid (FisAt wr va i F) := by
     have h := HO.out
     have h' : wr.ownsRow w1.heap.size 71 2 (.slice va i vc) F.length (fivals F) := by rw [HL.out]; exact h
     obtain ⟨a', c', he, hst⟩ := own_fis h' (by rw [HL.out]; omega)
     injection he with e1 e2 e3
     rw [HL.out, ← e1] at hst
     exact hst
    go_wp2_with fail
    go_ret2
    rw [HN.out]
    exact ⟨va, i, vc, rfl, HST.out, HL1.out.trans (HB.out.mono hsz1), fun k hk => Nat.le_trans hsz1 (HO.out.lt k hk).1, hn1, hvc⟩
 ·have q1 : (er != 0) = true := by simpa using he
  have q2 : (er == 0) = false := by simpa using he
  have HN : Hid (filesS G id = ([], er)) := by
   show _ = _
   rw [HFS.out, if_pos he]
  go_wp2_with fail
  go_ret2
  rw [HN.out]
  exact ⟨none, 0, 0, rfl, ⟨rfl, by omega, .inl rfl⟩, HL1.out, fun k hk => by simp [Value.ownBlock] at hk, by omega, Nat.le_refl _⟩
end Go.Proofs.YtmpjdoiogbbcoaaGreatDoor
/- An argument that is a slice of files (or of items), opened. -/
namespace Go.Proofs.YtmpjdoiogbbcoaaGreatDoor
open Go.ChangeShapes Go.WideShapes Go.ChangeAt Go.RowKit Go.Deep Sn
set_option linter.unusedVariables false

section
variable {H : Type} {enc : TypeId × Value → H} {P : Program} {w : World} {base : Nat} {spare : Nat → Bool} {held : Bool}
theorem open_slice_fields {t e : TypeId} {fs : Array Field} {fuel : Nat} {cs : List Value} {x : DataW H × List MemPlace} (ht : P.underlying t = some (.slice e)) (he : P.underlying e = some (.struct fs))
  (hone : oneCellFields P fs = true) (hC : P.cellsOf e = fs.size) (h : DataW.trod enc P w base spare held fuel t cs = some x) :
  (cs = [.slice none 0 0] ∧ x = (.nil, [])) ∨
  ∃ (a : Addr) (len cap m : Nat) (D : Nat → DataW H) (Pl : Nat → List MemPlace), cs = [.slice (some a) len cap] ∧ base ≤ a.block ∧ len ≤ cap ∧ cap ≤ maxLen ∧ m = (if spare a.block then cap else len) ∧
   x = (.slice ((List.range len).map D) ((List.range (m - len)).map fun j => D (len + j)), MemPlace.row a (m * fs.size) ++ (List.range m).flatMap Pl) ∧
   ∀ i, i < m → ∃ (ys : List (DataW H × List MemPlace)) (n : Nat), D i = .agg (ys.map (·.1)) ∧ Pl i = ys.flatMap (·.2) ∧ ys.length = fs.size ∧
    ∀ (j : Nat) (f : Field), fs[j]? = some f → ∃ (v : Value) (y : DataW H × List MemPlace), w.cell? (a.add (i * fs.size + j)) = some v ∧ ys[j]? = some y ∧ DataW.trod enc P w base spare held n f.type [v] = some y := by
 rcases open_slice ht h with h0 | ⟨a, len, cap, m, n, D, Pl, hcs, hb, hl, hm, hmm, hx, hi⟩
 ·exact .inl h0
 ·refine .inr ⟨a, len, cap, m, D, Pl, hcs, hb, hl, hm, hmm, by rw [hC] at hx; exact hx, fun i him => ?_⟩
  obtain ⟨cs', hc, ht'⟩ := hi i him
  rw [hC] at hc
  obtain ⟨ys, n', hn', hy, hlen, hyl, hf⟩ := DataW.trod_struct he ht'
  obtain ⟨_, hcl, hat⟩ := World.cells?_some hc
  simp only [Prod.mk.injEq] at hy
  refine ⟨ys, n', hy.1, hy.2, hyl, fun j f hj => ?_⟩
  obtain ⟨ho, hk⟩ := hone_of hone j f hj
  have hjl : j < fs.size := (Array.getElem?_eq_some_iff.1 hj).1
  have hcell := hat j hjl
  have hv : cs'[j]? = some (cs'[j]'(by omega)) := List.getElem?_eq_getElem (by omega)
  have h1 := hf j f hj
  rw [ho, hk] at h1
  have hone' : (cs'.drop j).take 1 = [cs'[j]'(by omega)] := by
   rw [List.drop_eq_getElem_cons (by omega)]
   rfl
  rw [hone'] at h1
  have hys : ys[j]? = some (ys[j]'(by omega)) := List.getElem?_eq_getElem (by omega)
  refine ⟨_, _, ?_, hys, h1.trans hys⟩
  rw [← Go.Deep.add_add, hcell, hv]
end
theorem weights_mem_all {H : Type} {P : Program} {e : TypeId} {n : Nat} : ∀ {l : List (DataW H)} {d : DataW H}, d ∈ l → n ∈ d.weights P e → n ∈ DataW.weightsAll P e l
 | x :: r, d, hd, hn => by
  simp only [DataW.weightsAll, List.mem_append]
  rcases List.mem_cons.1 hd with rfl | hd
  ·exact .inl hn
  ·exact .inr (weights_mem_all hd hn)
theorem weights_slice {H : Type} {P : Program} {t e : TypeId} {n : Nat} {l r : List (DataW H)} {d : DataW H} (ht : P.underlying t = some (.slice e)) (hd : d ∈ l) (hn : n ∈ d.weights P e) : n ∈ (DataW.slice l r : DataW H).weights P t := by
 simp only [DataW.weights, ht, List.mem_cons, List.mem_append]
 exact .inr (.inl (weights_mem_all hd hn))
theorem weights_struct {H : Type} {P : Program} {t : TypeId} {fs : Array Field} {n j : Nat} {f : Field} {l : List (DataW H)} {d : DataW H} (ht : P.underlying t = some (.struct fs)) (hf : fs[j]? = some f) (hd : l[j]? = some d) (hn : n ∈ d.weights P f.type) : n ∈ (DataW.agg l : DataW H).weights P t := by
 simp only [DataW.weights, ht]
 exact DataW.weights_mem_each (j := j) (by rw [List.getElem?_map]; simp [hf]) hd n hn
theorem string_weight {H : Type} {P : Program} {t : TypeId} (s : ByteArray) : s.size ∈ (DataW.lit (.string s.data.toList) : DataW H).weights P t := by
 have hs : s.size = s.data.toList.length := by rw [Array.length_toList]; rfl
 rw [hs]; simp [DataW.weights]
theorem pieces_free_of_reach {n : Nat} (h : n ≤ reachBytes) : n ≤ 140737488355328 := by unfold reachBytes at h; omega
set_option maxRecDepth 100000 in
theorem open_fis {H : Type} {enc : TypeId × Value → H} {r : Reach} {b0 : Nat} {W : World} {held : Bool} {v : Value} {d : DataW H} {p : List MemPlace} {base : Nat} (hv : Value.okWide Tryz.prog W r b0 47 v) (h : DataW.Trod enc Tryz.prog W base (fun _ => true) held 47 v d p) (hw : ∀ n ∈ d.weights Tryz.prog 47, n ≤ reachBytes) :
  ∃ a n c l, v = .slice a n c ∧ FisAt W a n l ∧ n ≤ c ∧ (∀ f ∈ l, f.path.size ≤ 140737488355328 ∧ f.data.size ≤ 140737488355328) ∧ ∀ bb off, a = some ⟨bb, off, none⟩ → n ≠ 0 → bb < W.heap.size := by
 obtain ⟨a, n, c, rfl⟩ := okWide_slice Tryz.underlying47 hv
 obtain ⟨fuel, hf⟩ := h
 rcases open_slice_fields Tryz.underlying47 Tryz.underlying71 (by kernel_rfl) (by kernel_rfl) hf with ⟨hcs, _⟩ | ⟨x, l, c', m, D, Pl, hcs, _, hl, hm, hmm, hDD, hi⟩
 ·simp [Value.cells] at hcs
  obtain ⟨rfl, rfl, rfl⟩ := hcs
  exact ⟨none, 0, 0, [], rfl, ⟨rfl, by omega, .inl rfl⟩, Nat.le_refl _, (fun f hf => by cases hf), (fun _ _ h _ => by cases h)⟩
 ·simp [Value.cells] at hcs
  obtain ⟨rfl, rfl, rfl⟩ := hcs
  unfold maxLen at hm
  by_cases h0 : n = 0
  ·subst h0
   exact ⟨_, _, _, [], rfl, ⟨rfl, by omega, .inl rfl⟩, Nat.zero_le _, (fun f hf => by cases hf), (fun _ _ _ h => absurd rfl h)⟩
  ·obtain ⟨b, off, spot⟩ := x
   have hspot : spot = none := by
    obtain ⟨ys, k, _, _, _, hfs⟩ := hi 0 (by rw [hmm]; simp; omega)
    obtain ⟨v0, y0, hc0, _, _⟩ := hfs 0 _ rfl
    simpa [Addr.add] using World.cell?_spot hc0
   subst hspot
   have key : ∀ j, j < n → ∃ f : Fi, W.cell? ⟨b, off + j * 2, none⟩ = some (.string f.path) ∧ W.cell? ⟨b, off + j * 2 + 1, none⟩ = some (.string f.data) ∧ f.path.size ≤ 140737488355328 ∧ f.data.size ≤ 140737488355328 := fun j hj => by
    obtain ⟨ys, k, hDj, _, hyl, hfs⟩ := hi j (by rw [hmm]; simp; omega)
    have hadd : ∀ q, (⟨b, off, none⟩ : Addr).add (j * 2 + q) = ⟨b, off + j * 2 + q, none⟩ := fun q => by
     unfold Addr.add; split
     ·rename_i h; rw [show off + j * 2 + q = off by omega]
     ·rw [← Nat.add_assoc]
    obtain ⟨v0, y0, c0, u0, t0⟩ := hfs 0 _ rfl
    obtain ⟨v1, y1, c1, u1, t1⟩ := hfs 1 _ rfl
    have c0 : W.cell? ⟨b, off + j * 2 + 0, none⟩ = some v0 := by have h : W.cell? ((⟨b, off, none⟩ : Addr).add (j * 2 + 0)) = some v0 := c0; rwa [hadd 0] at h
    have c1 : W.cell? ⟨b, off + j * 2 + 1, none⟩ = some v1 := by have h : W.cell? ((⟨b, off, none⟩ : Addr).add (j * 2 + 1)) = some v1 := c1; rwa [hadd 1] at h
    obtain ⟨s0, e0, z0, w0⟩ := DataW.trod_string Tryz.underlying9 t0
    obtain ⟨s1, e1, z1, w1⟩ := DataW.trod_string Tryz.underlying9 t1
    simp only [List.cons.injEq, and_true] at e0 e1
    subst e0 e1
    have hd : d = .slice ((List.range n).map D) ((List.range (m - n)).map fun q => D (n + q)) := (Prod.mk.inj hDD).1
    have h0 : s0.size ∈ d.weights Tryz.prog 47 := by
     rw [hd]
     refine weights_slice Tryz.underlying47 (List.mem_map.2 ⟨j, List.mem_range.2 hj, rfl⟩) ?_
     rw [hDj]
     refine weights_struct Tryz.underlying71 (j := 0) rfl (by rw [List.getElem?_map, u0]; rfl) ?_
     rw [z0]; exact string_weight s0
    have h1 : s1.size ∈ d.weights Tryz.prog 47 := by
     rw [hd]
     refine weights_slice Tryz.underlying47 (List.mem_map.2 ⟨j, List.mem_range.2 hj, rfl⟩) ?_
     rw [hDj]
     refine weights_struct Tryz.underlying71 (j := 1) rfl (by rw [List.getElem?_map, u1]; rfl) ?_
     rw [z1]; exact string_weight s1
    exact ⟨⟨s0, s1⟩, c0, c1, pieces_free_of_reach (hw _ h0), pieces_free_of_reach (hw _ h1)⟩
   obtain ⟨F, hF⟩ : ∃ F : Nat → Fi, ∀ j, j < n → W.cell? ⟨b, off + j * 2, none⟩ = some (.string (F j).path) ∧ W.cell? ⟨b, off + j * 2 + 1, none⟩ = some (.string (F j).data) ∧ (F j).path.size ≤ 140737488355328 ∧ (F j).data.size ≤ 140737488355328 :=
    ⟨fun j => if h : j < n then (key j h).choose else noFi, fun j hj => by simp only [dif_pos hj]; exact (key j hj).choose_spec⟩
   have hget : ∀ j, j < n → ((List.range n).map F).getD j noFi = F j := fun j hj => by
    rw [List.getD_eq_getElem?_getD, List.getElem?_map, List.getElem?_range hj]; rfl
   refine ⟨_, _, _, (List.range n).map F, rfl, ⟨by simp, by omega, .inr ⟨b, off, rfl, fun j hj => ?_⟩⟩, hl, fun f hf => ?_, fun bb oo e _ => ?_⟩
   ·rw [hget j hj]; exact ⟨(hF j hj).1, (hF j hj).2.1⟩
   ·obtain ⟨j, hj, rfl⟩ := List.mem_map.1 hf
    exact (hF j (List.mem_range.1 hj)).2.2
   ·cases e
    exact World.block_lt_of_cell? W _ (hF 0 (by omega)).1
end Go.Proofs.YtmpjdoiogbbcoaaGreatDoor
/- An argument that is a slice of slices of ints, opened: each row's cells. -/
namespace Go.Proofs.YtmpjdoiogbbcoaaGreatDoor
open Go.ChangeShapes Go.WideShapes Go.ChangeAt Go.RowKit
set_option linter.unusedVariables false

/-- a slice of ints in memory -/
def RowInts (w : World) (a : Option Addr) (n : Nat) (l : List Int) : Prop :=
 l.length = n ∧ n ≤ 9223372036854775807 ∧ (∀ y ∈ l, -9223372036854775808 ≤ y ∧ y ≤ 9223372036854775807) ∧ (n = 0 ∨ ∃ b off, a = some ⟨b, off, none⟩ ∧ ∀ j, j < n → w.cell? ⟨b, off + j, none⟩ = some (.int .i64 (l.getD j 0)))
/-- rows of ints in memory -/
def RowsAt (W : World) (a : Option Addr) (n : Nat) : Prop :=
 n ≤ 9223372036854775807 ∧ (n = 0 ∨ ∃ b off, a = some ⟨b, off, none⟩ ∧ ∀ j, j < n → ∃ (aj : Option Addr) (nj cj : Nat) (l : List Int), W.cell? ⟨b, off + j, none⟩ = some (.slice aj nj cj) ∧ RowInts W aj nj l)
set_option maxRecDepth 100000 in
theorem open_rows {H : Type} {enc : TypeId × Value → H} {W : World} {held : Bool} {v : Value} {d : DataW H} {p : List MemPlace} {base : Nat} {r : Reach} {b0 : Nat} (hv : Value.okWide Tryz.prog W r b0 46 v) (h : DataW.Trod enc Tryz.prog W base (fun _ => true) held 46 v d p) :
  ∃ a n c, v = .slice a n c ∧ RowsAt W a n := by
 obtain ⟨xa, xn, xc, rfl⟩ := okWide_slice Tryz.underlying46 hv
 obtain ⟨fuel, hf⟩ := h
 have hf' : DataW.trod enc Tryz.prog W base (fun _ => true) held fuel 46 [.slice xa xn xc] = some (d, p) := hf
 rcases _root_.Go.Deep.open_int_rows (k := .i64) Tryz.underlying46 Tryz.underlying52 Tryz.underlying3 (by kernel_rfl) (by kernel_rfl) hf' with ⟨hcs, _⟩ | ⟨ad, len, cap, A, L, C, Z, hcs, hb, hl, hm, -, hr⟩
 ·injection hcs with hcs
  exact ⟨none, 0, 0, hcs, by omega, .inl rfl⟩
 ·injection hcs with hcs
  unfold maxLen at hm
  refine ⟨_, _, _, hcs, by omega, ?_⟩
  by_cases h0 : len = 0
  ·exact .inl h0
  ·obtain ⟨b, off, spot⟩ := ad
   have hspot : spot = none := by simpa [Addr.add] using World.cell?_spot (hr 0 (by omega)).1
   subst hspot
   have hadd : ∀ (b off j : Nat), (⟨b, off, none⟩ : Addr).add j = ⟨b, off + j, none⟩ := by
    intro b off j
    unfold Addr.add; split
    ·subst_vars; rfl
    ·rfl
   refine .inr ⟨b, off, rfl, fun j hj => ?_⟩
   obtain ⟨g1, g2, g3, g4, g5, g6, g7⟩ := hr j (by omega)
   rw [hadd] at g1
   unfold maxLen at g3
   refine ⟨_, _, _, (Z j).take (L j), g1, by rw [List.length_take]; omega, by omega, fun y hy => (Lit.wf_int_iff _ _).1 (g5 y (List.mem_of_mem_take hy)), ?_⟩
   by_cases hL : L j = 0
   ·exact .inl hL
   ·cases hA : A j with
    | none => have := g6 hA; omega
    | some a' =>
     obtain ⟨b', off', spot'⟩ := a'
     have hc := (g7 _ hA).2
     have hs' : spot' = none := by simpa [Addr.add] using World.cell?_spot (hc 0 (by omega))
     subst hs'
     refine .inr ⟨b', off', rfl, fun i hi => ?_⟩
     have h1 := hc i (by omega)
     rw [hadd] at h1
     rw [h1]
     simp [List.getD_eq_getElem?_getD, hi]
end Go.Proofs.YtmpjdoiogbbcoaaGreatDoor
/- Sets of texts, plain: what sorting and compacting make. -/
namespace Go.Proofs.YtmpjdoiogbbcoaaGreatDoor.Sw
open Go.RowKit Book Ojt
set_option linter.unusedVariables false

section
variable {α : Type} [Inhabited α] [DecidableEq α]
theorem compact_has (zs : List α) : ∀ j, j < zs.length → zs.toArray[j]! ∈ Lib.compact zs
 | 0, h => by
  unfold Lib.compact Lib.compactUpTo
  exact List.mem_map.2 ⟨0, List.mem_filter.2 ⟨List.mem_range.2 h, by simp [Lib.keeps]⟩, rfl⟩
 | j + 1, h => by
  by_cases hk : Lib.keeps zs.toArray (j + 1) = true
  ·unfold Lib.compact Lib.compactUpTo
   exact List.mem_map.2 ⟨j + 1, List.mem_filter.2 ⟨List.mem_range.2 h, hk⟩, rfl⟩
  ·have he : zs.toArray[j + 1]! = zs.toArray[j]! := by
    unfold Lib.keeps at hk
    rw [decide_eq_true_eq] at hk
    refine Decidable.byContradiction fun hn => hk (.inr ?_)
    simpa using hn
   rw [he]
   exact compact_has zs j (by omega)
theorem compact_mem (zs : List α) (x : α) : x ∈ Lib.compact zs ↔ x ∈ zs := by
 constructor
 ·intro h
  unfold Lib.compact Lib.compactUpTo at h
  obtain ⟨j, hj, rfl⟩ := List.mem_map.1 h
  have hl := List.mem_range.1 (List.mem_filter.1 hj).1
  simp [hl]
 ·intro h
  obtain ⟨j, hj, rfl⟩ := List.getElem_of_mem h
  have := compact_has zs j hj
  simpa [hj] using this
theorem compact_rising {lt : α → α → Prop} (htr : ∀ {a b c}, lt a b → lt b c → lt a c) (zs : List α) (h : zs.Pairwise (fun a b => lt a b ∨ a = b)) : (Lib.compact zs).Pairwise lt := by
 unfold Lib.compact Lib.compactUpTo
 rw [List.pairwise_map]
 have hs := List.pairwise_iff_getElem.1 h
 have h1 : ((List.range zs.length).filter (Lib.keeps zs.toArray)).Pairwise (· < ·) := (List.pairwise_lt_range (n := zs.length)).filter _
 refine h1.imp_of_mem ?_
 intro i j hi hj hij
 have hlj := List.mem_range.1 (List.mem_filter.1 hj).1
 have hkj := (List.mem_filter.1 hj).2
 have hli : i < zs.length := by omega
 unfold Lib.keeps at hkj
 rw [decide_eq_true_eq] at hkj
 have hne := hkj.resolve_left (by omega)
 have hl1 : j - 1 < zs.length := by omega
 have e1 : zs.toArray[j]! = zs[j] := by simp [hlj]
 have e2 : zs.toArray[j - 1]! = zs[j - 1] := by simp [hl1]
 have e3 : zs.toArray[i]! = zs[i] := by simp [hli]
 rw [e1, e2] at hne
 rw [e1, e3]
 have q1 : lt zs[j - 1] zs[j] := (hs (j - 1) j hl1 hlj (by omega)).resolve_right (fun e => hne e.symm)
 by_cases hc : i = j - 1
 ·subst hc; exact q1
 ·rcases hs i (j - 1) hli hl1 (by omega) with q | q
  ·exact htr q q1
  ·rw [q]; exact q1
end
theorem bless_eq : ∀ (x y : List UInt8), Op.bytesLess x y = decide (x < y)
 | [], [] => by simp [Op.bytesLess]
 | _ :: _, [] => by simp [Op.bytesLess]
 | [], _ :: _ => by simp [Op.bytesLess]
 | a :: x, b :: y => by
  rw [Op.bytesLess, bless_eq x y]
  simp only [List.cons_lt_cons_iff]
  by_cases h1 : a < b <;> by_cases h2 : a = b <;> by_cases h3 : x < y <;> simp [h1, h2, h3]
theorem ble_eq (x y : List UInt8) : decide (x ≤ y) = !Op.bytesLess y x := by
 rw [bless_eq]
 by_cases h : y < x
 ·have : ¬ x ≤ y := fun e => e h
  simp [h, this]
 ·have : x ≤ y := h
  simp [h, this]
theorem ble_trans (a b c : List UInt8) (h1 : decide (a ≤ b) = true) (h2 : decide (b ≤ c) = true) : decide (a ≤ c) = true := by
 rw [ble_eq] at *
 simp only [Bool.not_eq_true'] at *
 cases hc : Op.bytesLess c a
 ·rfl
 ·exfalso
  cases hab : Op.bytesLess a b
  ·have e := bl_tri a b hab h1
   subst e
   rw [hc] at h2; cases h2
  ·have := bl_trans _ _ _ hc hab
   rw [this] at h2; cases h2
theorem ble_total (a b : List UInt8) : (decide (a ≤ b) || decide (b ≤ a)) = true := by
 rw [ble_eq, ble_eq]
 cases h1 : Op.bytesLess b a
 ·rfl
 ·cases h2 : Op.bytesLess a b
  ·rfl
  ·have := bl_trans _ _ _ h1 h2
   rw [bl_irr] at this; cases this
theorem setOf_spec : ∀ (l acc : List ByteArray), Rising acc → Rising (l.foldl putN acc) ∧ ∀ x, x ∈ l.foldl putN acc ↔ x ∈ acc ∨ x ∈ l
  | [], acc, h => ⟨h, fun x => by simp⟩
  | y :: l, acc, h => by
    obtain ⟨h1, h2⟩ := setOf_spec l (putN acc y) (putN_rising h y)
    refine ⟨h1, fun x => ?_⟩
    rw [List.foldl_cons, h2, putN_memS h, List.mem_cons, or_assoc]
 where
  putN_memS {l : List ByteArray} (hr : Rising l) {x y : ByteArray} : y ∈ putN l x ↔ y ∈ l ∨ y = x := by
    unfold putN
    split
    · rename_i hh
      constructor
      · exact .inl
      · rintro (h | rfl)
        · exact h
        · exact hasN_iff.1 hh
    · rw [List.mem_append, List.mem_cons]
      conv => rhs; rw [← List.take_append_drop (posOf l x) l, List.mem_append]
      constructor
      · rintro (h | h | h)
        · exact .inl (.inl h)
        · exact .inr h
        · exact .inl (.inr h)
      · rintro ((h | h) | h)
        · exact .inl h
        · exact .inr (.inr h)
        · exact .inr (.inl h)
theorem setOf_rising (l : List ByteArray) : Rising (setOf l) := (setOf_spec l [] List.Pairwise.nil).1
theorem setOf_mem {l : List ByteArray} {x : ByteArray} : x ∈ setOf l ↔ x ∈ l := by
 unfold setOf; rw [(setOf_spec l [] List.Pairwise.nil).2]; simp
def bl (s : ByteArray) : List UInt8 := s.data.toList
theorem bz_bl (s : ByteArray) : bz (bl s) = s := ba_ext (by simp [bz, bl])
/-- what slices.Sort and slices.Compact make of texts -/
theorem sort_compact (l : List ByteArray) : (Lib.compact ((l.map bl).mergeSort fun x y => decide (x ≤ y))).map bz = setOf l := by
 refine rising_ext ?_ (setOf_rising l) (fun x => ?_)
 ·show ((Lib.compact ((l.map bl).mergeSort fun x y => decide (x ≤ y))).map bz).Pairwise (fun a b => lt' a b = true)
  rw [List.pairwise_map]
  have hp := List.pairwise_mergeSort (le := fun x y => decide (x ≤ y)) ble_trans ble_total (l.map bl)
  refine (compact_rising (lt := fun a b => Op.bytesLess a b = true) (fun {a b c} h1 h2 => bl_trans _ _ _ h1 h2) _ (hp.imp ?_)).imp ?_
  ·intro a b h
   rw [ble_eq, Bool.not_eq_true'] at h
   cases hab : Op.bytesLess a b
   ·exact .inr (bl_tri a b hab h)
   ·exact .inl rfl
  ·intro a b h
   unfold lt'
   rw [ba_toList, ba_toList]
   simpa [bz] using h
 ·rw [List.mem_map, setOf_mem]
  constructor
  ·rintro ⟨y, hy, rfl⟩
   rw [compact_mem, List.mem_mergeSort, List.mem_map] at hy
   obtain ⟨z, hz, rfl⟩ := hy
   rw [bz_bl]; exact hz
  ·intro hx
   exact ⟨bl x, by rw [compact_mem, List.mem_mergeSort, List.mem_map]; exact ⟨x, hx, rfl⟩, bz_bl x⟩
end Go.Proofs.YtmpjdoiogbbcoaaGreatDoor.Sw
/- Go's maps keyed by texts, as functions. No program. -/
namespace Go.Proofs.YtmpjdoiogbbcoaaGreatDoor
open Go.RowKit
set_option linter.unusedVariables false

section
variable {α : Type} {P : Program} {k : TypeId}
open Classical in
/-- an element's reading -/
noncomputable def elemR (val : α → Value) (dat : α → DataW Unit) (v : Value) : Option (DataW Unit × List MemPlace) :=
  if h : ∃ x, v = val x then some (dat h.choose, []) else none
theorem elemR_mk {val : α → Value} (hi : ∀ x y, val x = val y → x = y) (dat : α → DataW Unit) (x : α) : elemR val dat (val x) = some (dat x, []) := by
 unfold elemR
 have h : ∃ y, val x = val y := ⟨x, rfl⟩
 rw [dif_pos h]
 have e := hi x _ h.choose_spec
 rw [← e]
theorem elemR_inv {val : α → Value} {dat : α → DataW Unit} {v : Value} {z : DataW Unit × List MemPlace} (h : elemR val dat v = some z) : ∃ x, v = val x ∧ z = (dat x, []) := by
 unfold elemR at h
 split at h
 ·rename_i hx
  cases h
  exact ⟨_, hx.choose_spec, rfl⟩
 ·cases h
def kl (s : ByteArray) : Lit := .string s.data.toList
theorem kl_inj {a b : ByteArray} (h : kl a = kl b) : a = b := by
 unfold kl at h
 injection h with h
 exact ba_ext h
theorem kl_isKey (s : ByteArray) : WideAt.IsKeyLit (kl s) := by unfold kl; simp [WideAt.IsKeyLit]
def MapFn (P : Program) (k : TypeId) (val : α → Value) (dat : α → DataW Unit) (w : World) (m n : Nat) (f : ByteArray → Option α) : Prop :=
 ∃ D : DataW Unit, w.ownsMap P k (elemR val dat) m n D ∧ ∀ s : ByteArray, Maps.has D (kl s) = (f s).isSome ∧ ∀ x, f s = some x → ∀ z, D.atKey (kl s) z = dat x
variable {val : α → Value} {dat : α → DataW Unit} {w : World} {m n : Nat} {f : ByteArray → Option α}
theorem MapFn.made (w : World) : MapFn P k val dat (w.alloc (.map #[] 0)) w.heap.size 0 (fun _ => none) :=
 ⟨.map [], World.ownsMap_made w P k _, fun s => ⟨rfl, fun x h => by cases h⟩⟩
theorem MapFn.lt (h : MapFn P k val dat w m n f) : m < w.heap.size := by
 obtain ⟨D, ho, _⟩ := h; exact ho.lt
theorem MapFn.kept {w' : World} {row : Option Nat} (h : MapFn P k val dat w m n f) (hg : w.grownBy w' row) (hne : some m ≠ row) : MapFn P k val dat w' m n f := by
 obtain ⟨D, ho, h2⟩ := h; exact ⟨D, ho.kept hg hne, h2⟩
theorem MapFn.only {F : Nat → Prop} {w' : World} (h : MapFn P k val dat w m n f) (ho : Only F w w') (hF : ¬ F m) : MapFn P k val dat w' m n f := by
 have hl := h.lt
 obtain ⟨D, ⟨es, clock, hb, r⟩, h2⟩ := h
 exact ⟨D, ⟨es, clock, (ho.block m hl hF).trans hb, r⟩, h2⟩
theorem MapFn.later {w' : World} (h : MapFn P k val dat w m n f) (hb : Below w.heap.size w w') : MapFn P k val dat w' m n f := h.only (Only.of_below hb NoF) (fun e => e)
theorem MapFn.more {n' : Nat} (h : MapFn P k val dat w m n f) (hn : n ≤ n') : MapFn P k val dat w m n' f := by
 obtain ⟨D, ho, h2⟩ := h; exact ⟨D, ho.mono hn, h2⟩
theorem MapFn.found (hd : ∀ x y, dat x = dat y → x = y) (h : MapFn P k val dat w m n f) {s : ByteArray} {z0 : α} {D : DataW Unit} (h2 : ∀ s : ByteArray, Maps.has D (kl s) = (f s).isSome ∧ ∀ x, f s = some x → ∀ z, D.atKey (kl s) z = dat x) {x : α} (hx : D.atKey (kl s) (dat z0) = dat x) : x = (f s).getD z0 := by
 obtain ⟨a1, a2⟩ := h2 s
 cases hf : f s with
 | none =>
  rw [hf] at a1
  rw [Maps.atKey_of_not_has a1] at hx
  exact (hd _ _ hx).symm
 | some y =>
  rw [a2 y hf] at hx
  exact (hd _ _ hx).symm
theorem MapFn.get1 (hk : P.underlying k = some .string) {t e : TypeId} (ht : P.underlying t = some (.map k e)) (hi : ∀ x y, val x = val y → x = y) (hd : ∀ x y, dat x = dat y → x = y) {z0 : α} (hz : ∀ w, (zeroValue e).run P w = .ok (val z0) w) (h : MapFn P k val dat w m n f) (s : ByteArray) (hs : s.size ≤ maxLen) :
  (Instr.lookup t (.map (some m)) (.string s) false).run P w = .ok (val ((f s).getD z0)) w := by
 have h0 := h
 obtain ⟨D, ho, h2⟩ := h
 obtain ⟨v, ps, hrun, hv⟩ := ho.lookup (Maps.string_keyed hk) ht (hz w) (elemR_mk hi dat z0) (WideMaps.keyOf_string_mk hk hs)
 obtain ⟨x, rfl, hx⟩ := elemR_inv hv
 have e0 : D.atKey (kl s) (dat z0) = dat x := (Prod.mk.inj hx).1
 rw [hrun, MapFn.found hd h0 h2 e0]
theorem MapFn.get2 (hk : P.underlying k = some .string) {t e : TypeId} (ht : P.underlying t = some (.map k e)) (hi : ∀ x y, val x = val y → x = y) (hd : ∀ x y, dat x = dat y → x = y) {z0 : α} (hz : ∀ w, (zeroValue e).run P w = .ok (val z0) w) (h : MapFn P k val dat w m n f) (s : ByteArray) (hs : s.size ≤ maxLen) :
  (Instr.lookup t (.map (some m)) (.string s) true).run P w = .ok (.tuple #[val ((f s).getD z0), .bool (f s).isSome]) w := by
 have h0 := h
 obtain ⟨D, ho, h2⟩ := h
 obtain ⟨v, ps, hrun, hv⟩ := ho.look_ok (Maps.string_keyed hk) ht (hz w) (elemR_mk hi dat z0) (WideMaps.keyOf_string_mk hk hs)
 obtain ⟨x, rfl, hx⟩ := elemR_inv hv
 have e1 : Maps.has D (.string s.data.toList) = (f s).isSome := (h2 s).1
 have e0 : D.atKey (kl s) (dat z0) = dat x := (Prod.mk.inj hx).1
 rw [hrun, MapFn.found hd h0 h2 e0, e1]
theorem MapFn.set (hk : P.underlying k = some .string) {t e : TypeId} (ht : P.underlying t = some (.map k e)) (hi : ∀ x y, val x = val y → x = y) (h : MapFn P k val dat w m n f) (hn : n < maxLen) (s : ByteArray) (hs : s.size ≤ maxLen) (x : α) :
  ∃ w', (Instr.mapUpdate t (.map (some m)) (.string s) (val x)).run P w = .ok () w' ∧ MapFn P k val dat w' m (n + 1) (fun q => if q = s then some x else f q) ∧ w.grownBy w' (some m) := by
 obtain ⟨D, ho, h2⟩ := h
 obtain ⟨w', hrun, ho', hg⟩ := ho.update (kl := kl s) (Maps.string_keyed hk) ht hn (WideMaps.keyOf_string_mk hk hs) (elemR_mk hi dat x)
 refine ⟨w', hrun, ⟨_, ho', fun q => ?_⟩, hg⟩
 by_cases hq : q = s
 ·subst hq
  simp only [if_true]
  exact ⟨Maps.has_put_same ho.isMap (kl_isKey q) _, fun y hy z => by cases hy; exact Maps.atKey_put_same ho.isMap (kl_isKey q) _ z⟩
 ·simp only [if_neg hq]
  have hne : kl q ≠ kl s := fun e => hq (kl_inj e)
  exact ⟨(Maps.has_put_other hne _).trans (h2 q).1, fun y hy z => (Maps.atKey_put_other hne _ z).trans ((h2 q).2 y hy z)⟩
theorem wpList_mapFn_set {ops : Array Oper} {rest : List Oper} {o : Oper} {a : Act} {Q : Exit → Act → World → Prop} (hg : o.guard = none) (mo xo vo : Operand) (t : TypeId) (hop : o.op = Op.mapUpdate t mo xo vo)
  (hk : P.underlying k = some .string) {e : TypeId} (ht : P.underlying t = some (.map k e)) (hi : ∀ x y, val x = val y → x = y) (h : MapFn P k val dat w m n f) (hn : n < maxLen) (s : ByteArray) (hs : s.size ≤ maxLen) (x : α)
  (hm : a.eval mo = .map (some m)) (hx : a.eval xo = .string s) (hv : a.eval vo = val x)
  (hK : ∀ w', MapFn P k val dat w' m (n + 1) (fun q => if q = s then some x else f q) → w.grownBy w' (some m) → wpList P ops Q rest (a.put o.dst undef) w') :
  wpList P ops Q (o :: rest) a w := by
 refine wpList_plain hg fun K' hK' => ?_
 obtain ⟨w', hrun, r1, r2⟩ := h.set hk ht hi hn s hs x
 unfold Oper.wp
 simp [execOp, hop, hm, hx, hv, hrun, Result.andThen]
 exact hK' _ _ (hK w' r1 r2)
end
end Go.Proofs.YtmpjdoiogbbcoaaGreatDoor
