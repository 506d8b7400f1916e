/- Texts in a row: SnK, MkA, MkB, MkC, SwQ, MkD, MkE, LwB, MkF, LwD, ShTxt, TabP, LwE, LwF, LwG, Que, FactT, LkA, LkB, OrdM. -/
import Derived.Test.YtmpjdoiogbbcoaaGreatDoorMhH
import Derived.Lib.Strings
import Derived.Deep.AppendLies
import Derived.Deep.DeepFit
import Derived.BigFrame
import Derived.Deep.DeepCutAuto
import Derived.Deep.CutBlock
/- A commit made: Commit. -/
namespace Go.Proofs.YtmpjdoiogbbcoaaGreatDoor
open Go.RowKit Book Pap Ojt Sn
set_option linter.unusedVariables false
set_option linter.unusedSimpArgs false

theorem buildS_len (fs : List Fi) : (buildS fs).1.1.length ≤ 16385 := by
 unfold buildS
 split
 ·rename_i h
  obtain ⟨h1, h2⟩ := checkF_ok h
  have hs := (apt_of h2).2
  have h3 := treeS_cnt 64 (fs.map flOf) []
  have h4 := wt_le (k := 64) (fs.map flOf) (fun f hf => by
   obtain ⟨g, hg, rfl⟩ := List.mem_map.1 hf
   have := check_pieces (hs g hg)
   unfold flOf; rw [List.length_map]; exact this.2.2)
  simp only [List.length_nil, Nat.zero_add] at h3
  rw [List.length_map] at h4
  have h5 : fs.length * 64 ≤ 256 * 64 := Nat.mul_le_mul_right _ h1
  simp only; omega
 ·exact Nat.zero_le _
theorem NumsAt.later {w w' : World} {a : Option Addr} {n : Nat} {l : List Int} (h : NumsAt w a n l) (hb : Below w.heap.size w w') : NumsAt w' a n l := by
 obtain ⟨h1, h3⟩ := h
 refine ⟨h1, h3.imp id ?_⟩
 rintro ⟨b, off, ha, hc⟩
 exact ⟨b, off, ha, fun j hj => (hb.cell (World.block_lt_of_cell? w _ (hc j hj))).trans (hc j hj)⟩
def commitOf (tree : ByteArray) (ps : List ByteArray) (h : Int) (note : ByteArray) : Ob := { zero with kind := 3, tree := tree, pars := ps, height := h, note := note }
/-- a commit made: the objects, its id, the error -/
def commitS (G : Sw.Src) (fs : List Fi) (ps : List ByteArray) (note : ByteArray) : (List ByteArray × ByteArray) × Int :=
 if (buildS fs).2 ≠ 0 then (([], ByteArray.empty), (buildS fs).2)
 else if (highS G ps).2 ≠ 0 then (([], ByteArray.empty), (highS G ps).2)
 else if 1073741824 < heightL (highS G ps).1 then (([], ByteArray.empty), 41)
 else if 1000 < note.size then (([], ByteArray.empty), 5)
 else (layS (buildS fs).1.1 (commitOf (buildS fs).1.2 (sortB ps) (heightL (highS G ps).1) note), 0)
theorem heightL_bd {zs : List Int} (h : ∀ z ∈ zs, 0 ≤ z ∧ z ≤ 1073741824) : 0 ≤ heightL zs ∧ heightL zs ≤ 1073741825 := by
 by_cases h0 : zs = []
 ·subst h0; show (0 : Int) ≤ 0 ∧ (0 : Int) ≤ _; omega
 ·rw [heightL_eq zs h0]
  have := h _ (maxOf_mem zs h0)
  omega
set_option maxRecDepth 100000 in
set_option maxHeartbeats 8000000 in
theorem commit_any (t : TypeId) (rv : Value) (G : Sw.Src) (hz : SrcSz G) (a : Option Addr) (n c : Nat) (fs : List Fi) (pa : Option Addr) (pn pc : Nat) (ps : List ByteArray) (note : ByteArray) (w : World) (hs : SrcAt w t rv G)
  (hF : FisAt w a n fs) (hfz : ∀ f ∈ fs, f.path.size < 4294967281 ∧ f.data.size ≤ 9223372036854775807) (hP : StrsAt w pa pn ps) (hnote : note.size ≤ 9223372036854775807) (hm : MaxAt w) :
  Calls Tryz.prog 19 #[.iface t rv, .slice a n c, .slice pa pn pc, .string note] w (BuildOutL w (commitS G fs ps note)) := by
 have HB := hid (build_any a n c fs w hF hfz hm)
 have HER := hid (fun h => buildS_err (fs := fs) h)
 have HLEN := hid (buildS_len fs)
 have HCM : Hid (commitS G fs ps note = if (buildS fs).2 ≠ 0 then (([], ByteArray.empty), (buildS fs).2)
  else if (highS G ps).2 ≠ 0 then (([], ByteArray.empty), (highS G ps).2)
  else if 1073741824 < heightL (highS G ps).1 then (([], ByteArray.empty), 41)
  else if 1000 < note.size then (([], ByteArray.empty), 5)
  else (layS (buildS fs).1.1 (commitOf (buildS fs).1.2 (sortB ps) (heightL (highS G ps).1) note), 0)) := rfl
 have HS := hid hs
 have HP := hid hP
 clear hs hP hF hfz hm
 obtain ⟨⟨⟨L, tr⟩, E⟩, hr⟩ : ∃ r, buildS fs = r := ⟨_, rfl⟩
 rw [hr] at HB HER HLEN HCM
 clear hr
 go_enter Tryz.func19, Tryz.ntmps19
 go_wp2_with fail
 refine HB.out.mono ?_; rintro e w1 ⟨hb, ⟨h0, rfl⟩ | ⟨h0, b, m, v, rfl, hu⟩⟩
 ·have h0 : E ≠ 0 := h0
  have HB1 := hid hb
  have HC : Hid (commitS G fs ps note = (([], ByteArray.empty), E)) := by
   show _ = _
   rw [HCM.out, if_pos h0]
  clear HER hb HB HCM
  go_wp2_with fail
  go_ret3
  rw [HC.out]
  exact ⟨HB1.out, _, rfl, World.ownsRow_nil _ _ _ _⟩
 ·have h0 : E = 0 := h0
  subst h0
  have HB1 := hid hb
  have HU := hid hu
  have hs1 : w.heap.size ≤ w1.heap.size := hb.size
  have HH := hid (heights_any t rv G hz pa pn pc ps w1 (HS.out.later hb) (HP.out.later hb))
  have HCM2 : Hid (commitS G fs ps note = if (highS G ps).2 ≠ 0 then (([], ByteArray.empty), (highS G ps).2)
   else if 1073741824 < heightL (highS G ps).1 then (([], ByteArray.empty), 41)
   else if 1000 < note.size then (([], ByteArray.empty), 5)
   else (layS L (commitOf tr (sortB ps) (heightL (highS G ps).1) note), 0)) := by
   show _ = _
   rw [HCM.out, if_neg (by simp)]
  obtain ⟨⟨zs, E2⟩, hhr⟩ : ∃ r, highS G ps = r := ⟨_, rfl⟩
  have HHR := hid hhr
  rw [hhr] at HH HCM2
  clear HER hb hu HB HCM hhr
  go_wp2_with fail
  refine HH.out.mono ?_; rintro e w2 ⟨za, zn, zc, rfl, hN, hb2, hz8, hzb⟩
  have HN := hid hN
  have HZB := hid hzb
  have HB2 : Hid (Below w.heap.size w w2) := HB1.out.trans (hb2.mono hs1)
  have HU2 := hid (HU.out.below hb2)
  have hs2 : w.heap.size ≤ w2.heap.size := Nat.le_trans hs1 hb2.size
  clear hN hb2 hzb HH HU HB1 hs1
  by_cases he : E2 = 0
  ·subst he
   have HCM3 : Hid (commitS G fs ps note = if 1073741824 < heightL zs then (([], ByteArray.empty), 41)
    else if 1000 < note.size then (([], ByteArray.empty), 5)
    else (layS L (commitOf tr (sortB ps) (heightL zs) note), 0)) := by
    show _ = _
    rw [HCM2.out, if_neg (by simp)]
   have hpn : pn ≤ 8 := by
    have h := HHR.out
    have h1 := HP.out.1
    unfold highS at h
    split at h
    ·cases h
    ·omega
   have HV := hid (vals_any pa pn pc w2)
   have hb3 : Below w2.heap.size w2 (w2.alloc (.cells #[.slice pa pn pc] 40)) := (Below.refl _ _).alloc (Nat.le_refl _) _
   have HP2 : StrsAt w2 pa pn ps := HP.out.later HB2.out
   have HSO := hid (sorted_any w2.heap.size pa pn pc ps (by omega) (w2.alloc (.cells #[.slice pa pn pc] 40)) (by simp) (Blk.cell (Blk.new w2 40 #[.slice pa pn pc]) 0) (HP2.later hb3))
   have HHT := hid (fun W (hW : NumsAt W za zn zs) => objheight_any za zn zc zs W hW (by omega) (fun z hz => by have := HZB.out z hz; omega))
   have HHB := hid (heightL_bd HZB.out)
   obtain ⟨h, hh⟩ : ∃ h, heightL zs = h := ⟨_, rfl⟩
   rw [hh] at HCM3 HHT HHB
   have HB3 : Hid (Below w.heap.size w (w2.alloc (.cells #[.slice pa pn pc] 40))) := HB2.out.trans (hb3.mono hs2)
   have HU3 := hid (HU2.out.below hb3)
   have HN3 := hid (HN.out.later hb3)
   have hs3 : w.heap.size ≤ (w2.alloc (.cells #[.slice pa pn pc] 40)).heap.size := by rw [World.size_alloc]; omega
   clear hb3 HP2 HZB hh HCM2 HHR HB2 HU2 HN hs2
   go_wp2_with fail
   refine HV.out.mono ?_; rintro e w3 ⟨rfl, rfl⟩
   generalize hw3 : w2.alloc (.cells #[.slice pa pn pc] 40) = w3 at HSO HB3 HU3 HN3 hs3 ⊢
   clear HV
   go_wp2_with fail
   refine HSO.out.mono ?_; rintro e w4 ⟨pv, rfl, hpo, hb4⟩
   have HPO := hid hpo
   have HB4 : Hid (Below w.heap.size w w4) := HB3.out.trans (hb4.mono hs3)
   have HU4 := hid (HU3.out.below hb4)
   have HHT4 := hid (HHT.out w4 (HN3.out.later hb4))
   have hs4 : w.heap.size ≤ w4.heap.size := HB4.out.size
   clear hpo hb4 HSO HB3 HU3 HN3 hs3 HHT hw3
   go_wp2_with fail
   refine HHT4.out.mono ?_; rintro e w4' ⟨rfl, rfl⟩
   have hpsl : (sortB ps).length = ps.length := sortB_length ps
   have hpst : ∃ qa qc, pv = .slice qa ps.length qc ∧ StrsAt w4 qa ps.length (sortB ps) ∧ ps.length ≤ qc := by
    have h := HPO.out
    rw [← hpsl] at h
    obtain ⟨qa, qc, e, hst⟩ := own_strs h (by have := HP.out.1; omega)
    obtain ⟨qa', qc', e', hq⟩ := own_slice' h
    rw [e] at e'
    injection e' with _ _ e3
    subst e3
    rw [hpsl] at e hst hq
    exact ⟨qa, qc, e, hst, hq⟩
   obtain ⟨qa, qc, rfl, hst, hqc⟩ := hpst
   have HST := hid hst
   have hhb1 := HHB.out.1
   have hhb2 := HHB.out.2
   clear hst hpsl HHT4 HPO
   have HX5 : Hid (Blk (w4.alloc (.cells #[.int .i64 3, .string ⟨#[]⟩, .slice none 0 0, .string tr, .slice qa ps.length qc, .int .i64 h, .string note] 98)) w4.heap.size 98 #[.int .i64 3, .string ⟨#[]⟩, .slice none 0 0, .string tr, .slice qa ps.length qc, .int .i64 h, .string note]) := Blk.new w4 _ _
   have hb5 : Below w4.heap.size w4 (w4.alloc (.cells #[.int .i64 3, .string ⟨#[]⟩, .slice none 0 0, .string tr, .slice qa ps.length qc, .int .i64 h, .string note] 98)) := (Below.refl _ _).alloc (Nat.le_refl _) _
   have HB5 : Hid (Below w.heap.size w (w4.alloc (.cells #[.int .i64 3, .string ⟨#[]⟩, .slice none 0 0, .string tr, .slice qa ps.length qc, .int .i64 h, .string note] 98))) := HB4.out.trans (hb5.mono hs4)
   have HU5 := hid (HU4.out.below hb5)
   have HST5 := hid (HST.out.later hb5)
   clear hb5 HU4 HB4 HST
   go_upto_region 8 with fail
   generalize (w4.alloc (.cells #[.int .i64 3, .string ⟨#[]⟩, .slice none 0 0, .string tr, .slice qa ps.length qc, .int .i64 h, .string note] 98)) = w5 at HX5 HB5 HU5 HST5 ⊢
   generalize w4.heap.size = g5 at HX5 ⊢
   have k0 : w5.cell? ⟨g5, 0, none⟩ = some (.int .i64 3) := Blk.cell HX5.out 0
   have k1 : w5.cell? ⟨g5, 1, none⟩ = some (.string ⟨#[]⟩) := Blk.cell HX5.out 1
   have k2 : w5.cell? ⟨g5, 2, none⟩ = some (.slice none 0 0) := Blk.cell HX5.out 2
   have k3 : w5.cell? ⟨g5, 3, none⟩ = some (.string tr) := Blk.cell HX5.out 3
   have k4 : w5.cell? ⟨g5, 4, none⟩ = some (.slice qa ps.length qc) := Blk.cell HX5.out 4
   have k5 : w5.cell? ⟨g5, 5, none⟩ = some (.int .i64 h) := Blk.cell HX5.out 5
   have k6 : w5.cell? ⟨g5, 6, none⟩ = some (.string note) := Blk.cell HX5.out 6
   by_cases hhi : 1073741824 < h
   ·have HC : Hid (commitS G fs ps note = (([], ByteArray.empty), 41)) := by
     show _ = _
     rw [HCM3.out, if_pos hhi]
    go_wp2_with fail
    go_ret3
    rw [HC.out]
    exact ⟨HB5.out, _, rfl, World.ownsRow_nil _ _ _ _⟩
   ·by_cases hno : 1000 < note.size
    ·have HC : Hid (commitS G fs ps note = (([], ByteArray.empty), 5)) := by
      show _ = _
      rw [HCM3.out, if_neg hhi, if_pos hno]
     have hno1 : (1000 : Int) < (note.size : Int) := by omega
     go_wp2_with fail
     go_ret3
     rw [HC.out]
     exact ⟨HB5.out, _, rfl, World.ownsRow_nil _ _ _ _⟩
    ·have HC : Hid (commitS G fs ps note = (layS L (commitOf tr (sortB ps) h note), 0)) := by
      show _ = _
      rw [HCM3.out, if_neg hhi, if_neg hno]
     have hno1 : ¬ (1000 : Int) < (note.size : Int) := by omega
     have HLA : Hid (Calls Tryz.prog 57 #[.pointer (some ⟨b, 0, none⟩), .agg #[.int .i64 3, .string ⟨#[]⟩, .slice none 0 0, .string tr, .slice qa ps.length qc, .int .i64 h, .string note]] w5 (LayOut w.heap.size w5 b m v (layS L (commitOf tr (sortB ps) h note)))) :=
      lay_any w.heap.size b m v L (commitOf tr (sortB ps) h note) (.slice none 0 0) (.slice qa ps.length qc) w5 HU5.out ⟨none, 0, 0, qa, ps.length, qc, rfl, ⟨rfl, by omega, .inl rfl⟩, rfl, HST5.out⟩
       ⟨by show (-9223372036854775808 : Int) ≤ 3 ∧ (3 : Int) ≤ _; omega, by show (-9223372036854775808 : Int) ≤ h ∧ h ≤ _; omega, Nat.zero_le _⟩ (fun a n c e => by cases e; exact hqc) (Nat.le_trans HLEN.out (by omega))
     obtain ⟨⟨L9, id9⟩, hl9⟩ : ∃ r, layS L (commitOf tr (sortB ps) h note) = r := ⟨_, rfl⟩
     rw [hl9] at HC HLA
     clear hl9 HCM3 HST5
     go_wp2_with fail
     refine HLA.out.mono ?_; rintro e w9 ⟨v9, rfl, hu9, ho9, -⟩
     have HU9 := hid hu9
     have HB9 : Hid (Below w.heap.size w w9) := by
      have h1 : Below w.heap.size w5 w9 := ho9.below (fun k hk => by
       rcases hk with e | e | e
       ·subst e; exact HU5.out.2.2.2.1
       ·subst e; exact HU5.out.2.2.2.2
       ·exact (HU5.out.2.1.lt k e).1) HB5.out.size
      exact HB5.out.trans h1
     have q0 : w9.cell? ⟨b, 0, none⟩ = some v9 := Blk.cell hu9.1 0
     clear hu9 ho9 HLA k0 k1 k2 k3 k4 k5 k6
     go_wp2_with fail
     go_ret3
     rw [HC.out]
     exact ⟨HB9.out, _, rfl, HU9.out.2.1⟩
  ·have HC : Hid (commitS G fs ps note = (([], ByteArray.empty), E2)) := by
    show _ = _
    rw [HCM2.out, if_pos he]
   clear HCM2 HHR
   go_wp2_with fail
   go_ret3
   rw [HC.out]
   exact ⟨HB2.out, _, rfl, World.ownsRow_nil _ _ _ _⟩
end Go.Proofs.YtmpjdoiogbbcoaaGreatDoor
/- Objects there and back (plain): what is encoded decodes to itself; an id looked up. -/
namespace Go.Proofs.YtmpjdoiogbbcoaaGreatDoor
open Go.RowKit Book Pap Ojt Sn
set_option linter.unusedVariables false
set_option linter.unusedSimpArgs false

theorem kindR_app (k : Int) (b : List UInt8) (hk : k = 1 ∨ k = 2) : kindR ⟨UInt8.ofNat k.toNat :: b, false⟩ = (k, ⟨b, false⟩) := by
 rcases hk with rfl | rfl <;> simp [kindR, takeR]
theorem entR_app {e : Ent} (h : goodEnt e = true) (b : List UInt8) : entR ⟨entL e ++ b, false⟩ = (e, ⟨b, false⟩) := by
 obtain ⟨-, h2, h3, h4⟩ := goodEnt_facts h
 have hn : e.name.data.toList.length ≤ 255 := by rw [bx_data]; exact h2
 have hi : e.id.data.toList.length = 32 := by rw [bx_data]; exact h4
 have e1 : entL e ++ b = UInt8.ofNat e.kind.toNat :: (textL e.name.data.toList ++ (e.id.data.toList ++ b)) := by simp [entL]
 unfold entR
 rw [e1, kindR_app _ _ h3]
 simp only
 rw [textR_app _ _ 255 hn (by omega)]
 simp only
 have h5 := takeR_app e.id.data.toList b
 rw [hi] at h5
 rw [h5]
 simp only [bz_bl]
theorem entsR_app : ∀ (E : List Ent) (b : List UInt8), (∀ e ∈ E, goodEnt e = true) → entsR E.length ⟨E.flatMap entL ++ b, false⟩ = (E, ⟨b, false⟩)
 | [], b, _ => rfl
 | e :: E, b, h => by
  have ih := entsR_app E b (fun x hx => h x (List.mem_cons_of_mem _ hx))
  have h1 := entR_app (h e (List.mem_cons_self ..)) (E.flatMap entL ++ b)
  rw [List.flatMap_cons, List.append_assoc, List.length_cons]
  unfold entsR
  rw [if_neg (by simp), h1]
  simp only
  rw [ih]
theorem dec_cons (k : UInt8) (s : List UInt8) : dec (k :: s) = if k = 1 then (if good (blobO s) = true then some (blobO s) else none)
  else if k = 2 then (if wholeR (treeR (newR s)).2 = true ∧ good (treeO s) = true then some (treeO s) else none)
  else if k = 3 then (if wholeR (commitR s) = true ∧ good (commitO s) = true then some (commitO s) else none)
  else none := rfl
theorem dec_tree {E : List Ent} (h : good (treeOf E) = true) : dec (encL (treeOf E)) = some (treeOf E) := by
 obtain ⟨h1, h2⟩ := good_tree h rfl
 have h1 : E.length ≤ 256 := h1
 have e1 : encL (treeOf E) = 2 :: (numL E.length ++ E.flatMap entL) := rfl
 have h3 : treeR (newR (numL E.length ++ E.flatMap entL)) = (E, ⟨[], false⟩) := by
  unfold treeR newR
  rw [numR_app _ (by omega)]
  simp only
  unfold spoil
  rw [if_neg (by omega)]
  have h4 := entsR_app E [] h2
  rwa [List.append_nil] at h4
 have h4 : treeO (numL E.length ++ E.flatMap entL) = treeOf E := by unfold treeO; rw [h3]; rfl
 rw [e1, dec_cons]
 rw [if_neg (by decide), if_pos rfl, h3, h4, if_pos ⟨rfl, h⟩]
theorem dec_blob {s : ByteArray} (h : good (blobOf s) = true) : dec (encL (blobOf s)) = some (blobOf s) := by
 have e : blobO s.data.toList = blobOf s := by unfold blobO blobOf; rw [bz_bl]
 have e1 : encL (blobOf s) = 1 :: s.data.toList := rfl
 rw [e1, dec_cons]
 rw [if_pos rfl, e, if_pos h]
theorem idsR_app : ∀ (P : List ByteArray) (b : List UInt8), (∀ p ∈ P, p.size = 32) → idsR P.length ⟨P.flatMap (fun p => p.data.toList) ++ b, false⟩ = (P, ⟨b, false⟩)
 | [], b, _ => rfl
 | p :: P, b, h => by
  have ih := idsR_app P b (fun x hx => h x (List.mem_cons_of_mem _ hx))
  have h1 : p.data.toList.length = 32 := by rw [bx_data]; exact h p (List.mem_cons_self ..)
  have h2 := takeR_app p.data.toList (P.flatMap (fun p => p.data.toList) ++ b)
  rw [h1] at h2
  rw [List.flatMap_cons, List.append_assoc, List.length_cons]
  unfold idsR
  rw [if_neg (by simp), h2]
  simp only
  rw [ih, bz_bl]
theorem dec_commit {t : ByteArray} {ps : List ByteArray} {h : Int} {n : ByteArray} (hg : good (commitOf t ps h n) = true) : dec (encL (commitOf t ps h n)) = some (commitOf t ps h n) := by
 obtain ⟨h1, h2, h3, h4, h5, h6⟩ := good_commit hg rfl
 have h1 : ps.length ≤ 8 := h1
 have h2 : ∀ p ∈ ps, p.size = 32 := h2
 have h3 : 0 ≤ h := h3
 have h4 : h ≤ 1073741824 := h4
 have h5 : t.data.toList.length = 32 := by rw [bx_data]; exact h5
 have h6 : n.data.toList.length ≤ 1000 := by rw [bx_data]; exact h6
 obtain ⟨S, hS⟩ : ∃ S, t.data.toList ++ (numL ps.length ++ (ps.flatMap (fun p => p.data.toList) ++ (numL h.toNat ++ textL n.data.toList))) = S := ⟨_, rfl⟩
 have e1 : encL (commitOf t ps h n) = 3 :: S := by
  rw [← hS]
  show (3 :: t.data.toList ++ numL ps.length ++ ps.flatMap (fun p => p.data.toList) ++ numL h.toNat ++ textL n.data.toList) = _
  simp
 have q1 : takeR (newR S) 32 = (t.data.toList, ⟨numL ps.length ++ (ps.flatMap (fun p => p.data.toList) ++ (numL h.toNat ++ textL n.data.toList)), false⟩) := by
  have := takeR_app t.data.toList (numL ps.length ++ (ps.flatMap (fun p => p.data.toList) ++ (numL h.toNat ++ textL n.data.toList)))
  rw [h5] at this
  rw [← hS]; exact this
 have q2 : parsR (takeR (newR S) 32).2 = (ps, ⟨numL h.toNat ++ textL n.data.toList, false⟩) := by
  rw [q1]
  unfold parsR
  rw [numR_app _ (by omega)]
  simp only
  unfold spoil
  rw [if_neg (by omega)]
  exact idsR_app ps _ h2
 have q3 : numR (parsR (takeR (newR S) 32).2).2 = (h.toNat, ⟨textL n.data.toList, false⟩) := by
  rw [q2]; exact numR_app _ (by omega) _
 have q4 : textR (numR (parsR (takeR (newR S) 32).2).2).2 1000 = (n.data.toList, ⟨[], false⟩) := by
  rw [q3]
  have := textR_app n.data.toList [] 1000 h6 (by omega)
  rwa [List.append_nil] at this
 have e2 : commitO S = commitOf t ps h n := by
  unfold commitO
  simp only
  rw [q4, q3, q2, q1]
  simp only [bz_bl]
  unfold commitOf
  congr
  omega
 have e3 : commitR S = ⟨[], false⟩ := by unfold commitR; rw [q4]
 rw [e1, dec_cons]
 rw [if_neg (by decide), if_neg (by decide), if_pos rfl, e2, e3, if_pos ⟨rfl, hg⟩]
theorem decO_encP {x : Ob} (h : good x = true) (hd : dec (encL x) = some x) : Sw.decO (encP x) = some x := by
 unfold Sw.decO encP; rw [if_pos h, bl_bz, hd]
theorem lookK_of {G : Sw.Src} {x : Ob} {k lacks : Int} (hg : G (Sw.idOf (encP x)) = some (encP x)) (hx : good x = true) (hd : dec (encL x) = some x) (hk : x.kind = k) : lookK G (Sw.idOf (encP x)) k lacks = (x, 0) := by
 have h1 := decO_encP hx hd
 unfold lookK
 rw [hg]
 simp only
 rw [h1]
 simp only
 rw [if_neg (by simp [hk])]
theorem idOf_size (t : ByteArray) : (Sw.idOf t).size = 32 := by
 have := Sha.shaL_len t.data.toList
 unfold Sw.idOf bz
 simp [ByteArray.size, this]
end Go.Proofs.YtmpjdoiogbbcoaaGreatDoor
/- A folder's tree: its id, the texts of its objects; the order of files plays no part (plain). -/
namespace Go.Proofs.YtmpjdoiogbbcoaaGreatDoor
open Go.RowKit Book Pap Ojt Sn
set_option linter.unusedVariables false
set_option linter.unusedSimpArgs false

def leafT (fs : List Fl) (n : ByteArray) : ByteArray := encP (blobOf ((leafs fs n).getD ByteArray.empty))
/-- one name's entry -/
def entOf (rec : List Fl → ByteArray) (fs : List Fl) (n : ByteArray) : Ent :=
 if sub n fs = [] then ⟨n, 1, Sw.idOf (leafT fs n)⟩ else ⟨n, 2, rec (sub n fs)⟩
/-- a folder's tree's id -/
def tid : Nat → List Fl → ByteArray
 | 0, fs => ByteArray.empty
 | d + 1, fs => Sw.idOf (encP (treeOf ((namesF fs).map (entOf (tid d) fs))))
def tents (d : Nat) (fs : List Fl) : List Ent := (namesF fs).map (entOf (tid d) fs)
def textOf (rec : List Fl → List ByteArray) (fs : List Fl) (n : ByteArray) : List ByteArray := if sub n fs = [] then [leafT fs n] else rec (sub n fs)
/-- the texts of a folder's objects -/
def texts : Nat → List Fl → List ByteArray
 | 0, fs => []
 | d + 1, fs => (namesF fs).flatMap (textOf (texts d) fs) ++ [encP (treeOf (tents d fs))]
theorem layS_mem (L : List ByteArray) (x : Ob) (s : ByteArray) : s ∈ (layS L x).1 ↔ s ∈ L ∨ s = encP x := by
 unfold layS
 simp only
 split
 ·rename_i h
  have h := hasN_iff.1 h
  exact ⟨.inl, fun h1 => h1.elim id (fun e => e ▸ h)⟩
 ·rw [List.mem_append, List.mem_singleton]
theorem entsS_mem {rec : List Fl → List ByteArray → List ByteArray × ByteArray} {ti : List Fl → ByteArray} {tx : List Fl → List ByteArray} (hr : ∀ fs L, (rec fs L).2 = ti fs ∧ ∀ s, s ∈ (rec fs L).1 ↔ s ∈ L ∨ s ∈ tx fs) (fs : List Fl) :
  ∀ (ns : List ByteArray) (L : List ByteArray) (E : List Ent), (entsS rec fs ns L E).2 = E ++ ns.map (entOf ti fs) ∧ ∀ s, s ∈ (entsS rec fs ns L E).1 ↔ s ∈ L ∨ s ∈ ns.flatMap (textOf tx fs)
 | [], L, E => ⟨(List.append_nil E).symm, fun s => by simp [entsS]⟩
 | n :: r, L, E => by
  obtain ⟨h1, h2⟩ := entsS_mem hr fs r (nameS rec fs L n).1 (E ++ [(nameS rec fs L n).2])
  have k : (nameS rec fs L n).2 = entOf ti fs n ∧ ∀ s, s ∈ (nameS rec fs L n).1 ↔ s ∈ L ∨ s ∈ textOf tx fs n := by
   unfold nameS entOf textOf leafT
   split
   ·exact ⟨rfl, fun s => by rw [layS_mem, List.mem_singleton]⟩
   ·obtain ⟨h3, h4⟩ := hr (sub n fs) L
    exact ⟨by rw [h3], h4⟩
  refine ⟨?_, fun s => ?_⟩
  ·show (entsS rec fs r _ _).2 = _
   rw [h1, k.1]; simp
  ·show s ∈ (entsS rec fs r _ _).1 ↔ _
   rw [h2, k.2, List.flatMap_cons, List.mem_append, or_assoc]
theorem treeS_mem : ∀ (d : Nat) (fs : List Fl) (L : List ByteArray), (treeS d fs L).2 = tid d fs ∧ ∀ s, s ∈ (treeS d fs L).1 ↔ s ∈ L ∨ s ∈ texts d fs
 | 0, fs, L => ⟨rfl, fun s => by simp [treeS, texts]⟩
 | d + 1, fs, L => by
  obtain ⟨h1, h2⟩ := entsS_mem (treeS_mem d) fs (namesF fs) L []
  rw [List.nil_append] at h1
  refine ⟨?_, fun s => ?_⟩
  ·show (layS _ _).2 = _
   unfold layS
   simp only
   rw [h1]; rfl
  ·show s ∈ (layS _ _).1 ↔ _
   rw [layS_mem, h2, h1]
   show _ ↔ s ∈ L ∨ s ∈ (namesF fs).flatMap (textOf (texts d) fs) ++ [encP (treeOf (tents d fs))]
   rw [List.mem_append, List.mem_singleton, or_assoc]; rfl
/-! order -/
theorem leafs_in : ∀ (l : List Fl) (n d : ByteArray) (g : Option ByteArray), l.foldl (fun g f => if f.1 = [n] then some f.2 else g) g = some d → g = some d ∨ (([n], d) : Fl) ∈ l
 | [], n, d, g, h => .inl h
 | f :: r, n, d, g, h => by
  rw [List.foldl_cons] at h
  rcases leafs_in r n d _ h with h1 | h1
  ·by_cases hf : f.1 = [n]
   ·rw [if_pos hf] at h1
    refine .inr (List.mem_cons.2 (.inl ?_))
    obtain ⟨a, b⟩ := f
    simp only at hf h1
    cases h1; rw [hf]
   ·rw [if_neg hf] at h1; exact .inl h1
  ·exact .inr (List.mem_cons_of_mem _ h1)
/-! depth -/
theorem sub_len {n : ByteArray} {fs : List Fl} {d : Nat} (h : ∀ f ∈ fs, f.1.length ≤ d + 1) : ∀ f ∈ sub n fs, f.1.length ≤ d := fun f hf => by
 obtain ⟨g, hg, e, -⟩ := mem_sub hf
 have := h g hg
 rw [e, List.length_cons] at this
 omega
end Go.Proofs.YtmpjdoiogbbcoaaGreatDoor
/- A folder's files in the order of their paths; a tree gone over gives them back (plain). -/
namespace Go.Proofs.YtmpjdoiogbbcoaaGreatDoor
open Go.RowKit Book Pap Ojt Sn
set_option linter.unusedVariables false
set_option linter.unusedSimpArgs false

def under (n : ByteArray) (f : Fl) : Fl := (n :: f.1, f.2)
theorem subOf_of {n : ByteArray} {a : List ByteArray} {x : ByteArray} (ha : a ≠ []) : subOf n (n :: a, x) = some (a, x) := by
 cases a with
 | nil => exact absurd rfl ha
 | cons b r => unfold subOf; simp
theorem mem_sub_iff {n : ByteArray} {fs : List Fl} {g : Fl} : g ∈ sub n fs ↔ g.1 ≠ [] ∧ under n g ∈ fs := by
 constructor
 ·intro h
  obtain ⟨f, hf, h1, h2, h3⟩ := mem_sub h
  refine ⟨h2, ?_⟩
  have : under n g = f := by unfold under; rw [← h1, ← h3]
  rw [this]; exact hf
 ·rintro ⟨h1, h2⟩
  exact List.mem_filterMap.2 ⟨_, h2, subOf_of h1⟩
/-! files that can be -/
def GoodFl (fs : List Fl) : Prop := ∀ f ∈ fs, (∀ n ∈ f.1, goodL n.data.toList = true) ∧ f.2.size ≤ 65536
theorem GoodFl.sub {fs : List Fl} (h : GoodFl fs) (n : ByteArray) : GoodFl (Sn.sub n fs) := fun f hf => by
 have h1 := h _ (mem_sub_iff.1 hf).2
 exact ⟨fun m hm => h1.1 m (List.mem_cons_of_mem _ hm), h1.2⟩
theorem sub_few (n : ByteArray) (fs : List Fl) : (Sn.sub n fs).length ≤ fs.length := List.length_filterMap_le ..
theorem names_few (fs : List Fl) : (namesF fs).length ≤ fs.length := by
 have h1 : ∀ (l acc : List ByteArray), (l.foldl putN acc).length ≤ acc.length + l.length := by
  intro l
  induction l with
  | nil => intro acc; exact Nat.le_refl _
  | cons x r ih =>
   intro acc
   have := ih (putN acc x)
   have := putN_len acc x
   rw [List.foldl_cons, List.length_cons]; omega
 have h2 := h1 (fs.filterMap headOf) []
 have h3 : (fs.filterMap headOf).length ≤ fs.length := List.length_filterMap_le ..
 unfold namesF Sw.setOf
 simp only [List.length_nil, Nat.zero_add] at h2
 omega
theorem leaf_good {fs : List Fl} (hg : GoodFl fs) (n : ByteArray) : good (blobOf ((leafs fs n).getD ByteArray.empty)) = true := by
 have : ((leafs fs n).getD ByteArray.empty).size ≤ 65536 := by
  cases h : leafs fs n with
  | none => show (0 : Nat) ≤ _; omega
  | some d =>
   have := (leafs_in fs n d none h).resolve_left (fun e => by cases e)
   exact (hg _ this).2
 unfold good blobOf
 rw [if_pos rfl]
 exact decide_eq_true this
theorem rising_B : ∀ {l : List ByteArray}, Rising l → risingB l = true
 | [], _ => rfl
 | [a], _ => rfl
 | a :: b :: r, h => by
  obtain ⟨h1, h2⟩ := List.pairwise_cons.1 h
  show (lt' a b && risingB (b :: r)) = true
  rw [h1 b (List.mem_cons_self ..), rising_B h2]; rfl
theorem sub_zero {fs : List Fl} (ha : AptL fs) (hl : ∀ f ∈ fs, f.1.length ≤ 0 + 1) (n : ByteArray) : Sn.sub n fs = [] := by
 cases h : Sn.sub n fs with
 | nil => rfl
 | cons f r =>
  have hf : f ∈ Sn.sub n fs := by rw [h]; exact List.mem_cons_self ..
  exact absurd (List.length_eq_zero_iff.1 (Nat.le_zero.1 (sub_len hl f hf))) ((ha.sub n).1 f hf)
theorem tree_good {fs : List Fl} (d : Nat) (ha : AptL fs) (hl : ∀ f ∈ fs, f.1.length ≤ d + 1) (hg : GoodFl fs) (hn : fs.length ≤ 256) : good (treeOf (tents d fs)) = true := by
 have h1 : Ojt.goodTree (tents d fs) = true := by
  unfold Ojt.goodTree
  rw [Bool.and_eq_true, Bool.and_eq_true]
  refine ⟨List.all_eq_true.2 (fun e he => ?_), decide_eq_true ?_, ?_⟩
  ·obtain ⟨n, hn, rfl⟩ := List.mem_map.1 he
   obtain ⟨f, hf, hh⟩ := mem_names.1 hn
   have hgn := (hg f hf).1 n (List.mem_of_mem_head? hh)
   unfold entOf goodEnt
   cases d with
   | zero =>
    rw [if_pos (sub_zero ha hl n)]
    simp [hgn, idOf_size]
   | succ d =>
    split
    ·simp [hgn, idOf_size]
    ·have : (tid (d + 1) (Sn.sub n fs)).size = 32 := idOf_size _
     simp [hgn, this]
  ·unfold tents
   rw [List.length_map]
   have := names_few fs
   omega
  ·unfold tents
   rw [List.map_map]
   have : ((namesF fs).map ((fun e : Ent => e.name) ∘ entOf (tid d) fs)) = namesF fs := by
    conv => rhs; rw [← List.map_id (namesF fs)]
    refine List.map_congr_left (fun n _ => ?_)
    show (entOf (tid d) fs n).name = n
    unfold entOf
    split <;> rfl
   rw [this]
   exact rising_B (Sw.setOf_rising _)
 unfold good treeOf
 simp only
 rw [if_neg (by decide), if_pos trivial]
 exact h1
def Cov (G : Sw.Src) (L : List ByteArray) : Prop := ∀ t ∈ L, G (Sw.idOf t) = some t
end Go.Proofs.YtmpjdoiogbbcoaaGreatDoor
/- What comes leaves all closed (layer 14): plain Lean. -/
namespace Go.Proofs.YtmpjdoiogbbcoaaGreatDoor.Sw
open Go.RowKit Book Ojt
set_option linter.unusedVariables false

/-! one source's items -/
theorem getI_snoc (l : List It) (x : It) (id : ByteArray) : getI (l ++ [x]) id = (match getI l id with | some t => some t | none => if x.id = id then some x.data else none) := by
 induction l with
 | nil => rfl
 | cons y r ih =>
  show (if y.id = id then some y.data else getI (r ++ [x]) id) = match (if y.id = id then some y.data else getI r id) with | some t => some t | none => if x.id = id then some x.data else none
  split
  ·rfl
  ·exact ih
theorem getI_some {l : List It} {id t : ByteArray} (h : getI l id = some t) : (⟨id, t⟩ : It) ∈ l := by
 induction l with
 | nil => cases h
 | cons y r ih =>
  unfold getI at h
  split at h
  ·rename_i e
   cases h
   rw [← e]
   exact List.mem_cons_self ..
  ·exact List.mem_cons_of_mem _ (ih h)
theorem getI_none {l : List It} {id : ByteArray} (h : getI l id = none) : ∀ x ∈ l, x.id ≠ id := by
 induction l with
 | nil => intro x hx; cases hx
 | cons y r ih =>
  unfold getI at h
  split at h
  ·cases h
  ·rename_i e
   intro x hx
   rcases List.mem_cons.1 hx with rfl | hx
   ·exact e
   ·exact ih h x hx
/-- no two unlike texts of some have one digest -/
def Apart (T : List ByteArray) : Prop := ∀ a ∈ T, ∀ b ∈ T, idOf a = idOf b → a = b
/-! items put by their ids -/
end Go.Proofs.YtmpjdoiogbbcoaaGreatDoor.Sw
/- Files in the order of their paths; the same tree, the same files (plain). -/
namespace Go.Proofs.YtmpjdoiogbbcoaaGreatDoor
open Go.RowKit Book Pap Ojt Sn
set_option linter.unusedVariables false
set_option linter.unusedSimpArgs false

/-! files that can be a snapshot -/
structure OkFs (fs : List Fi) : Prop where
 few : fs.length ≤ 256
 split : ∀ f ∈ fs, splitE f.path.data.toList = 0
 off : fs.Pairwise (fun f g => apart f.path.data.toList g.path.data.toList)
 size : ∀ f ∈ fs, f.data.size ≤ 65536
theorem checkF_iff (fs : List Fi) : checkF fs = 0 ↔ OkFs fs := by
 have hR : (checkR (ls (fs.map (·.path)))).2 = 0 ↔ (∀ f ∈ fs, splitE f.path.data.toList = 0) ∧ fs.Pairwise (fun f g => apart f.path.data.toList g.path.data.toList) := by
  rw [checkR_ok]
  unfold ls
  rw [List.map_map, List.pairwise_map]
  refine and_congr ⟨fun h f hf => h _ (List.mem_map.2 ⟨f, hf, rfl⟩), fun h x hx => ?_⟩ Iff.rfl
  obtain ⟨f, hf, rfl⟩ := List.mem_map.1 hx
  exact h f hf
 have hA : (fs.any fun f => decide (65536 < f.data.size)) = true ↔ ¬ ∀ f ∈ fs, f.data.size ≤ 65536 := by
  rw [List.any_eq_true]
  constructor
  ·rintro ⟨f, hf, h⟩ h2
   have := h2 f hf
   have := of_decide_eq_true h
   omega
  ·intro h
   refine Decidable.byContradiction fun hn => h (fun f hf => ?_)
   refine Decidable.byContradiction fun h2 => hn ⟨f, hf, decide_eq_true (by omega)⟩
 unfold checkF
 constructor
 ·intro h
  split at h
  ·cases h
  ·split at h
   ·cases h
   ·rename_i h1 h2
    obtain ⟨h3, h4⟩ := hR.1 h
    refine ⟨by omega, h3, h4, ?_⟩
    refine Decidable.byContradiction fun hn => h2 ⟨h, hA.2 hn⟩
 ·intro h
  have hr := hR.2 ⟨h.split, h.off⟩
  rw [if_neg (by have := h.few; omega), if_neg (fun h2 => hA.1 h2.2 h.size)]
  exact hr
theorem OkFs.apt {fs : List Fi} (h : OkFs fs) : AptL (fs.map flOf) := by
 have := (checkF_iff fs).2 h
 exact (apt_of (checkF_ok this).2).1
theorem OkFs.len {fs : List Fi} (h : OkFs fs) : ∀ f ∈ fs.map flOf, f.1.length ≤ 64 := fun f hf => by
 obtain ⟨g, hg, rfl⟩ := List.mem_map.1 hf
 have := (check_pieces (h.split g hg)).2.2
 unfold flOf
 rw [List.length_map]; exact this
theorem OkFs.goodFl {fs : List Fi} (h : OkFs fs) : GoodFl (fs.map flOf) := fun f hf => by
 obtain ⟨g, hg, rfl⟩ := List.mem_map.1 hf
 refine ⟨fun n hn => ?_, h.size g hg⟩
 unfold flOf at hn
 obtain ⟨p, hp, rfl⟩ := List.mem_map.1 hn
 rw [bl_bz]
 exact (check_pieces (h.split g hg)).2.1 p hp
/-- texts as a source -/
def srcL (L : List ByteArray) : Sw.Src := fun id => L.find? (fun t => decide (Sw.idOf t = id))
theorem srcL_cov {L : List ByteArray} (h : Sw.Apart L) : Cov (srcL L) L := fun t ht => by
 unfold srcL
 cases hf : L.find? (fun x => decide (Sw.idOf x = Sw.idOf t)) with
 | none => exact absurd (decide_eq_true rfl) (List.find?_eq_none.1 hf t ht)
 | some x =>
  have h1 := List.mem_of_find?_eq_some hf
  have h2 := List.find?_some hf
  rw [h x h1 t ht (of_decide_eq_true h2)]
end Go.Proofs.YtmpjdoiogbbcoaaGreatDoor
/- What stands at a path of a tree; the files of a folder (plain). -/
namespace Go.Proofs.YtmpjdoiogbbcoaaGreatDoor
open Go.RowKit Book Pap Ojt Sn
set_option linter.unusedVariables false
set_option linter.unusedSimpArgs false

/-! files of a folder -/
end Go.Proofs.YtmpjdoiogbbcoaaGreatDoor
/- Layer 15's laws: a Book as a source; ref14.Get. -/
namespace Go.Proofs.YtmpjdoiogbbcoaaGreatDoor
open Go.RowKit Book Pap Ojt Sn
set_option linter.unusedVariables false
set_option linter.unusedSimpArgs false

/-- the bytes of an id in a list of items -/
def getF (l : List Fi) : Sw.Src := fun id => (l.find? (fun f => decide (f.path = id))).map (·.data)
theorem getF_hit {l : List Fi} {k : Nat} {id : ByteArray} (hk : k < l.length) (h : ∀ j, j < k → (l.getD j noFi).path ≠ id) (hp : (l.getD k noFi).path = id) : getF l id = some (l.getD k noFi).data := by
 induction l generalizing k with
 | nil => simp at hk
 | cons f r ih =>
  cases k with
  | zero =>
   have hp : f.path = id := hp
   show ((f :: r).find? _).map _ = _
   rw [List.find?_cons_of_pos (by simp [hp])]; rfl
  | succ k =>
   have h0 : f.path ≠ id := h 0 (by omega)
   show ((f :: r).find? _).map _ = _
   rw [List.find?_cons_of_neg (by simp [h0])]
   exact ih (k := k) (by simp only [List.length_cons] at hk; omega) (fun j hj => h (j + 1) (by omega)) hp
theorem getF_miss {l : List Fi} {id : ByteArray} (h : ∀ j, j < l.length → (l.getD j noFi).path ≠ id) : getF l id = none := by
 induction l with
 | nil => rfl
 | cons f r ih =>
  have h0 : f.path ≠ id := h 0 (by simp)
  show ((f :: r).find? _).map _ = _
  rw [List.find?_cons_of_neg (by simp [h0])]
  exact ih (fun j hj => h (j + 1) (by simp only [List.length_cons]; omega))
set_option maxRecDepth 100000 in
set_option maxHeartbeats 4000000 in
theorem r14get_any (a : Option Addr) (n c : Nat) (fs : List Fi) (id : ByteArray) (w : World) (h : FisAt w a n fs) :
  Calls Tryz.prog 42 #[.slice a n c, .string id] w (GetOut (getF fs) id w) := by
 obtain ⟨h1, h2, h3⟩ := h
 have HL := hid h1
 go_enter Tryz.func42, Tryz.ntmps42
 go_wp2_with fail
 go_loopw [6] (fun iv wr => ∃ i : Nat, i ≤ n ∧ iv = .int .i64 i ∧ w = wr ∧ Hid (∀ j, j < i → (fs.getD j noFi).path ≠ id)) (fun iv _ => n - (intOf iv).toNat)
 case atStart => exact ⟨0, Nat.zero_le _, rfl, rfl, fun j hj => by omega⟩
 case round =>
  obtain ⟨i, hi, rfl, rfl, HN⟩ := hrel
  by_cases hlt : i < n
  ·obtain ⟨b, off, rfl, hc⟩ := h3.resolve_left (by omega)
   have ci : (i : Int) < n := by omega
   have ci0 : (0 : Int) ≤ (i : Int) := by omega
   obtain ⟨q0, q1⟩ := hc i hlt
   have hl : i < fs.length := by rw [HL.out]; exact hlt
   obtain ⟨x, hx⟩ : ∃ x, fs.getD i noFi = x := ⟨_, rfl⟩
   rw [hx] at q0 q1
   have HX := hid hx
   obtain ⟨p, dd⟩ := x
   simp only at q0 q1
   clear hx hc
   by_cases he : p = id
   ·have HR : Hid (getF fs id = some dd) := by
     have h := getF_hit (id := id) hl HN.out (by rw [HX.out]; exact he)
     rw [HX.out] at h; exact h
    have e1 : (p.toList == id.toList) = true := by rw [he]; simp
    clear hl he
    go_wp2_with fail
    go_ret2
    unfold GetOut
    rw [HR.out]
    exact ⟨rfl, Below.refl _ _⟩
   ·have e1 : (p.toList == id.toList) = false := by
     rw [ba_toList, ba_toList, beq_eq_false_iff_ne]
     exact fun e => he (ba_ext e)
    have HN2 : Hid (∀ j, j < i + 1 → (fs.getD j noFi).path ≠ id) := fun j hj => by
     by_cases hji : j = i
     ·subst hji; rw [HX.out]; exact he
     ·exact HN.out j (by omega)
    clear hl he
    go_wp2_with fail
    go_roundw
    case rel => first | exact ⟨i + 1, by omega, by go_num, by first | rfl | trivial, HN2⟩ | ((repeat apply Exists.intro); exact ⟨⟨i + 1, by omega, by go_num, by first | rfl | trivial, HN2⟩, rfl⟩)
    case measure => simp [intOf]; omega
  ·obtain rfl : i = n := by omega
   have ci : ¬ (i : Int) < i := by omega
   have HR : Hid (getF fs id = none) := getF_miss (fun j hj => HN.out j (by rw [← HL.out]; exact hj))
   go_wp2_with fail
   go_ret2
   unfold GetOut
   rw [HR.out]
   exact ⟨rfl, Below.refl _ _⟩
/-- a Book in memory -/
def BookAt (w : World) (bb : Nat) (fs : List Fi) : Prop := ∃ a n c, Blk w bb 31 #[.slice a n c] ∧ FisAt w a n fs
theorem BookAt.later {w w' : World} {bb : Nat} {fs : List Fi} (h : BookAt w bb fs) (hb : Below w.heap.size w w') : BookAt w' bb fs := by
 obtain ⟨a, n, c, h1, h2⟩ := h
 exact ⟨a, n, c, (hb.block bb (Blk.lt h1)).trans h1, h2.later hb⟩
theorem bookget_any (bb : Nat) (fs : List Fi) (id : ByteArray) (w : World) (h : BookAt w bb fs) :
  Calls Tryz.prog 292 #[.pointer (some ⟨bb, 0, none⟩), .string id] w (GetOut (getF fs) id w) := by
 obtain ⟨a, n, c, h1, h2⟩ := h
 have k0 : w.cell? ⟨bb, 0, none⟩ = some (.slice a n c) := Blk.cell h1 0
 have HG := hid (r14get_any a n c fs id w h2)
 clear h1 h2
 go_enter Tryz.func292, Tryz.ntmps292
 go_wp2_with fail
 refine HG.out.mono ?_; rintro e w1 ⟨rfl, hb⟩
 have HB := hid hb
 clear hb
 go_wp2_with fail
 go_ret2
 exact ⟨rfl, HB.out⟩
theorem book_src (bb : Nat) (fs : List Fi) (w : World) (h : BookAt w bb fs) : SrcAt w 29 (.pointer (some ⟨bb, 0, none⟩)) (getF fs) :=
 ⟨292, .pointer (some ⟨bb, 0, none⟩), fun W => by kernel_rfl, enters_of Tryz.func292 (by kernel_rfl) rfl, fun id W hW => bookget_any bb fs id W (h.later hW)⟩
end Go.Proofs.YtmpjdoiogbbcoaaGreatDoor
/- The statement on folders, plain: what stands at a folder's path is the tree of the files in it. -/
namespace Go.Proofs.YtmpjdoiogbbcoaaGreatDoor
open Go.RowKit Book Pap Ojt Sn
set_option linter.unusedVariables false
set_option linter.unusedSimpArgs false

/-! objects as items -/
def itemsS (l : List ByteArray) : List Fi := l.map (fun t => ⟨Sw.idOf t, t⟩)
theorem items_cov {l : List ByteArray} (h : Sw.Apart l) : Cov (getF (itemsS l)) l := fun t ht => by
 unfold getF itemsS
 rw [List.find?_map]
 have h1 := srcL_cov h t ht
 unfold srcL at h1
 show (Option.map _ (l.find? (fun x => decide (Sw.idOf x = Sw.idOf t)))).map _ = _
 rw [h1]; rfl
theorem commit_good {fs : List Fi} {note : ByteArray} (hn : note.size ≤ 1000) : good (commitOf (tid 64 (fs.map flOf)) [] 0 note) = true := by
 have h1 : (tid 64 (fs.map flOf)).size = 32 := idOf_size _
 unfold good commitOf
 simp only
 rw [if_neg (by decide), if_neg (by decide), if_pos trivial]
 unfold Ojt.goodCommit goodPars
 simp [h1, hn, risingB]
end Go.Proofs.YtmpjdoiogbbcoaaGreatDoor
/- Layer 15's laws: texts under their ids (items). -/
namespace Go.Proofs.YtmpjdoiogbbcoaaGreatDoor
open Go.RowKit Book Pap Ojt Sn
set_option linter.unusedVariables false
set_option linter.unusedSimpArgs false

theorem own_items {w : World} {B : Nat} {v : Value} {n : Nat} {l : List Fi} (h : w.ownsRow B 80 2 v n (fivals l)) (hm : n ≤ 9223372036854775807) : ∃ a c, v = .slice a n c ∧ FisAt w a n l := by
 have h' := h
 have hl := fivals_length l
 have hln : l.length = n := by have := h.1; omega
 rcases h.2 with ⟨rfl, h0⟩ | ⟨g, cap, cur, rfl, hb, hg, hn, hc, hsz, htk⟩
 ·exact ⟨none, 0, by rw [h0], hln, hm, .inl h0⟩
 ·refine ⟨_, _, rfl, hln, hm, .inr ⟨g, 0, rfl, fun j hj => ?_⟩⟩
  obtain ⟨x0, x1⟩ := fivals_get l j (by omega)
  have h1 := h'.cellAt (j * 2) (by omega)
  have h2 := h'.cellAt (j * 2 + 1) (by omega)
  rw [Nat.zero_add]
  rw [x0] at h1
  rw [x1] at h2
  exact ⟨h1, h2⟩
theorem own_noneI (w : World) : (w.alloc (.cells #[] 80)).ownsRow w.heap.size 80 2 (.slice (some ⟨w.heap.size, 0, none⟩) 0 0) 0 [] :=
 ⟨rfl, .inr ⟨w.heap.size, 0, #[], rfl, Nat.le_refl _, by show (w.heap.push _)[w.heap.size]? = _; simp, Nat.le_refl _, by unfold maxLen; omega, rfl, rfl⟩⟩
theorem Tryz.infoIt : (Tryz.prog.info? 80).map (fun i => (i.zero, i.size, i.bytes)) = some (some (.agg #[.string ⟨#[]⟩, .string ⟨#[]⟩]), 2, 32) := by kernel_rfl
theorem objid_id (s : ByteArray) (hs : s.size ≤ 1000000000) (w : World) : Calls Tryz.prog 60 #[.string s] w fun e w' => e = .returned (.string (Sw.idOf s)) ∧ Below w.heap.size w w' := objid_any s hs w
set_option maxRecDepth 100000 in
set_option maxHeartbeats 8000000 in
theorem items_any (a : Option Addr) (n c : Nat) (l : List ByteArray) (w : World) (h : StrsAt w a n l) (hn : n ≤ 1000000) (hz : ∀ s ∈ l, s.size ≤ 1000000000) :
  Calls Tryz.prog 26 #[.slice a n c] w fun e w' => ∃ a' c', e = .returned (.slice a' n c') ∧ w'.ownsRow w.heap.size 80 2 (.slice a' n c') n (fivals (itemsS l)) ∧ Below w.heap.size w w' := by
 obtain ⟨i0, hi0, hz0, hz1, hz2⟩ := info_parts Tryz.infoIt
 have HS := hid h
 have HL := hid h.1
 have HZ := hid hz
 have HO1 : Hid ((w.alloc (.cells #[] 80)).ownsRow w.heap.size 80 2 (.slice (some ⟨w.heap.size, 0, none⟩) 0 0) 0 (fivals (itemsS (l.take 0)))) := own_noneI w
 have HB1 : Hid (Below w.heap.size w (w.alloc (.cells #[] 80))) := (Below.refl _ _).alloc (Nat.le_refl _) _
 clear h hz
 go_enter Tryz.func26, Tryz.ntmps26
 go_upto_region 2 with fail
 generalize (w.alloc (.cells #[] 80)) = w1 at HO1 HB1 ⊢
 generalize hg : w.heap.size = g at HO1 HB1 ⊢
 have HG := hid hg
 clear hg
 go_wp2_with fail
 go_loopw [4, 3] (fun iv ov wr => ∃ i : Nat, i ≤ n ∧ iv = .int .i64 i ∧ Hid (wr.ownsRow g 80 2 ov i (fivals (itemsS (l.take i)))) ∧ Hid (Below g w wr)) (fun iv _ _ => n - (intOf iv).toNat)
 case atStart => exact ⟨0, Nat.zero_le _, rfl, HO1, HB1⟩
 case round =>
  obtain ⟨i, hi, rfl, HO, HB⟩ := hrel
  obtain ⟨va, vc, rfl, hvc⟩ := own_slice' HO.out
  by_cases hlt : i < n
  ·have ci : (i : Int) < n := by omega
   have ci0 : (0 : Int) ≤ (i : Int) := by omega
   obtain ⟨-, -, h3⟩ := HS.out.later (by rw [HG.out]; exact HB.out)
   obtain ⟨b, off, rfl, hc⟩ := h3.resolve_left (by omega)
   have q0 := hc i hlt
   have hil : i < l.length := by rw [HL.out]; exact hlt
   have hsz := HZ.out (l.getD i ByteArray.empty) (by rw [List.getD_eq_getElem?_getD, List.getElem?_eq_getElem hil]; exact List.getElem_mem hil)
   have HT : Hid (fivals (itemsS (l.take (i + 1))) = fivals (itemsS (l.take i)) ++ [.string (Sw.idOf (l.getD i ByteArray.empty)), .string (l.getD i ByteArray.empty)]) := by
    show _ = _
    rw [List.take_succ_eq_append_getElem hil]
    unfold itemsS
    rw [List.map_append, fivals_append, List.getD_eq_getElem?_getD, List.getElem?_eq_getElem hil]; rfl
   obtain ⟨s, hs⟩ : ∃ s, l.getD i ByteArray.empty = s := ⟨_, rfl⟩
   rw [hs] at q0 hsz HT
   have HID := hid (fun W => objid_id s hsz W)
   obtain ⟨idv, hidv⟩ : ∃ z, Sw.idOf s = z := ⟨_, rfl⟩
   rw [hidv] at HID HT
   have hgr : g ≤ wr.heap.size := by have := HB.out.size; rw [HG.out] at this; exact this
   have hbb := World.block_lt_of_cell? wr _ q0
   clear hs hidv hc h3 hil hsz
   go_upto_region 5 with fail
   go_region_law (first
    | (go_simp; go_at_call 60; (refine (HID.out _).mono ?_; rintro e w5 ⟨rfl, hb5⟩; have HO5 := hid (own_below HO.out.drew hb5); have HB5 := hid (HB.out.drew.trans (hb5.mono hgr)); have q1 : w5.cell? ⟨b, off + i, none⟩ = some (.string s) := ((hb5.cell (p := ⟨b, off + i, none⟩) hbb).trans q0); have hg5 : g ≤ w5.heap.size := (Nat.le_trans hgr hb5.size); clear hb5))
    | (refine step_append_lies _ (by rfl) (.tmp 12) (.tmp 23) 22 (by rfl) g 80 i0 (.agg #[.string ⟨#[]⟩, .string ⟨#[]⟩]) 2 32 Tryz.underlying22 hi0 hz0 hz1 hz2 rfl (by decide) (.slice va i vc) i (fivals (itemsS (l.take i))) (by simp [Act.eval, Act.put]) (HO5.out.alloc _) ⟨w5.heap.size, 0, none⟩ 1 1 [.string idv, .string s] (by simp [Act.eval, Act.put]) rfl (cellNew2 _ _ _ _) (one2 rfl rfl) (by decide) (by unfold maxLen; omega) (by omega) (by rw [World.size_alloc]; omega) (w5.heap.size + 1) (by simp) ?_; intro g1 cap1 wf hown hgrow hat hglt; have HOWN := hid hown; have HGR := hid hgrow; clear hown hgrow hat hglt))
   all_goals
    have HO9 : Hid (wf.ownsRow g 80 2 (.slice (some ⟨g1, 0, none⟩) (i + 1) cap1) (i + 1) (fivals (itemsS (l.take (i + 1))))) := by
     show World.ownsRow _ _ _ _ _ _ _
     rw [HT.out]; exact HOWN.out
    have HB9 : Hid (Below g w wf) := (HB5.out.alloc hg5 _).grown HGR.out (by rw [World.size_alloc]; omega) (fun j hj => (HO5.out.lt j hj).1)
    go_wp2_with fail
    go_roundw
    case rel => first | exact ⟨i + 1, by omega, by go_num, HO9, HB9⟩ | ((repeat apply Exists.intro); exact ⟨⟨i + 1, by omega, by go_num, HO9, HB9⟩, rfl⟩)
    case measure => simp [intOf]; omega
  ·obtain rfl : i = n := by omega
   have ci : ¬ (i : Int) < i := by omega
   have HE : Hid (wr.ownsRow g 80 2 (.slice va i vc) i (fivals (itemsS l))) := by
    have h := HO.out
    rw [List.take_of_length_le (by rw [HL.out]; exact Nat.le_refl _)] at h; exact h
   go_wp2_with fail
   go_ret
   rw [HG.out]
   exact ⟨_, _, rfl, HE.out, HB.out⟩
end Go.Proofs.YtmpjdoiogbbcoaaGreatDoor
/- The shelf's map of Txt under texts: find, Get, Put, Del, Len, Keys. -/
namespace Go.Proofs.YtmpjdoiogbbcoaaGreatDoor
open Go.RowKit
set_option linter.unusedVariables false

def encTxt : ByteArray → Value := Value.string
def MapIsTxt (w : World) (m : Nat) (ks vs : Value) (l : List ByteArray) (ps : List ByteArray) : Prop :=
 Blk w m 189 #[ks, vs] ∧ w.ownsRow 0 9 1 ks l.length (svals l) ∧ w.ownsRow 0 9 1 vs ps.length (ps.map encTxt) ∧ ps.length = l.length ∧ Rising l ∧ l.length ≤ 1000000 ∧ ∀ k, ks.ownBlock = some k → vs.ownBlock ≠ some k
theorem encTxt_one (l : List ByteArray) : ∀ u ∈ l.map encTxt, u.oneCell' = true := by
 intro u hu; obtain ⟨x, _, rfl⟩ := List.mem_map.1 hu; rfl

set_option maxHeartbeats 1000000 in
theorem findTxt (m : Nat) (ks vs : Value) (l : List ByteArray) (ps : List ByteArray) (x : ByteArray) (w : World) (h : MapIsTxt w m ks vs l ps) :
  Calls Tryz.prog 107 #[.pointer (some ⟨m, 0, none⟩), .string x] w fun e w' => e = .returned (.tuple #[.int .i64 (posOf l x : Nat), .bool (hasN l x)]) ∧ w = w' := by
 obtain ⟨h1, h2, h3, h4, h5, h6, h7⟩ := h
 obtain ⟨ka, kc, rfl, hS⟩ := own_strs h2 (by omega)
 have c0 := h1.cell 0
 simp at c0
 have CB := hid (bs_names ka l.length kc l x w hS (by omega) h5)
 clear h1 h2 h3 h4 h5 hS
 go_enter Tryz.func107, Tryz.ntmps107
 go_wp2_with (go_at_call 138; refine CB.out.mono ?_; rintro e w' ⟨rfl, rfl⟩)
 go_ret2
 exact ⟨rfl, rfl⟩
/-- what is found -/
def getVTxt (l : List ByteArray) (ps : List ByteArray) (x : ByteArray) : ByteArray := if hasN l x = true then ps.getD (posOf l x) (⟨#[]⟩) else (⟨#[]⟩)
set_option maxHeartbeats 1000000 in
theorem getTxt (m : Nat) (ks vs : Value) (l : List ByteArray) (ps : List ByteArray) (x : ByteArray) (w : World) (h : MapIsTxt w m ks vs l ps) :
  Calls Tryz.prog 61 #[.pointer (some ⟨m, 0, none⟩), .string x] w fun e w' => e = .returned (.tuple #[encTxt (getVTxt l ps x), .bool (hasN l x)]) ∧ w = w' := by
 have CF := hid (findTxt m ks vs l ps x w h)
 obtain ⟨h1, h2, h3, h4, h5, h6, h7⟩ := h
 have hm := posOf_mem h5 x
 obtain ⟨va, vc, rfl, hvn⟩ := own_slice h3
 have c1 := h1.cell 1
 simp at c1
 obtain ⟨P, hP⟩ : ∃ P, posOf l x = P := ⟨_, rfl⟩
 unfold getVTxt
 rw [hP] at CF hm ⊢
 cases hh : hasN l x
 ·rw [hh] at CF
  rw [if_neg (by simp)]
  clear h1 h2 h3 h4 h5 hm hh hP
  unfold encTxt
  go_enter Tryz.func61, Tryz.ntmps61
  go_wp2_with (go_at_call 107; refine CF.out.mono ?_; rintro e w' ⟨rfl, rfl⟩)
  go_ret2
  exact ⟨rfl, rfl⟩
 ·rw [hh] at CF
  rw [if_pos rfl]
  have hlt := (hm.2 (hasN_iff.1 hh)).1
  have hcl := fun g => h3.cells (g := g)
  rcases h3.2 with ⟨e1, e2⟩ | ⟨g, cap, cur, e1, _, _, _⟩
  ·omega
  ·injection e1 with e2 e3 e4
   subst e2 e4
   have hc := hcl g rfl P (encTxt (ps.getD P (⟨#[]⟩))) (by rw [List.getElem?_map, List.getD_eq_getElem?_getD, List.getElem?_eq_getElem (by omega)]; rfl)
   rw [Addr.add_lit, Nat.zero_add] at hc
   obtain ⟨v, hv⟩ : ∃ v, ps.getD P (⟨#[]⟩) = v := ⟨_, rfl⟩
   rw [hv] at hc ⊢
   unfold encTxt at hc ⊢
   have hPl : P < ps.length := by omega
   clear h1 h2 h3 h4 h5 hm hh hP hcl hv
   go_enter Tryz.func61, Tryz.ntmps61
   go_wp2_with (go_at_call 107; refine CF.out.mono ?_; rintro e w' ⟨rfl, rfl⟩)
   go_ret2
   exact ⟨rfl, rfl⟩
/-- what a map's values are behind Put, behind Del -/
def putVTxt (l : List ByteArray) (ps : List ByteArray) (x : ByteArray) (v : ByteArray) : List ByteArray := if hasN l x = true then ps.set (posOf l x) v else ps.take (posOf l x) ++ v :: ps.drop (posOf l x)
theorem putN_lenTxt (l : List ByteArray) (ps : List ByteArray) (x : ByteArray) (v : ByteArray) (h : ps.length = l.length) : (putVTxt l ps x v).length = (putN l x).length := by
 have := posOf_le l x
 unfold putVTxt putN
 split
 ·simp [h]
 ·simp [h]
set_option maxHeartbeats 2000000 in
theorem putTxt_has (m : Nat) (ks vs : Value) (l : List ByteArray) (ps : List ByteArray) (x : ByteArray) (y : ByteArray) (w : World) (h : MapIsTxt w m ks vs l ps) (hh : hasN l x = true) :
  Calls Tryz.prog 62 #[.pointer (some ⟨m, 0, none⟩), .string x, encTxt y] w fun e w' => e = .returned (.bool false) ∧ MapIsTxt w' m ks vs (putN l x) (putVTxt l ps x y) ∧ Only (MapF m ks vs) w w' := by
 have CF := hid (findTxt m ks vs l ps x w h)
 have h0 := h
 obtain ⟨h1, h2, h3, h4, h5, h6, h7⟩ := h
 have hm := (posOf_mem h5 x).2 (hasN_iff.1 hh)
 have eN : putN l x = l := by unfold putN; rw [if_pos hh]
 have eV : putVTxt l ps x y = ps.set (posOf l x) y := by unfold putVTxt; rw [if_pos hh]
 rw [eN, eV]
 rw [hh] at CF
 obtain ⟨P, hP⟩ : ∃ P, posOf l x = P := ⟨_, rfl⟩
 rw [hP] at CF hm ⊢
 rcases h3.2 with ⟨rfl, e2⟩ | ⟨g, cap, cur, rfl, hb, hg, hnc, hcm, hsz, htk⟩
 ·omega
 ·unfold maxLen at hcm
  rw [Nat.mul_one] at hsz htk
  have B3 : Blk w g 9 cur := hg
  have c1 := h1.cell 1
  simp at c1
  have hgm : g ≠ m := B3.ne h1 (by decide)
  have cg : w.cell? ⟨g, P, none⟩ = some (encTxt (ps.getD P (⟨#[]⟩))) := by
   rw [B3.cell, ← Array.getElem?_toList, ← List.getElem?_take_of_lt (j := ps.length) (by omega), htk, List.getElem?_map, List.getD_eq_getElem?_getD, List.getElem?_eq_getElem (by omega)]; rfl
  have fg := B3.frozen P
  have HFIN : Hid (MapIsTxt (w.setCell ⟨g, P, none⟩ (encTxt y)) m ks (.slice (some ⟨g, 0, none⟩) ps.length cap) l (ps.set P y) ∧ Only (MapF m ks (.slice (some ⟨g, 0, none⟩) ps.length cap)) w (w.setCell ⟨g, P, none⟩ (encTxt y))) := by
   have O : Only (· = g) w (w.setCell ⟨g, P, none⟩ (encTxt y)) := (Only.refl (· = g) w).setCell (p := ⟨g, P, none⟩) (.inl rfl) _
   refine ⟨⟨h1.only O (fun e => hgm e.symm), own_only h2 O (fun k hk e => by subst e; exact h7 _ hk rfl), ?_, by simp [h4], h5, h6, h7⟩, O.mono (fun i hi => .inr (.inr (by rw [hi]; rfl)))⟩
   refine ⟨by simp, .inr ⟨g, cap, _, by rw [List.length_set], hb, B3.set P _, by simpa using hnc, by unfold maxLen; omega, by simp [hsz], ?_⟩⟩
   rw [List.length_set, Nat.mul_one, Array.toList_setIfInBounds, List.take_set, htk, List.map_set]
  obtain ⟨v0, hv0⟩ : ∃ v0, ps.getD P (⟨#[]⟩) = v0 := ⟨_, rfl⟩
  rw [hv0] at cg
  have hPl : P < ps.length := by omega
  unfold encTxt at cg HFIN ⊢
  clear h0 h1 h2 h3 h4 h5 hm hh hP hg htk hsz B3 hv0 hgm eN eV hb
  go_enter Tryz.func62, Tryz.ntmps62
  go_wp2_with (go_at_call 107; refine CF.out.mono ?_; rintro e w' ⟨rfl, rfl⟩)
  go_ret
  exact ⟨rfl, HFIN.out⟩

set_option maxHeartbeats 2000000 in
theorem putTxt_no (m : Nat) (ks vs : Value) (l : List ByteArray) (ps : List ByteArray) (x : ByteArray) (y : ByteArray) (w : World) (h : MapIsTxt w m ks vs l ps) (hh : hasN l x = false) (hl : l.length < 1000000) :
  Calls Tryz.prog 62 #[.pointer (some ⟨m, 0, none⟩), .string x, encTxt y] w fun e w' => e = .returned (.bool true) ∧ ∃ ks' vs', MapIsTxt w' m ks' vs' (putN l x) (putVTxt l ps x y) ∧ Only (MapF m ks vs) w w' ∧ (∀ k, MapF m ks' vs' k → MapF m ks vs k ∨ w.heap.size ≤ k) := by
 have CF := hid (findTxt m ks vs l ps x w h)
 obtain ⟨h1, h2, h3, h4, h5, h6, h7⟩ := h
 have hris := putN_rising h5 x
 have hlen := putN_lenTxt l ps x y h4
 have hple := posOf_le l x
 have eN : putN l x = l.take (posOf l x) ++ x :: l.drop (posOf l x) := by unfold putN; rw [if_neg (by simp [hh])]
 have eV : putVTxt l ps x y = ps.take (posOf l x) ++ y :: ps.drop (posOf l x) := by unfold putVTxt; rw [if_neg (by simp [hh])]
 rw [hh] at CF
 obtain ⟨P, hP⟩ : ∃ P, posOf l x = P := ⟨_, rfl⟩
 rw [hP] at CF hple eN eV
 have hlN : (putN l x).length = l.length + 1 := by rw [eN]; simp; omega
 have c0 := h1.cell 0
 have c1 := h1.cell 1
 have f0 := h1.frozen 0
 have f1 := h1.frozen 1
 simp at c0 c1
 have hml := h1.lt
 have A1 : Blk (w.alloc (.cells #[.string x] 9)) w.heap.size 9 #[.string x] := Blk.new w _ _
 have C1 := hid (insStr ks l.length P (svals l) (.string x) w.heap.size _ (h2.alloc _) (svals_one l) rfl hple (by omega) A1 (fun e => by have := own_lt h2 e; omega))
 have hkl : ∀ k, ks.ownBlock = some k → k < w.heap.size := fun k hk => own_lt h2 hk
 have K6 := hid hkl
 clear hkl
 have d1 := own_blk_ne h2 h1 (by decide)
 have d2 := own_blk_ne h3 h1 (by decide)
 have d3 : ∀ k, ks.ownBlock = some k → vs.ownBlock ≠ some k := h7
 have hvl : ∀ k, vs.ownBlock = some k → k < w.heap.size := fun k hk => own_lt h3 hk
 have G1 := hid h1; have G2 := hid h2; have G3 := hid h3
 have EN := hid eN; have EV := hid eV; have HR := hid hris; have HL := hid hlen; have HLN := hid hlN
 have hPp : P ≤ ps.length := by omega
 have hps : ps.length < 1000000 := by omega
 have K1 := hid d1; have K2 := hid d2; have K3 := hid d3; have K4 := hid hvl; have K5 := hid hml
 obtain ⟨ka, kc, rfl, hkc⟩ := own_slice h2
 obtain ⟨va, vc, rfl, hvc⟩ := own_slice h3
 clear h1 h2 h3 h4 h5 h6 hris hlen eN eV hh hP hlN d1 d2 d3 hvl A1
 unfold encTxt
 go_enter Tryz.func62, Tryz.ntmps62
 go_wp2_with fail
 refine CF.out.mono ?_; rintro e w' ⟨rfl, rfl⟩
 go_wp2_with fail
 refine C1.out.mono ?_; rintro e w1 ⟨k', rfl, o1, g1, b1⟩
 obtain ⟨ka', kc', rfl, hkc'⟩ := own_slice o1
 have B1 : Blk w1 m 189 #[.slice ka l.length kc, .slice va ps.length vc] := (G1.out.alloc _).grown g1 (fun e => K1.out e.symm)
 have V1 : w1.ownsRow 0 9 1 (.slice va ps.length vc) ps.length (ps.map encTxt) := (G3.out.alloc _).kept g1 (by
  cases hv : (Value.slice va ps.length vc).ownBlock with
  | none => exact .inl rfl
  | some k => exact .inr (fun e => K3.out k e.symm hv))
 have S1 : Hid (w.heap.size ≤ w1.heap.size) := by have := g1.size; simp at this; unfold Hid; omega
 clear c0 c1 f0 f1 hml
 have c0 := B1.cell 0
 have c1 := B1.cell 1
 have f0 := B1.frozen 0
 have f1 := B1.frozen 1
 simp at c0 c1
 have hml1 := B1.lt
 obtain ⟨w2, hw2⟩ : ∃ w2, w2 = w1.setCell ⟨m, 0, none⟩ (.slice ka' (l.length + 1) kc') := ⟨_, rfl⟩
 have O2 : Only (· = m) w1 w2 := by rw [hw2]; exact (Only.refl (· = m) w1).setCell (p := ⟨m, 0, none⟩) (.inl rfl) _
 have B2 : Blk w2 m 189 #[.slice ka' (l.length + 1) kc', .slice va ps.length vc] := by
  have := B1.set 0 (.slice ka' (l.length + 1) kc')
  rw [hw2]; simpa using this
 have kne : ∀ k, (Value.slice ka' (l.length + 1) kc').ownBlock = some k → k ≠ m := fun k hk e => by
  subst e
  rcases b1 with b1 | b1
  ·rw [b1] at hk; exact K1.out hk
  ·rw [b1] at hk; injection hk with hk; simp at hk; have := K5.out; omega
 have N2 : w2.ownsRow 0 9 1 (.slice ka' (l.length + 1) kc') (l.length + 1) ((svals l).take P ++ .string x :: (svals l).drop P) := own_only o1 O2 kne
 have V2 : w2.ownsRow 0 9 1 (.slice va ps.length vc) ps.length (ps.map encTxt) := own_only V1 O2 (fun k hk e => by subst e; exact K2.out hk)
 have Z2 : w2.heap.size = w1.heap.size := by rw [hw2]; simp [World.setCell]
 have A2 : Blk (w2.alloc (.cells #[encTxt y] 9)) w2.heap.size 9 #[encTxt y] := Blk.new w2 _ _
 have C2 := hid (insStr _ ps.length P (ps.map encTxt) (encTxt y) w2.heap.size _ (V2.alloc _) (encTxt_one ps) rfl hPp (by omega) A2 (fun e => by have := own_lt V2 e; omega))
 have H2 := hid B2; have HN2 := hid N2; have HV2 := hid V2; have HG1 := hid g1; have HB1 := hid b1; have HO2 := hid O2; have HW2 := hid hw2; have HZ2 := hid Z2; have HKN := hid kne
 have HSEP : Hid (∀ k, (Value.slice ka' (l.length + 1) kc').ownBlock = some k → (Value.slice va ps.length vc).ownBlock ≠ some k) := fun k hk hk' => by
  rcases b1 with b1 | b1
  ·rw [b1] at hk; exact K3.out k hk hk'
  ·rw [b1] at hk; injection hk with hk; simp at hk; have := K4.out k hk'; omega
 clear B1 B2 O2 V1 V2 N2 o1 Z2 g1 b1 A2 kne hw2
 unfold encTxt at C2
 go_wp2_with fail
 rw [← HW2.out, ← HZ2.out]
 refine C2.out.mono ?_; rintro e w3 ⟨v', rfl, o3, g3, b3⟩
 obtain ⟨va', vc', rfl, hvc'⟩ := own_slice o3
 have B3 : Blk w3 m 189 #[.slice ka' (l.length + 1) kc', .slice va ps.length vc] := (H2.out.alloc _).grown g3 (fun e => K2.out e.symm)
 clear c0 c1 f0 f1 hml1
 have c0 := B3.cell 0
 have c1 := B3.cell 1
 have f0 := B3.frozen 0
 have f1 := B3.frozen 1
 simp at c0 c1
 have HFIN : Hid (∃ ks' vs', MapIsTxt (w3.setCell ⟨m, 1, none⟩ (.slice va' (ps.length + 1) vc')) m ks' vs' (putN l x) (putVTxt l ps x y) ∧ Only (MapF m (.slice ka l.length kc) (.slice va ps.length vc)) w (w3.setCell ⟨m, 1, none⟩ (.slice va' (ps.length + 1) vc')) ∧ (∀ k, MapF m ks' vs' k → MapF m (.slice ka l.length kc) (.slice va ps.length vc) k ∨ w.heap.size ≤ k)) := by
  have vne : ∀ k, (Value.slice va' (ps.length + 1) vc').ownBlock = some k → k ≠ m := fun k hk e => by
   subst e
   rcases b3 with b3 | b3
   ·rw [b3] at hk; exact K2.out hk
   ·rw [b3] at hk; injection hk with hk; simp at hk; have := H2.out.lt; omega
  have O4 : Only (· = m) w3 (w3.setCell ⟨m, 1, none⟩ (.slice va' (ps.length + 1) vc')) := (Only.refl (· = m) w3).setCell (p := ⟨m, 1, none⟩) (.inl rfl) _
  refine ⟨.slice ka' (l.length + 1) kc', .slice va' (ps.length + 1) vc', ⟨?_, ?_, ?_, HL.out, HR.out, by rw [HLN.out]; omega, ?_⟩, ?_, ?_⟩
  ·have := B3.set 1 (.slice va' (ps.length + 1) vc')
   simpa using this
  ·have h1 : w3.ownsRow 0 9 1 (.slice ka' (l.length + 1) kc') (l.length + 1) ((svals l).take P ++ .string x :: (svals l).drop P) := (HN2.out.alloc _).kept g3 (by
    cases hv : (Value.slice ka' (l.length + 1) kc').ownBlock with
    | none => exact .inl rfl
    | some k => exact .inr (fun e => HSEP.out k hv e.symm))
   have h2 := own_only h1 O4 HKN.out
   rw [HLN.out, EN.out]
   unfold svals at h2 ⊢
   rw [List.map_append, List.map_cons, List.map_take, List.map_drop]
   exact h2
  ·have h2 := own_only o3 O4 vne
   have e1 : (putVTxt l ps x y).length = ps.length + 1 := by rw [EV.out]; simp; omega
   rw [e1, EV.out, List.map_append, List.map_cons, List.map_take, List.map_drop]
   exact h2
  ·intro k hk hk'
   rcases b3 with b3 | b3
   ·rw [b3] at hk'; exact HSEP.out k hk hk'
   ·rw [b3] at hk'; injection hk' with hk'; simp at hk'; have := own_lt HN2.out hk; omega
  ·have q0 := (Only.refl (MapF m (.slice ka l.length kc) (.slice va ps.length vc)) w).alloc (.cells #[.string x] 9)
   have q1 := q0.grown HG1.out (fun k hk => .inl (.inr (.inl hk)))
   have q2 : Only (MapF m (.slice ka l.length kc) (.slice va ps.length vc)) w w2 := q1.trans HO2.out (fun i hi => .inl (.inl hi))
   have q3 := (q2.alloc (.cells #[encTxt y] 9)).grown g3 (fun k hk => .inl (.inr (.inr hk)))
   exact q3.setCell (p := ⟨m, 1, none⟩) (.inl (.inl rfl)) _
  ·rintro k (h | h | h)
   ·exact .inl (.inl h)
   ·rcases HB1.out with b1 | b1
    ·rw [b1] at h; exact .inl (.inr (.inl h))
    ·rw [b1] at h; injection h with h; simp at h; exact .inr (by omega)
   ·rcases b3 with b3 | b3
    ·rw [b3] at h; exact .inl (.inr (.inr h))
    ·rw [b3] at h; injection h with h; simp at h; have := S1.out; have := HZ2.out; exact .inr (by omega)
 clear o3 g3 b3 B3
 go_wp2_with fail
 go_ret
 exact ⟨rfl, HFIN.out⟩
theorem putTxt_any (m : Nat) (ks vs : Value) (l : List ByteArray) (ps : List ByteArray) (x : ByteArray) (y : ByteArray) (w : World) (h : MapIsTxt w m ks vs l ps) (hl : l.length < 1000000) :
  Calls Tryz.prog 62 #[.pointer (some ⟨m, 0, none⟩), .string x, encTxt y] w fun e w' => e = .returned (.bool (!hasN l x)) ∧ ∃ ks' vs', MapIsTxt w' m ks' vs' (putN l x) (putVTxt l ps x y) ∧ Only (MapF m ks vs) w w' ∧ (∀ k, MapF m ks' vs' k → MapF m ks vs k ∨ w.heap.size ≤ k) := by
 cases hh : hasN l x
 ·exact putTxt_no m ks vs l ps x y w h hh hl
 ·refine (putTxt_has m ks vs l ps x y w h hh).mono ?_
  rintro e w' ⟨rfl, h1, h2⟩
  exact ⟨rfl, ks, vs, h1, h2, fun _ h => .inl h⟩
end Go.Proofs.YtmpjdoiogbbcoaaGreatDoor
/- The shelf's map of texts under texts, plain: as a table of what is found. -/
namespace Go.Proofs.YtmpjdoiogbbcoaaGreatDoor
open Go.RowKit
set_option linter.unusedVariables false
set_option linter.unusedSimpArgs false

/-- what a map holds under a key -/
def getO (l ps : List ByteArray) (q : ByteArray) : Option ByteArray := if hasN l q = true then some (ps.getD (posOf l q) ⟨#[]⟩) else none
theorem getO_iff {l ps : List ByteArray} (hr : Rising l) (hl : ps.length = l.length) {q v : ByteArray} : getO l ps q = some v ↔ (q, v) ∈ l.zip ps := by
 have hm := posOf_mem hr q
 unfold getO
 constructor
 ·intro h
  split at h
  ·rename_i hh
   obtain ⟨h1, h2⟩ := hm.2 (hasN_iff.1 hh)
   have h3 : posOf l q < ps.length := by omega
   rw [List.getD_eq_getElem?_getD, List.getElem?_eq_getElem h1] at h2
   rw [List.getD_eq_getElem?_getD, List.getElem?_eq_getElem h3] at h
   have h2 : l[posOf l q] = q := h2
   have h : ps[posOf l q] = v := Option.some.inj h
   have h4 : posOf l q < (l.zip ps).length := by rw [List.length_zip]; omega
   have h5 := List.getElem_mem h4
   rw [List.getElem_zip] at h5
   rw [h2, h] at h5
   exact h5
  ·cases h
 ·intro h
  obtain ⟨i, hi, he⟩ := List.getElem_of_mem h
  rw [List.length_zip] at hi
  rw [List.getElem_zip] at he
  have e1 : l[i] = q := congrArg Prod.fst he
  have e2 : ps[i] = v := congrArg Prod.snd he
  have hq : q ∈ l := e1 ▸ List.getElem_mem _
  rw [if_pos (hasN_iff.2 hq)]
  obtain ⟨h1, h2⟩ := hm.2 hq
  rw [List.getD_eq_getElem?_getD, List.getElem?_eq_getElem h1] at h2
  have h2 : l[posOf l q] = q := h2
  have hx : posOf l q = i := by
   rcases Nat.lt_trichotomy (posOf l q) i with h | h | h
   ·exact absurd (h2.trans e1.symm) (List.pairwise_iff_getElem.1 (rising_nodup hr) _ _ _ _ h)
   ·exact h
   ·exact absurd (e1.trans h2.symm) (List.pairwise_iff_getElem.1 (rising_nodup hr) _ _ _ _ h)
  rw [hx, List.getD_eq_getElem?_getD, List.getElem?_eq_getElem (by omega), ← e2]; rfl
theorem zip_cut {α β : Type} (l : List α) (ps : List β) (p : Nat) : l.zip ps = (l.take p).zip (ps.take p) ++ (l.drop p).zip (ps.drop p) := by
 induction p generalizing l ps with
 | zero => simp
 | succ p ih =>
  cases l with
  | nil => simp
  | cons a l =>
   cases ps with
   | nil => simp
   | cons b ps => simp only [List.zip_cons_cons, List.take_succ_cons, List.drop_succ_cons, List.cons_append]; rw [ih l ps]
theorem put_zip {l ps : List ByteArray} (hr : Rising l) (hl : ps.length = l.length) (x y q v : ByteArray) : (q, v) ∈ (putN l x).zip (putVTxt l ps x y) ↔ (q = x ∧ v = y) ∨ (q ≠ x ∧ (q, v) ∈ l.zip ps) := by
 have hm := posOf_mem hr x
 have hple := posOf_le l x
 obtain ⟨p, hp⟩ : ∃ p, posOf l x = p := ⟨_, rfl⟩
 unfold putN putVTxt
 cases hh : hasN l x
 ·rw [if_neg (by simp), if_neg (by simp), hp]
  have hx := hasN_no.1 hh
  have e : (l.take p ++ x :: l.drop p).zip (ps.take p ++ y :: ps.drop p) = (l.take p).zip (ps.take p) ++ (x, y) :: (l.drop p).zip (ps.drop p) := by
   rw [List.zip_append (by rw [List.length_take, List.length_take]; omega)]; rfl
  rw [e, zip_cut l ps p]
  simp only [List.mem_append, List.mem_cons, Prod.mk.injEq]
  have n1 : (q, v) ∈ (l.take p).zip (ps.take p) → q ≠ x := fun h e => hx (e ▸ List.mem_of_mem_take (List.of_mem_zip h).1)
  have n2 : (q, v) ∈ (l.drop p).zip (ps.drop p) → q ≠ x := fun h e => hx (e ▸ List.mem_of_mem_drop (List.of_mem_zip h).1)
  constructor
  ·rintro (h | h | h)
   ·exact .inr ⟨n1 h, .inl h⟩
   ·exact .inl h
   ·exact .inr ⟨n2 h, .inr h⟩
  ·rintro (h | ⟨_, h | h⟩)
   ·exact .inr (.inl h)
   ·exact .inl h
   ·exact .inr (.inr h)
 ·rw [if_pos rfl, if_pos rfl, hp]
  obtain ⟨h1, h2⟩ := hm.2 (hasN_iff.1 hh)
  rw [hp] at h1 h2
  rw [List.getD_eq_getElem?_getD, List.getElem?_eq_getElem h1] at h2
  have h2 : l[p] = x := h2
  have hpp : p < ps.length := by omega
  have e : l.zip (ps.set p y) = (l.take p).zip (ps.take p) ++ (x, y) :: (l.drop (p + 1)).zip (ps.drop (p + 1)) := by
   rw [zip_cut l (ps.set p y) p, List.take_set_of_le (Nat.le_refl _), List.drop_eq_getElem_cons h1, List.drop_eq_getElem_cons (l := ps.set p y) (by simpa using hpp), h2]
   simp [List.drop_set_of_lt]
  have e2 : l.zip ps = (l.take p).zip (ps.take p) ++ (x, ps[p]) :: (l.drop (p + 1)).zip (ps.drop (p + 1)) := by
   rw [zip_cut l ps p, List.drop_eq_getElem_cons h1, List.drop_eq_getElem_cons hpp, h2]; rfl
  have hnd := rising_nodup hr
  have hsplit : l = l.take p ++ x :: l.drop (p + 1) := by
   rw [← h2, ← List.drop_eq_getElem_cons h1, List.take_append_drop]
  rw [hsplit] at hnd
  obtain ⟨d1, d2, d3⟩ := List.nodup_append.1 hnd
  have n1 : (q, v) ∈ (l.take p).zip (ps.take p) → q ≠ x := fun h => d3 q (List.of_mem_zip h).1 x (List.mem_cons_self ..)
  have n2 : (q, v) ∈ (l.drop (p + 1)).zip (ps.drop (p + 1)) → q ≠ x := fun h e => (List.nodup_cons.1 d2).1 (e ▸ (List.of_mem_zip h).1)
  rw [e, e2]
  simp only [List.mem_append, List.mem_cons, Prod.mk.injEq]
  constructor
  ·rintro (h | h | h)
   ·exact .inr ⟨n1 h, .inl h⟩
   ·exact .inl h
   ·exact .inr ⟨n2 h, .inr (.inr h)⟩
  ·rintro (h | ⟨h0, h | h | h⟩)
   ·exact .inr (.inl h)
   ·exact .inl h
   ·exact absurd h.1 h0
   ·exact .inr (.inr h)
theorem getO_put {l ps : List ByteArray} (hr : Rising l) (hl : ps.length = l.length) (x y : ByteArray) : getO (putN l x) (putVTxt l ps x y) = fun q => if q = x then some y else getO l ps q := by
 funext q
 refine Option.ext fun v => ?_
 rw [getO_iff (putN_rising hr x) (putN_lenTxt l ps x y hl), put_zip hr hl]
 by_cases hq : q = x
 ·rw [if_pos hq]
  simp only [hq, true_and, ne_eq, not_true_eq_false, false_and, or_false, Option.some.injEq]
  exact eq_comm
 ·rw [if_neg hq, getO_iff hr hl]
  simp [hq]
theorem getV_O (l ps : List ByteArray) (q : ByteArray) : getVTxt l ps q = (getO l ps q).getD ByteArray.empty := by
 unfold getVTxt getO
 split <;> rfl
theorem has_O (l ps : List ByteArray) (q : ByteArray) : hasN l q = (getO l ps q).isSome := by
 unfold getO
 cases hasN l q <;> simp
end Go.Proofs.YtmpjdoiogbbcoaaGreatDoor
/- Layer 15's laws: whether two unlike texts have one digest (shown). -/
namespace Go.Proofs.YtmpjdoiogbbcoaaGreatDoor
open Go.RowKit Book Pap Ojt Sn
set_option linter.unusedVariables false
set_option linter.unusedSimpArgs false

theorem newTxt_any (w : World) : Calls Tryz.prog 59 #[] w fun e w' => e = .returned (.pointer (some ⟨w.heap.size, 0, none⟩)) ∧ MapIsTxt w' w.heap.size (.slice none 0 0) (.slice none 0 0) [] [] ∧ Below w.heap.size w w' := by
 have HX : Hid (Blk (w.alloc (.cells #[.slice none 0 0, .slice none 0 0] 189)) w.heap.size 189 #[.slice none 0 0, .slice none 0 0]) := Blk.new w _ _
 have HB : Hid (Below w.heap.size w (w.alloc (.cells #[.slice none 0 0, .slice none 0 0] 189))) := (Below.refl _ _).alloc (Nat.le_refl _) _
 go_enter Tryz.func59, Tryz.ntmps59
 go_wp2_with fail
 go_ret
 exact ⟨rfl, ⟨HX.out, World.ownsRow_nil _ _ _ _, World.ownsRow_nil _ _ _ _, rfl, List.Pairwise.nil, Nat.zero_le _, fun k hk => by simp [Value.ownBlock] at hk⟩, HB.out⟩
def ShownOut (l : List ByteArray) (w : World) (e : Ending) (w' : World) : Prop := ∃ b : Bool, e = .returned (.bool b) ∧ (b = false → Sw.Apart l) ∧ Below w.heap.size w w'
set_option maxRecDepth 100000 in
set_option maxHeartbeats 8000000 in
theorem shown_any (a : Option Addr) (n c : Nat) (l : List ByteArray) (w : World) (h : StrsAt w a n l) (hn : n ≤ 100000) (hz : ∀ s ∈ l, s.size ≤ 1000000000) :
  Calls Tryz.prog 21 #[.slice a n c] w (ShownOut l w) := by
 have HS := hid h
 have HL := hid h.1
 have HZ := hid hz
 have HN := hid (newTxt_any w)
 clear h hz
 go_enter Tryz.func21, Tryz.ntmps21
 go_wp2_with fail
 refine HN.out.mono ?_; rintro e w1 ⟨rfl, hm1, hb1⟩
 have HM1 := hid hm1
 have HB1 := hid hb1
 generalize hg : w.heap.size = g at HM1 HB1 ⊢
 have HG := hid hg
 clear hg hm1 hb1 HN
 go_wp2_with fail
 go_loopw [4] (fun iv wr => ∃ i : Nat, i ≤ n ∧ iv = .int .i64 i ∧ Hid (∃ ks vs kl ps, MapIsTxt wr g ks vs kl ps ∧ kl.length ≤ i ∧ (∀ k, MapF g ks vs k → g ≤ k) ∧ ∀ t ∈ l.take i, getO kl ps (Sw.idOf t) = some t) ∧ Hid (Below g w wr)) (fun iv _ => n - (intOf iv).toNat)
 case atStart => exact ⟨0, Nat.zero_le _, rfl, ⟨_, _, [], [], HM1.out, Nat.zero_le _, fun k hk => by rcases hk with e | e | e <;> first | (rw [e]; exact Nat.le_refl _) | simp [Value.ownBlock] at e, fun t ht => by cases ht⟩, HB1⟩
 case round =>
  obtain ⟨i, hi, rfl, HM, HB⟩ := hrel
  by_cases hlt : i < n
  ·have ci : (i : Int) < n := by omega
   have ci0 : (0 : Int) ≤ (i : Int) := by omega
   obtain ⟨-, -, h3⟩ := HS.out.later (by rw [HG.out]; exact HB.out)
   obtain ⟨b, off, rfl, hc⟩ := h3.resolve_left (by omega)
   have q0 := hc i hlt
   have hil : i < l.length := by rw [HL.out]; exact hlt
   have hsz := HZ.out (l.getD i ByteArray.empty) (by rw [List.getD_eq_getElem?_getD, List.getElem?_eq_getElem hil]; exact List.getElem_mem hil)
   have HT : Hid (l.take (i + 1) = l.take i ++ [l.getD i ByteArray.empty]) := by
    show _ = _
    rw [List.take_succ_eq_append_getElem hil, List.getD_eq_getElem?_getD, List.getElem?_eq_getElem hil]; rfl
   obtain ⟨s, hs⟩ : ∃ s, l.getD i ByteArray.empty = s := ⟨_, rfl⟩
   rw [hs] at q0 hsz HT
   have HID := hid (objid_id s hsz wr)
   have hgr : g ≤ wr.heap.size := by have := HB.out.size; rw [HG.out] at this; exact this
   have hbb := World.block_lt_of_cell? wr _ q0
   clear hs hc h3 hil hsz
   go_wp2_with fail
   refine HID.out.mono ?_; rintro e w2 ⟨rfl, hb2⟩
   have q1 : w2.cell? ⟨b, off + i, none⟩ = some (.string s) := (hb2.cell (p := ⟨b, off + i, none⟩) hbb).trans q0
   have HB2 : Hid (Below g w w2) := HB.out.trans (hb2.mono hgr)
   have hg2 : g ≤ w2.heap.size := Nat.le_trans hgr hb2.size
   obtain ⟨ks, vs, kl, ps, hm, hkl, hkf, hkt⟩ := HM.out
   have hm2 : MapIsTxt w2 g ks vs kl ps := by
    obtain ⟨x1, x2, x3, x4, x5, x6, x7⟩ := hm
    exact ⟨(hb2.block g (Blk.lt x1)).trans x1, own_below x2 hb2, own_below x3 hb2, x4, x5, x6, x7⟩
   have HM2 := hid hm2
   have HKF := hid hkf
   have HKT := hid hkt
   have HGE := hid (getTxt g ks vs kl ps (Sw.idOf s) w2 hm2)
   have HPU := hid (fun (y : ByteArray) => putTxt_any g ks vs kl ps (Sw.idOf s) y w2 hm2 (by omega))
   have hgv := getV_O kl ps (Sw.idOf s)
   have hho := has_O kl ps (Sw.idOf s)
   rw [hgv, hho] at HGE
   unfold encTxt at HGE
   obtain ⟨o, ho⟩ : ∃ o, getO kl ps (Sw.idOf s) = o := ⟨_, rfl⟩
   rw [ho] at HGE
   have HO := hid ho
   obtain ⟨idv, hidv⟩ : ∃ z, Sw.idOf s = z := ⟨_, rfl⟩
   have HIV := hid hidv
   rw [hidv] at HGE HPU ⊢
   clear hm hm2 hkf hkt HM hb2 hgv hho ho hidv q0 HID HB
   by_cases hbad : o.isSome = true ∧ o.getD ByteArray.empty ≠ s
   ·obtain ⟨y, rfl⟩ : ∃ y, o = some y := by
     cases o with
     | none => cases hbad.1
     | some y => exact ⟨y, rfl⟩
    have hne : y ≠ s := hbad.2
    have e1 : (y.toList == s.toList) = false := by
     rw [ba_toList, ba_toList, beq_eq_false_iff_ne]
     exact fun e => hne (ba_ext e)
    have e2 : (y.toList != s.toList) = true := by simp only [bne, e1, Bool.not_false]
    have HGE2 : Hid (Calls Tryz.prog 61 #[.pointer (some ⟨g, 0, none⟩), .string idv] w2 fun e w' => e = .returned (.tuple #[.string y, .bool true]) ∧ w2 = w') := HGE.out
    clear hbad HGE HPU
    go_wp2_with fail
    refine HGE2.out.mono ?_; rintro e w3 ⟨rfl, rfl⟩
    go_wp2_with fail
    go_ret
    unfold ShownOut
    rw [HG.out]
    exact ⟨true, rfl, (fun h => by cases h), HB2.out⟩
   ·have hgood : ∀ t ∈ l.take i, Sw.idOf t = Sw.idOf s → t = s := fun t ht e => by
     have h1 := HKT.out t ht
     rw [e, HO.out] at h1
     refine Decidable.byContradiction fun hne => hbad ?_
     rw [h1]
     exact ⟨rfl, hne⟩
    have HNEXT : Hid (∀ W, (∃ ks' vs', MapIsTxt W g ks' vs' (putN kl (Sw.idOf s)) (putVTxt kl ps (Sw.idOf s) s) ∧ Only (MapF g ks vs) w2 W ∧ (∀ k, MapF g ks' vs' k → MapF g ks vs k ∨ w2.heap.size ≤ k)) →
      (∃ ks vs kl ps, MapIsTxt W g ks vs kl ps ∧ kl.length ≤ i + 1 ∧ (∀ k, MapF g ks vs k → g ≤ k) ∧ ∀ t ∈ l.take (i + 1), getO kl ps (Sw.idOf t) = some t) ∧ Below g w W) := by
     rintro W ⟨ks', vs', x1, x2, x3⟩
     have hris := HM2.out.2.2.2.2.1
     have hlen := HM2.out.2.2.2.1
     refine ⟨⟨ks', vs', _, _, x1, ?_, fun k hk => (x3 k hk).elim (HKF.out k) (fun e => Nat.le_trans hg2 e), fun t ht => ?_⟩, HB2.out.trans (x2.below (fun k hk => HKF.out k hk) hg2)⟩
     ·unfold putN
      split
      ·omega
      ·rw [List.length_append, List.length_cons, List.length_take, List.length_drop]; omega
     ·rw [getO_put hris hlen]
      rw [HT.out] at ht
      by_cases hq : Sw.idOf t = Sw.idOf s
      ·simp only [if_pos hq]
       rcases List.mem_append.1 ht with ht | ht
       ·rw [hgood t ht hq]
       ·rw [List.mem_singleton.1 ht]
      ·simp only [if_neg hq]
       rcases List.mem_append.1 ht with ht | ht
       ·exact HKT.out t ht
       ·rw [List.mem_singleton.1 ht] at hq; exact absurd rfl hq
    have HPU2 : Hid (Calls Tryz.prog 62 #[.pointer (some ⟨g, 0, none⟩), .string idv, .string s] w2 fun e w' => (∃ b : Bool, e = .returned (.bool b)) ∧ ((∃ ks vs kl ps, MapIsTxt w' g ks vs kl ps ∧ kl.length ≤ i + 1 ∧ (∀ k, MapF g ks vs k → g ≤ k) ∧ ∀ t ∈ l.take (i + 1), getO kl ps (Sw.idOf t) = some t) ∧ Below g w w')) := by
     refine (HPU.out s).mono ?_
     rintro e w' ⟨rfl, ks', vs', y1, y2, y3⟩
     rw [← HIV.out] at y1
     exact ⟨⟨_, rfl⟩, HNEXT.out w' ⟨ks', vs', y1, y2, y3⟩⟩
    clear HPU HNEXT hgood HKT HKF HM2 HIV
    have HEND : Hid (∀ W, (∃ ks vs kl ps, MapIsTxt W g ks vs kl ps ∧ kl.length ≤ i + 1 ∧ (∀ k, MapF g ks vs k → g ≤ k) ∧ ∀ t ∈ l.take (i + 1), getO kl ps (Sw.idOf t) = some t) ∧ Below g w W → True) := fun _ _ => trivial
    cases o with
    | none =>
     have HGE2 : Hid (Calls Tryz.prog 61 #[.pointer (some ⟨g, 0, none⟩), .string idv] w2 fun e w' => e = .returned (.tuple #[.string ⟨#[]⟩, .bool false]) ∧ w2 = w') := HGE.out
     clear hbad HGE
     go_wp2_with fail
     refine HGE2.out.mono ?_; rintro e w3 ⟨rfl, rfl⟩
     go_wp2_with fail
     refine HPU2.out.mono ?_; rintro e w4 ⟨⟨bb, rfl⟩, hmn, hbn⟩
     have HMN := hid hmn
     have HBN := hid hbn
     clear hmn hbn
     go_wp2_with fail
     go_roundw
     case rel => first | exact ⟨i + 1, by omega, by go_num, HMN, HBN⟩ | ((repeat apply Exists.intro); exact ⟨⟨i + 1, by omega, by go_num, HMN, HBN⟩, rfl⟩)
     case measure => simp [intOf]; omega
    | some y =>
     have hys : y = s := Decidable.byContradiction fun hne => hbad ⟨rfl, hne⟩
     have e1 : (y.toList == s.toList) = true := by rw [hys]; simp
     have e2 : (y.toList != s.toList) = false := by simp only [bne, e1, Bool.not_true]
     have HGE2 : Hid (Calls Tryz.prog 61 #[.pointer (some ⟨g, 0, none⟩), .string idv] w2 fun e w' => e = .returned (.tuple #[.string y, .bool true]) ∧ w2 = w') := HGE.out
     clear hbad HGE hys
     go_wp2_with fail
     refine HGE2.out.mono ?_; rintro e w3 ⟨rfl, rfl⟩
     go_wp2_with fail
     refine HPU2.out.mono ?_; rintro e w4 ⟨⟨bb, rfl⟩, hmn, hbn⟩
     have HMN := hid hmn
     have HBN := hid hbn
     clear hmn hbn
     go_wp2_with fail
     go_roundw
     case rel => first | exact ⟨i + 1, by omega, by go_num, HMN, HBN⟩ | ((repeat apply Exists.intro); exact ⟨⟨i + 1, by omega, by go_num, HMN, HBN⟩, rfl⟩)
     case measure => simp [intOf]; omega
  ·obtain rfl : i = n := by omega
   have ci : ¬ (i : Int) < i := by omega
   have HAP : Hid (Sw.Apart l) := by
    obtain ⟨ks, vs, kl, ps, hm, hkl, hkf, hkt⟩ := HM.out
    rw [List.take_of_length_le (by rw [HL.out]; exact Nat.le_refl _)] at hkt
    intro x hx y hy e
    have h1 := hkt x hx
    rw [e, hkt y hy] at h1
    exact (Option.some.inj h1).symm
   go_wp2_with fail
   go_ret
   unfold ShownOut
   rw [HG.out]
   exact ⟨false, rfl, fun _ => HAP.out, HB.out⟩
end Go.Proofs.YtmpjdoiogbbcoaaGreatDoor
/- Layer 15's laws: files in the order of their paths (sorted). -/
namespace Go.Proofs.YtmpjdoiogbbcoaaGreatDoor
open Go.RowKit Book Pap Ojt Sn
set_option linter.unusedVariables false
set_option linter.unusedSimpArgs false

end Go.Proofs.YtmpjdoiogbbcoaaGreatDoor
/- Layer 15's laws: what is appended to an own row may be an empty or a nil slice too; files and texts that lie anywhere. -/
namespace Go.Proofs.YtmpjdoiogbbcoaaGreatDoor
open Go.RowKit Book Pap Ojt Sn
set_option linter.unusedVariables false
set_option linter.unusedSimpArgs false

/-- what lies where an append reads -/
def NewsAt (w : World) (size : Nat) (a : Option Addr) (m : Nat) (news : List Value) : Prop :=
 (m = 0 ∧ news = []) ∨ ∃ ad, a = some ad ∧ news.length = m * size ∧ (∀ j u, news[j]? = some u → w.cell? (ad.add j) = some u) ∧ (∀ u ∈ news, u.oneCell' = true)
theorem run_append_any {P : Program} (w : World) (base : Nat) (t ty e : TypeId) (i : TypeInfo) (z : Value) (size bytes : Nat) (ht : P.underlying t = some (.slice e)) (hi : P.info? e = some i) (hz : i.zero = some z)
  (hsize : i.size = size) (hby : i.bytes = bytes) (hzs : z.cells.size = size) (hsz : 0 < size) (v : Value) (n : Nat) (xs : List Value) (hown : w.ownsRow base e size v n xs)
  (a : Option Addr) (m c : Nat) (news : List Value) (hx : NewsAt w size a m news) (h63 : n + m ≤ maxLen) (hbytes : (n + m) * bytes ≤ 140737488355328) (hbase : base ≤ w.heap.size) :
  ∃ a' c' w', (Builtin.append_ #[t, t] ty #[v, .slice a m c]).run P w = .ok (.slice a' (n + m) c') w' ∧ w'.ownsRow base e size (.slice a' (n + m) c') (n + m) (xs ++ news) ∧ ∀ V : World, Below base V w → Below base V w' := by
 rcases hx with ⟨rfl, rfl⟩ | ⟨ad, rfl, hl, hnews, h1⟩
 ·obtain ⟨va, vc, rfl, hvc⟩ := own_slice' hown
  have hsrc : Src P i.size t (.slice a 0 c) 0 [] w := by
   cases a with
   | none => exact Src.ofNil w ht c
   | some ad => exact Src.ofSlice w ht ad 0 c [] (by simp) (fun j u h => by cases h) (fun u h => by cases h)
  refine ⟨va, vc, w, run_append_nothing w t t ty e i ht hi va n vc hvc (.slice a 0 c) hsrc, ?_, fun _ h => h⟩
  rw [Nat.add_zero, List.append_nil]; exact hown
 ·obtain ⟨v', w', hr, h2, h3, h4, h5⟩ := run_append_own_at (P := P) w base t ty e i z size bytes ht hi hz hsize hby hzs hsz v n xs hown ad m c news hl hnews h1 h63 hbytes hbase
  obtain ⟨va, vc, rfl, hvc⟩ := own_slice' h2
  exact ⟨va, vc, w', hr, h2, fun V hV => hV.grown h3 hbase (fun k hk => (hown.lt k hk).1)⟩
theorem FisAt.news {w : World} {a : Option Addr} {m : Nat} {l : List Fi} (h : FisAt w a m l) : NewsAt w 2 a m (fivals l) := by
 obtain ⟨h1, h2, h3⟩ := h
 rcases h3 with rfl | ⟨b, off, rfl, hc⟩
 ·exact .inl ⟨rfl, by rw [List.length_eq_zero_iff.1 h1]; rfl⟩
 ·refine .inr ⟨_, rfl, by rw [fivals_length, h1], fun j u hu => ?_, fun u hu => ?_⟩
  ·have hj : j < m * 2 := by
    have := (List.getElem?_eq_some_iff.1 hu).1
    rw [fivals_length, h1] at this; exact this
   have hq : j / 2 < m := by omega
   obtain ⟨x0, x1⟩ := fivals_get l (j / 2) (by omega)
   obtain ⟨c0, c1⟩ := hc (j / 2) hq
   rw [Addr.add_lit]
   rcases Nat.mod_two_eq_zero_or_one j with hm | hm
   ·have e : j = j / 2 * 2 := by omega
    rw [e, x0] at hu
    rw [e, c0]; exact hu
   ·have e : j = j / 2 * 2 + 1 := by omega
    rw [e, x1] at hu
    rw [e, ← Nat.add_assoc, c1]; exact hu
  ·unfold fivals at hu
   obtain ⟨f, -, hf⟩ := List.mem_flatMap.1 hu
   unfold ficells at hf
   simp only [List.mem_cons, List.not_mem_nil, or_false] at hf
   rcases hf with rfl | rfl <;> rfl
theorem StrsAt.news {w : World} {a : Option Addr} {m : Nat} {l : List ByteArray} (h : StrsAt w a m l) : NewsAt w 1 a m (svals l) := by
 obtain ⟨h1, h2, h3⟩ := h
 rcases h3 with rfl | ⟨b, off, rfl, hc⟩
 ·exact .inl ⟨rfl, by rw [List.length_eq_zero_iff.1 h1]; rfl⟩
 ·refine .inr ⟨_, rfl, by unfold svals; rw [List.length_map, h1, Nat.mul_one], fun j u hu => ?_, fun u hu => ?_⟩
  ·unfold svals at hu
   rw [List.getElem?_map] at hu
   have hj : j < l.length := by
    rcases Nat.lt_or_ge j l.length with h | h
    ·exact h
    ·rw [List.getElem?_eq_none h] at hu; cases hu
   rw [Addr.add_lit, hc j (by omega), List.getD_eq_getElem?_getD]
   rw [List.getElem?_eq_getElem hj] at hu ⊢
   exact hu
  ·unfold svals at hu
   obtain ⟨s, -, rfl⟩ := List.mem_map.1 hu
   rfl
theorem wp_append_strs {o : Oper} {a : Act} {w : World} {K : Act → World → Prop} {Q : Exit → Act → World → Prop} (s x : Operand)
  (ho : o.op = .call { callee := .builtin .append, args := #[s, x], argTypes := #[40, 40] })
  (base : Nat) (v : Value) (n : Nat) (xs : List ByteArray) (hs : a.eval s = v) (hown : w.ownsRow base 9 1 v n (svals xs)) (ao : Option Addr) (m c : Nat) (l : List ByteArray) (hx : a.eval x = .slice ao m c) (hl : StrsAt w ao m l)
  (hb : n + m ≤ 1000000) (hbase : base ≤ w.heap.size)
  (h : ∀ a' c' w', w'.ownsRow base 9 1 (.slice a' (n + m) c') (n + m) (svals (xs ++ l)) → (∀ V : World, Below base V w → Below base V w') → K (a.put o.dst (.slice a' (n + m) c')) w') : o.wp Tryz.prog a w K Q := by
 obtain ⟨i0, hi0, hz0, hz1, hz2⟩ := info_parts Tryz.infoS
 obtain ⟨a', c', w', hr, h2, h3⟩ := run_append_any (P := Tryz.prog) w base 40 o.type 9 i0 _ 1 16 Tryz.underlying40 hi0 hz0 hz1 hz2 rfl (by decide) v n (svals xs) hown ao m c (svals l) hl.news (by unfold maxLen; omega) (by omega) hbase
 unfold Oper.wp execOp
 simp only [ho, resolve, invoke, builtin, Sem.run_bind, Sem.run_pure, Result.andThen_ok, List.map_toArray, List.map_cons, List.map_nil, hs, hx, hr]
 exact h a' c' w' (by unfold svals at h2 ⊢; rw [List.map_append]; exact h2) h3
theorem wpList_append_strs {ops : Array Oper} {rest : List Oper} {o : Oper} {a : Act} {w : World} {Q : Exit → Act → World → Prop} (hgd : Region.wanted o (yielded ops a.tmps) = true) (s x : Operand)
  (ho : o.op = .call { callee := .builtin .append, args := #[s, x], argTypes := #[40, 40] })
  (base : Nat) (v : Value) (n : Nat) (xs : List ByteArray) (hs : a.eval s = v) (hown : w.ownsRow base 9 1 v n (svals xs)) (ao : Option Addr) (m c : Nat) (l : List ByteArray) (hx : a.eval x = .slice ao m c) (hl : StrsAt w ao m l)
  (hb : n + m ≤ 1000000) (hbase : base ≤ w.heap.size)
  (h : ∀ a' c' w', w'.ownsRow base 9 1 (.slice a' (n + m) c') (n + m) (svals (xs ++ l)) → (∀ V : World, Below base V w → Below base V w') → wpList Tryz.prog ops Q rest (a.put o.dst (.slice a' (n + m) c')) w') :
  wpList Tryz.prog ops Q (o :: rest) a w :=
 BigFrame.wpList_want hgd fun K hK => wp_append_strs s x ho base v n xs hs hown ao m c l hx hl hb hbase fun a' c' w' h1 h2 => hK _ _ (h a' c' w' h1 h2)
theorem own_texts {w : World} {B : Nat} {v : Value} {n : Nat} {l : List ByteArray} (h : w.ownsRow B 9 1 v n (svals l)) (hm : n ≤ 9223372036854775807) : ∃ a c, v = .slice a n c ∧ StrsAt w a n l := by
 obtain rfl : l.length = n := by have := h.1; unfold svals at this; rw [List.length_map] at this; omega
 exact own_strs h hm
theorem own_noneSt (w : World) : (w.alloc (.cells #[] 9)).ownsRow w.heap.size 9 1 (.slice (some ⟨w.heap.size, 0, none⟩) 0 0) 0 (svals []) :=
 ⟨rfl, .inr ⟨w.heap.size, 0, #[], rfl, Nat.le_refl _, by show (w.heap.push _)[w.heap.size]? = _; simp, Nat.le_refl _, by unfold maxLen; omega, rfl, rfl⟩⟩
end Go.Proofs.YtmpjdoiogbbcoaaGreatDoor
/- A queue of texts: a slice that is cut at its front and appended to (an own row that begins anywhere in its block). -/
namespace Go.Proofs.YtmpjdoiogbbcoaaGreatDoor
open Go.RowKit Book Pap
set_option linter.unusedVariables false
set_option linter.unusedSimpArgs false

def QAt (w : World) (B : Nat) (a : Option Addr) (n c : Nat) (l : List ByteArray) : Prop :=
 l.length = n ∧ n ≤ c ∧ c ≤ maxLen ∧ (c = 0 ∨ ∃ g off cur, a = some ⟨g, off, none⟩ ∧ B ≤ g ∧ Blk w g 9 cur ∧ off + c = cur.size ∧ (cur.toList.drop off).take n = svals l)
/-- the block that it may be written to -/
def qF (a : Option Addr) (c : Nat) : Nat → Prop := fun k => 0 < c ∧ ∃ ad : Addr, a = some ad ∧ ad.block = k
theorem QAt.only {F : Nat → Prop} {w w' : World} {B : Nat} {a : Option Addr} {n c : Nat} {l : List ByteArray} (h : QAt w B a n c l) (ho : Only F w w') (hf : ∀ k, qF a c k → ¬ F k) : QAt w' B a n c l := by
 obtain ⟨h1, h2, h3, h4⟩ := h
 refine ⟨h1, h2, h3, ?_⟩
 rcases Nat.eq_zero_or_pos c with h0 | h0
 ·exact .inl h0
 ·obtain ⟨g, off, cur, ha, hb, hg, r⟩ := h4.resolve_left (by omega)
  exact .inr ⟨g, off, cur, ha, hb, hg.only ho (hf g ⟨h0, _, ha, rfl⟩), r⟩
theorem QAt.lt {w : World} {B : Nat} {a : Option Addr} {n c : Nat} {l : List ByteArray} (h : QAt w B a n c l) {k : Nat} (hk : qF a c k) : B ≤ k ∧ k < w.heap.size := by
 obtain ⟨h0, ad, ha, rfl⟩ := hk
 obtain ⟨g, off, cur, ha', hb, hg, r⟩ := h.2.2.2.resolve_left (by omega)
 rw [ha] at ha'
 injection ha' with e
 subst e
 exact ⟨hb, hg.lt⟩
theorem QAt.head {w : World} {B : Nat} {a : Option Addr} {n c : Nat} {x : ByteArray} {l : List ByteArray} (h : QAt w B a n c (x :: l)) : ∃ g off, a = some ⟨g, off, none⟩ ∧ w.cell? ⟨g, off, none⟩ = some (.string x) ∧ (1 < c → QAt w B (some ⟨g, off + 1, none⟩) (n - 1) (c - 1) l) ∧ (c = 1 → ∀ a', QAt w B a' (n - 1) (c - 1) l) := by
 obtain ⟨h1, h2, h3, h4⟩ := h
 rw [List.length_cons] at h1
 obtain ⟨g, off, cur, ha, hb, hg, hs, ht⟩ := h4.resolve_left (by omega)
 have ht0 : (cur.toList.drop off).take n = .string x :: svals l := ht
 have hd : cur.toList.drop off = .string x :: cur.toList.drop (off + 1) := by
  have hlt : off < cur.toList.length := by simp; omega
  rw [List.drop_eq_getElem_cons hlt]
  congr 1
  have : ((cur.toList.drop off).take n)[0]? = some (.string x) := by rw [ht0]; rfl
  rw [List.getElem?_take, if_pos (by omega), List.getElem?_drop, Nat.add_zero, List.getElem?_eq_getElem hlt] at this
  injection this
 refine ⟨g, off, ha, ?_, fun hc => ?_, fun hc a' => ?_⟩
 ·rw [hg.cell, ← Array.getElem?_toList]
  have : (cur.toList.drop off)[0]? = some (.string x) := by rw [hd]; rfl
  rwa [List.getElem?_drop, Nat.add_zero] at this
 ·refine ⟨by omega, by omega, by omega, .inr ⟨g, off + 1, cur, rfl, hb, hg, by omega, ?_⟩⟩
  rw [hd] at ht0
  have e : n = (n - 1) + 1 := by omega
  rw [e, List.take_succ_cons] at ht0
  injection ht0
 ·exact ⟨by omega, by omega, by omega, .inl (by omega)⟩
theorem qF_tail {g off c k : Nat} (h : qF (some ⟨g, off + 1, none⟩) (c - 1) k) : qF (some ⟨g, off, none⟩) c k := by
 obtain ⟨h0, ad, ha, rfl⟩ := h
 injection ha with e
 subst e
 exact ⟨by omega, _, rfl, rfl⟩
theorem qF_none {a : Option Addr} {k : Nat} (h : qF a 0 k) : False := by
 obtain ⟨h0, _⟩ := h; omega
theorem run_append_q (w : World) (B : Nat) (ty : TypeId) (a : Option Addr) (n c : Nat) (l : List ByteArray) (h : QAt w B a n c l) (hB : B ≤ w.heap.size) (xa : Option Addr) (m xc : Nat) (l2 : List ByteArray) (hx : StrsAt w xa m l2) (hb : n + m ≤ 1000000) :
  ∃ a' c' w', (Builtin.append_ #[40, 40] ty #[.slice a n c, .slice xa m xc]).run Tryz.prog w = .ok (.slice a' (n + m) c') w' ∧ QAt w' B a' (n + m) c' (l ++ l2) ∧ Only (qF a c) w w' ∧ ∀ k, qF a' c' k → qF a c k ∨ w.heap.size ≤ k := by
 obtain ⟨i0, hi0, hz0, hz1, hz2⟩ := info_parts Tryz.infoS
 have hu := Tryz.underlying40
 obtain ⟨h1, h2, h3, h4⟩ := h
 have hl2 : l2.length = m := hx.1
 have hxn := hx.news
 rcases hxn with ⟨rfl, hn0⟩ | ⟨ad, rfl, hl, hnews, h1c⟩
 ·have hsrc : Go.Src Tryz.prog i0.size 40 (.slice xa 0 xc) 0 [] w := by
   cases xa with
   | none => exact Go.Src.ofNil w hu xc
   | some ad => exact Go.Src.ofSlice w hu ad 0 xc [] (by simp) (fun j u h => by cases h) (fun u h => by cases h)
  have e2 : l2 = [] := List.length_eq_zero_iff.1 hl2
  refine ⟨a, c, w, run_append_nothing w _ _ ty 9 i0 hu hi0 a n c h2 (.slice xa 0 xc) hsrc, ?_, Only.refl _ _, fun k hk => .inl hk⟩
  rw [e2, List.append_nil, Nat.add_zero]; exact ⟨h1, h2, h3, h4⟩
 ·have hsrc : Go.Src Tryz.prog i0.size 40 (.slice (some ad) m xc) m (svals l2) w := Go.Src.ofSlice w hu ad m xc _ (by rw [hz1]; exact hl) hnews h1c
  have hsl : (svals l2).length = m := by unfold svals; rw [List.length_map]; exact hl2
  by_cases hfit : n + m ≤ c
  ·rcases Nat.eq_zero_or_pos c with h0 | h0
   ·have hm0 : m = 0 := by omega
    subst hm0
    have e2 : l2 = [] := List.length_eq_zero_iff.1 hl2
    have e3 : svals l2 = [] := by rw [e2]; rfl
    rw [e3] at hsrc
    refine ⟨a, c, w, run_append_nothing w _ _ ty 9 i0 hu hi0 a n c h2 _ hsrc, ?_, Only.refl _ _, fun k hk => .inl hk⟩
    rw [e2, List.append_nil, Nat.add_zero]; exact ⟨h1, h2, h3, h4⟩
   ·obtain ⟨g, off, cur, rfl, hbg, hg, hs, ht⟩ := h4.resolve_left (by omega)
    have hrun := run_append_room_src (P := Tryz.prog) w 40 40 ty 9 i0 hu hi0 g off n c (.slice (some ad) m xc) m (svals l2) hsrc hfit
     (fun j hj => by rw [hg.cell, hz1, Array.getElem?_eq_getElem (by omega)]; rfl) (fun j hj => hg.frozen _)
    have hB' : Blk (w.setCells g (off + n * i0.size) (svals l2)) g 9 (wr cur (off + n * i0.size) (svals l2)) := heap_setCells _ _ _ _ hg
    refine ⟨_, _, _, hrun, ⟨by rw [List.length_append]; omega, hfit, h3, .inr ⟨g, off, _, rfl, hbg, hB', by rw [wr_size]; exact hs, ?_⟩⟩, only_setCells (F := qF (some ⟨g, off, none⟩) c) (.inl ⟨h0, _, rfl, rfl⟩) _ _ _ (Only.refl _ w), fun k hk => .inl hk⟩
    rw [hz1, Nat.mul_one, wr_toList _ _ _ (by omega)]
    have hc : (cur.toList.take (off + n)).length = off + n := by rw [List.length_take]; simp; omega
    have e1 : (cur.toList.take (off + n)).drop off = svals l := by
     rw [← ht, List.drop_take, Nat.add_sub_cancel_left]
    rw [List.append_assoc, List.drop_append_of_le_length (by omega), e1]
    have hsl1 : (svals l).length = n := by unfold svals; rw [List.length_map]; exact h1
    rw [← List.append_assoc, List.take_append_of_le_length (by rw [List.length_append]; omega), List.take_of_length_le (by rw [List.length_append]; omega)]
    unfold svals; rw [List.map_append]
  ·have hold : (Builtin.firstCells i0.size n (.slice a n c)).run Tryz.prog w.drew = .ok (svals l).toArray w.drew := by
    have hsl1 : (svals l).length = n := by unfold svals; rw [List.length_map]; exact h1
    rw [hz1]
    rcases Nat.eq_zero_or_pos c with h0 | h0
    ·have hn0 : n = 0 := by omega
     subst hn0
     have e2 : svals l = [] := List.length_eq_zero_iff.1 hsl1
     rw [e2]
     cases a with
     | none => exact run_firstCells_none w.drew 1 0 0 c
     | some a' => exact run_firstCells_some w.drew 1 0 a' 0 c [] (by simp) (by intro _ _ h'; simp at h')
    ·obtain ⟨g, off, cur, rfl, hbg, hg, hs, ht⟩ := h4.resolve_left (by omega)
     refine run_firstCells_some w.drew 1 n ⟨g, off, none⟩ n c (svals l) (by omega) (fun j u hu => ?_)
     rw [Addr.add_lit]
     have hj : j < n := by have := (List.getElem?_eq_some_iff.1 hu).1; omega
     show w.cell? _ = _
     rw [hg.cell, ← hu, ← ht, List.getElem?_take, if_pos hj, List.getElem?_drop, Array.getElem?_toList]
   have hrun := run_append_grow_src (P := Tryz.prog) w 40 40 ty 9 i0 (.string ⟨#[]⟩) hu hi0 hz0 a n c (svals l) hold (.slice (some ad) m xc) m (svals l2) hsrc (by omega) (by omega) (by rw [hz2]; exact growslice_fits (by omega) (by omega))
   have hge := grownCap_ge w (n + m) c 9
   have hcm := grownCap_le_maxLen w (n + m) c 9 (by unfold maxLen; omega)
   refine ⟨_, _, _, hrun, ⟨by rw [List.length_append]; omega, hge, hcm, .inr ⟨w.heap.size, 0, _, rfl, hB, Blk.new w.drew _ _, ?_, ?_⟩⟩, ((Only.refl _ w).drew).alloc _, fun k hk => ?_⟩
   ·have hsl1 : (svals l).length = n := by unfold svals; rw [List.length_map]; exact h1
    simp [Builtin.zeroCells, Value.cells, hsl1, hsl]
    omega
   ·have hsl1 : (svals l).length = n := by unfold svals; rw [List.length_map]; exact h1
    rw [List.drop_zero, Array.toList_append]
    show (svals l ++ svals l2 ++ _).take _ = _
    rw [List.take_append_of_le_length (by rw [List.length_append]; omega), List.take_of_length_le (by rw [List.length_append]; omega)]
    unfold svals; rw [List.map_append]
   ·obtain ⟨_, ad', e, rfl⟩ := hk
    injection e with e
    subst e
    exact .inr (Nat.le_refl _)
theorem wpList_append_q {ops : Array Oper} {rest : List Oper} {o : Oper} {act : Act} {w : World} {Q : Exit → Act → World → Prop} (hgd : o.guard = none) (sx x : Operand)
  (ho : o.op = .call { callee := .builtin .append, args := #[sx, x], argTypes := #[40, 40] }) (B : Nat) (a : Option Addr) (n c : Nat) (l : List ByteArray) (hs : act.eval sx = .slice a n c) (h : QAt w B a n c l) (hB : B ≤ w.heap.size)
  (xa : Option Addr) (m xc : Nat) (l2 : List ByteArray) (hx : act.eval x = .slice xa m xc) (hx2 : StrsAt w xa m l2) (hb : n + m ≤ 1000000)
  (hK : ∀ a' c' w', QAt w' B a' (n + m) c' (l ++ l2) → Only (qF a c) w w' → (∀ k, qF a' c' k → qF a c k ∨ w.heap.size ≤ k) → wpList Tryz.prog ops Q rest (act.put o.dst (.slice a' (n + m) c')) w') :
  wpList Tryz.prog ops Q (o :: rest) act w := by
 refine wpList_plain hgd fun K hK' => ?_
 obtain ⟨a', c', w', hr, h2, h3, h4⟩ := run_append_q w B o.type a n c l h hB xa m xc l2 hx2 hb
 unfold Oper.wp execOp
 simp only [ho, resolve, invoke, builtin, Sem.run_bind, Sem.run_pure, Result.andThen_ok, List.map_toArray, List.map_cons, List.map_nil, hs, hx, hr]
 exact hK' _ _ (hK a' c' w' h2 h3 h4)
end Go.Proofs.YtmpjdoiogbbcoaaGreatDoor
/- A commit's facts, whatever it came from: snap.Facts. -/
namespace Go.Proofs.YtmpjdoiogbbcoaaGreatDoor
open Go.RowKit Book Pap Ojt Sn Go.Deep
attribute [local go_sem] Oper.semAt_some
set_option linter.unusedVariables false
set_option linter.unusedSimpArgs false

def noFa : Fa := ⟨ByteArray.empty, 0, []⟩
/-- facts in memory and what they say -/
def FaAt (w : World) (fs : List Fc) (L : List Fa) : Prop := fs.length = L.length ∧ ∀ j, j < fs.length → (fs.getD j noFc).id = (L.getD j noFa).id ∧ (fs.getD j noFc).h = (L.getD j noFa).h ∧ StrsAt w (fs.getD j noFc).pa (fs.getD j noFc).pn (L.getD j noFa).ps
theorem FaAt.later {w w' : World} {fs : List Fc} {L : List Fa} (h : FaAt w fs L) (hb : Below w.heap.size w w') : FaAt w' fs L :=
 ⟨h.1, fun j hj => ⟨(h.2 j hj).1, (h.2 j hj).2.1, (h.2 j hj).2.2.later hb⟩⟩
/-- what Facts hands back -/
def FactsOut (w : World) (G : Sw.Src) (id : ByteArray) (e : Ending) (w' : World) : Prop :=
 ∃ er L a n c fs, FactsIs G id er L ∧ e = .returned (.tuple #[.slice a n c, .int .i64 er]) ∧ FcsAt w' a n fs ∧ FaAt w' fs L ∧ Below w.heap.size w w'
/-- parents in memory, apart from what may be written to -/
def PsAt (w : World) (M : Nat → Prop) (f : Fc) (ps : List ByteArray) : Prop := StrsAt w f.pa f.pn ps ∧ (f.pn = 0 ∨ ∃ b off, f.pa = some ⟨b, off, none⟩ ∧ ¬ M b ∧ b < w.heap.size)
theorem PsAt.step {w w' : World} {M M' F : Nat → Prop} {f : Fc} {ps : List ByteArray} (h : PsAt w M f ps) (ho : Only F w w') (hF : ∀ k, k < w.heap.size → F k → M k) (hM : ∀ k, k < w.heap.size → M' k → M k) : PsAt w' M' f ps := by
 obtain ⟨⟨h1, h2, h3⟩, h4⟩ := h
 rcases h4 with h4 | ⟨b, off, ha, hb, hl⟩
 ·exact ⟨⟨h1, h2, .inl h4⟩, .inl h4⟩
 ·refine ⟨⟨h1, h2, h3.imp id ?_⟩, .inr ⟨b, off, ha, fun e => hb (hM b hl e), Nat.lt_of_lt_of_le hl ho.size⟩⟩
  rintro ⟨b', off', ha', hc⟩
  refine ⟨b', off', ha', fun j hj => ?_⟩
  rw [ha] at ha'
  injection ha' with e
  injection e with e1 e2
  subst e1
  exact (World.cell?_of_block (a := ⟨b, off' + j, none⟩) (ho.block b hl (fun e => hb (hF b hl e)))).trans (hc j hj)
/-- the walk's state in memory -/
structure FInv (w wr : World) (G : Sw.Src) (id : ByteArray) (m : Nat) (er : Int) (a : Option Addr) (c : Nat) (td : List ByteArray) (ks vs : Value) (l : List ByteArray) (fs : List Fc) : Prop where
 went : Went G id l td er
 map : MapIsF wr m ks vs l fs
 que : QAt wr w.heap.size a td.length c td
 ids : fs.map (·.id) = l
 facts : ∀ f ∈ fs, f.h = (obF G f.id).height ∧ PsAt wr (fun k => MapF m ks vs k ∨ qF a c k) f (obF G f.id).pars
 sep : ∀ k, MapF m ks vs k → ¬ qF a c k
 low : ∀ k, MapF m ks vs k → w.heap.size ≤ k
 below : Below w.heap.size w wr
 few : td.length ≤ 8 * l.length + 1
theorem FInv.later {w wr w2 : World} {G : Sw.Src} {id : ByteArray} {m : Nat} {er : Int} {a : Option Addr} {c : Nat} {td : List ByteArray} {ks vs : Value} {l : List ByteArray} {fs : List Fc} (h : FInv w wr G id m er a c td ks vs l fs) (hb : Below wr.heap.size wr w2) : FInv w w2 G id m er a c td ks vs l fs := by
 have o : Only NoF wr w2 := Only.of_below hb NoF
 exact ⟨h.went, h.map.only o (fun _ _ e => e), h.que.only o (fun _ _ e => e), h.ids, fun f hf => ⟨(h.facts f hf).1, (h.facts f hf).2.step o (fun _ _ e => e.elim) (fun _ _ e => e)⟩, h.sep, h.low, below_then h.below hb, h.few⟩
theorem FInv.skip {w wr : World} {G : Sw.Src} {id x : ByteArray} {m : Nat} {er : Int} {a a' : Option Addr} {c c' : Nat} {td : List ByteArray} {ks vs : Value} {l : List ByteArray} {fs : List Fc} (h : FInv w wr G id m er a c (x :: td) ks vs l fs) (hin : x ∈ l) (hq : QAt wr w.heap.size a' td.length c' td) (hk : ∀ k, qF a' c' k → qF a c k) : FInv w wr G id m er a' c' td ks vs l fs := by
 refine ⟨h.went.skip hin, h.map, hq, h.ids, fun f hf => ⟨(h.facts f hf).1, (h.facts f hf).2.step (Only.refl NoF wr) (fun _ _ e => e.elim) (fun k _ e => e.imp (fun h => h) (hk k))⟩, fun k h1 h2 => h.sep k h1 (hk k h2), h.low, h.below, ?_⟩
 have := h.few
 rw [List.length_cons] at this
 omega
theorem FInv.cut {w wr : World} {G : Sw.Src} {id x : ByteArray} {m : Nat} {er : Int} {a a' : Option Addr} {c c' : Nat} {td : List ByteArray} {ks vs : Value} {l : List ByteArray} {fs : List Fc} (h : FInv w wr G id m er a c (x :: td) ks vs l fs) (hk : ∀ k, qF a' c' k → qF a c k) :
  (∀ f ∈ fs, f.h = (obF G f.id).height ∧ PsAt wr (fun k => MapF m ks vs k ∨ qF a' c' k) f (obF G f.id).pars) ∧ ∀ k, MapF m ks vs k → ¬ qF a' c' k :=
 ⟨fun f hf => ⟨(h.facts f hf).1, (h.facts f hf).2.step (Only.refl NoF wr) (fun _ _ e => e.elim) (fun k _ e => e.imp (fun h => h) (hk k))⟩, fun k h1 h2 => h.sep k h1 (hk k h2)⟩
/-- a new fact -/
theorem FInv.take {w w5 w6 w8 w9 w10 : World} {G : Sw.Src} {id x : ByteArray} {m : Nat} {er : Int} {a a' a'' : Option Addr} {c c' c'' : Nat} {td : List ByteArray} {ks vs ks' vs' : Value} {l : List ByteArray} {fs : List Fc} {pa : Option Addr} {pn pc : Nat}
  (h : FInv w w5 G id m er a c (x :: td) ks vs l fs) (hx : hasN l x = false) (hk : ∀ k, qF a' c' k → qF a c k) (h6 : Below w5.heap.size w5 w6) (hps : StrsAt w6 pa pn (obF G x).pars) (hpf : ∀ k, (Value.slice pa pn pc).ownBlock = some k → w5.heap.size ≤ k) (h8 : Below w6.heap.size w6 w8) (hpar : (obF G x).pars.length ≤ 8)
  (hm9 : MapIsF w9 m ks' vs' (putN l x) (putVF l fs x ⟨x, (obF G x).height, pa, pn, pc⟩)) (ho9 : Only (MapF m ks vs) w8 w9) (hk9 : ∀ k, MapF m ks' vs' k → MapF m ks vs k ∨ w8.heap.size ≤ k)
  (hq10 : QAt w10 w.heap.size a'' (td.length + pn) c'' (td ++ (obF G x).pars)) (ho10 : Only (qF a' c') w9 w10) (hk10 : ∀ k, qF a'' c'' k → qF a' c' k ∨ w9.heap.size ≤ k) :
  FInv w w10 G id m (worseZ er (errF G x)) a'' c'' (td ++ (obF G x).pars) ks' vs' (putN l x) (putVF l fs x ⟨x, (obF G x).height, pa, pn, pc⟩) := by
 obtain ⟨hfa, hsep⟩ := h.cut hk
 have hr := h.map.2.2.2.2.1
 have hpl : (obF G x).pars.length = pn := hps.1
 have s56 := h6.size
 have s68 := h8.size
 have s89 := ho9.size
 have s910 := ho10.size
 have sB := h.below.size
 have hlt : ∀ k, MapF m ks vs k → k < w5.heap.size := h.map.lt
 have hqlt : ∀ k, qF a' c' k → k < w5.heap.size := fun k e => (h.que.lt (hk k e)).2
 have hnot : x ∉ l := hasN_no.1 hx
 have hmlt : ∀ k, MapF m ks' vs' k → k < w9.heap.size := hm9.lt
 have hsep' : ∀ k, MapF m ks' vs' k → ¬ qF a'' c'' k := fun k h1 h2 => by
  have hk1 := hmlt k h1
  rcases hk10 k h2 with h3 | h3
  ·rcases hk9 k h1 with h4 | h4
   ·exact hsep k h4 h3
   ·have := hqlt k h3; omega
  ·omega
 have hm10 : MapIsF w10 m ks' vs' (putN l x) (putVF l fs x ⟨x, (obF G x).height, pa, pn, pc⟩) := hm9.only ho10 (fun k h1 h2 => by
  rcases hk9 k h1 with h4 | h4
  ·exact hsep k h4 h2
  ·have := hqlt k h2; omega)
 have eN : putN l x = l.take (posOf l x) ++ x :: l.drop (posOf l x) := by unfold putN; rw [if_neg (by simp [hx])]
 have hmem : ∀ q, q ∈ putN l x ↔ q ∈ l ∨ q = x := mem_putN hr x
 have hlen : (putN l x).length = l.length + 1 := by rw [eN, List.length_append, List.length_cons, List.length_take, List.length_drop]; have := posOf_le l x; omega
 refine ⟨h.went.take hmem (fun q => ?_) (fun q hq => ?_), hm10, ?_, ?_, ?_, hsep', fun k hk1 => ?_, ?_, ?_⟩
 ·rw [List.mem_append]
 ·exact (List.mem_append.1 hq).elim (fun h => .inr (.inr (.inl h))) (fun h => .inr (.inr (.inr h)))
 ·rw [List.length_append, hpl]; exact hq10
 ·unfold putVF
  rw [eN, List.map_append, List.map_cons, List.map_take, List.map_drop, h.ids]
 ·intro f hf
  unfold putVF at hf
  have hcase : f ∈ fs ∨ f = ⟨x, (obF G x).height, pa, pn, pc⟩ := by
   rcases List.mem_append.1 hf with h1 | h1
   ·exact .inl (List.mem_of_mem_take h1)
   ·rcases List.mem_cons.1 h1 with h1 | h1
    ·exact .inr h1
    ·exact .inl (List.mem_of_mem_drop h1)
  have hold : ∀ k, k < w8.heap.size → (MapF m ks' vs' k ∨ qF a'' c'' k) → (MapF m ks vs k ∨ qF a' c' k) := fun k hkl e => by
   rcases e with e | e
   ·rcases hk9 k e with h4 | h4
    ·exact .inl h4
    ·omega
   ·rcases hk10 k e with h4 | h4
    ·exact .inr h4
    ·omega
  rcases hcase with h1 | rfl
  ·obtain ⟨g1, g2⟩ := hfa f h1
   refine ⟨g1, ?_⟩
   have p6 := g2.step (M' := fun k => MapF m ks vs k ∨ qF a' c' k) (Only.of_below h6 NoF) (fun _ _ e => e.elim) (fun _ _ e => e)
   have p8 := p6.step (M' := fun k => MapF m ks vs k ∨ qF a' c' k) (Only.of_below h8 NoF) (fun _ _ e => e.elim) (fun _ _ e => e)
   have p9 := p8.step (M' := fun k => (MapF m ks' vs' k ∨ qF a'' c'' k) ∨ (MapF m ks vs k ∨ qF a' c' k)) ho9 (fun _ _ e => .inl e) (fun k hkl e => e.elim (hold k hkl) (fun e => e))
   exact p9.step ho10 (fun k hkl e => .inr (.inr e)) (fun k hkl e => .inl e)
  ·refine ⟨rfl, ?_⟩
   have p6 : PsAt w6 (fun k => MapF m ks vs k ∨ qF a' c' k) ⟨x, (obF G x).height, pa, pn, pc⟩ (obF G x).pars := by
    refine ⟨hps, ?_⟩
    rcases hps.2.2 with h0 | ⟨b, off, ha, hc⟩
    ·exact .inl h0
    ·by_cases h0 : pn = 0
     ·exact .inl h0
     ·have hbl := World.block_lt_of_cell? w6 _ (hc 0 (by omega))
      refine .inr ⟨b, off, ha, fun e => ?_, hbl⟩
      have hge := hpf b (by rw [ha]; rfl)
      rcases e with e | e
      ·have := hlt b e; omega
      ·have := hqlt b e; omega
   have p8 := p6.step (M' := fun k => MapF m ks vs k ∨ qF a' c' k) (Only.of_below h8 NoF) (fun _ _ e => e.elim) (fun _ _ e => e)
   have p9 := p8.step (M' := fun k => (MapF m ks' vs' k ∨ qF a'' c'' k) ∨ (MapF m ks vs k ∨ qF a' c' k)) ho9 (fun _ _ e => .inl e) (fun k hkl e => e.elim (hold k hkl) (fun e => e))
   exact p9.step ho10 (fun k hkl e => .inr (.inr e)) (fun k hkl e => .inl e)
 ·rcases hk9 k hk1 with h4 | h4
  ·exact h.low k h4
  ·omega
 ·have b8 : Below w.heap.size w w8 := below_then (below_then h.below h6) h8
  have b9 := b8.trans (ho9.below (fun k e => h.low k e) (by omega))
  exact b9.trans (ho10.below (fun k e => (h.que.lt (hk k e)).1) (by omega))
 ·have h2 := h.few
  rw [List.length_cons] at h2
  rw [List.length_append, hlen]; omega
end Go.Proofs.YtmpjdoiogbbcoaaGreatDoor
/- What an object names: how links stand to each other (object.Links$1). -/
namespace Go.Proofs.YtmpjdoiogbbcoaaGreatDoor
open Go.RowKit Book Pap Ojt Go.Sort
set_option linter.unusedVariables false
set_option linter.unusedSimpArgs false

def valK (x : Lnk) : Value := .agg #[.int .i64 x.kind, .string x.id]
def cmpK (a b : Lnk) : Int := orZ (Lib.compareBytes a.id.data.toList b.id.data.toList) (Lib.compareInt a.kind b.kind)
set_option maxRecDepth 100000 in
set_option maxHeartbeats 4000000 in
theorem lnkcmp_any (f g : Lnk) (w : World) : Calls Tryz.prog 178 #[valK f, valK g] w fun e w' => e = .returned (.int .i64 (cmpK f g)) ∧ LaysD w w' := by
 have e1 : valK f = .agg #[.int .i64 f.kind, .string f.id] := rfl
 have e2 : valK g = .agg #[.int .i64 g.kind, .string g.id] := rfl
 rw [e1, e2]
 clear e1 e2
 have HLY : Hid (Lays w ((w.alloc (.cells #[.int .i64 f.kind, .string f.id] 201)).alloc (.cells #[.int .i64 g.kind, .string g.id] 201))) := ((Lays.refl w).alloc _).alloc _
 have HXB : Hid (Blk ((w.alloc (.cells #[.int .i64 f.kind, .string f.id] 201)).alloc (.cells #[.int .i64 g.kind, .string g.id] 201)) w.heap.size 201 #[.int .i64 f.kind, .string f.id]) := (Blk.new w _ _).alloc _
 have HYB : Hid (Blk ((w.alloc (.cells #[.int .i64 f.kind, .string f.id] 201)).alloc (.cells #[.int .i64 g.kind, .string g.id] 201)) (w.heap.size + 1) 201 #[.int .i64 g.kind, .string g.id]) := by
  have h := Blk.new (w.alloc (.cells #[.int .i64 f.kind, .string f.id] 201)) 201 #[.int .i64 g.kind, .string g.id]
  rw [World.size_alloc] at h; exact h
 have HC1 := hid (Tryz.cmp_Compare_int f.kind g.kind)
 have HC2 := hid (Tryz.strings_Compare f.id g.id)
 have HCZ : Hid (cmpK f g = orZ (Lib.compareBytes f.id.data.toList g.id.data.toList) (Lib.compareInt f.kind g.kind)) := rfl
 generalize Lib.compareInt f.kind g.kind = c1 at HC1 HCZ
 generalize Lib.compareBytes f.id.data.toList g.id.data.toList = c2 at HC2 HCZ
 go_enter Tryz.func178, Tryz.ntmps178
 go_upto_region 1 with fail
 generalize ((w.alloc (.cells #[.int .i64 f.kind, .string f.id] 201)).alloc (.cells #[.int .i64 g.kind, .string g.id] 201)) = w2 at HLY HXB HYB ⊢
 generalize hg1 : w.heap.size + 1 = g1 at HYB ⊢
 generalize w.heap.size = g0 at HXB hg1 ⊢
 clear hg1
 have k0 : w2.cell? ⟨g0, 0, none⟩ = some (.int .i64 f.kind) := Blk.cell HXB.out 0
 have k1 : w2.cell? ⟨g0, 1, none⟩ = some (.string f.id) := Blk.cell HXB.out 1
 have k2 : w2.cell? ⟨g1, 0, none⟩ = some (.int .i64 g.kind) := Blk.cell HYB.out 0
 have k3 : w2.cell? ⟨g1, 1, none⟩ = some (.string g.id) := Blk.cell HYB.out 1
 go_wp2_with fail
 refine wp_region_tail_drew 10 (by kernel_rfl) (by kernel_rfl) ?_
 simp only [List.take_succ_cons, List.take_zero, List.drop_succ_cons, List.drop_zero]
 repeat (first
  | go_big_quiet_step (first
   | (go_at_call 121; exact Calls.quiet_of_same (HC1.out _))
   | (go_at_call 122; exact Calls.quiet_of_same (HC2.out _)))
  | quiet_step (fail))
 refine wpQuiet_nil ?_
 intro _ hw'
 obtain ⟨nq, hw''⟩ := hw'
 subst hw''
 have HO := hid (or_any c2 c1 (w2.drewN nq).heap.size ((w2.drewN nq).alloc (.cells #[.int .i64 c2, .int .i64 c1] 3)) (Blk.new _ _ _))
 have HE : Hid (LaysD w ((w2.drewN nq).alloc (.cells #[.int .i64 c2, .int .i64 c1] 3))) := by
  obtain ⟨os, hos⟩ := HLY.out
  exact ⟨nq, os.push (.cells #[.int .i64 c2, .int .i64 c1] 3), by rw [hos]; simp [grow, World.alloc, World.drewN]⟩
 clear k0 k1 k2 k3
 go_wp2_with fail
 refine HO.out.mono ?_; rintro e w3 ⟨rfl, rfl⟩
 go_wp2_with fail
 go_ret
 rw [HCZ.out]
 exact ⟨rfl, HE.out⟩
end Go.Proofs.YtmpjdoiogbbcoaaGreatDoor
/- What an object names: an own slice of links sorted. -/
namespace Go.Proofs.YtmpjdoiogbbcoaaGreatDoor
open Go.RowKit Book Pap Ojt Go.Sort
set_option linter.unusedVariables false
set_option linter.unusedSimpArgs false

def lkCs (x : Lnk) : List Value := [.int .i64 x.kind, .string x.id]
def lkvals (l : List Lnk) : List Value := l.flatMap lkCs
theorem cbytes_lt : ∀ a b : List UInt8, Lib.compareBytes a b = if Op.bytesLess a b = true then -1 else if a = b then 0 else 1
 | [], [] => rfl
 | [], _ :: _ => rfl
 | _ :: _, [] => rfl
 | a :: x, b :: y => by
  unfold Lib.compareBytes Op.bytesLess
  rw [cbytes_lt x y]
  by_cases h1 : a < b
  ·simp [h1]
  ·by_cases h2 : b < a
   ·have hne : ¬ a = b := fun e => h1 (by subst e; exact absurd h2 (UInt8.lt_irrefl a))
    simp [h1, h2, hne]
   ·have he : a = b := UInt8.le_antisymm (UInt8.not_lt.1 h2) (UInt8.not_lt.1 h1)
    subst he
    simp
theorem cbytes_neg (a b : ByteArray) : Lib.compareBytes a.data.toList b.data.toList = if lt' a b = true then -1 else if a = b then 0 else 1 := by
 rw [cbytes_lt]
 unfold lt'
 rw [ba_toList, ba_toList]
 by_cases h : a = b
 ·subst h; rw [if_pos rfl, if_pos rfl]
 ·have h2 : ¬ a.data.toList = b.data.toList := fun e => h (ba_ext e)
  rw [if_neg h, if_neg h2]
theorem ltOf_K (a b : Lnk) : Go.Proofs.ltOf cmpK a b = ltK a b := by
 unfold Go.Proofs.ltOf cmpK orZ ltK Lib.compareInt
 rw [cbytes_neg]
 by_cases h1 : lt' a.id b.id = true
 ·simp [h1]
 ·by_cases h2 : a.id = b.id
  ·simp only [h1, h2, if_false, if_true]
   by_cases h3 : a.kind < b.kind
   ·simp [h3, lt_irr]
   ·by_cases h4 : a.kind > b.kind
    ·simp [h3, h4, lt_irr]
    ·simp [h3, h4, lt_irr]
  ·simp [h1, h2]
theorem swo_K : Go.Sort.SWO (Go.Proofs.ltOf cmpK) := by
 have e : Go.Proofs.ltOf cmpK = ltK := by funext a b; exact ltOf_K a b
 rw [e]
 refine ⟨ltK_irr, fun x y z => ltK_trans, fun x y z h1 h2 => ?_⟩
 by_cases h : ltK x z = true
 ·cases hyx : ltK y x
  ·obtain rfl := ltK_tri h1 hyx
   rw [h2] at h; cases h
  ·have := ltK_trans hyx h
   rw [h2] at this; cases this
 ·exact Bool.not_eq_true _ ▸ h
/-- links in a row, rising (two alike may stand side by side) -/
def sortL (l : List Lnk) : List Lnk := l.mergeSort fun x y => !(Go.Proofs.ltOf cmpK) y x
theorem sortL_perm (l : List Lnk) : (sortL l).Perm l := List.mergeSort_perm l _
theorem sortL_ris (l : List Lnk) : (sortL l).Pairwise (fun a b => ltK b a = false) := by
 have hp := List.pairwise_mergeSort (le := fun x y : Lnk => !(Go.Proofs.ltOf cmpK) y x) (fun a b c h1 h2 => by
  simp only [Bool.not_eq_true'] at *
  exact swo_K.ntrans _ _ _ h2 h1) (fun a b => by
  cases h : Go.Proofs.ltOf cmpK b a
  ·simp
  ·have h2 : Go.Proofs.ltOf cmpK a b = false := by
    cases h3 : Go.Proofs.ltOf cmpK a b
    ·rfl
    ·have := swo_K.trans _ _ _ h h3
     rw [swo_K.irrefl] at this; cases this
   simp [h2]) l
 exact hp.imp fun {a b} h => by rw [← ltOf_K]; simpa using h
theorem sortLk_own (B n : Nat) (v : Value) (l : List Lnk) (w : World) (h : w.ownsRow B 201 2 v n (lkvals l)) (hn : n ≤ 1000000) :
  Calls Tryz.prog 177 #[v, .func (.func 178) #[] #[]] w fun e w' => e = .returned (.tuple #[]) ∧ w'.ownsRow B 201 2 v n (lkvals (sortL l)) ∧ w.grownBy w' v.ownBlock := by
 haveI : Inhabited Lnk := ⟨⟨0, ByteArray.empty⟩⟩
 refine (sortK_own Tryz.sortF177 2 (by decide) Tryz.isAgg201 Tryz.sizeOf201 lkCs (fun x => rfl) (fun x u hu => by simp [lkCs] at hu; rcases hu with rfl | rfl <;> rfl) cmpK swo_K (fun x y h1 h2 => by rw [ltOf_K] at h1 h2; exact ltK_tri h1 h2) 178 #[] B n v l w
  (enters_of Tryz.func178 (by kernel_rfl) rfl) (fun W hg x y => ?_) h hn)
 exact lnkcmp_any x y W
end Go.Proofs.YtmpjdoiogbbcoaaGreatDoor
/- How commits stand, whatever they came from: the order of facts (plain), isRight, an own list of facts sorted. -/
namespace Go.Proofs.YtmpjdoiogbbcoaaGreatDoor
open Go.RowKit Book Pap Ojt Sn Go.Sort
set_option linter.unusedVariables false
set_option linter.unusedSimpArgs false

/-- one stands above another one: higher, or as high with a greater id -/
def upK (h : Int) (a : ByteArray) (h2 : Int) (b : ByteArray) : Bool := decide (h2 < h) || (decide (h2 = h) && lt' b a)
theorem upK_irr (h : Int) (a : ByteArray) : upK h a h a = false := by
 unfold upK; simp [lt_irr]
theorem upK_trans {h1 h2 h3 : Int} {a b c : ByteArray} (x : upK h1 a h2 b = true) (y : upK h2 b h3 c = true) : upK h1 a h3 c = true := by
 unfold upK at *
 simp only [Bool.or_eq_true, Bool.and_eq_true, decide_eq_true_eq] at *
 rcases x with x | ⟨x, x'⟩ <;> rcases y with y | ⟨y, y'⟩
 ·exact .inl (by omega)
 ·exact .inl (by omega)
 ·exact .inl (by omega)
 ·exact .inr ⟨by omega, Go.Proofs.YtmpjdoiogbbcoaaGreatDoor.lt_trans y' x'⟩
theorem upK_tri {h1 h2 : Int} {a b : ByteArray} (x : upK h1 a h2 b = false) (y : upK h2 b h1 a = false) : h1 = h2 ∧ a = b := by
 unfold upK at *
 simp only [Bool.or_eq_false_iff, Bool.and_eq_false_iff, decide_eq_false_iff_not] at *
 have e : h1 = h2 := by omega
 subst e
 refine ⟨rfl, ?_⟩
 rcases x.2 with h | h
 ·exact absurd rfl h
 ·rcases y.2 with h' | h'
  ·exact absurd rfl h'
  ·exact lt_tri h' h
theorem upK_cmp (f g : Fc) : decide (cmpZ g f < 0) = upK f.h f.id g.h g.id := by
 unfold cmpZ orZ upK Lib.compareInt
 rw [cbytes_neg]
 by_cases h1 : g.h < f.h
 ·simp [h1]
 ·by_cases h2 : g.h > f.h
  ·have h3 : ¬ g.h = f.h := by omega
   simp [h1, h2, h3]
  ·have h3 : g.h = f.h := by omega
   simp only [h1, h2, h3, if_false, decide_true, Bool.true_and, decide_false, Bool.false_or]
   by_cases h4 : lt' g.id f.id = true
   ·simp [h4]
   ·by_cases h5 : g.id = f.id
    ·simp [h4, h5, lt_irr]
    ·simp [h4, h5]
/-- .. of ids with heights -/
def upQ (hk : ByteArray → Int) (p q : ByteArray) : Bool := upK (hk p) p (hk q) q
theorem upQ_tri {hk : ByteArray → Int} {p q : ByteArray} (x : upQ hk p q = false) (y : upQ hk q p = false) : p = q := (upK_tri x y).2
theorem upQ_ntrans {hk : ByteArray → Int} {x y z : ByteArray} (h1 : upQ hk x y = false) (h2 : upQ hk y z = false) : upQ hk x z = false := by
 by_cases h : upQ hk x z = true
 ·cases hyx : upQ hk y x
  ·obtain rfl := upQ_tri h1 hyx
   rw [h2] at h; cases h
  ·have := upK_trans hyx h
   unfold upQ at h2
   rw [h2] at this; cases this
 ·exact Bool.not_eq_true _ ▸ h
theorem upQ_one {hk : ByteArray → Int} {l m : List ByteArray} (hl : l.Pairwise (fun a b => upQ hk a b = true)) (hm : m.Pairwise (fun a b => upQ hk a b = true)) (h : ∀ q, q ∈ l ↔ q ∈ m) : l = m :=
 pw_ext (R := fun a b => upQ hk a b = true) (fun a h => by have h' : upQ hk a a = true := h; have : upQ hk a a = false := upK_irr _ _; rw [this] at h'; cases h') (fun a b c h1 h2 => upK_trans (h1 := hk a) (h2 := hk b) (h3 := hk c) h1 h2) l m hl hm h
/-- a list of ids, the greatest first -/
def sortD (hk : ByteArray → Int) (l : List ByteArray) : List ByteArray := l.mergeSort fun x y => !(upQ hk) y x
theorem sortD_mem (hk : ByteArray → Int) (l : List ByteArray) (q : ByteArray) : q ∈ sortD hk l ↔ q ∈ l := List.mem_mergeSort
theorem sortD_len (hk : ByteArray → Int) (l : List ByteArray) : (sortD hk l).length = l.length := List.length_mergeSort ..
theorem sortD_pw (hk : ByteArray → Int) {l : List ByteArray} (hn : l.Nodup) : (sortD hk l).Pairwise (fun a b => upQ hk a b = true) := by
 have hp := List.pairwise_mergeSort (le := fun x y : ByteArray => !(upQ hk) y x) (fun a b c h1 h2 => by
  simp only [Bool.not_eq_true'] at *
  exact upQ_ntrans h2 h1) (fun a b => by
  cases h : upQ hk b a
  ·simp
  ·have h2 : upQ hk a b = false := by
    cases h3 : upQ hk a b
    ·rfl
    ·have h4 : upQ hk b b = true := upK_trans h h3
     have h5 : upQ hk b b = false := upK_irr _ _
     rw [h5] at h4; cases h4
   simp [h2]) l
 have hnd : (sortD hk l).Nodup := (List.mergeSort_perm l _).nodup_iff.2 hn
 refine (hp.and hnd).imp ?_
 rintro a b ⟨h1, hne⟩
 simp only [Bool.not_eq_true'] at h1
 cases h3 : upQ hk a b
 ·exact absurd (upQ_tri h3 h1) hne
 ·rfl
/-- an own slice of facts sorted: F tells the fact of an id -/
theorem sortFc_own (F : ByteArray → Fc) (hF : ∀ q, (F q).id = q) (B n : Nat) (v : Value) (l : List ByteArray) (w : World) (h : w.ownsRow B 66 3 v n (fvals (l.map F))) (hn : n ≤ 1000000) :
  Calls Tryz.prog 148 #[v, .func (.func 149) #[] #[]] w fun e w' => e = .returned (.tuple #[]) ∧ w'.ownsRow B 66 3 v n (fvals ((sortD (fun q => (F q).h) l).map F)) ∧ w.grownBy w' v.ownBlock := by
 haveI : Inhabited ByteArray := ⟨ByteArray.empty⟩
 have e1 : ∀ p q : ByteArray, ltOf (fun p q => cmpZ (F q) (F p)) p q = upQ (fun q => (F q).h) p q := fun p q => by
  unfold ltOf
  rw [upK_cmp, hF, hF]; rfl
 have e2 : (ltOf (fun p q => cmpZ (F q) (F p)) : ByteArray → ByteArray → Bool) = upQ (fun q => (F q).h) := by funext p q; exact e1 p q
 have hSW : SWO (ltOf (fun p q => cmpZ (F q) (F p)) : ByteArray → ByteArray → Bool) := by
  rw [e2]
  exact ⟨fun x => upK_irr _ _, fun x y z h1 h2 => upK_trans h1 h2, fun x y z h1 h2 => upQ_ntrans h1 h2⟩
 have hfl : ∀ l : List ByteArray, l.flatMap (fun q => fcs (F q)) = fvals (l.map F) := fun l => by unfold fvals; rw [List.flatMap_map]
 refine (sortK_own Tryz.sortF148 3 (by decide) Tryz.isAgg66 Tryz.sizeOf66 (fun q : ByteArray => fcs (F q)) (fun x => rfl) (fun x u hu => by simp [fcs] at hu; rcases hu with rfl | rfl | rfl <;> rfl) (fun p q => cmpZ (F q) (F p)) hSW (fun x y h1 h2 => by rw [e2] at h1 h2; exact upQ_tri h1 h2) 149 #[] B n v l w
  (enters_of Tryz.func149 (by kernel_rfl) rfl) (fun W hg x y => ?_) (by rw [hfl]; exact h) hn).mono ?_
 ·refine (met1_any (F x) (F y) W).mono ?_
  rintro e w' ⟨rfl, q, os, rfl⟩
  exact ⟨rfl, q, os, rfl⟩
 ·rintro e w' ⟨rfl, h1, h2⟩
  refine ⟨rfl, ?_, h2⟩
  rw [hfl, e2] at h1
  exact h1
theorem fcMap_get1 {w : World} {m n : Nat} {f : ByteArray → Option Fc} (h : FcMap w m n f) (s : ByteArray) (hs : s.size ≤ maxLen) : (Instr.lookup 169 (.map (some m)) (.string s) false).run Tryz.prog w = .ok (valF ((f s).getD noFc)) w :=
 MapFn.get1 Tryz.underlying9 Tryz.underlying169 valF_inj datF_inj (z0 := noFc) zeroFc h s hs
theorem field_h (s : ByteArray) (h : Int) (ps : Option Addr) (pn pc : Nat) (w : World) : (Instr.field 66 (.agg #[.string s, .int .i64 h, .slice ps pn pc]) 1).run Tryz.prog w = .ok (.int .i64 h) w := by
 kernel_rfl
set_option maxRecDepth 100000 in
set_option maxHeartbeats 8000000 in
theorem isRight_any (m n : Nat) (fs : List Fc) (f : Fc) (ps : List ByteArray) (w : World) (hm : FcMap w m n (tabF fs)) (hp : StrsAt w f.pa f.pn ps) (hpn : f.pn ≤ 100000) (hsz : ∀ p ∈ ps, p.size ≤ maxLen) (hh : ∀ p ∈ ps, 0 ≤ ((tabF fs p).getD noFc).h ∧ ((tabF fs p).getD noFc).h ≤ 1073741824) :
  Calls Tryz.prog 90 #[.map (some m), valF f] w fun e w' => e = .returned (.bool (f.h == heightL (ps.map (fun p => ((tabF fs p).getD noFc).h)))) ∧ Below w.heap.size w w' := by
 obtain ⟨i0, hi0, hz0, hz1, hz2⟩ := info_parts Tryz.infoInt15
 obtain ⟨fi, fh, fa, fn, fc⟩ := f
 simp only at hp hpn ⊢
 have e1 : valF ⟨fi, fh, fa, fn, fc⟩ = .agg #[.string fi, .int .i64 fh, .slice fa fn fc] := rfl
 rw [e1]
 clear e1
 have HX : Hid (Blk (w.alloc (.cells #[.string fi, .int .i64 fh, .slice fa fn fc] 66)) w.heap.size 66 #[.string fi, .int .i64 fh, .slice fa fn fc]) := Blk.new w _ _
 have HB : Hid (Below w.heap.size w (w.alloc (.cells #[.string fi, .int .i64 fh, .slice fa fn fc] 66))) := (Below.refl _ _).alloc (Nat.le_refl _) _
 have HM : Hid (FcMap (w.alloc (.cells #[.string fi, .int .i64 fh, .slice fa fn fc] 66)) m n (tabF fs)) := hm.later HB.out
 have HP : Hid (StrsAt (w.alloc (.cells #[.string fi, .int .i64 fh, .slice fa fn fc] 66)) fa fn ps) := hp.later HB.out
 have HSZ := hid hsz
 have hlen := hp.1
 have hxl : (ps.map (fun p => ((tabF fs p).getD noFc).h)).length = fn := by rw [List.length_map]; exact hlen
 have HXG : Hid (∀ i, i < fn → (ps.map (fun p => ((tabF fs p).getD noFc).h)).getD i 0 = ((tabF fs (ps.getD i ByteArray.empty)).getD noFc).h) := fun i hi => by
  rw [List.getD_eq_getElem?_getD, List.getElem?_map, List.getD_eq_getElem?_getD, List.getElem?_eq_getElem (by omega)]; rfl
 have HH0 : Hid (∀ z ∈ ps.map (fun p => ((tabF fs p).getD noFc).h), 0 ≤ z ∧ z ≤ 1073741824) := fun z hz => by
  obtain ⟨p, hp1, rfl⟩ := List.mem_map.1 hz
  exact hh p hp1
 obtain ⟨H, hH⟩ : ∃ H, ps.map (fun p => ((tabF fs p).getD noFc).h) = H := ⟨_, rfl⟩
 rw [hH] at hxl HXG HH0 ⊢
 have HXL := hid hxl
 have HLEN := hid hlen
 clear hm hp hsz hh hH hxl hlen
 go_enter Tryz.func90, Tryz.ntmps90
 go_upto_region 1 with fail
 generalize (w.alloc (.cells #[.string fi, .int .i64 fh, .slice fa fn fc] 66)) = w1 at HX HB HM HP ⊢
 generalize hg : w.heap.size = g at HX HB ⊢
 have k2 : w1.cell? ⟨g, 2, none⟩ = some (.slice fa fn fc) := Blk.cell HX.out 2
 go_wp2_with fail
 clear k2
 go_loopw [11, 5] (fun iv hv wr => ∃ i va vc, i ≤ fn ∧ iv = .int .i64 i ∧ hv = .slice va i vc ∧ Hid (wr.ownsRow w1.heap.size 3 1 (.slice va i vc) i (nvals (H.take i))) ∧ Hid (Below w1.heap.size w1 wr)) (fun iv _ _ => fn - (intOf iv).toNat)
 case atStart => exact ⟨0, none, 0, Nat.zero_le _, rfl, rfl, World.ownsRow_nil _ _ _ _, Below.refl _ _⟩
 case round =>
  obtain ⟨i, va, vc, hi, rfl, rfl, HO, HBR⟩ := hrel
  by_cases hlt : i < fn
  ·have ci : (i : Int) < fn := by omega
   have ci0 : (0 : Int) ≤ (i : Int) := by omega
   obtain ⟨-, -, h3⟩ := HP.out.later HBR.out
   obtain ⟨pb, poff, rfl, hcell⟩ := h3.resolve_left (by omega)
   have q0 := hcell i hlt
   have hil : i < ps.length := by rw [HLEN.out]; exact hlt
   have hps : (ps.getD i ByteArray.empty).size ≤ maxLen := HSZ.out _ (by rw [List.getD_eq_getElem?_getD, List.getElem?_eq_getElem hil]; exact List.getElem_mem hil)
   have hlk := fcMap_get1 (HM.out.later HBR.out) _ hps
   have HT : Hid (nvals (H.take (i + 1)) = nvals (H.take i) ++ [.int .i64 ((tabF fs (ps.getD i ByteArray.empty)).getD noFc).h]) := by
    show _ = _
    have hiH : i < H.length := by rw [HXL.out]; exact hlt
    have e := HXG.out i hlt
    rw [List.getD_eq_getElem?_getD, List.getElem?_eq_getElem hiH] at e
    rw [List.take_succ_eq_append_getElem hiH, nvals_append, ← e]; rfl
   obtain ⟨p, hpe⟩ : ∃ p, ps.getD i ByteArray.empty = p := ⟨_, rfl⟩
   rw [hpe] at q0 hlk HT
   obtain ⟨⟨xi, xh, xa, xn, xc⟩, hxe⟩ : ∃ x, (tabF fs p).getD noFc = x := ⟨_, rfl⟩
   rw [hxe] at hlk HT
   have ev : valF ⟨xi, xh, xa, xn, xc⟩ = .agg #[.string xi, .int .i64 xh, .slice xa xn xc] := rfl
   rw [ev] at hlk
   simp only at HT
   have hfd := fun W => field_h xi xh xa xn xc W
   have hsr := HBR.out.size
   clear hcell h3 hps hpe hxe ev hil
   go_wp2_with (first
    | (at_builtin; refine wpList_append_own _ rfl (.tmp 15) (.tmp 20) 52 rfl w1.heap.size 3 i0 (.int .i64 0) 1 8 Tryz.underlying52 hi0 hz0 hz1 hz2 rfl (by decide) (.slice va i vc) _ _ rfl (HO.out.alloc _) ⟨wr.heap.size, 0, none⟩ 1 1 [.int .i64 xh] rfl rfl (cellNew1 _ _ _) (one_bytes rfl) (by unfold maxLen; omega) (by omega) (by rw [World.size_alloc]; omega) ?_; intro v' w9 hown' hgrow _; have HOWN := hid hown'; have HGR := hid hgrow; clear hown' hgrow))
   obtain ⟨va', vc', rfl, hvc'⟩ := own_slice' HOWN.out
   have HO9 : Hid (w9.ownsRow w1.heap.size 3 1 (.slice va' (i + 1) vc') (i + 1) (nvals (H.take (i + 1)))) := by
    rw [HT.out]; exact HOWN.out
   have HB9 : Hid (Below w1.heap.size w1 w9) := below_grown1 HBR.out HO.out _ hsr HGR.out
   go_roundw
   case rel => first | exact ⟨i + 1, va', vc', by omega, by go_num, rfl, HO9, HB9⟩ | ((repeat apply Exists.intro); exact ⟨⟨i + 1, va', vc', by omega, by go_num, rfl, HO9, HB9⟩, rfl⟩)
   case measure => simp [intOf]; omega
  ·obtain rfl : i = fn := by omega
   have ci : ¬ (i : Int) < i := by omega
   have hfull : H.take i = H := List.take_of_length_le (by rw [HXL.out]; exact Nat.le_refl _)
   have HNS : Hid (NumsAt wr va i H) := by
    have h := HO.out
    rw [hfull] at h
    exact own_nums h
   have HHT := hid (fun q => objheight_any va i vc H (wr.drewN q) HNS.out (by omega) (fun z hz => by have := HH0.out z hz; omega))
   have HX9 : Hid (Blk wr g 66 #[.string fi, .int .i64 fh, .slice fa i fc]) := (HBR.out.block g (Blk.lt HX.out)).trans HX.out
   have k1 : wr.cell? ⟨g, 1, none⟩ = some (.int .i64 fh) := Blk.cell HX9.out 1
   have HB9 : Hid (Below g w wr) := HB.out.trans (HBR.out.mono (by rw [← hg]; exact HB.out.size))
   clear hfull
   go_wp2_with fail
   go_quiet (first | (go_at_call 56; exact Calls.quiet_of_same ((HHT.out _).mono fun _ _ h => ⟨h.1, h.2.symm⟩)))
   go_wp2_with fail
   go_ret
   exact ⟨rfl, by rw [hg]; exact below_drewN HB9.out _⟩
end Go.Proofs.YtmpjdoiogbbcoaaGreatDoor
