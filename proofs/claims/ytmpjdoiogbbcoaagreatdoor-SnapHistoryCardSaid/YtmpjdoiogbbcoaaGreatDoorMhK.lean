/- Texts in a row: HiB, HiC, Zst, InsNo, SetQ, QSeq, SetR, SetS, HiM, HiN, AwP. -/
import Derived.Test.YtmpjdoiogbbcoaaGreatDoorMhJ
import Derived.Lib.AppendZerosOnto
import Derived.Deep.RegionHeld3
import Derived.RangeFuncNested
import Derived.RangeFuncBound
import Derived.RangeFuncLeaves
import Derived.Shelf.Abstract
import Derived.TacticsInMore
import Derived.OwnWalkIn
import Derived.LoopNIn
import Derived.LoopIn
/- Commits of the same files made one upon another: what Commit makes, what Admit takes (plain). -/
namespace Go.Proofs.YtmpjdoiogbbcoaaGreatDoor
open Go.RowKit Book Pap Ojt Sn
set_option linter.unusedVariables false
set_option linter.unusedSimpArgs false

def noteN (i : Nat) : ByteArray := ⟨#[UInt8.ofNat i]⟩
theorem noteN_size (i : Nat) : (noteN i).size = 1 := rfl
theorem noteN_inj {i j : Nat} (hi : i < 256) (hj : j < 256) (h : noteN i = noteN j) : i = j := by
 unfold noteN at h
 injection h with h
 have h2 : UInt8.ofNat i = UInt8.ofNat j := by simpa using h
 have h3 := congrArg UInt8.toNat h2
 simp [UInt8.toNat_ofNat'] at h3
 omega
def treeL (fs : List Fi) : List ByteArray := (treeS 64 (fs.map flOf) []).1
def tidF (fs : List Fi) : ByteArray := tid 64 (fs.map flOf)
theorem treeL_len {fs : List Fi} (h : OkFs fs) (hl : fs.length ≤ 60) : (treeL fs).length ≤ 3842 := by
 have h2 := buildS_few (buildS_ok.2 h) hl
 rw [buildS_of h] at h2
 exact Nat.le_trans h2 (by omega)
theorem treeL_stair {fs : List Fi} (h : OkFs fs) : Stair (treeL fs) ∧ NoCom (treeL fs) :=
 tree_stair 63 (fs.map flOf) [] h.apt (fun f hf => h.len f hf) h.goodFl (by rw [List.length_map]; exact h.few) Stair.nil (fun t ht => by cases ht)
theorem treeL_each {fs : List Fi} (h : OkFs fs) : ∀ t ∈ treeL fs, t.size ≤ 131072 ∧ ∃ x, Sw.decO t = some x ∧ x.kind ≠ 3 := fun t ht => by
 obtain ⟨s1, s2⟩ := treeL_stair h
 obtain ⟨i, hi, e⟩ := List.getElem_of_mem ht
 obtain ⟨-, h2, -⟩ := s1 i hi
 rw [List.getD_eq_getElem?_getD, List.getElem?_eq_getElem hi] at h2
 exact ⟨by rw [← e]; exact h2, s2 t ht⟩
theorem treeL_root {fs : List Fi} (h : OkFs fs) : ∃ t ∈ treeL fs, Sw.idOf t = tidF fs ∧ ∃ y, Sw.decO t = some y ∧ y.kind = 2 := by
 have hgt := tree_good 63 h.apt (fun f hf => h.len f hf) h.goodFl (by rw [List.length_map]; exact h.few)
 exact ⟨encP (treeOf (tents 63 (fs.map flOf))), ((treeS_mem 64 _ []).2 _).2 (.inr (List.mem_append.2 (.inr (List.mem_singleton.2 rfl)))), rfl, _, decO_encP hgt (dec_tree hgt), rfl⟩
/-! Commit -/
theorem sortB_rising {P : List ByteArray} (h : Rising P) : sortB P = P := by
 unfold sortB
 rw [List.mergeSort_of_pairwise]
 ·rw [List.map_map]
  conv => rhs; rw [← List.map_id P]
  exact List.map_congr_left (fun x _ => Sw.bz_bl x)
 ·rw [List.pairwise_map]
  refine h.imp (fun {a b} hab => ?_)
  rw [Sw.ble_eq, Bool.not_eq_true']
  cases hc : Op.bytesLess (Sw.bl b) (Sw.bl a) with
  | false => rfl
  | true =>
   have h1 : Op.bytesLess a.toList b.toList = true := hab
   rw [ba_toList, ba_toList] at h1
   have := bl_trans _ _ _ h1 hc
   unfold Sw.bl at this
   rw [bl_irr] at this; cases this
theorem heights_run {G : Sw.Src} : ∀ (P : List ByteArray) (H : List Int), (∀ p ∈ P, (lookK G p 3 12).2 = 0) → heightsS G P H = (H ++ P.map (fun p => (lookK G p 3 12).1.height), 0)
 | [], H, _ => by simp [heightsS]
 | p :: r, H, h => by
  unfold heightsS
  rw [if_neg (by rw [h p (List.mem_cons_self ..)]; simp), heights_run r _ (fun q hq => h q (List.mem_cons_of_mem _ hq)), List.map_cons, List.append_assoc]
  rfl
theorem highS_run {G : Sw.Src} {P : List ByteArray} (h8 : P.length ≤ 8) (hr : Rising P) (hl : ∀ p ∈ P, (lookK G p 3 12).2 = 0) : highS G P = (P.map (fun p => (lookK G p 3 12).1.height), 0) := by
 unfold highS
 have e : Sw.setOf P = P := Sw.rising_ext (Sw.setOf_rising P) hr (fun x => Sw.setOf_mem)
 rw [if_neg (by omega), e, if_neg (by omega), heights_run P [] hl, List.nil_append]
theorem commit_over {G : Sw.Src} {fs : List Fi} {P : List ByteArray} {note : ByteArray} (h : OkFs fs) (hn : note.size ≤ 1000) (h8 : P.length ≤ 8) (hr : Rising P) (hl : ∀ p ∈ P, (lookK G p 3 12).2 = 0) (hh : heightL (P.map (fun p => (lookK G p 3 12).1.height)) ≤ 1073741824) :
  commitS G fs P note = (layS (treeL fs) (commitOf (tidF fs) P (heightL (P.map (fun p => (lookK G p 3 12).1.height))) note), 0) := by
 have hb : buildS fs = (treeS 64 (fs.map flOf) [], 0) := by unfold buildS; rw [if_pos ((checkF_iff fs).2 h)]
 unfold commitS
 rw [hb, highS_run h8 hr hl, if_neg (by simp), if_neg (by simp), if_neg (by simp only; omega), if_neg (by omega), (treeS_mem 64 _ []).1, sortB_rising hr]
 rfl
theorem good_over {t : ByteArray} {P : List ByteArray} {hgt : Int} {n : ByteArray} (ht : t.size = 32) (hr : Rising P) (h8 : P.length ≤ 8) (hs : ∀ p ∈ P, p.size = 32) (h0 : 0 ≤ hgt) (h1 : hgt ≤ 1073741824) (hz : 0 < hgt ↔ P ≠ []) (hn : n.size ≤ 1000) : good (commitOf t P hgt n) = true := by
 unfold good commitOf
 simp only
 rw [if_neg (by decide), if_neg (by decide), if_pos trivial]
 unfold Ojt.goodCommit goodPars
 simp only [Bool.and_eq_true, decide_eq_true_eq]
 exact ⟨⟨⟨h8, rising_B hr, List.all_eq_true.2 (fun p hp => by rw [decide_eq_true_eq]; exact hs p hp)⟩, h0, h1, hz⟩, ht, hn⟩
theorem height_pos {zs : List Int} (h : ∀ z ∈ zs, 0 ≤ z) : 0 < heightL zs ↔ zs ≠ [] := by
 constructor
 ·rintro h1 rfl; exact absurd h1 (by decide)
 ·intro h1
  rw [heightL_eq zs h1]
  have := h _ (maxOf_mem zs h1)
  omega
/-! looking -/
theorem look_both {G : Sw.Src} {p : ByteArray} {x : Ob} (h : lookK G p 3 21 = (x, 0)) : lookK G p 3 12 = (x, 0) ∧ Sw.look G p = (0, x) ∧ x.kind = 3 := by
 unfold lookK at h ⊢
 unfold Sw.look
 cases hg : G p with
 | none => rw [hg] at h; injection h with _ h; exact absurd h (by decide)
 | some t =>
  rw [hg] at h
  cases hd : Sw.decO t with
  | none => simp only [hd] at h; injection h with _ h; exact absurd h (by decide)
  | some y =>
   simp only [hd] at h ⊢
   by_cases hk : y.kind = 3
   ·rw [if_neg (by simp [hk])] at h ⊢
    injection h with h _
    subst h
    exact ⟨rfl, rfl, hk⟩
   ·rw [if_pos hk] at h; injection h with _ h; exact absurd h (by decide)
/-! Admit -/
theorem fitsK_run {H : Sw.Src} : ∀ (l : List Lnk) (hs : List Int), (∀ k ∈ l, (Sw.look H k.id).1 = 0 ∧ (Sw.look H k.id).2.kind = k.kind) → Sw.fitsK H l hs = (0, hs ++ (l.filter (fun k => decide (k.kind = 3))).map (fun k => (Sw.look H k.id).2.height))
 | [], hs, _ => by simp [Sw.fitsK]
 | k :: r, hs, h => by
  obtain ⟨h1, h2⟩ := h k (List.mem_cons_self ..)
  unfold Sw.fitsK
  rw [if_neg (by simp [h1]), if_neg (by simp [h2]), fitsK_run r _ (fun j hj => h j (List.mem_cons_of_mem _ hj))]
  by_cases h3 : k.kind = 3
  ·rw [if_pos h3, List.filter_cons_of_pos (by simp [h3])]; simp
  ·rw [if_neg h3, List.filter_cons_of_neg (by simp [h3])]
theorem fits_over {H : Sw.Src} {t : ByteArray} {P : List ByteArray} {hgt : Int} {n : ByteArray} (hg : good (commitOf t P hgt n) = true) (ht : ∃ y, Sw.look H t = (0, y) ∧ y.kind = 2) (hp : ∀ p ∈ P, ∃ y, Sw.look H p = (0, y) ∧ y.kind = 3) (hh : hgt = heightL (P.map (fun p => (Sw.look H p).2.height))) : Sw.fits H (commitOf t P hgt n) = 0 := by
 have hk : ∀ k ∈ links (commitOf t P hgt n), (Sw.look H k.id).1 = 0 ∧ (Sw.look H k.id).2.kind = k.kind := fun k hk => by
  have hk := (links_mem hg k).1 hk
  have hk : k ∈ (⟨2, t⟩ : Lnk) :: P.map (fun p => (⟨3, p⟩ : Lnk)) := hk
  rcases List.mem_cons.1 hk with rfl | hk
  ·obtain ⟨y, h1, h2⟩ := ht
   rw [h1]; exact ⟨rfl, h2⟩
  ·obtain ⟨p, hp', rfl⟩ := List.mem_map.1 hk
   obtain ⟨y, h1, h2⟩ := hp p hp'
   rw [h1]; exact ⟨rfl, h2⟩
 unfold Sw.fits
 rw [fitsK_run _ [] hk, if_neg (by simp), if_neg]
 rintro ⟨-, h2⟩
 refine h2 ?_
 show hgt = heightL ([] ++ _)
 rw [List.nil_append]
 refine hh.trans (heightL_set (fun z => ?_))
 constructor
 ·intro hz
  obtain ⟨p, hp', rfl⟩ := List.mem_map.1 hz
  exact List.mem_map.2 ⟨⟨3, p⟩, List.mem_filter.2 ⟨(links_mem hg _).2 (List.mem_cons_of_mem _ (List.mem_map.2 ⟨p, hp', rfl⟩)), by simp⟩, rfl⟩
 ·intro hz
  obtain ⟨k, hk', rfl⟩ := List.mem_map.1 hz
  obtain ⟨h1, h3⟩ := List.mem_filter.1 hk'
  have h3 : k.kind = 3 := by simpa using h3
  have h1 := (links_mem hg k).1 h1
  have h1 : k ∈ (⟨2, t⟩ : Lnk) :: P.map (fun p => (⟨3, p⟩ : Lnk)) := h1
  rcases List.mem_cons.1 h1 with rfl | h1
  ·exact absurd h3 (by show ¬ (2 : Int) = 3; decide)
  ·obtain ⟨p, hp', rfl⟩ := List.mem_map.1 h1
   exact List.mem_map.2 ⟨p, hp', rfl⟩
theorem getF_some {U : List ByteArray} {q t : ByteArray} (h : getF (itemsS U) q = some t) : t ∈ U ∧ Sw.idOf t = q := by
 unfold getF at h
 cases hf : (itemsS U).find? (fun f => decide (f.path = q)) with
 | none => rw [hf] at h; cases h
 | some f =>
  rw [hf] at h
  injection h with h
  have h1 := List.mem_of_find?_eq_some hf
  have h2 : f.path = q := by simpa using List.find?_some hf
  unfold itemsS at h1
  obtain ⟨u, hu, rfl⟩ := List.mem_map.1 h1
  subst h
  exact ⟨hu, h2⟩
theorem over_same {came : List Sw.It} {U : List ByteArray} (hU : Sw.Apart U) (hc : ∀ x ∈ came, x.data ∈ U ∧ Sw.idOf x.data = x.id) : Sw.over came (getF (itemsS U)) = getF (itemsS U) := by
 funext q
 unfold Sw.over
 cases hg : Sw.getI came q with
 | none => rfl
 | some t =>
  obtain ⟨h1, h2⟩ := hc _ (Sw.getI_some hg)
  show some t = _
  have := items_cov hU t h1
  rw [show Sw.idOf t = q from h2] at this
  exact this.symm
theorem admit_again {U : List ByteArray} {c : ByteArray} {o : Ob} (hT : Sw.Apart (U ++ [c])) (hc : c ∉ U) (hz : c.size ≤ 131072) (hd : Sw.decO c = some o) (hf : Sw.fits (getF (itemsS U)) o = 0) :
  ∀ (L : List ByteArray) (came : List Sw.It), (∀ t ∈ L, t ∈ U ∧ t.size ≤ 131072 ∧ ∃ x, Sw.decO t = some x) → (∀ x ∈ came, x.data ∈ U ∧ Sw.idOf x.data = x.id) → Sw.admitF (getF (itemsS U)) (L ++ [c]) came [] = (itL [c], 0) := by
 have hU : Sw.Apart U := fun a ha b hb e => hT a (List.mem_append.2 (.inl ha)) b (List.mem_append.2 (.inl hb)) e
 intro L
 induction L with
 | nil =>
  intro came _ hcm
  have ho := over_same hU hcm
  have hn : (Sw.over came (getF (itemsS U)) (Sw.idOf c)).isSome = false := by
   rw [ho]
   cases hg : getF (itemsS U) (Sw.idOf c) with
   | none => rfl
   | some t =>
    obtain ⟨h1, h2⟩ := getF_some hg
    exact absurd (hT t (List.mem_append.2 (.inl h1)) c (List.mem_append.2 (.inr (List.mem_singleton.2 rfl))) h2 ▸ h1) hc
  have he := errAt_new (x := o) (by omega) hd hn
  rw [ho, hf] at he
  rw [List.nil_append, admitF_ok he, brought_new hn]
  rfl
 | cons t r ih =>
  intro came hL hcm
  obtain ⟨h1, h2, x, h3⟩ := hL t (List.mem_cons_self ..)
  have ho := over_same hU hcm
  have hn : (Sw.over came (getF (itemsS U)) (Sw.idOf t)).isSome = true := by rw [ho, items_cov hU t h1]; rfl
  have he := errAt_old (x := x) (by omega) h3 hn
  rw [List.cons_append, admitF_ok he, brought_old hn]
  refine ih _ (fun u hu => hL u (List.mem_cons_of_mem _ hu)) (fun y hy => ?_)
  rcases took_mem hy with hy | rfl
  ·exact hcm y hy
  ·exact ⟨h1, rfl⟩
end Go.Proofs.YtmpjdoiogbbcoaaGreatDoor
/- One round of commits made one upon another (plain). -/
namespace Go.Proofs.YtmpjdoiogbbcoaaGreatDoor
open Go.RowKit Book Pap Ojt Sn
set_option linter.unusedVariables false
set_option linter.unusedSimpArgs false

/-- the texts of the first i commits of some files -/
structure UHist (fs : List Fi) (i : Nat) (U : List ByteArray) : Prop where
 apart : Sw.Apart U
 zero : i = 0 → U = []
 ok : 0 < i → ∀ t ∈ treeL fs, t ∈ U
 mem : ∀ t ∈ U, t ∈ treeL fs ∨ ∃ j, j < i ∧ ∃ o, Sw.decO t = some o ∧ o.kind = 3 ∧ o.note = noteN j
 size : ∀ t ∈ U, t.size ≤ 131072
 len : U.length ≤ 3842 + i
theorem UHist.nil (fs : List Fi) : UHist fs 0 [] := ⟨fun a ha => (by cases ha), fun _ => rfl, fun h => (by omega), fun t h => (by cases h), fun t h => (by cases h), by simp⟩
/-- what one round makes -/
structure RoundIs (fs : List Fi) (U ids : List ByteArray) (D : List (List ByteArray)) (i : Nat) (P L : List ByteArray) (id : ByteArray) : Prop where
 commit : commitS (getF (itemsS U)) fs P (noteN i) = ((L, id), 0)
 size : ∀ s ∈ L, s.size ≤ 131072
 len : 0 < L.length ∧ L.length ≤ 3843
 idsz : id.size = 32
 more : Sw.Apart (U ++ L) → ∃ In, Sw.admitS (getF (itemsS U)) L = (itL In, 0) ∧ UHist fs (i + 1) (U ++ In) ∧ (∀ t, t ∈ U ++ In ↔ t ∈ U ∨ t ∈ L) ∧ (0 < In.length ∧ In.length ≤ 3843) ∧
  ∀ want, Rising want → (∀ q, q ∈ want ↔ q = id ∨ ∃ p ∈ P, Rch (getF (itemsS U)) p q) → CHist (getF (itemsS (U ++ In))) (ids ++ [id]) (D ++ [want])
theorem lookK_eq {G H : Sw.Src} {p : ByteArray} (h : H p = G p) (k l : Int) : lookK H p k l = lookK G p k l := by unfold lookK; rw [h]
theorem round_plain {fs : List Fi} {U ids : List ByteArray} {D : List (List ByteArray)} {i : Nat} {P : List ByteArray} (hU : UHist fs i U) (hC : CHist (getF (itemsS U)) ids D) (hi : ids.length = i) (h12 : i < 12) (hok : OkFs fs) (h60 : fs.length ≤ 60) (hr : Rising P) (h8 : P.length ≤ 8) (hPi : ∀ p ∈ P, p ∈ ids) :
  ∃ L id, RoundIs fs U ids D i P L id := by
 obtain ⟨G, hGe⟩ : ∃ G, getF (itemsS U) = G := ⟨_, rfl⟩
 have hp : ∀ p ∈ P, lookK G p 3 12 = (obF G p, 0) ∧ Sw.look G p = (0, obF G p) ∧ (obF G p).kind = 3 ∧ 0 ≤ hG G p ∧ hG G p < 12 ∧ p.size = 32 := fun p hp => by
  obtain ⟨k, hk, rfl⟩ := List.getElem_of_mem (hPi p hp)
  rw [hGe] at hC
  obtain ⟨x, h1, -, -, h4, h5⟩ := hC.at_ k hk
  have e : obF G ids[k] = x := by unfold obF; rw [h1]
  obtain ⟨b1, b2, b3⟩ := look_both h1
  have e2 : hG G ids[k] = x.height := by unfold hG; rw [e]
  rw [e, e2]
  refine ⟨b1, b2, b3, h4, by omega, ?_⟩
  cases hg : G ids[k] with
  | none => exact absurd hg (found_of h1)
  | some t =>
   rw [← hGe] at hg
   rw [← (getF_some hg).2]; exact idOf_size t
 have hz : ∀ z ∈ P.map (hG G), 0 ≤ z ∧ z < 12 := fun z hz => by
  obtain ⟨p, hp', rfl⟩ := List.mem_map.1 hz
  exact ⟨(hp p hp').2.2.2.1, (hp p hp').2.2.2.2.1⟩
 obtain ⟨hgt, hhe⟩ : ∃ h, heightL (P.map (hG G)) = h := ⟨_, rfl⟩
 have h0 : 0 ≤ hgt := by rw [← hhe]; exact heightL_ge0 (fun z h => (hz z h).1)
 have h1 : hgt ≤ 12 := by rw [← hhe]; exact heightL_le (fun z h => (hz z h).2) (by omega)
 have hpos : 0 < hgt ↔ P ≠ [] := by
  rw [← hhe, height_pos (fun z h => (hz z h).1)]
  exact ⟨fun h e => h (by rw [e]; rfl), fun h e => h (List.map_eq_nil_iff.1 e)⟩
 have e12 : P.map (fun p => (lookK G p 3 12).1.height) = P.map (hG G) := List.map_congr_left (fun p hp' => by rw [(hp p hp').1]; rfl)
 have esw : P.map (fun p => (Sw.look G p).2.height) = P.map (hG G) := List.map_congr_left (fun p hp' => by rw [(hp p hp').2.1]; rfl)
 have hgood : good (commitOf (tidF fs) P hgt (noteN i)) = true := good_over (idOf_size _) hr h8 (fun p hp' => (hp p hp').2.2.2.2.2) h0 (by omega) hpos (by rw [noteN_size]; omega)
 have hdec := dec_commit hgood
 have hcm := commit_over (G := G) (note := noteN i) hok (by rw [noteN_size]; omega) h8 hr (fun p hp' => by rw [(hp p hp').1]) (by rw [e12, hhe]; omega)
 rw [e12, hhe] at hcm
 obtain ⟨x, hx⟩ : ∃ x, commitOf (tidF fs) P hgt (noteN i) = x := ⟨_, rfl⟩
 have hxk : x.kind = 3 := by rw [← hx]; rfl
 have hxn : x.note = noteN i := by rw [← hx]; rfl
 have hxp : x.pars = P := by rw [← hx]; rfl
 have hxh : x.height = hgt := by rw [← hx]; rfl
 have hfit : (∃ y, Sw.look G (tidF fs) = (0, y) ∧ y.kind = 2) → Sw.fits G x = 0 := fun ht => by
  rw [← hx]
  exact fits_over hgood ht (fun p hp' => ⟨_, (hp p hp').2.1, (hp p hp').2.2.1⟩) (by rw [esw, hhe])
 have hcom : i = 0 → P = [] → x = commitOf (tid 64 (fs.map flOf)) [] 0 (noteN i) := fun _ hP => by
  rw [← hx, ← hhe, hP]; rfl
 rw [hx] at hgood hdec hcm
 have hd := decO_encP hgood hdec
 have hcz : (encP x).size ≤ 131072 := by have := encP_size x; omega
 have hct : encP x ∉ treeL fs := fun h => by
  obtain ⟨-, y, h2, h3⟩ := treeL_each hok _ h
  rw [hd] at h2; cases h2; exact h3 hxk
 have hlay : layS (treeL fs) x = (treeL fs ++ [encP x], Sw.idOf (encP x)) := by
  unfold layS
  rw [if_neg (fun e => hct (hasN_iff.1 e))]
 rw [hlay] at hcm
 have hcU : encP x ∉ U := fun h => by
  rcases hU.mem _ h with h | ⟨j, hj, o, g1, g2, g3⟩
  ·exact hct h
  ·rw [hd] at g1; cases g1
   rw [hxn] at g3
   have := noteN_inj (by omega) (by omega) g3
   omega
 have hlen := treeL_len hok h60
 refine ⟨treeL fs ++ [encP x], Sw.idOf (encP x), by rw [hGe]; exact hcm, fun s hs => ?_, ⟨by rw [List.length_append, List.length_singleton]; omega, by rw [List.length_append, List.length_singleton]; omega⟩, idOf_size _, fun hT => ?_⟩
 ·rcases List.mem_append.1 hs with hs | hs
  ·exact (treeL_each hok s hs).1
  ·rw [List.mem_singleton.1 hs]; exact hcz
 -- what Admit takes
 have hAd : ∃ In, Sw.admitS G (treeL fs ++ [encP x]) = (itL In, 0) ∧ (∀ t ∈ In, t ∈ treeL fs ++ [encP x]) ∧ encP x ∈ In ∧ (∀ t ∈ treeL fs, t ∈ U ++ In) ∧ (∀ t ∈ In, t = encP x ∨ t ∈ treeL fs) ∧ (U ++ In).length ≤ 3842 + (i + 1) ∧ In.length ≤ 3843 := by
  by_cases hi0 : i = 0
  ·have hU0 := hU.zero hi0
   have hP0 : P = [] := List.eq_nil_iff_forall_not_mem.2 (fun p hp' => by
    have := hPi p hp'
    rw [List.length_eq_zero_iff.1 (hi.trans hi0)] at this; cases this)
   have hxe := hcom hi0 hP0
   have hL : comL fs (noteN i) = treeL fs ++ [encP x] := by
    unfold comL
    rw [← hxe]
    exact congrArg Prod.fst hlay
   have hTc : Sw.Apart (comL fs (noteN i)) := by
    rw [hL]
    exact fun a ha b hb e => hT a (List.mem_append.2 (.inr ha)) b (List.mem_append.2 (.inr hb)) e
   have ha := admit_com hok (by rw [noteN_size]; omega) hTc
   rw [hL] at ha
   have hG0 : G = noSrc := by rw [← hGe, hU0]; exact src_none
   refine ⟨treeL fs ++ [encP x], by rw [hG0]; exact ha, fun t h => h, by simp, fun t h => by simp [h], fun t h => ?_, ?_, ?_⟩
   ·rcases List.mem_append.1 h with h | h
    ·exact .inr h
    ·exact .inl (List.mem_singleton.1 h)
   ·rw [hU0, List.nil_append, List.length_append, List.length_singleton]; omega
   ·rw [List.length_append, List.length_singleton]; omega
  ·have hok' := hU.ok (by omega)
   have hT2 : Sw.Apart (U ++ [encP x]) := fun a ha b hb e => hT a (by simp at ha ⊢; rcases ha with h | h <;> simp [h]) b (by simp at hb ⊢; rcases hb with h | h <;> simp [h]) e
   have hlk : ∃ y, Sw.look G (tidF fs) = (0, y) ∧ y.kind = 2 := by
    obtain ⟨t, h1, h2, y, h3, h4⟩ := treeL_root hok
    refine ⟨y, ?_, h4⟩
    unfold Sw.look
    rw [← hGe, ← h2, items_cov hU.apart t (hok' t h1)]
    simp only [h3]
   have ha := admit_again hT2 hcU hcz hd (by rw [hGe]; exact hfit hlk) (treeL fs) [] (fun t ht => ⟨hok' t ht, (treeL_each hok t ht).1, by obtain ⟨-, y, h2, -⟩ := treeL_each hok t ht; exact ⟨y, h2⟩⟩) (fun y hy => by cases hy)
   rw [hGe] at ha
   refine ⟨[encP x], ha, fun t h => by rw [List.mem_singleton.1 h]; simp, by simp, fun t h => List.mem_append.2 (.inl (hok' t h)), fun t h => .inl (List.mem_singleton.1 h), ?_, by simp⟩
   rw [List.length_append, List.length_singleton]
   have := hU.len
   omega
 obtain ⟨In, ha, hsub, hin, htr, hcas, hlU, hlI⟩ := hAd
 have hmem : ∀ t, t ∈ U ++ In ↔ t ∈ U ∨ t ∈ treeL fs ++ [encP x] := fun t => by
  constructor
  ·intro h
   rcases List.mem_append.1 h with h | h
   ·exact .inl h
   ·exact .inr (hsub t h)
  ·rintro (h | h)
   ·exact List.mem_append.2 (.inl h)
   ·rcases List.mem_append.1 h with h | h
    ·exact htr t h
    ·rw [List.mem_singleton.1 h]; exact List.mem_append.2 (.inr hin)
 have hA2 : Sw.Apart (U ++ In) := fun a ha b hb e => hT a (List.mem_append.2 ((hmem a).1 ha)) b (List.mem_append.2 ((hmem b).1 hb)) e
 refine ⟨In, by rw [hGe]; exact ha, ⟨hA2, fun h => by omega, fun _ t h => htr t h, fun t h => ?_, fun t h => ?_, hlU⟩, hmem, ⟨List.length_pos_of_mem hin, hlI⟩, fun want hw hm => ?_⟩
 ·rcases List.mem_append.1 h with h | h
  ·rcases hU.mem t h with h | ⟨j, hj, g⟩
   ·exact .inl h
   ·exact .inr ⟨j, by omega, g⟩
  ·rcases hcas t h with rfl | h
   ·exact .inr ⟨i, by omega, x, hd, hxk, hxn⟩
   ·exact .inl h
 ·rcases List.mem_append.1 h with h | h
  ·exact hU.size t h
  ·rcases hcas t h with rfl | h
   ·exact hcz
   ·exact (treeL_each hok t h).1
 ·have hcov := items_cov hA2
  have hold : ∀ j, (hj : j < ids.length) → lookK (getF (itemsS (U ++ In))) ids[j] 3 21 = lookK (getF (itemsS U)) ids[j] 3 21 := fun j hj => by
   refine lookK_eq ?_ 3 21
   cases hg : getF (itemsS U) ids[j] with
   | none => exact absurd hg (hC.ob hj).2.2.2.2.1
   | some t =>
    obtain ⟨g1, g2⟩ := getF_some hg
    rw [← g2]
    exact hcov t (List.mem_append.2 (.inl g1))
  obtain ⟨c1, c2, c3⟩ := hC.later hold
  have hlk : lookK (getF (itemsS (U ++ In))) (Sw.idOf (encP x)) 3 21 = (x, 0) := lookK_of (hcov _ (List.mem_append.2 (.inr hin))) hgood hdec hxk
  refine c1.more hlk (by rw [hxp]; exact hPi) ?_ hw (fun q => ?_)
  ·rw [hxh, ← hhe, hxp]
   congr 1
   refine List.map_congr_left (fun p hp' => ?_)
   obtain ⟨k, hk, rfl⟩ := List.getElem_of_mem (hPi p hp')
   rw [c2 k hk, hGe]
  ·rw [hm q, hxp]
   refine or_congr Iff.rfl ⟨?_, ?_⟩
   ·rintro ⟨p, hp', h⟩
    refine ⟨p, hp', ?_⟩
    obtain ⟨k, hk, rfl⟩ := List.getElem_of_mem (hPi p hp')
    exact (c3 k hk q).2 h
   ·rintro ⟨p, hp', h⟩
    refine ⟨p, hp', ?_⟩
    obtain ⟨k, hk, rfl⟩ := List.getElem_of_mem (hPi p hp')
    exact (c3 k hk q).1 h
end Go.Proofs.YtmpjdoiogbbcoaaGreatDoor
/- Slices of nothings (struct{}): append, copy; slices.Insert of one more. -/
namespace Go.Proofs.YtmpjdoiogbbcoaaGreatDoor
open Go.RowKit
set_option linter.unusedVariables false
set_option linter.unusedSimpArgs false

section
variable {P : Program} (w : World)
theorem NoRow.new {w : World} {B : Nat} {e : TypeId} {n c : Nat} (hB : B ≤ w.heap.size) (hn : n ≤ c) (hc : c ≤ maxLen) : (w.drew.alloc (.cells #[] e)).ownsRow B e 0 (.slice (some ⟨w.heap.size, 0, none⟩) n c) n [] :=
 ⟨by simp, .inr ⟨w.heap.size, c, #[], rfl, hB, heap_alloc_new w.drew _, hn, hc, by simp, by simp⟩⟩
theorem zeroCells0 (n : Nat) : Builtin.zeroCells #[] n = #[] := by simp [Builtin.zeroCells]
/-- one more at the end -/
theorem run_append0 (B : Nat) (t ty e : TypeId) (i : TypeInfo) (ht : P.underlying t = some (.slice e)) (hi : P.info? e = some i) (hz : i.zero = some (.agg #[])) (hsize : i.size = 0) (hby : i.bytes = 0)
  (v : Value) (n : Nat) (hown : w.ownsRow B e 0 v n []) (ad : Addr) (m c : Nat) (hm : 0 < m) (h63 : n + m ≤ maxLen) (hB : B ≤ w.heap.size) :
  ∃ v' w', (Builtin.append_ #[t, t] ty #[v, .slice (some ad) m c]).run P w = .ok v' w' ∧ w'.ownsRow B e 0 v' (n + m) [] ∧ w.grownBy w' v.ownBlock ∧ (v'.ownBlock = v.ownBlock ∨ v'.ownBlock = some w.heap.size) := by
 have hsmall : n + m ≤ 9223372036854775807 := by simp only [maxLen] at h63; omega
 have hcl : (Value.agg #[]).cells = #[] := rfl
 rcases hown.2 with ⟨rfl, rfl⟩ | ⟨g, cap, cur, rfl, hbg, hg, hnc, hcm, hcs, htake⟩
 ·have hr := run_append_nil (P := P) w t ty e i _ ht hi hz ad m c [] (by rw [hsize]; rfl) (fun j u h => by simp at h) hm (by omega) (by rw [hby]; omega)
  rw [hcl, zeroCells0] at hr
  have hge := grownCap_ge w m 0 e
  have hle := grownCap_le_maxLen w m 0 e (by omega)
  rw [Nat.zero_add]
  exact ⟨_, _, hr, NoRow.new hB hge hle, ⟨rfl, rfl, rfl, by simp, fun k hk _ => Below.heap_alloc w.drew _ k hk⟩, .inr rfl⟩
 ·by_cases hroom : n + m ≤ cap
  ·have hr := run_append_room (P := P) w t ty e i ht hi g n cap cur hg ad m c [] (by rw [hsize]; rfl) (fun j u h => by simp at h) (fun u hu => by cases hu) hroom (by rw [hsize]; simp)
   have e1 : (cur.toList.take (n * i.size) ++ [] ++ cur.toList.drop (n * i.size + ([] : List Value).length)).toArray = cur := by simp
   rw [e1] at hr
   refine ⟨_, _, hr, ⟨by simp, .inr ⟨g, cap, cur, rfl, hbg, setRow_heap w g cur cur e _ hg, hroom, hcm, hcs, by simp⟩⟩, ⟨rfl, rfl, rfl, by simp, fun k _ hk => setRow_other w g k _ (fun e => hk (by simp [Value.ownBlock, e]))⟩, .inl rfl⟩
  ·have hr := run_append_grow (P := P) w t ty e i _ ht hi hz ⟨g, 0, none⟩ n cap [] (by rw [hsize]; rfl) (fun j u h => by simp at h) ad m c [] (by rw [hsize]; rfl) (fun j u h => by simp at h) (by omega) (by omega) (by rw [hby]; omega)
   rw [hcl, zeroCells0] at hr
   exact ⟨_, _, hr, NoRow.new hB (grownCap_ge w _ _ e) (grownCap_le_maxLen w _ _ e h63), ⟨rfl, rfl, rfl, by simp, fun k hk _ => Below.heap_alloc w.drew _ k hk⟩, .inr rfl⟩
/-- nothings copied -/
theorem run_copy0 (t tx ty e : TypeId) (i : TypeInfo) (ht : P.underlying t = some (.slice e)) (hi : P.info? e = some i) (hsize : i.size = 0) (a b : Option Addr) (n m c d : Nat) :
  (Builtin.copy_ #[t, tx] ty #[.slice a n c, .slice b m d]).run P w = .ok (goInt (Nat.min m n)) w := by
 have h0 : ∀ k (W : World), (Builtin.firstCells 0 k (.slice b m d)).run P W = .ok #[] W := fun k W => by
  cases b with
  | none => simp [Builtin.firstCells]
  | some ad => simpa using run_firstCells_some (P := P) W 0 k ad m d [] (by simp) (fun j u h => by simp at h)
 cases a with
 | none => simp [Builtin.copy_, run_underlying ht, sizeOf, typeInfo, hi, hsize, Builtin.lenOf, h0]
 | some ad => simp [Builtin.copy_, run_underlying ht, sizeOf, typeInfo, hi, hsize, Builtin.lenOf, h0, storeCells]
/-- append(s, make(S, k)...) of nothings, where there is no room -/
theorem run_make0 (t tn ty e : TypeId) (i : TypeInfo) (ht : P.underlying t = some (.slice e)) (htn : P.underlying tn = some (.int .i64)) (hi : P.info? e = some i) (hz : i.zero = some (.agg #[])) (hsize : i.size = 0) (hby : i.bytes = 0)
  (g : Option Addr) (n c k : Nat) (hk : 0 < k) (hg : c < n + k) (h63 : n + k ≤ 9223372036854775807) :
  (Builtin.append_ #[t, tn] ty #[.slice g n c, .int .i64 k]).run P w = .ok (.slice (some ⟨w.heap.size, 0, none⟩) (n + k) (grownCap w (n + k) c e)) (w.drew.alloc (.cells #[] e)) := by
 have hw : IntKind.i64.wrap (k : Int) = k := by rw [IntKind.wrap_i64]; omega
 have hn : ¬ (n + k ≤ c) := by omega
 have h0 : ¬ ((k : Int) < 0) := by omega
 have h1 : ¬ (281474976710656 < (k : Int) * 0) := by omega
 have h63' : ¬ (9223372036854775807 < ((n : Int) + (k : Int))) := by omega
 have hcl : (Value.agg #[]).cells = #[] := rfl
 have hf : ∀ W : World, (Builtin.firstCells 0 n (.slice g n c)).run P W = .ok #[] W := fun W => by
  cases g with
  | none => simp [Builtin.firstCells]
  | some ad => simpa using run_firstCells_some (P := P) W 0 n ad n c [] (by simp) (fun j u h => by simp at h)
 simp [Builtin.append_, run_underlying ht, run_underlying htn, sizeOf, typeInfo, zeroValue, hi, hz, hsize, hby, hw, h0, hn, h63', hcl, zeroCells0, hf, Question.forced, asInt, asIntOf, newRow, grownCap]
/-- nothings never overlap -/
theorem run_overlaps0 (tS tR e : TypeId) (ht : P.underlying tS = some (.slice e)) (hz : ∀ w, (Go.sizeOf e).run P w = .ok 0 w) (a b : Addr) (la ca lb cb : Nat) :
  (Extern.SlicesOverlaps.overlaps #[tS, tS] #[tR] #[.slice (some a) la ca, .slice (some b) lb cb]).run P w = .ok (.bool false) w := by
 change Sem.run P (α := Value) (underlying tS >>= _) w = _
 simp [run_underlying ht, hz]
end
end Go.Proofs.YtmpjdoiogbbcoaaGreatDoor
/- slices.Insert of one nothing, over a slice of the program's own. -/
namespace Go.Proofs.YtmpjdoiogbbcoaaGreatDoor
open Go.RowKit
set_option linter.unusedVariables false
set_option linter.unusedSimpArgs false

set_option maxRecDepth 100000 in
set_option maxHeartbeats 4000000 in
theorem insNoEnd (B : Nat) (v : Value) (n : Nat) (vb : Nat) (w : World) (hown : w.ownsRow B 120 0 v n []) (hB : B ≤ w.heap.size) (hn : n ≤ 1048576) :
  Calls Tryz.prog 97 #[v, .int .i64 n, .slice (some ⟨vb, 0, none⟩) 1 1] w fun e w' => ∃ v', e = .returned v' ∧ w'.ownsRow B 120 0 v' (n + 1) [] ∧ w.grownBy w' v.ownBlock ∧ (v'.ownBlock = v.ownBlock ∨ v'.ownBlock = some w.heap.size) := by
 obtain ⟨i0, hi0, hz0, hz1, hz2⟩ := info_parts Tryz.infoNo
 obtain ⟨v', w', hr, ho', hg', hb'⟩ := run_append0 w B 112 112 120 i0 Tryz.underlying112 hi0 hz0 hz1 hz2 v n hown ⟨vb, 0, none⟩ 1 1 (by omega) (by unfold maxLen; omega) hB
 have HR := hid (⟨ho', hg', hb'⟩ : w'.ownsRow B 120 0 v' (n + 1) [] ∧ w.grownBy w' v.ownBlock ∧ (v'.ownBlock = v.ownBlock ∨ v'.ownBlock = some w.heap.size))
 clear ho' hg' hb'
 rcases hown.2 with ⟨rfl, rfl⟩ | ⟨g, cap, cur, rfl, hb, hg, hnc, hcm, hsz, htk⟩
 ·clear hown
  go_enter Tryz.func97, Tryz.ntmps97
  go_wp2_with (at_builtin; refine Lib.wpList_append_run _ rfl (.tmp 23) (.tmp 24) 112 112 rfl _ _ rfl rfl v' w' hr ?_)
  go_ret
  exact ⟨_, rfl, HR.out⟩
 ·unfold maxLen at hcm
  clear hown htk hsz hg hb
  have hd : decide (n ≤ cap) = true := decide_eq_true hnc
  go_enter Tryz.func97, Tryz.ntmps97
  go_wp2_with (at_builtin; refine Lib.wpList_append_run _ rfl (.tmp 23) (.tmp 24) 112 112 rfl _ _ rfl rfl v' w' hr ?_)
  all_goals (go_ret; exact ⟨_, rfl, HR.out⟩)
set_option maxHeartbeats 4000000 in
set_option maxRecDepth 100000 in
theorem insNoRoom (g n c i vb : Nat) (w : World) (hi : i < n) (hroom : n + 1 ≤ c) (hc63 : c ≤ 9223372036854775807) (hn : n ≤ 1048576) :
  Calls Tryz.prog 97 #[.slice (some ⟨g, 0, none⟩) n c, .int .i64 i, .slice (some ⟨vb, 0, none⟩) 1 1] w fun e w' =>
   e = .returned (.slice (some ⟨g, 0, none⟩) (n + 1) c) ∧ ∃ q, w' = w.drewN q := by
 have hu := Tryz.underlying112
 obtain ⟨i0, hi0, hz0, hzs, hzb⟩ := info_parts Tryz.infoNo
 have hz1 : ∀ w : World, (Go.sizeOf 120).run Tryz.prog w = .ok 0 w := fun w => by simp [Go.sizeOf, typeInfo, hi0, hzs]
 have hov : ∀ (W : World) b lb cb, (callFunc 160 #[.slice (some ⟨vb, 0, none⟩) 1 1, .slice (some b) lb cb]).run Tryz.prog W = .ok (.value (.bool false)) W := fun W b lb cb => by
  rw [run_callFunc_extern Tryz.func160 (by kernel_rfl) (by kernel_rfl) (by kernel_rfl) (e := Extern.SlicesOverlaps.overlaps #[112, 112] #[4]) (by kernel_rfl), run_overlaps0 W 112 4 120 hu hz1]
  rfl
 have HCP : Hid (∀ (W : World) ty a b n m c d, (Builtin.copy_ #[112, 112] ty #[.slice a n c, .slice b m d]).run Tryz.prog W = .ok (goInt (Nat.min m n)) W) := fun W ty a b n m c d => run_copy0 W _ _ ty _ i0 hu hi0 hzs a b n m c d
 have hw1 : IntKind.i64.wrap ((i : Int) + 1) = (i : Int) + 1 := by rw [IntKind.wrap_i64]; omega
 have hb1 : (0 : Int) ≤ (i : Int) + 1 := by omega
 have hin : i ≤ n := by omega
 have htn : ((i : Int) + 1).toNat = i + 1 := by omega
 have hb2 : ¬ (c = i + 1) := by omega
 have hb3 : (i : Int) ≤ (n : Int) + 1 := by omega
 have hb4 : ¬ (c = i) := by omega
 have hz2 : ¬ ((i : Int) = (n : Int)) := by omega
 clear hz1 hi0 hz0 hzs hzb
 have mixed : Tryz.prog.follows .mixedOrders = true := by kernel_rfl
 go_enter Tryz.func97, Tryz.ntmps97
 go_wp2_with (simp only [hov])
 go_region_law (refine step_copy_isStr rfl _ _ 112 112 rfl (.slice (some ⟨g, 0, none⟩) (n - i) (c - (i + 1))) (.slice (some ⟨g, 0, none⟩) (n + 1 - i) (c - i)) (by simp [Act.eval, Act.put]) (by simp [Act.eval, Act.put]) (HCP.out _ _ _ _ _ _ _ _) ?_)
 all_goals go_wp2_with (refine wpList_copy_isStr _ rfl (.tmp 80) (.tmp 81) 112 112 rfl _ _ rfl rfl (HCP.out _ _ _ _ _ _ _ _) ?_)
 all_goals (go_ret; exact ⟨rfl, 1, rfl⟩)
set_option maxHeartbeats 4000000 in
set_option maxRecDepth 100000 in
theorem insNoGrow (B g n c i vb : Nat) (w : World) (hi : i < n) (hnc : n ≤ c) (hroom : c < n + 1) (hn : n ≤ 1048576) (hB : B ≤ w.heap.size) :
  Calls Tryz.prog 97 #[.slice (some ⟨g, 0, none⟩) n c, .int .i64 i, .slice (some ⟨vb, 0, none⟩) 1 1] w fun e w' =>
   ∃ v', e = .returned v' ∧ w'.ownsRow B 120 0 v' (n + 1) [] ∧ Below w.heap.size w w' ∧ v'.ownBlock = some w.heap.size := by
 have hu := Tryz.underlying112
 obtain ⟨i0, hi0, hz0, hzs, hzb⟩ := info_parts Tryz.infoNo
 have hkk : (n : Int) + 1 - (i : Int) = ((n + 1 - i : Nat) : Int) := by omega
 have hik : i + (n + 1 - i) = n + 1 := by omega
 have hrz : ∀ ty, (Builtin.append_ #[112, 3] ty #[.slice (some ⟨g, 0, none⟩) i c, .int .i64 ((n : Int) + 1 - (i : Int))]).run Tryz.prog w =
   .ok (.slice (some ⟨w.heap.size, 0, none⟩) (n + 1) (grownCap w (n + 1) c 120)) (w.drew.alloc (.cells #[] 120)) := fun ty => by
  have h := run_make0 w 112 3 ty 120 i0 hu Tryz.underlying3 hi0 hz0 hzs hzb (some ⟨g, 0, none⟩) i c (n + 1 - i) (by omega) (by omega) (by omega)
  rw [hik] at h
  rw [hkk]; exact h
 have HCP : Hid (∀ (W : World) ty a b n m c d, (Builtin.copy_ #[112, 112] ty #[.slice a n c, .slice b m d]).run Tryz.prog W = .ok (goInt (Nat.min m n)) W) := fun W ty a b n m c d => run_copy0 W _ _ ty _ i0 hu hi0 hzs a b n m c d
 have hGn := grownCap_ge w (n + 1) c 120
 have hGm := grownCap_le_maxLen w (n + 1) c 120 (by unfold maxLen; omega)
 obtain ⟨G, hG⟩ : ∃ G, grownCap w (n + 1) c 120 = G := ⟨_, rfl⟩
 rw [hG] at hrz hGn hGm
 have HFIN : Hid (∀ q, (World.drewN (w.drew.alloc (.cells #[] 120)) q).ownsRow B 120 0 (.slice (some ⟨w.heap.size, 0, none⟩) (n + 1) G) (n + 1) [] ∧ Below w.heap.size w (World.drewN (w.drew.alloc (.cells #[] 120)) q)) :=
  fun q => ⟨own_drewN (NoRow.new hB hGn hGm) q, below_drewN ((Below.refl _ _).drew.alloc (Nat.le_refl _) _) q⟩
 unfold maxLen at hGm
 have hGi : ¬ (G = i) := by omega
 have hGim : ¬ (G = i + 1) := by omega
 have hci : ¬ (c = i) := by omega
 have hw1 : IntKind.i64.wrap ((i : Int) + 1) = (i : Int) + 1 := by rw [IntKind.wrap_i64]; omega
 have hb1' : (0 : Int) ≤ (i : Int) + 1 := by omega
 have hin : i ≤ n := by omega
 have htn : ((i : Int) + 1).toNat = i + 1 := by omega
 have hb3 : (i : Int) ≤ (n : Int) := by omega
 have hz2 : ¬ ((i : Int) = (n : Int)) := by omega
 have hz3 : (c : Int) < (n : Int) + 1 := by omega
 have HZ := hid hrz
 clear hrz hG hi0 hz0 hzs hzb hkk hik
 have mixed : Tryz.prog.follows .mixedOrders = true := by kernel_rfl
 go_enter Tryz.func97, Tryz.ntmps97
 go_wp2_with (first
  | (at_builtin; refine Lib.wpList_append_run _ rfl _ _ _ _ rfl _ _ rfl rfl _ _ (HZ.out _) ?_)
  | (refine wpList_copy_isStr _ rfl (.tmp 43) (.tmp 44) 112 112 rfl _ _ rfl rfl (HCP.out _ _ _ _ _ _ _ _) ?_))
 go_region_law (refine step_copy_isStr rfl _ _ 112 112 rfl (.slice (some ⟨w.heap.size, 0, none⟩) (n - i) (G - (i + 1))) (.slice (some ⟨g, 0, none⟩) (n - i) (c - i)) (by simp [Act.eval, Act.put]) (by simp [Act.eval, Act.put]) (HCP.out _ _ _ _ _ _ _ _) ?_)
 all_goals go_wp2
 all_goals (go_ret; exact ⟨_, rfl, (HFIN.out 1).1, (HFIN.out 1).2, rfl⟩)
/-- one nothing more at a place -/
theorem insNo (B : Nat) (v : Value) (n i : Nat) (vb : Nat) (w : World) (hown : w.ownsRow B 120 0 v n []) (hB : B ≤ w.heap.size) (hi : i ≤ n) (hn : n ≤ 1048576) :
  Calls Tryz.prog 97 #[v, .int .i64 i, .slice (some ⟨vb, 0, none⟩) 1 1] w fun e w' => ∃ v', e = .returned v' ∧ w'.ownsRow B 120 0 v' (n + 1) [] ∧ w.grownBy w' v.ownBlock ∧ (v'.ownBlock = v.ownBlock ∨ v'.ownBlock = some w.heap.size) := by
 by_cases hin : i = n
 ·subst hin
  exact insNoEnd B v i vb w hown hB hn
 ·rcases hown.2 with ⟨rfl, rfl⟩ | ⟨g, cap, cur, rfl, hb, hg, hnc, hcm, hsz, htk⟩
  ·omega
  ·unfold maxLen at hcm
   by_cases hr : n + 1 ≤ cap
   ·refine (insNoRoom g n cap i vb w (by omega) hr hcm hn).mono ?_
    rintro e w' ⟨rfl, q, rfl⟩
    exact ⟨_, rfl, ⟨by simp, .inr ⟨g, cap, cur, rfl, hb, hg, hr, by unfold maxLen; omega, hsz, by simp⟩⟩, ⟨rfl, rfl, rfl, Nat.le_refl _, fun _ _ _ => rfl⟩, .inl rfl⟩
   ·refine (insNoGrow B g n cap i vb w (by omega) hnc (by omega) hn hB).mono ?_
    rintro e w' ⟨v', rfl, h2, hb2, h3⟩
    exact ⟨v', rfl, h2, ⟨hb2.os, hb2.tape, hb2.output, hb2.size, fun k hk _ => hb2.block k hk⟩, .inr h3⟩
end Go.Proofs.YtmpjdoiogbbcoaaGreatDoor
/- Sets of texts: find, Has, List, Add. -/
namespace Go.Proofs.YtmpjdoiogbbcoaaGreatDoor
open Go.RowKit Book Pap Ojt Sn
set_option linter.unusedVariables false
set_option linter.unusedSimpArgs false

theorem own_lower {w : World} {B e s n : Nat} {v : Value} {xs : List Value} (h : w.ownsRow B e s v n xs) : w.ownsRow 0 e s v n xs := own_mono h (Nat.zero_le _)
theorem SetAt.later {B b : Nat} {S : List ByteArray} {w w' : World} (h : SetAt B w b S) (hb : Below w.heap.size w w') : SetAt B w' b S := by
 obtain ⟨kv, ev, h1, h2, h3, h4⟩ := h
 exact ⟨kv, ev, (hb.block b (Blk.lt h1)).trans h1, own_below h2 hb, own_below h3 hb, h4⟩
theorem SetAt.mono {B C b : Nat} {S : List ByteArray} {w : World} (h : SetAt B w b S) (hc : C ≤ B) : SetAt C w b S := by
 obtain ⟨kv, ev, h1, h2, h3, h4⟩ := h
 exact ⟨kv, ev, h1, own_mono h2 hc, own_mono h3 hc, Nat.le_trans hc h4⟩
theorem sall_any (b : Nat) (w : World) : Calls Tryz.prog 50 #[.pointer (some ⟨b, 0, none⟩)] w fun e w' => e = .returned (.pointer (some ⟨b, 0, none⟩)) ∧ w = w' := by
 go_enter Tryz.func50, Tryz.ntmps50
 go_wp2_with fail
 go_ret
 exact ⟨rfl, rfl⟩
theorem sfind_any {B b : Nat} {S : List ByteArray} (x : ByteArray) (w : World) (h : SetAt B w b S) (hr : Rising S) (hl : S.length ≤ 1000000) :
  Calls Tryz.prog 96 #[.pointer (some ⟨b, 0, none⟩), .string x] w fun e w' => e = .returned (.tuple #[.int .i64 (posOf S x : Nat), .bool (hasN S x)]) ∧ w = w' := by
 obtain ⟨kv, ev, h1, h2, -, -⟩ := h
 obtain ⟨ka, kc, rfl, hS⟩ := own_strs h2 (by omega)
 have k0 : w.cell? ⟨b, 0, none⟩ = some (.slice ka S.length kc) := Blk.cell h1 0
 have CB := hid (bs_names ka S.length kc S x w hS (by omega) hr)
 clear h1 h2 hS hr
 go_enter Tryz.func96, Tryz.ntmps96
 go_wp2_with (go_at_call 138; refine CB.out.mono ?_; rintro e w' ⟨rfl, rfl⟩)
 go_ret2
 exact ⟨rfl, rfl⟩
theorem shas_any {B b : Nat} {S : List ByteArray} (x : ByteArray) (w : World) (h : SetAt B w b S) (hr : Rising S) (hl : S.length ≤ 1000000) :
  Calls Tryz.prog 181 #[.pointer (some ⟨b, 0, none⟩), .string x] w fun e w' => e = .returned (.bool (hasN S x)) ∧ w = w' := by
 have CF := hid (sfind_any x w h hr hl)
 have CA := hid (sall_any b w)
 clear h hr
 go_enter Tryz.func181, Tryz.ntmps181
 go_wp2_with (first
  | (go_at_call 50; refine CA.out.mono ?_; rintro e w' ⟨rfl, rfl⟩)
  | (go_at_call 96; refine CF.out.mono ?_; rintro e w' ⟨rfl, rfl⟩))
 go_ret
 exact ⟨rfl, rfl⟩
/-- what listing a set hands back -/
theorem skeys_any {B b : Nat} {S : List ByteArray} (w : World) (h : SetAt B w b S) (hl : S.length ≤ 100000) :
  Calls Tryz.prog 58 #[.pointer (some ⟨b, 0, none⟩)] w fun e w' => ∃ v', e = .returned v' ∧ w'.ownsRow w.heap.size 9 1 v' S.length (svals S) ∧ Below w.heap.size w w' := by
 obtain ⟨kv, ev, h1, h2, -, -⟩ := h
 obtain ⟨ka, kc, rfl, hS⟩ := own_strs h2 (by omega)
 have k0 : w.cell? ⟨b, 0, none⟩ = some (.slice ka S.length kc) := Blk.cell h1 0
 have CC := hid (clone_strs ka S.length kc S w hS hl)
 clear h1 h2 hS
 go_enter Tryz.func58, Tryz.ntmps58
 go_wp2_with (go_at_call 47; refine CC.out.mono ?_; rintro e w1 ⟨v, rfl, h1, h2⟩)
 go_ret
 exact ⟨_, rfl, h1, h2⟩
theorem slist_any {B b : Nat} {S : List ByteArray} (w : World) (h : SetAt B w b S) (hl : S.length ≤ 100000) :
  Calls Tryz.prog 20 #[.pointer (some ⟨b, 0, none⟩)] w fun e w' => ∃ v', e = .returned v' ∧ w'.ownsRow w.heap.size 9 1 v' S.length (svals S) ∧ Below w.heap.size w w' := by
 have CF := hid (skeys_any w h hl)
 have CA := hid (sall_any b w)
 clear h
 go_enter Tryz.func20, Tryz.ntmps20
 go_wp2_with (first
  | (go_at_call 50; refine CA.out.mono ?_; rintro e w' ⟨rfl, rfl⟩)
  | (go_at_call 58; refine CF.out.mono ?_; rintro e w' ⟨v, rfl, h1, h2⟩))
 go_ret
 exact ⟨_, rfl, h1, h2⟩
/-- where a set lies -/
def SetF (b : Nat) (kv ev : Value) (i : Nat) : Prop := i = b ∨ kv.ownBlock = some i ∨ ev.ownBlock = some i
/-- a set lies within P -/
def SetC (P : Nat → Prop) (w : World) (b : Nat) (S : List ByteArray) : Prop :=
 ∃ kv ev, Blk w b 116 #[kv, ev] ∧ w.ownsRow 0 9 1 kv S.length (svals S) ∧ w.ownsRow 0 120 0 ev S.length [] ∧ ∀ i, SetF b kv ev i → P i
theorem SetC.at0 {P : Nat → Prop} {b : Nat} {S : List ByteArray} {w : World} (h : SetC P w b S) : SetAt 0 w b S := by
 obtain ⟨kv, ev, h1, h2, h3, -⟩ := h
 exact ⟨kv, ev, h1, h2, h3, Nat.zero_le _⟩
theorem SetC.mono {P Q : Nat → Prop} {b : Nat} {S : List ByteArray} {w : World} (h : SetC P w b S) (hPQ : ∀ i, i < w.heap.size → P i → Q i) : SetC Q w b S := by
 obtain ⟨kv, ev, h1, h2, h3, h4⟩ := h
 refine ⟨kv, ev, h1, h2, h3, fun i hi => hPQ i ?_ (h4 i hi)⟩
 rcases hi with rfl | hi | hi
 ·exact Blk.lt h1
 ·exact own_lt h2 hi
 ·exact own_lt h3 hi
theorem SetC.only {P F : Nat → Prop} {b : Nat} {S : List ByteArray} {w w' : World} (h : SetC P w b S) (ho : Only F w w') (hf : ∀ i, P i → ¬ F i) : SetC P w' b S := by
 obtain ⟨kv, ev, h1, h2, h3, h4⟩ := h
 exact ⟨kv, ev, h1.only ho (hf _ (h4 _ (.inl rfl))), own_only h2 ho (fun k hk => hf k (h4 k (.inr (.inl hk)))), own_only h3 ho (fun k hk => hf k (h4 k (.inr (.inr hk)))), h4⟩
theorem SetC.later {P : Nat → Prop} {b : Nat} {S : List ByteArray} {w w' : World} (h : SetC P w b S) (hb : Below w.heap.size w w') : SetC P w' b S := h.only (Only.of_below hb NoF) (fun _ _ e => e)
theorem SetAt.inC {B b : Nat} {S : List ByteArray} {w : World} (h : SetAt B w b S) : SetC (B ≤ ·) w b S := by
 obtain ⟨kv, ev, h1, h2, h3, h4⟩ := h
 refine ⟨kv, ev, h1, own_lower h2, own_lower h3, fun i hi => ?_⟩
 rcases hi with rfl | hi | hi
 ·exact h4
 ·exact (h2.lt i hi).1
 ·exact (h3.lt i hi).1
/-- what putting one thing leaves -/
def SPutC (P : Nat → Prop) (w : World) (b : Nat) (S : List ByteArray) (x : ByteArray) (e : Ending) (w' : World) : Prop :=
 e = .returned (.bool (!hasN S x)) ∧ SetC (fun i => P i ∨ w.heap.size ≤ i) w' b (putN S x) ∧ Only P w w'
set_option maxRecDepth 100000 in
set_option maxHeartbeats 4000000 in
theorem sput_has {P : Nat → Prop} {b : Nat} {S : List ByteArray} (x : ByteArray) (w : World) (h : SetC P w b S) (hr : Rising S) (hl : S.length ≤ 100000) (hh : hasN S x = true) :
  Calls Tryz.prog 51 #[.pointer (some ⟨b, 0, none⟩), .string x, .agg #[]] w (SPutC P w b S x) := by
 have hm := (posOf_mem hr x).2 (hasN_iff.1 hh)
 have eN : putN S x = S := by unfold putN; rw [if_pos hh]
 have HF := hid (fun W (hW : Below w.heap.size w W) => sfind_any x W (h.later hW).at0 hr (by omega))
 rw [hh] at HF
 have HS := hid h
 obtain ⟨kv, ev, h1, h2, h3, h4⟩ := h
 obtain ⟨va, vc, rfl, -⟩ := own_slice' h3
 unfold SPutC
 rw [eN, hh]
 have hk1 : ∀ W, Below w.heap.size w W → W.cell? ⟨b, 1, none⟩ = some (.slice va S.length vc) := fun W hW => (hW.cell (p := ⟨b, 1, none⟩) (Blk.lt h1)).trans (Blk.cell h1 1)
 obtain ⟨K, hP⟩ : ∃ K, posOf S x = K := ⟨_, rfl⟩
 rw [hP] at HF hm
 have HK1 := hid hk1
 rcases h3.2 with ⟨e1, e2⟩ | ⟨g, cap, cur, e1, hb, hg, hnc, hcm, hsz, htk⟩
 ·omega
 injection e1 with e11 e12 e13
 subst e11
 subst e13
 have HB1 : Hid (Below w.heap.size w (w.alloc (.cells #[] 120))) := (Below.refl _ _).alloc (Nat.le_refl _) _
 have HF1 := hid (HF.out _ HB1.out)
 clear hk1 h1 h2 h3 hr hh eN hP HF hg htk hsz
 go_enter Tryz.func51, Tryz.ntmps51
 go_wp2_with (go_at_call 96; refine HF1.out.mono ?_; rintro e w' ⟨rfl, rfl⟩)
 have HW1 := hid (HK1.out _ HB1.out)
 have k1 := HW1.out
 have k1d := HK1.out _ HB1.out.drew
 have ci : (K : Int) < S.length := by omega
 have ci0 : (0 : Int) ≤ (K : Int) := by omega
 go_region
 all_goals go_wp2_with fail
 all_goals go_ret
 all_goals exact ⟨rfl, (HS.out.later HB1.out.drew).mono (fun _ _ => .inl), Only.of_below HB1.out.drew _⟩
set_option maxRecDepth 100000 in
set_option maxHeartbeats 4000000 in
theorem sput_no {P : Nat → Prop} {b : Nat} {S : List ByteArray} (x : ByteArray) (w : World) (h : SetC P w b S) (hr : Rising S) (hl : S.length ≤ 100000) (hh : hasN S x = false) :
  Calls Tryz.prog 51 #[.pointer (some ⟨b, 0, none⟩), .string x, .agg #[]] w (SPutC P w b S x) := by
 have hple := posOf_le S x
 have eN : putN S x = S.take (posOf S x) ++ x :: S.drop (posOf S x) := by unfold putN; rw [if_neg (by simp [hh])]
 have hB1 : Below w.heap.size w (w.alloc (.cells #[] 120)) := (Below.refl _ _).alloc (Nat.le_refl _) _
 have h1A := h.later hB1
 have HF := hid (sfind_any x _ h1A.at0 hr (by omega))
 rw [hh] at HF
 obtain ⟨K, hP⟩ : ∃ K, posOf S x = K := ⟨_, rfl⟩
 rw [hP] at HF hple eN
 have hlN : (putN S x).length = S.length + 1 := by rw [eN]; simp; omega
 unfold SPutC
 rw [hh]
 obtain ⟨wA, hwA⟩ : ∃ wA, w.alloc (.cells #[] 120) = wA := ⟨_, rfl⟩
 obtain ⟨bA, hbA⟩ : ∃ bA, w.heap.size = bA := ⟨_, rfl⟩
 have hBA : Blk wA bA 120 #[] := by rw [← hwA, ← hbA]; exact Blk.new w _ _
 have HBW : Hid (Only P w wA) := by rw [← hwA]; exact Only.of_below hB1 _
 rw [hwA] at h1A HF
 obtain ⟨kv, ev, h1, h2, h3, h4⟩ := h1A
 obtain ⟨ka, kc, rfl, -⟩ := own_slice' h2
 obtain ⟨va, vc, rfl, -⟩ := own_slice' h3
 have A1 : Blk (wA.alloc (.cells #[.string x] 9)) wA.heap.size 9 #[.string x] := Blk.new wA _ _
 have C1 := hid (insStr (.slice ka S.length kc) S.length K (svals S) (.string x) wA.heap.size _ (h2.alloc _) (svals_one S) rfl hple (by omega) A1 (fun e => by have := own_lt h2 e; omega))
 have HWA := hid hwA; have HBAE := hid hbA
 have G1 := hid h1; have G2 := hid h2; have G3 := hid h3; have GA := hid hBA
 have EN := hid eN; have HLN := hid hlN; have H4 := hid h4
 have k0 : wA.cell? ⟨b, 0, none⟩ = some (.slice ka S.length kc) := Blk.cell h1 0
 have f0 : wA.frozen? ⟨b, 0, none⟩ = false := Blk.frozen h1 0
 clear h h1 h2 h3 h4 hr hh eN hP hlN hBA A1 hB1 hwA hbA
 go_enter Tryz.func51, Tryz.ntmps51
 go_upto_region 1 with fail
 rw [HWA.out, HBAE.out]
 go_wp2_with (go_at_call 96; refine HF.out.mono ?_; rintro e w' ⟨rfl, rfl⟩)
 refine C1.out.mono ?_; rintro e w1 ⟨k', rfl, o1, g1, b1⟩
 obtain ⟨ka', kc', rfl, -⟩ := own_slice' o1
 have B1 : Blk w1 b 116 #[.slice ka S.length kc, .slice va S.length vc] := (G1.out.alloc _).grown g1 (fun e => own_blk_ne G2.out G1.out (by decide) e.symm)
 have V1 : w1.ownsRow 0 120 0 (.slice va S.length vc) S.length [] := (G3.out.alloc _).kept g1 (by
  cases hv : (Value.slice va S.length vc).ownBlock with
  | none => exact .inl rfl
  | some k => exact .inr (fun e => own_ne G2.out G3.out (by decide) e.symm hv))
 have T1 : Blk w1 bA 120 #[] := (GA.out.alloc _).grown g1 (fun e => own_blk_ne G2.out GA.out (by decide) e.symm)
 have W1 : Hid (Only P wA w1) := ((Only.refl P wA).alloc _).grown g1 (fun j hj => .inl (H4.out j (.inr (.inl hj))))
 have kB : Hid (∀ k, (Value.slice ka' (S.length + 1) kc').ownBlock = some k → (P k ∨ w.heap.size ≤ k) ∧ k ≠ b ∧ k ≠ bA) := fun k hk => by
  rcases b1 with b1 | b1
  ·rw [b1] at hk
   exact ⟨.inl (H4.out k (.inr (.inl hk))), fun e => own_blk_ne G2.out G1.out (by decide) (by rw [← e]; exact hk), fun e => own_blk_ne G2.out GA.out (by decide) (by rw [← e]; exact hk)⟩
  ·rw [b1] at hk; injection hk with hk; rw [World.size_alloc] at hk
   have h1 := Blk.lt G1.out; have h2 := Blk.lt GA.out; have h3 := HBW.out.size
   exact ⟨.inr (by omega), by omega, by omega⟩
 clear k0 f0
 have c0 : w1.cell? ⟨b, 0, none⟩ = some (.slice ka S.length kc) := Blk.cell B1 0
 have f0 : w1.frozen? ⟨b, 0, none⟩ = false := Blk.frozen B1 0
 obtain ⟨w2, hw2⟩ : ∃ w2, w2 = w1.setCell ⟨b, 0, none⟩ (.slice ka' (S.length + 1) kc') := ⟨_, rfl⟩
 have O2 : Only (· = b) w1 w2 := by rw [hw2]; exact (Only.refl (· = b) w1).setCell (p := ⟨b, 0, none⟩) (.inl rfl) _
 have B2 : Blk w2 b 116 #[.slice ka' (S.length + 1) kc', .slice va S.length vc] := by
  have := B1.set 0 (.slice ka' (S.length + 1) kc')
  rw [hw2]; simpa using this
 have T2 : Blk w2 bA 120 #[] := T1.only O2 (fun e => (B1.ne T1 (by decide)) e.symm)
 have N2 : w2.ownsRow 0 9 1 (.slice ka' (S.length + 1) kc') (S.length + 1) ((svals S).take K ++ .string x :: (svals S).drop K) := own_only o1 O2 (fun k hk => (kB.out k hk).2.1)
 have V2 : w2.ownsRow 0 120 0 (.slice va S.length vc) S.length [] := own_only V1 O2 (fun k hk e => own_blk_ne V1 B1 (by decide) (by rw [← e]; exact hk))
 have W2 : Only P w1 w2 := O2.mono (fun i hi => by rw [hi]; exact H4.out b (.inl rfl))
 have HW2 := hid hw2; have HB2 := hid B2; have HT2 := hid T2; have HN2 := hid N2; have HV2 := hid V2
 have HX2 : Hid (Only P w w2) := (HBW.out.then W1.out).then W2
 clear B1 O2 B2 T2 N2 V2 W2 V1 T1 W1 o1 g1 b1 hw2
 go_upto_region 3 with fail
 rw [← HW2.out]
 clear c0 f0
 have HINS : Hid (∀ W vb, Below w2.heap.size w2 W → Calls Tryz.prog 97 #[.slice va S.length vc, .int .i64 K, .slice (some ⟨vb, 0, none⟩) 1 1] W fun e w' => ∃ va' vc', e = .returned (.slice va' (S.length + 1) vc') ∧ w'.cell? ⟨b, 1, none⟩ = some (.slice va S.length vc) ∧ w'.frozen? ⟨b, 1, none⟩ = false ∧ Hid (SetC (fun i => P i ∨ w.heap.size ≤ i) (w'.setCell ⟨b, 1, none⟩ (.slice va' (S.length + 1) vc')) b (putN S x) ∧ Only P w (w'.setCell ⟨b, 1, none⟩ (.slice va' (S.length + 1) vc')))) := by
  intro W vb hW
  refine (insNo 0 _ S.length K vb W (own_below HV2.out hW) (Nat.zero_le _) hple (by omega)).mono ?_
  rintro e w3 ⟨v', rfl, o3, g3, b3⟩
  obtain ⟨va', vc', rfl, -⟩ := own_slice' o3
  have BW : Blk W b 116 #[.slice ka' (S.length + 1) kc', .slice va S.length vc] := (hW.block b (Blk.lt HB2.out)).trans HB2.out
  have VW := own_below HV2.out hW
  have NW := own_below HN2.out hW
  have B3 : Blk w3 b 116 #[.slice ka' (S.length + 1) kc', .slice va S.length vc] := BW.grown g3 (fun e => own_blk_ne VW BW (by decide) e.symm)
  have N3 : w3.ownsRow 0 9 1 (.slice ka' (S.length + 1) kc') (S.length + 1) ((svals S).take K ++ .string x :: (svals S).drop K) := NW.kept g3 (by
   cases hv : (Value.slice ka' (S.length + 1) kc').ownBlock with
   | none => exact .inl rfl
   | some k => exact .inr (fun e => own_ne NW VW (by decide) hv e.symm))
  have hvb : ∀ k, (Value.slice va' (S.length + 1) vc').ownBlock = some k → k ≠ b := fun k hk e => by
   rcases b3 with b3 | b3
   ·rw [b3] at hk; exact own_blk_ne VW BW (by decide) (by rw [← e]; exact hk)
   ·rw [b3] at hk; injection hk with hk; have := Blk.lt BW; omega
  have X3 : Only P w w3 := (HX2.out.then (Only.of_below hW P)).grown g3 (fun j hj => .inl (H4.out j (.inr (.inr hj))))
  have O4 : Only (· = b) w3 (w3.setCell ⟨b, 1, none⟩ (.slice va' (S.length + 1) vc')) := (Only.refl (· = b) w3).setCell (p := ⟨b, 1, none⟩) (.inl rfl) _
  have hvs : w.heap.size ≤ W.heap.size := Nat.le_trans HX2.out.size hW.size
  refine ⟨va', vc', rfl, Blk.cell B3 1, Blk.frozen B3 1, ⟨.slice ka' (S.length + 1) kc', .slice va' (S.length + 1) vc', ?_, ?_, ?_, ?_⟩, ?_⟩
  ·have := B3.set 1 (.slice va' (S.length + 1) vc')
   simpa using this
  ·have h2 := own_only N3 O4 (fun k hk => (kB.out k hk).2.1)
   rw [HLN.out, EN.out]
   unfold svals at h2 ⊢
   rw [List.map_append, List.map_cons, List.map_take, List.map_drop]
   exact h2
  ·rw [HLN.out]; exact own_only o3 O4 hvb
  ·intro i hi
   rcases hi with rfl | hi | hi
   ·exact .inl (H4.out _ (.inl rfl))
   ·exact (kB.out i hi).1
   ·rcases b3 with b3 | b3
    ·rw [b3] at hi; exact .inl (H4.out i (.inr (.inr hi)))
    ·rw [b3] at hi; injection hi with hi; exact .inr (by omega)
  ·exact X3.then (O4.mono (fun i hi => by rw [hi]; exact H4.out b (.inl rfl)))
 have c1 : w2.cell? ⟨b, 1, none⟩ = some (.slice va S.length vc) := Blk.cell HB2.out 1
 have c1d : w2.drew.cell? ⟨b, 1, none⟩ = some (.slice va S.length vc) := c1
 have c1a : ∀ C : Obj, (w2.alloc C).cell? ⟨b, 1, none⟩ = some (.slice va S.length vc) := fun C => Blk.cell (HB2.out.alloc C) 1
 have c1e : ∀ C : Obj, (w2.alloc C).drew.cell? ⟨b, 1, none⟩ = some (.slice va S.length vc) := fun C => Blk.cell (HB2.out.alloc C) 1
 clear C1 HF
 have hne : w2.heap.size ≠ b := World.new_ne w2 ⟨b, 1, none⟩ c1
 have hne' : ¬ b = w2.heap.size := fun e => hne e.symm
 go_region_with (go_at_call 97; refine (HINS.out _ _ (by first | exact Below.refl _ _ | exact (Below.refl _ _).drew | exact (Below.refl _ w2).alloc (Nat.le_refl _) _ | exact ((Below.refl _ w2).alloc (Nat.le_refl _) _).drew | exact (Below.refl _ w2).drew.alloc (Nat.le_refl _) _)).mono ?_; rintro e w' ⟨vx, vy, rfl, cx, fx, HFIN⟩)
 all_goals go_wp2_with fail
 all_goals go_ret
 all_goals exact ⟨rfl, HFIN.out.1, HFIN.out.2⟩
theorem sadd_c {P : Nat → Prop} {b : Nat} {S : List ByteArray} (x : ByteArray) (w : World) (h : SetC P w b S) (hr : Rising S) (hl : S.length ≤ 100000) :
  Calls Tryz.prog 17 #[.pointer (some ⟨b, 0, none⟩), .string x] w (SPutC P w b S x) := by
 have CP : Calls Tryz.prog 51 #[.pointer (some ⟨b, 0, none⟩), .string x, .agg #[]] w (SPutC P w b S x) := by
  cases hh : hasN S x with
  | true => exact sput_has x w h hr hl hh
  | false => exact sput_no x w h hr hl hh
 have CP := hid CP
 have CA := hid (sall_any b w)
 clear h hr
 go_enter Tryz.func17, Tryz.ntmps17
 go_wp2_with (first
  | (go_at_call 50; refine CA.out.mono ?_; rintro e w' ⟨rfl, rfl⟩)
  | (go_at_call 51; refine CP.out.mono ?_; rintro e w1 ⟨rfl, h1, h2⟩))
 go_ret
 exact ⟨rfl, h1, h2⟩
/-- what is in one set or the other -/
def unionB (S T : List ByteArray) : List ByteArray := Sw.setOf (S ++ T)
set_option maxRecDepth 100000 in
set_option maxHeartbeats 4000000 in
theorem sunion_any {B C b c : Nat} {S T : List ByteArray} (w : World) (h : SetAt B w b S) (k : SetAt C w c T) (hl : S.length ≤ 50000) (kl : T.length ≤ 50000) :
  Calls Tryz.prog 18 #[.pointer (some ⟨b, 0, none⟩), .pointer (some ⟨c, 0, none⟩)] w fun e w' => ∃ d, e = .returned (.pointer (some ⟨d, 0, none⟩)) ∧ SetAt w.heap.size w' d (unionB S T) ∧ Below w.heap.size w w' := by
 obtain ⟨i0, hi0, hz0, hz1, hz2⟩ := info_parts Tryz.infoS
 have CL := hid (slist_any w h (by omega))
 have K := hid k
 clear h k
 go_enter Tryz.func18, Tryz.ntmps18
 go_wp2_with fail
 refine CL.out.mono ?_; rintro e w1 ⟨v1, rfl, o1, hb1⟩
 obtain ⟨va, vc, rfl, -⟩ := own_slice' o1
 have HB1 := hid hb1; have HO1 := hid o1
 have CK := hid (slist_any w1 (K.out.later hb1) (by omega))
 clear hb1 o1 CL
 go_wp2_with fail
 refine CK.out.mono ?_; rintro e w2 ⟨v2, rfl, o2, hb2⟩
 obtain ⟨ua, uc, rfl, hS2⟩ := own_strs o2 (by omega)
 have HB2 := hid (below_then HB1.out hb2)
 have HO2 := hid (own_below HO1.out hb2)
 have HS2 := hid hS2
 have hs2 := HB2.out.size
 clear hb2 o2 CK HO1 HB1 hS2
 have HB1 : Hid (∀ W, Below w2.heap.size w2 W → Below w.heap.size w W) := fun W hW => below_then HB2.out hW
 go_wp2_with (at_builtin; refine wpList_append_strs (by rfl) (.tmp 6) (.tmp 8) (by rfl) w.heap.size (.slice va S.length vc) S.length S (by rfl) HO2.out ua T.length uc T (by rfl) HS2.out (by omega) hs2 ?_; intro a5 c5 w3 ho3 hb3; have HO3 := hid ho3; have HB3 := hid (hb3 w HB2.out); clear ho3 hb3)
 have hO3 : w3.ownsRow w.heap.size 9 1 (.slice a5 (S.length + T.length) c5) (S ++ T).length (svals (S ++ T)) := by
  rw [List.length_append]; exact HO3.out
 obtain ⟨a6, c6, e6, hS3⟩ := own_strs hO3 (by rw [List.length_append]; omega)
 injection e6 with e61 e62 e63
 subst e61
 clear e62 e63
 rw [List.length_append] at hS3
 have CO := hid (of_any a5 (S.length + T.length) c5 (S ++ T) w3 hS3 (by omega))
 have hs3 := HB3.out.size
 clear hO3 hS3 HO3 HO2 HS2 HB1
 refine CO.out.mono ?_; rintro e w4 ⟨d, rfl, h4, hb4⟩
 have H4 := hid (h4.mono hs3)
 have HB4 := hid (below_then HB3.out hb4)
 clear h4 hb4 CO
 go_wp2_with fail
 go_ret
 exact ⟨d, rfl, H4.out, HB4.out⟩
end Go.Proofs.YtmpjdoiogbbcoaaGreatDoor
/- A range over a function whose rounds leave the world as it was but for draws: what such an iterator owes, and the caller's law. No program. -/
namespace Go.Proofs.YtmpjdoiogbbcoaaGreatDoor
open Go.RowKit
set_option linter.unusedVariables false

/-- a round of loop l that goes on and has only drawn -/
def Quiet1 (P : Program) (l : Nat) (args : Array Value) (W : World) : Prop := ∀ m, YieldAt Fence.wide m P l args W fun e W' => e = .returned (.bool true) ∧ ∃ q, W' = W.drewN q
/-- an iterator under rounds that only draw -/
def QSeq (P : Program) (g : Nat) (lb : Array Value) (zs : List (Array Value)) (w : World) : Prop :=
 ∀ (n l : Nat) (W : World), Below w.heap.size w W → (∀ args ∈ zs, ∀ W1, Below W.heap.size W W1 → Quiet1 P l args W1) →
  CallsIn Fence.wide n P g (#[.func (.yield l) #[] #[]] ++ lb) W fun e W' => (∃ v, e = .returned v) ∧ Below W.heap.size W W'
/-- how the body of such a round is left -/
def postQ (W : World) : Exit → Act → World → Prop
 | .normal, _, W' => ∃ q, W' = W.drewN q
 | .ret, _, _ => False
 | .exit _, _, _ => False
 | .goto _, _, _ => False
 | .panic _, _, _ => False
 | .outgrown, _, _ => False
theorem putObj_back {W : World} {l q : Nat} {o p : Obj} (h : W.heap[l]? = some o) : ((W.putObj l p).drewN q).putObj l o = W.drewN q := by
 have hl : l < W.heap.size := (Array.getElem?_eq_some_iff.1 h).1
 have e : (W.heap.setIfInBounds l p).setIfInBounds l o = W.heap := by
  apply Array.ext_getElem?
  intro i
  by_cases hi : l = i
  ·subst hi
   rw [h]; simp [hl]
  ·rw [Array.getElem?_setIfInBounds_ne hi, Array.getElem?_setIfInBounds_ne hi]
 show ({ (W.drewN q) with heap := (W.heap.setIfInBounds l p).setIfInBounds l o } : World) = _
 rw [e]; rfl
theorem wpIn_range_quiet {n : Nat} {P : Program} {g : Operand} {ps : Array Tmp} {assign body : Code} {Q : Exit → Act → World → Prop} {a : Act} {w : World} {gf : Nat} {lb : Array Value}
  (hg : a.eval g = .func (.func gf) #[] lb) (eg : ∀ args w, (callFunc gf args).run P w = .ok (.enter gf args) w) {zs : List (Array Value)} {w0 : World} (hseq : QSeq P gf lb zs w0) (hb0 : Below w0.heap.size w0 w) (hps : ∀ args ∈ zs, args.size = ps.size) (a₁ : Array Value → Act)
  (hassign : ∀ (l m : Nat) (args : Array Value) (W : World) (K : Act → World → Prop), args ∈ zs → K (a₁ args) W → assign.wpIn (inR l) m P (Exit.then K (fun _ _ _ => False)) { tmps := (ps.zip args).foldl (fun t (p, v) => t.setIfInBounds p v) a.tmps, defers := [] } W)
  (hbody : ∀ (l m : Nat) (args : Array Value) (W : World), args ∈ zs → Below w.heap.size w W → body.wpIn (inR l) m P (postQ W) (a₁ args) W)
  (hdone : ∀ (D : Nat) (W : World), w.heap.size ≤ D → Below w.heap.size w W → W.heap[D]? = some (.deferred (some [])) → Q .normal { a with defers := { target := .collected D, args := #[] } :: a.defers } W) :
  (Code.rangeFunc g ps assign body).wpIn Fence.wide n P Q a w := by
 refine wpIn_rangeFunc fun fn hfn => ?_
 show ∃ (l : Nat) (mark : List Deferred) (w₁ : World) (d : Deferred) (w₁' : World) (f : FuncId) (args : Array Value) (w₂ : World), (Instr.enterLoop fn a.tmps ps assign body none).run P w = .ok (l, mark) w₁ ∧ _
 obtain ⟨rec, hrec⟩ : ∃ rec : LoopState → Loop, rec = fun st => { state := st, pending := none, fn, tmps := a.tmps, params := ps, assign, body, defers := w.heap.size } := ⟨_, rfl⟩
 obtain ⟨W1, hW1⟩ : ∃ W1, (w.alloc (.deferred (some []))).alloc (.loop (rec .ready)) = W1 := ⟨_, rfl⟩
 have hL : W1.heap[w.heap.size + 1]? = some (.loop (rec .ready)) := by
  rw [← hW1]; have := World.alloc_heap_new (w.alloc (.deferred (some []))) (.loop (rec .ready)); rwa [World.size_alloc] at this
 have hD : W1.heap[w.heap.size]? = some (.deferred (some [])) := by
  rw [← hW1]; exact (Below.heap_alloc _ _ _ (by simp)).trans (World.alloc_heap_new w _)
 have hb1 : Below w.heap.size w W1 := by rw [← hW1]; exact ((Below.refl _ w).alloc (Nat.le_refl _) _).alloc (by simp) _
 have hlt : w.heap.size + 1 < W1.heap.size := (Array.getElem?_eq_some_iff.1 hL).1
 refine ⟨w.heap.size + 1, [{ target := .collected w.heap.size, args := #[] }], W1, { target := .fn (.func gf) lb, args := #[.func (.yield (w.heap.size + 1)) #[] #[]] }, W1, gf,
  #[.func (.yield (w.heap.size + 1)) #[] #[]] ++ lb, W1, ?_, ?_, ?_, ?_, fun h => (by cases h), ?_⟩
 ·rw [← hW1, hrec]; exact run_enterLoop_outer _ _ _ _ _
 ·simp only [resolve, hg]
  simp [go_sem]
 ·intro f' _; trivial
 ·simp [invoke, go_sem, eg]
 ·refine (hseq (n - 1) (w.heap.size + 1) W1 (below_then hb0 hb1) ?_).mono ?_
  ·intro args hz Wy hWy m
   have hl : Wy.heap[w.heap.size + 1]? = some (.loop (rec .ready)) := (hWy.block _ hlt).trans hL
   have hy := run_yield (P := P) (args := args) hl (by rw [hrec]; exact hps args hz)
   rw [hrec] at hy
   refine ⟨fn, _, assign, body, hy, roundIn_of_wpIn hfn (hassign _ _ args Wy _ hz ⟨_, run_beginRound hl (by rw [hrec]), ?_⟩)⟩
   have hlW : w.heap.size + 1 < Wy.heap.size := (Array.getElem?_eq_some_iff.1 hl).1
   refine wpIn_mono (hbody _ _ args _ hz ((below_then hb1 hWy).grown (grownBy_putObj' Wy (w.heap.size + 1) _) (by have := (below_then hb1 hWy).size; omega) (fun k e => by cases e; omega))) ?_
   rintro e a3 W3 hp
   cases e <;> first | exact hp.elim | skip
   obtain ⟨q, rfl⟩ := hp
   have hl3 : (World.drewN (Wy.putObj (w.heap.size + 1) (.loop { rec .ready with state := .busy })) q).heap[w.heap.size + 1]? = some (.loop { rec .ready with state := .busy }) := World.putObj_heap_same hlW
   have hr := run_endRound (P := P) none hl3
   subst hrec
   exact ⟨_, _, hr, rfl, q, putObj_back hl⟩
  ·rintro e W2 ⟨⟨v, rfl⟩, hb2⟩
   have hl2 : W2.heap[w.heap.size + 1]? = some (.loop (rec .ready)) := (hb2.block _ hlt).trans hL
   have hd2 : W2.heap[w.heap.size]? = some (.deferred (some [])) := (hb2.block _ (by omega)).trans hD
   refine ⟨none, _, by have := run_endLoop (P := P) hl2 (by rw [hrec]; simp); rw [hrec] at this; exact this, hdone w.heap.size _ (Nat.le_refl _) ?_ ((World.putObj_heap_other (by omega)).trans hd2)⟩
   exact (below_then hb1 hb2).grown (grownBy_putObj' W2 (w.heap.size + 1) _) (by have := (below_then hb1 hb2).size; omega) (fun k e => by cases e; omega)
end Go.Proofs.YtmpjdoiogbbcoaaGreatDoor
/- Sets of texts gone over: All; whether one lies within another. -/
namespace Go.Proofs.YtmpjdoiogbbcoaaGreatDoor
open Go.RowKit Book Pap Ojt Sn
attribute [local go_sem] Oper.semAt_some
set_option linter.unusedVariables false
set_option linter.unusedSimpArgs false

set_option maxRecDepth 100000 in
set_option maxHeartbeats 4000000 in
/-- nothings copied into own memory -/
theorem cloneNo (B : Nat) (v : Value) (n : Nat) (w : World) (h : w.ownsRow B 120 0 v n []) (hn : n ≤ 1000000) :
    Calls Tryz.prog 254 #[v] w fun e w' => ∃ v', e = .returned v' ∧ w'.ownsRow w.heap.size 120 0 v' n [] ∧ Below w.heap.size w w' := by
  obtain ⟨i0, hi0, hz0, hz1, hz2⟩ := info_parts Tryz.infoNo
  have hq : ∀ (W : World) a m c, (binOp .eql 112 (.slice a m c) (.slice none 0 0)).run Tryz.prog W = .ok (.bool a.isNone) W := fun W a m c => Go.run_eql_slice_nil W 112 120 a m c Tryz.underlying112
  rcases h.2 with ⟨rfl, rfl⟩ | ⟨g, cap, cur, rfl, hb, hg, hnc, hcm, hsz, htk⟩
  · clear h
    go_enter Tryz.func254, Tryz.ntmps254
    go_wp2_with fail
    go_ret
    exact ⟨_, rfl, World.ownsRow_nil _ _ _ _, Below.refl _ _⟩
  · have ho : (w.alloc (.cells #[] 120)).ownsRow w.heap.size 120 0 (.slice (some ⟨w.heap.size, 0, none⟩) 0 0) 0 [] :=
      ⟨rfl, .inr ⟨w.heap.size, 0, #[], rfl, Nat.le_refl _, by show (w.heap.push _)[w.heap.size]? = _; simp, Nat.le_refl _, by unfold maxLen; omega, rfl, rfl⟩⟩
    have hB1 : Below w.heap.size w (w.alloc (.cells #[] 120)) := (Below.refl _ _).alloc (Nat.le_refl _) _
    by_cases h0 : n = 0
    · subst h0
      have hr : (Builtin.append_ #[112, 112] 112 #[.slice (some ⟨w.heap.size, 0, none⟩) 0 0, .slice (some ⟨g, 0, none⟩) 0 cap]).run Tryz.prog (w.alloc (.cells #[] 120)) = .ok (.slice (some ⟨w.heap.size, 0, none⟩) 0 0) (w.alloc (.cells #[] 120)) := by
        have e1 : (Builtin.firstCells 0 0 (.slice (some ⟨g, 0, none⟩) 0 cap)).run Tryz.prog (w.alloc (.cells #[] 120)) = .ok #[] (w.alloc (.cells #[] 120)) := by
          simpa using run_firstCells_some (P := Tryz.prog) (w.alloc (.cells #[] 120)) 0 0 ⟨g, 0, none⟩ 0 cap [] (by simp) (fun j u h => by simp at h)
        simp [Builtin.append_, run_underlying Tryz.underlying112, sizeOf, typeInfo, hi0, hz1, Builtin.lenOf, e1, storeCells]
      have HO := hid ho; have HB := hid hB1
      clear h hg htk hsz hb ho hB1
      go_enter Tryz.func254, Tryz.ntmps254
      go_wp2_with (at_builtin; refine Lib.wpList_append_run _ rfl (.tmp 5) (.tmp 6) 112 112 rfl _ _ rfl rfl _ _ hr ?_)
      go_ret
      exact ⟨_, rfl, HO.out, HB.out⟩
    · obtain ⟨v', w', hr, ho', hg', hb'⟩ := run_append0 (w.alloc (.cells #[] 120)) w.heap.size 112 112 120 i0 Tryz.underlying112 hi0 hz0 hz1 hz2 _ 0 ho ⟨g, 0, none⟩ n cap (by omega) (by unfold maxLen; omega) hB1.size
      rw [Nat.zero_add] at ho'
      have HO := hid ho'
      have HB : Hid (Below w.heap.size w w') := hB1.grown hg' hB1.size (fun j hj => (ho.lt j hj).1)
      clear h hg htk hsz hb ho hB1 ho' hg' hb'
      go_enter Tryz.func254, Tryz.ntmps254
      go_wp2_with (at_builtin; refine Lib.wpList_append_run _ rfl (.tmp 5) (.tmp 6) 112 112 rfl _ _ rfl rfl v' w' hr ?_)
      go_ret
      exact ⟨_, rfl, HO.out, HB.out⟩
def pairN (x : ByteArray) : Array Value := #[.string x, .agg #[]]
def oneN (x : ByteArray) : Array Value := #[.string x]
set_option maxRecDepth 100000 in
set_option maxHeartbeats 4000000 in
theorem allNo_q {B b Bm : Nat} {S : List ByteArray} (w : World) (hq : w.cell? ⟨Bm, 0, none⟩ = some (.pointer (some ⟨b, 0, none⟩))) (h : SetAt B w b S) (hl : S.length ≤ 100000) :
  QSeq Tryz.prog 253 #[.pointer (some ⟨Bm, 0, none⟩)] (S.map pairN) w := by
 intro n l W hW hY
 have hqW : W.cell? ⟨Bm, 0, none⟩ = some (.pointer (some ⟨b, 0, none⟩)) := (hW.cell (p := ⟨Bm, 0, none⟩) (World.block_lt_of_cell? _ _ hq)).trans hq
 have HS := hid (h.later hW)
 have HY := hid hY
 clear hY h hW hq
 obtain ⟨kv, ev, h1, h2, h3, h4⟩ := HS.out
 obtain ⟨va, vc, rfl, -⟩ := own_slice' h3
 have c1 : W.cell? ⟨b, 1, none⟩ = some (.slice va S.length vc) := Blk.cell h1 1
 have CC := hid (cloneNo B _ S.length W h3 (by omega))
 have CK := hid (fun W1 (hb : Below W.heap.size W W1) => skeys_any W1 (HS.out.later hb) hl)
 have HQ := hid (fun W1 (hb : Below W.heap.size W W1) => (hb.cell (p := ⟨Bm, 0, none⟩) (World.block_lt_of_cell? _ _ hqW)).trans hqW)
 clear h1 h2 h3 h4
 refine callsIn_of_wp Tryz.func253 rfl trivial ?_ rfl
 simp only [Tryz.ntmps253, List.size_toArray, List.length_cons, List.length_nil, Nat.reduceAdd, Nat.reduceSub, Array.replicate_succ, Array.replicate_zero, List.push_toArray, List.append_toArray, List.nil_append, List.cons_append]
 gi_wp2_with fail
 refine ⟨trivial, fun h => (by cases h), (callsIn_wide.2 CC.out).mono ?_⟩; rintro e W1 ⟨v1, rfl, o1, hb1⟩
 have q1 := HQ.out W1 hb1
 have HB1 := hid hb1; have HV1 := hid o1
 clear hb1 o1 hqW c1 CC
 gi_wp2_with fail
 refine ⟨trivial, fun h => (by cases h), (callsIn_wide.2 (CK.out W1 HB1.out)).mono ?_⟩; rintro e W2 ⟨v2, rfl, o2, hb2⟩
 obtain ⟨ka, kc, rfl, hK2⟩ := own_strs o2 (by omega)
 have HK2 := hid hK2
 obtain ⟨a1, c1', rfl, hac1⟩ := own_slice' (own_below HV1.out hb2)
 have HB2 := hid (below_then HB1.out hb2)
 have HV2 := hid (own_below HV1.out hb2)
 clear hb2 o2 hK2 q1 HB1 HV1 CK
 gi_wp2_with fail
 gi_loopw [16] (fun i wr => ∃ (k q : Nat), k ≤ S.length ∧ i = .int .i64 k ∧ W2.drewN q = wr) (fun i _ => S.length - (intOf i).toNat)
 case atStart => exact ⟨0, 0, Nat.zero_le _, rfl, rfl⟩
 case round =>
  obtain ⟨k, q, hk, rfl, rfl⟩ := hrel
  by_cases hlt : k < S.length
  ·obtain ⟨-, -, h3⟩ := HK2.out
   obtain ⟨kb, ko, rfl, hc⟩ := h3.resolve_left (by omega)
   have q0 : (W2.drewN q).cell? ⟨kb, ko + k, none⟩ = some (.string (S.getD k ByteArray.empty)) := hc k hlt
   have hmem : S.getD k ByteArray.empty ∈ S := by rw [List.getD_eq_getElem?_getD, List.getElem?_eq_getElem hlt]; exact List.getElem_mem hlt
   obtain ⟨x, hx⟩ : ∃ x, S.getD k ByteArray.empty = x := ⟨_, rfl⟩
   rw [hx] at q0 hmem
   obtain ⟨g, d, e1, -, -⟩ := HV2.out.form (by omega)
   injection e1 with e11 e12 e13
   subst e11; subst e13
   have ck : (k : Int) < S.length := by omega
   have ck0 : (0 : Int) ≤ (k : Int) := by omega
   obtain ⟨fn, tmps, assign, body, hy, hR⟩ := HY.out (pairN x) (List.mem_map.2 ⟨x, hmem, rfl⟩) (W2.drewN q) (below_drewN HB2.out q) (n - 1)
   unfold pairN at hy
   have HDD : Hid (∀ p : Nat, World.drewN (World.drewN W2 q) p = World.drewN W2 (q + p)) := fun p => World.drewN_drewN ..
   generalize hwv : W2.drewN q = wv at q0 hy hR HDD ⊢
   clear hc h3 hx hwv hmem e12
   gi_wp2
   refine ⟨fun h => (by cases h), hR.mono ?_⟩
   rintro e W3 ⟨rfl, q', rfl⟩
   rw [HDD.out]
   gi_wp2
   go_roundw
   case rel => exact ⟨k + 1, q + q', by omega, by go_num, by first | rfl | trivial⟩
   case measure => simp [intOf]; omega
  ·obtain rfl : k = S.length := by omega
   gi_wp2
   go_end0
   exact ⟨⟨_, rfl⟩, below_drewN HB2.out q⟩
set_option maxHeartbeats 1000000 in
theorem mall_any (q : Option Addr) (w : World) : Calls Tryz.prog 218 #[.pointer q] w fun e w' => e = .returned (.func (.func 253) #[] #[.pointer (some ⟨w.heap.size, 0, none⟩)]) ∧ w' = w.alloc (.cells #[.pointer q] 117) := by
 go_enter Tryz.func218, Tryz.ntmps218
 go_wp2
 go_ret
 exact ⟨rfl, rfl⟩
theorem setall_any (q : Option Addr) (w : World) : Calls Tryz.prog 180 #[.pointer q] w fun e w' => e = .returned (.func (.func 217) #[] #[.pointer (some ⟨w.heap.size, 0, none⟩)]) ∧ w' = w.alloc (.cells #[.pointer q] 50) := by
 go_enter Tryz.func180, Tryz.ntmps180
 go_wp2
 go_ret
 exact ⟨rfl, rfl⟩
set_option maxRecDepth 100000 in
set_option maxHeartbeats 4000000 in
theorem setall_q {B b Bs : Nat} {S : List ByteArray} (w : World) (hq : w.cell? ⟨Bs, 0, none⟩ = some (.pointer (some ⟨b, 0, none⟩))) (h : SetAt B w b S) (hl : S.length ≤ 100000) :
  QSeq Tryz.prog 217 #[.pointer (some ⟨Bs, 0, none⟩)] (S.map oneN) w := by
 intro n l W hW hY
 have hqW : W.cell? ⟨Bs, 0, none⟩ = some (.pointer (some ⟨b, 0, none⟩)) := (hW.cell (p := ⟨Bs, 0, none⟩) (World.block_lt_of_cell? _ _ hq)).trans hq
 have HS := hid (h.later hW)
 have HY := hid hY
 clear hY h hW hq
 have hb1 : Below W.heap.size W (W.alloc (.cells #[.func (.yield l) #[] #[]] 54)) := (Below.refl _ _).alloc (Nat.le_refl _) _
 have hx1 : Blk (W.alloc (.cells #[.func (.yield l) #[] #[]] 54)) W.heap.size 54 #[.func (.yield l) #[] #[]] := Blk.new W _ _
 have q1 : (W.alloc (.cells #[.func (.yield l) #[] #[]] 54)).cell? ⟨Bs, 0, none⟩ = some (.pointer (some ⟨b, 0, none⟩)) := (hb1.cell (p := ⟨Bs, 0, none⟩) (World.block_lt_of_cell? _ _ hqW)).trans hqW
 refine callsIn_of_wp_marks Tryz.func217 rfl trivial ?_ rfl
 simp only [Tryz.ntmps217, List.size_toArray, List.length_cons, List.length_nil, Nat.reduceAdd, Nat.reduceSub, Array.replicate_succ, Array.replicate_zero, List.push_toArray, List.append_toArray, List.nil_append, List.cons_append]
 gi_wp2_with fail
 refine ⟨trivial, fun h => (by cases h), (callsIn_wide.2 (sall_any b _)).mono ?_⟩; rintro e w' ⟨rfl, rfl⟩
 gi_wp2_with fail
 refine ⟨trivial, fun h => (by cases h), (callsIn_wide.2 (mall_any (some ⟨b, 0, none⟩) _)).mono ?_⟩; rintro e w' ⟨rfl, rfl⟩
 have hb2 : Below W.heap.size W ((W.alloc (.cells #[.func (.yield l) #[] #[]] 54)).alloc (.cells #[.pointer (some ⟨b, 0, none⟩)] 117)) := hb1.alloc hb1.size _
 have hx2 : Blk ((W.alloc (.cells #[.func (.yield l) #[] #[]] 54)).alloc (.cells #[.pointer (some ⟨b, 0, none⟩)] 117)) W.heap.size 54 #[.func (.yield l) #[] #[]] := hx1.alloc _
 have hy2 : Blk ((W.alloc (.cells #[.func (.yield l) #[] #[]] 54)).alloc (.cells #[.pointer (some ⟨b, 0, none⟩)] 117)) (W.alloc (.cells #[.func (.yield l) #[] #[]] 54)).heap.size 117 #[.pointer (some ⟨b, 0, none⟩)] := Blk.new _ _ _
 generalize ((W.alloc (.cells #[.func (.yield l) #[] #[]] 54)).alloc (.cells #[.pointer (some ⟨b, 0, none⟩)] 117)) = W2 at hb2 hx2 hy2 ⊢
 generalize (W.alloc (.cells #[.func (.yield l) #[] #[]] 54)).heap.size = B2 at hy2 ⊢
 have HB2 := hid hb2; have HX2 := hid hx2; have HY2 := hid hy2
 clear hb1 hx1 q1 hqW hb2 hx2 hy2
 gi_wp2_with fail
 refine wpIn_range_quiet (gf := 253) (lb := #[.pointer (some ⟨B2, 0, none⟩)]) rfl (enters_of Tryz.func253 (by kernel_rfl) rfl)
  (allNo_q W2 (Blk.cell HY2.out 0) (HS.out.later HB2.out) hl) (Below.refl _ _) (fun args hz => by obtain ⟨x, -, rfl⟩ := List.mem_map.1 hz; rfl)
  (fun args => { tmps := #[.func (.yield l) #[] #[], .pointer (some ⟨Bs, 0, none⟩), .pointer (some ⟨W.heap.size, 0, none⟩), args.getD 0 undef, .pointer (some ⟨b, 0, none⟩), .pointer (some ⟨b, 0, none⟩), .func (.func 253) #[] #[.pointer (some ⟨B2, 0, none⟩)], args.getD 0 undef, args.getD 1 undef, undef, undef, undef, undef], defers := [] }) ?assign ?body ?done
 case assign =>
  intro l' m args W' K hz hK
  obtain ⟨x, -, rfl⟩ := List.mem_map.1 hz
  unfold pairN at hK ⊢
  gi_wp2
  exact hK
 case body =>
  intro l' m args W' hz hB
  obtain ⟨x, hx, rfl⟩ := List.mem_map.1 hz
  have k0 : W'.cell? ⟨W.heap.size, 0, none⟩ = some (.func (.yield l) #[] #[]) := (hB.cell (p := ⟨W.heap.size, 0, none⟩) (Blk.lt HX2.out)).trans (Blk.cell HX2.out 0)
  obtain ⟨fn, tmps, assign, body, hy, hR⟩ := HY.out (oneN x) (List.mem_map.2 ⟨x, hx, rfl⟩) W' (below_then HB2.out hB) (m - 1)
  have hR' : RoundIn (inR l') (m - 1) Tryz.prog l fn tmps assign body W' fun e W3 => e = .returned (.bool true) ∧ ∃ q, W3 = W'.drewN q := hR
  unfold oneN at hy
  unfold pairN
  clear hz hx hR
  gi_wp2
  refine ⟨fun h => (by cases h), hR'.mono ?_⟩
  rintro e W3 ⟨rfl, q, rfl⟩
  gi_wp2
  exact ⟨q, rfl⟩
 case done =>
  intro D W' hD hB hK
  gi_wp2
  refine ⟨by simp, .inl ⟨_, _, rfl, run_takeDeferred hK, ?_⟩⟩
  refine ⟨_, results_none rfl _ _ _, ⟨_, rfl⟩, ?_⟩
  have h2 := below_then HB2.out hB
  exact h2.grown (grownBy_putObj' W' D _) (Nat.le_trans HB2.out.size hB.size) (fun k e => by cases e; exact Nat.le_trans HB2.out.size hD)
end Go.Proofs.YtmpjdoiogbbcoaaGreatDoor
/- Whether a set of texts lies within another: part, Minus, Within, where it does. -/
namespace Go.Proofs.YtmpjdoiogbbcoaaGreatDoor
open Go.RowKit Book Pap Ojt Sn
attribute [local go_sem] Oper.semAt_some
set_option linter.unusedVariables false
set_option linter.unusedSimpArgs false

theorem SetAt.later' {B b D : Nat} {S : List ByteArray} {w w' : World} (h : SetAt B w b S) (g : w.grownBy w' (some D)) (hD : ∀ t cs, w.heap[D]? ≠ some (.cells cs t (0, 0))) : SetAt B w' b S := by
 obtain ⟨kv, ev, h1, h2, h3, h4⟩ := h
 have key : ∀ {e s n : Nat} {v : Value} {xs : List Value}, w.ownsRow B e s v n xs → v.ownBlock ≠ some D := fun h k => by
  rcases h.2 with ⟨rfl, _⟩ | ⟨g, cap, cur, rfl, _, hg, _⟩
  ·cases k
  ·injection k with k; subst k; exact hD _ _ hg
 refine ⟨kv, ev, h1.grown g (fun e => ?_), h2.kept g (.inr (key h2)), h3.kept g (.inr (key h3)), h4⟩
 injection e with e; subst e; exact hD _ _ h1
def SetOut (w : World) (S : List ByteArray) (e : Ending) (w' : World) : Prop := ∃ d, e = .returned (.pointer (some ⟨d, 0, none⟩)) ∧ SetAt w.heap.size w' d S ∧ Below w.heap.size w w'
set_option maxRecDepth 100000 in
set_option maxHeartbeats 4000000 in
theorem spart_any {B C b c : Nat} {S T : List ByteArray} (w : World) (h : SetAt B w b S) (k : SetAt C w c T) (hT : Rising T) (hl : S.length ≤ 100000) (kl : T.length ≤ 100000) (hin : ∀ x ∈ S, x ∈ T) :
  Calls Tryz.prog 119 #[.pointer (some ⟨b, 0, none⟩), .pointer (some ⟨c, 0, none⟩), .bool false] w (SetOut w []) := by
 have HS := hid h; have HT := hid k; have HR := hid hT; have HIN := hid hin
 clear h k hT hin
 have hb1 : Below w.heap.size w ((w.alloc (.cells #[.pointer (some ⟨c, 0, none⟩)] 50)).alloc (.cells #[.bool false] 4)) := ((Below.refl _ _).alloc (Nat.le_refl _) _).alloc (by rw [World.size_alloc]; omega) _
 have hx1 : Blk ((w.alloc (.cells #[.pointer (some ⟨c, 0, none⟩)] 50)).alloc (.cells #[.bool false] 4)) w.heap.size 50 #[.pointer (some ⟨c, 0, none⟩)] := Blk.alloc (Blk.new w _ _) _
 have hy1 : Blk ((w.alloc (.cells #[.pointer (some ⟨c, 0, none⟩)] 50)).alloc (.cells #[.bool false] 4)) (w.heap.size + 1) 4 #[.bool false] := by
  have := Blk.new (w.alloc (.cells #[.pointer (some ⟨c, 0, none⟩)] 50)) 4 #[.bool false]
  rw [World.size_alloc] at this; exact this
 unfold SetOut
 refine (callsIn_wide (n := 3)).1 ?_
 refine callsIn_of_wp_marks Tryz.func119 rfl trivial ?_ rfl
 simp only [Tryz.ntmps119, List.size_toArray, List.length_cons, List.length_nil, Nat.reduceAdd, Nat.reduceSub, Array.replicate_succ, Array.replicate_zero, List.push_toArray, List.append_toArray, List.nil_append, List.cons_append]
 gi_wp2_with fail
 generalize ((w.alloc (.cells #[.pointer (some ⟨c, 0, none⟩)] 50)).alloc (.cells #[.bool false] 4)) = w1 at hb1 hx1 hy1 ⊢
 have HB1 := hid hb1; have HX1 := hid hx1; have HY1 := hid hy1
 have CO := hid (of_any none 0 0 [] w1 ⟨rfl, by omega, .inl rfl⟩ (by omega))
 clear hb1 hx1 hy1
 refine ⟨trivial, (callsIn_wide.2 CO.out).mono ?_⟩; rintro e w2 ⟨d, rfl, h2, hb2⟩
 have HB2 := hid (below_then HB1.out hb2)
 have HX2 : Hid (Blk w2 w.heap.size 50 #[.pointer (some ⟨c, 0, none⟩)]) := (hb2.block _ (Blk.lt HX1.out)).trans HX1.out
 have HY2 : Hid (Blk w2 (w.heap.size + 1) 4 #[.bool false]) := (hb2.block _ (Blk.lt HY1.out)).trans HY1.out
 have HD2 : Hid (SetAt w.heap.size w2 d []) := h2.mono HB1.out.size
 clear hb2 h2 HB1 HX1 HY1 CO
 gi_wp2_with fail
 have hb3 : Below w2.heap.size w2 (w2.alloc (.cells #[.pointer (some ⟨d, 0, none⟩)] 50)) := (Below.refl _ _).alloc (Nat.le_refl _) _
 have hz3 : Blk (w2.alloc (.cells #[.pointer (some ⟨d, 0, none⟩)] 50)) w2.heap.size 50 #[.pointer (some ⟨d, 0, none⟩)] := Blk.new w2 _ _
 generalize (w2.alloc (.cells #[.pointer (some ⟨d, 0, none⟩)] 50)) = w3 at hb3 hz3 ⊢
 have HB3 := hid (below_then HB2.out hb3)
 have HX3 : Hid (Blk w3 w.heap.size 50 #[.pointer (some ⟨c, 0, none⟩)]) := (hb3.block _ (Blk.lt HX2.out)).trans HX2.out
 have HY3 : Hid (Blk w3 (w.heap.size + 1) 4 #[.bool false]) := (hb3.block _ (Blk.lt HY2.out)).trans HY2.out
 have HD3 : Hid (SetAt w.heap.size w3 d []) := HD2.out.later hb3
 have HZ3 := hid hz3
 generalize w2.heap.size = ob at HZ3 ⊢
 clear hb3 hz3 HB2 HX2 HY2 HD2
 refine ⟨trivial, (callsIn_wide.2 (setall_any (some ⟨b, 0, none⟩) w3)).mono ?_⟩; rintro e w' ⟨rfl, rfl⟩
 have hb4 : Below w3.heap.size w3 (w3.alloc (.cells #[.pointer (some ⟨b, 0, none⟩)] 50)) := (Below.refl _ _).alloc (Nat.le_refl _) _
 have hq4 : Blk (w3.alloc (.cells #[.pointer (some ⟨b, 0, none⟩)] 50)) w3.heap.size 50 #[.pointer (some ⟨b, 0, none⟩)] := Blk.new w3 _ _
 generalize (w3.alloc (.cells #[.pointer (some ⟨b, 0, none⟩)] 50)) = w4 at hb4 hq4 ⊢
 have HB4 := hid (below_then HB3.out hb4)
 have HX4 : Hid (Blk w4 w.heap.size 50 #[.pointer (some ⟨c, 0, none⟩)]) := (hb4.block _ (Blk.lt HX3.out)).trans HX3.out
 have HY4 : Hid (Blk w4 (w.heap.size + 1) 4 #[.bool false]) := (hb4.block _ (Blk.lt HY3.out)).trans HY3.out
 have HZ4 : Hid (Blk w4 ob 50 #[.pointer (some ⟨d, 0, none⟩)]) := (hb4.block _ (Blk.lt HZ3.out)).trans HZ3.out
 have HD4 : Hid (SetAt w.heap.size w4 d []) := HD3.out.later hb4
 have HQ4 := hid hq4
 generalize w3.heap.size = qb at HQ4 ⊢
 clear hb4 hq4 HB3 HX3 HY3 HD3 HZ3
 gi_wp2_with fail
 refine wpIn_range_quiet (gf := 217) (lb := #[.pointer (some ⟨qb, 0, none⟩)]) rfl (enters_of Tryz.func217 (by kernel_rfl) rfl)
  (setall_q w4 (Blk.cell HQ4.out 0) (HS.out.later HB4.out) hl) (Below.refl _ _) (fun args hz => by obtain ⟨x, -, rfl⟩ := List.mem_map.1 hz; rfl)
  (fun args => { tmps := #[.pointer (some ⟨b, 0, none⟩), .pointer (some ⟨c, 0, none⟩), .bool false, undef, .pointer (some ⟨w.heap.size, 0, none⟩), .pointer (some ⟨w.heap.size + 1, 0, none⟩), .pointer none, .pointer (some ⟨ob, 0, none⟩), args.getD 0 undef, .pointer (some ⟨d, 0, none⟩), .pointer (some ⟨b, 0, none⟩), .func (.func 217) #[] #[.pointer (some ⟨qb, 0, none⟩)], args.getD 0 undef, undef, undef, undef, undef, undef, undef, undef, undef, undef], defers := [] }) ?assign ?body ?done
 case assign =>
  intro l' m args W' K hz hK
  obtain ⟨x, -, rfl⟩ := List.mem_map.1 hz
  unfold oneN at hK ⊢
  gi_wp2
  exact hK
 case body =>
  intro l' m args W hz hB
  obtain ⟨x, hx, rfl⟩ := List.mem_map.1 hz
  have k0 : W.cell? ⟨w.heap.size, 0, none⟩ = some (.pointer (some ⟨c, 0, none⟩)) := (hB.cell (p := ⟨w.heap.size, 0, none⟩) (Blk.lt HX4.out)).trans (Blk.cell HX4.out 0)
  have k1 : W.cell? ⟨w.heap.size + 1, 0, none⟩ = some (.bool false) := (hB.cell (p := ⟨w.heap.size + 1, 0, none⟩) (Blk.lt HY4.out)).trans (Blk.cell HY4.out 0)
  have hh : hasN T x = true := hasN_iff.2 (HIN.out x hx)
  have CH : Hid (∀ p : Nat, Calls Tryz.prog 181 #[.pointer (some ⟨c, 0, none⟩), .string x] (World.drewN W p) fun e w' => e = .returned (.bool true) ∧ ∃ m, w' = World.drewN (World.drewN W p) m) := fun p => by
   have h := shas_any x (World.drewN W p) (HT.out.later (below_then HB4.out (below_drewN hB p))) HR.out (by omega)
   rw [hh] at h
   exact h.mono (fun e w' h => ⟨h.1, 0, h.2.symm⟩)
  simp only [show (oneN x).getD 0 undef = Value.string x from rfl]
  clear hz hx hh
  gi_wp2_with fail
  refine regionIn_quiet (C := fun w' => ∃ q, w' = W.drewN q) (by rintro ⟨_, _, h⟩; exact h) (by kernel_rfl) (by kernel_rfl) (by kernel_rfl) ⟨1, rfl⟩ ?_
  repeat (go_big_quiet_step ((go_at_call 181; exact Calls.quiet_of (CH.out _))))
  refine wpQuiet_nil ?_
  intro w' hw'
  obtain ⟨q, rfl⟩ := hw'
  gi_wp2
  exact ⟨q, rfl⟩
 case done =>
  intro D W hD hB hK
  have k0 : W.cell? ⟨ob, 0, none⟩ = some (.pointer (some ⟨d, 0, none⟩)) := (hB.cell (p := ⟨ob, 0, none⟩) (Blk.lt HZ4.out)).trans (Blk.cell HZ4.out 0)
  gi_wp2
  refine ⟨by simp, .inl ⟨_, _, rfl, run_takeDeferred hK, ?_⟩⟩
  refine ⟨_, results_tmp rfl _ _ _, d, rfl, ?_⟩
  have h2 := below_then HB4.out hB
  have hs := Nat.le_trans HB4.out.size hD
  have g := grownBy_putObj' W D (.deferred none)
  refine ⟨(HD4.out.later hB).later' g (fun t cs e => by rw [hK] at e; cases e), h2.grown g (Nat.le_trans HB4.out.size hB.size) (fun k e => by cases e; exact hs)⟩
theorem sminus_any {B C b c : Nat} {S T : List ByteArray} (w : World) (h : SetAt B w b S) (k : SetAt C w c T) (hT : Rising T) (hl : S.length ≤ 100000) (kl : T.length ≤ 100000) (hin : ∀ x ∈ S, x ∈ T) :
  Calls Tryz.prog 67 #[.pointer (some ⟨b, 0, none⟩), .pointer (some ⟨c, 0, none⟩)] w (SetOut w []) := by
 have CP := hid (spart_any w h k hT hl kl hin)
 clear h k hT hin
 go_enter Tryz.func67, Tryz.ntmps67
 go_wp2_with fail
 refine CP.out.mono ?_; rintro e w1 ⟨d, rfl, h1, h2⟩
 go_wp2_with fail
 go_ret
 exact ⟨d, rfl, h1, h2⟩
/-- a set within another -/
theorem swithin_any {B C b c : Nat} {S T : List ByteArray} (w : World) (h : SetAt B w b S) (k : SetAt C w c T) (hT : Rising T) (hl : S.length ≤ 100000) (kl : T.length ≤ 100000) (hin : ∀ x ∈ S, x ∈ T) :
  Calls Tryz.prog 24 #[.pointer (some ⟨b, 0, none⟩), .pointer (some ⟨c, 0, none⟩)] w fun e w' => e = .returned (.bool true) ∧ Below w.heap.size w w' := by
 have CP := hid (sminus_any w h k hT hl kl hin)
 clear h k hT hin
 go_enter Tryz.func24, Tryz.ntmps24
 go_wp2_with fail
 refine CP.out.mono ?_; rintro e w1 ⟨d, rfl, h1, h2⟩
 have CL := hid (slen_any w1 h1)
 have HB := hid h2
 clear h1 h2 CP
 go_wp2_with fail
 refine CL.out.mono ?_; rintro e w' ⟨rfl, rfl⟩
 go_wp2_with fail
 go_ret
 exact ⟨rfl, HB.out⟩
end Go.Proofs.YtmpjdoiogbbcoaaGreatDoor
/- What the law on histories keeps in memory: a book, rows of its own, and sets made in former rounds: each block has a colour. -/
namespace Go.Proofs.YtmpjdoiogbbcoaaGreatDoor
open Go.RowKit Book Pap Ojt Sn
set_option linter.unusedVariables false
set_option linter.unusedSimpArgs false

def ptrV (b : Nat) : Value := .pointer (some ⟨b, 0, none⟩)
/-- new blocks take colour k -/
def upd (c : Nat → Nat) (n k : Nat) (i : Nat) : Nat := if i < n then c i else k
theorem upd_lt {c : Nat → Nat} {n k i : Nat} (h : i < n) : upd c n k i = c i := if_pos h
theorem upd_ge {c : Nat → Nat} {n k i : Nat} (h : n ≤ i) : upd c n k i = k := if_neg (by omega)
theorem own_none0 (w : World) (t : TypeId) : (w.alloc (.cells #[] t)).ownsRow w.heap.size t 1 (.slice (some ⟨w.heap.size, 0, none⟩) 0 0) 0 [] :=
 ⟨rfl, .inr ⟨w.heap.size, 0, #[], rfl, Nat.le_refl _, Blk.new w _ _, Nat.le_refl _, by unfold maxLen; omega, rfl, rfl⟩⟩
structure HMem (B0 : Nat) (c : Nat → Nat) (w : World) (bb : Nat) (sv al iv lv : Value) (U A ids : List ByteArray) (D : List (List ByteArray)) (ps : List Nat) : Prop where
 low : ∀ i, i < B0 → c i = 9
 size : B0 ≤ w.heap.size
 book : Blk w bb 31 #[sv]
 cbook : c bb = 1
 its : w.ownsRow 0 80 2 sv U.length (fivals (itemsS U))
 cits : ∀ k, sv.ownBlock = some k → c k = 2
 all : w.ownsRow 0 9 1 al A.length (svals A)
 call : ∀ k, al.ownBlock = some k → c k = 3
 ids : w.ownsRow 0 9 1 iv ids.length (svals ids)
 cids : ∀ k, iv.ownBlock = some k → c k = 4
 logs : w.ownsRow 0 50 1 lv ps.length (ps.map ptrV)
 clogs : ∀ k, lv.ownBlock = some k → c k = 5
 plen : ps.length = D.length
 sets : ∀ j, j < D.length → SetC (fun i => c i = 6) w (ps.getD j 0) (D.getD j [])
section
variable {B0 : Nat} {c : Nat → Nat} {w w' : World} {bb : Nat} {sv al iv lv : Value} {U A ids : List ByteArray} {D : List (List ByteArray)} {ps : List Nat}
theorem HMem.only {F : Nat → Prop} (h : HMem B0 c w bb sv al iv lv U A ids D ps) (ho : Only F w w') (hF : ∀ i, F i → 6 < c i) : HMem B0 c w' bb sv al iv lv U A ids D ps where
 low := h.low
 size := Nat.le_trans h.size ho.size
 book := h.book.only ho (fun e => by have := hF _ e; have := h.cbook; omega)
 cbook := h.cbook
 its := own_only h.its ho (fun k hk e => by have := hF _ e; have := h.cits k hk; omega)
 cits := h.cits
 all := own_only h.all ho (fun k hk e => by have := hF _ e; have := h.call k hk; omega)
 call := h.call
 ids := own_only h.ids ho (fun k hk e => by have := hF _ e; have := h.cids k hk; omega)
 cids := h.cids
 logs := own_only h.logs ho (fun k hk e => by have := hF _ e; have := h.clogs k hk; omega)
 clogs := h.clogs
 plen := h.plen
 sets := fun j hj => (h.sets j hj).only ho (fun i hi e => by have := hF _ e; omega)
theorem HMem.later (h : HMem B0 c w bb sv al iv lv U A ids D ps) (hb : Below w.heap.size w w') : HMem B0 c w' bb sv al iv lv U A ids D ps := h.only (Only.of_below hb NoF) (fun _ e => e.elim)
theorem HMem.recol {c' : Nat → Nat} (h : HMem B0 c w bb sv al iv lv U A ids D ps) (hc : ∀ i, i < w.heap.size → c i ≤ 6 ∨ i < B0 → c' i = c i) : HMem B0 c' w bb sv al iv lv U A ids D ps where
 low := fun i hi => (hc i (Nat.lt_of_lt_of_le hi h.size) (.inr hi)).trans (h.low i hi)
 size := h.size
 book := h.book
 cbook := (hc bb (Blk.lt h.book) (.inl (by rw [h.cbook]; omega))).trans h.cbook
 its := h.its
 cits := fun k hk => (hc k (own_lt h.its hk) (.inl (by rw [h.cits k hk]; omega))).trans (h.cits k hk)
 all := h.all
 call := fun k hk => (hc k (own_lt h.all hk) (.inl (by rw [h.call k hk]; omega))).trans (h.call k hk)
 ids := h.ids
 cids := fun k hk => (hc k (own_lt h.ids hk) (.inl (by rw [h.cids k hk]; omega))).trans (h.cids k hk)
 logs := h.logs
 clogs := fun k hk => (hc k (own_lt h.logs hk) (.inl (by rw [h.clogs k hk]; omega))).trans (h.clogs k hk)
 plen := h.plen
 sets := fun j hj => (h.sets j hj).mono (fun i hi e => (hc i hi (.inl (by omega))).trans e)
theorem HMem.upd (h : HMem B0 c w bb sv al iv lv U A ids D ps) (k : Nat) : HMem B0 (upd c w.heap.size k) w bb sv al iv lv U A ids D ps := h.recol (fun i hi _ => upd_lt hi)
/-- what touches but one colour leaves what lay below -/
theorem HMem.below {k : Nat} (h : HMem B0 c w bb sv al iv lv U A ids D ps) (ho : Only (fun i => c i = k) w w') (hk : k ≠ 9) : Below B0 w w' :=
 ho.below (fun i hi => by
  rcases Nat.lt_or_ge i B0 with hl | hg
  ·exact absurd ((h.low i hl).symm.trans hi).symm hk
  ·exact hg) h.size
theorem only_col {row : Option Nat} {k : Nat} {w0 : World} (hb : Only (fun i => c i = k) w0 w) (g : w.grownBy w' row) (hr : ∀ i, row = some i → c i = k) : Only (fun i => c i = k) w0 w' := hb.grown g (fun i hi => .inl (hr i hi))
theorem new_col {n k : Nat} {old new : Option Nat} (hn : new = old ∨ new = some n) (ho : ∀ i, old = some i → i < n ∧ c i = k) : ∀ i, new = some i → Go.Proofs.YtmpjdoiogbbcoaaGreatDoor.upd c n k i = k := fun i hi => by
 rcases hn with hn | hn
 ·obtain ⟨h1, h2⟩ := ho i (hn ▸ hi)
  rw [upd_lt h1]; exact h2
 ·rw [hn] at hi; injection hi with hi
  exact upd_ge (by omega)
theorem upd_no {n k m j i : Nat} (h : Go.Proofs.YtmpjdoiogbbcoaaGreatDoor.upd c n k i = m) (e : c i = j) (hm : m ≠ k ∧ m ≠ j) : False := by
 unfold Go.Proofs.YtmpjdoiogbbcoaaGreatDoor.upd at h
 split at h <;> omega
/-- more texts in 'all' -/
theorem HMem.putAll {L : List ByteArray} {al' : Value} (h : HMem B0 c w bb sv al iv lv U A ids D ps) (ho : w'.ownsRow 0 9 1 al' (A.length + L.length) (svals A ++ svals L)) (hg : w.grownBy w' al.ownBlock) (hn : al'.ownBlock = al.ownBlock ∨ al'.ownBlock = some w.heap.size) :
  HMem B0 (Go.Proofs.YtmpjdoiogbbcoaaGreatDoor.upd c w.heap.size 3) w' bb sv al' iv lv U (A ++ L) ids D ps ∧ Only (fun i => c i = 3) w w' := by
 have o : Only (fun i => c i = 3) w w' := only_col (Only.refl _ _) hg h.call
 have hd := h.upd 3
 refine ⟨⟨hd.low, Nat.le_trans h.size hg.size, h.book.only o (fun e => by have := h.cbook; omega), hd.cbook, own_only h.its o (fun k hk e => by have := h.cits k hk; omega), hd.cits, ?_, ?_, own_only h.ids o (fun k hk e => by have := h.cids k hk; omega), hd.cids, own_only h.logs o (fun k hk e => by have := h.clogs k hk; omega), hd.clogs, h.plen, fun j hj => (hd.sets j hj).only o (fun i hi e => upd_no hi e (by omega))⟩, o⟩
 ·rw [List.length_append]; unfold svals at ho ⊢; rw [List.map_append]; exact ho
 ·exact new_col hn (fun i hi => ⟨own_lt h.all hi, h.call i hi⟩)
/-- more ids -/
theorem HMem.putIds {x : ByteArray} {iv' : Value} (h : HMem B0 c w bb sv al iv lv U A ids D ps) (ho : w'.ownsRow 0 9 1 iv' (ids.length + 1) (svals ids ++ [.string x])) (hg : w.grownBy w' iv.ownBlock) (hn : iv'.ownBlock = iv.ownBlock ∨ iv'.ownBlock = some w.heap.size) :
  HMem B0 (Go.Proofs.YtmpjdoiogbbcoaaGreatDoor.upd c w.heap.size 4) w' bb sv al iv' lv U A (ids ++ [x]) D ps ∧ Only (fun i => c i = 4) w w' := by
 have o : Only (fun i => c i = 4) w w' := only_col (Only.refl _ _) hg h.cids
 have hd := h.upd 4
 refine ⟨⟨hd.low, Nat.le_trans h.size hg.size, h.book.only o (fun e => by have := h.cbook; omega), hd.cbook, own_only h.its o (fun k hk e => by have := h.cits k hk; omega), hd.cits, own_only h.all o (fun k hk e => by have := h.call k hk; omega), hd.call, ?_, ?_, own_only h.logs o (fun k hk e => by have := h.clogs k hk; omega), hd.clogs, h.plen, fun j hj => (hd.sets j hj).only o (fun i hi e => upd_no hi e (by omega))⟩, o⟩
 ·rw [List.length_append, List.length_singleton]; unfold svals at ho ⊢; rw [List.map_append]; exact ho
 ·exact new_col hn (fun i hi => ⟨own_lt h.ids hi, h.cids i hi⟩)
/-- one more set: the one of colour 7 -/
theorem HMem.putLogs {b : Nat} {S : List ByteArray} {lv' : Value} (h : HMem B0 c w bb sv al iv lv U A ids D ps) (hS : SetC (fun i => c i = 7) w b S) (ho : w'.ownsRow 0 50 1 lv' (ps.length + 1) (ps.map ptrV ++ [ptrV b])) (hg : w.grownBy w' lv.ownBlock) (hn : lv'.ownBlock = lv.ownBlock ∨ lv'.ownBlock = some w.heap.size) :
  ∃ c', HMem B0 c' w' bb sv al iv lv' U A ids (D ++ [S]) (ps ++ [b]) ∧ Only (fun i => c i = 5) w w' := by
 have o : Only (fun i => c i = 5) w w' := only_col (Only.refl _ _) hg h.clogs
 have h1 : HMem B0 (fun i => if c i = 7 then 6 else c i) w bb sv al iv lv U A ids D ps := h.recol (fun i hi hc => by
  have : c i ≠ 7 := by
   rcases hc with hc | hc
   ·omega
   ·rw [h.low i hc]; omega
  simp [this])
 obtain ⟨d, hdd⟩ : ∃ d : Nat → Nat, (fun i => if c i = 7 then 6 else c i) = d := ⟨_, rfl⟩
 rw [hdd] at h1
 have hS1 : SetC (fun i => d i = 6) w b S := hS.mono (fun i hi e => by rw [← hdd]; simp [e])
 have o1 : Only (fun i => d i = 5) w w' := only_col (Only.refl _ _) hg h1.clogs
 have hd := h1.upd 5
 have hS2 : SetC (fun i => Go.Proofs.YtmpjdoiogbbcoaaGreatDoor.upd d w.heap.size 5 i = 6) w b S := hS1.mono (fun i hi e => (upd_lt hi).trans e)
 refine ⟨_, ⟨hd.low, Nat.le_trans h.size hg.size, h1.book.only o1 (fun e => by have := h1.cbook; omega), hd.cbook, own_only h1.its o1 (fun k hk e => by have := h1.cits k hk; omega), hd.cits, own_only h1.all o1 (fun k hk e => by have := h1.call k hk; omega), hd.call, own_only h1.ids o1 (fun k hk e => by have := h1.cids k hk; omega), hd.cids, ?_, ?_, by rw [List.length_append, List.length_append, h.plen]; rfl, fun j hj => ?_⟩, o⟩
 ·rw [List.length_append, List.length_singleton, List.map_append]; exact ho
 ·exact new_col hn (fun i hi => ⟨own_lt h1.logs hi, h1.clogs i hi⟩)
 ·by_cases hlt : j < D.length
  ·have e1 : (ps ++ [b]).getD j 0 = ps.getD j 0 := by rw [List.getD_eq_getElem?_getD, List.getD_eq_getElem?_getD, List.getElem?_append_left (by have := h.plen; omega)]
   have e2 : (D ++ [S]).getD j [] = D.getD j [] := by rw [List.getD_eq_getElem?_getD, List.getD_eq_getElem?_getD, List.getElem?_append_left hlt]
   rw [e1, e2]
   exact (hd.sets j hlt).only o1 (fun i hi e => upd_no hi e (by omega))
  ·have hj2 : j = D.length := by rw [List.length_append, List.length_singleton] at hj; omega
   have e1 : (ps ++ [b]).getD j 0 = b := by rw [List.getD_eq_getElem?_getD, hj2, ← h.plen]; simp
   have e2 : (D ++ [S]).getD j [] = S := by rw [List.getD_eq_getElem?_getD, hj2]; simp
   rw [e1, e2]
   exact hS2.only o1 (fun i hi e => upd_no hi e (by omega))
theorem fivals_items (U V : List ByteArray) : fivals (itemsS (U ++ V)) = fivals (itemsS U) ++ fivals (itemsS V) := by
 unfold fivals itemsS
 rw [List.map_append, List.flatMap_append]
/-- more items in the book -/
theorem HMem.putBook {V : List ByteArray} {sv' : Value} (h : HMem B0 c w bb sv al iv lv U A ids D ps) (ho : w'.ownsRow 0 80 2 sv' (U.length + V.length) (fivals (itemsS U) ++ fivals (itemsS V))) (hg : w.grownBy w' sv.ownBlock) (hn : sv'.ownBlock = sv.ownBlock ∨ sv'.ownBlock = some w.heap.size) :
  Blk w' bb 31 #[sv] ∧ HMem B0 (Go.Proofs.YtmpjdoiogbbcoaaGreatDoor.upd c w.heap.size 2) (w'.setCell ⟨bb, 0, none⟩ sv') bb sv' al iv lv (U ++ V) A ids D ps ∧ Only (fun i => c i = 1 ∨ c i = 2) w (w'.setCell ⟨bb, 0, none⟩ sv') := by
 have o : Only (fun i => c i = 1 ∨ c i = 2) w w' := (only_col (k := 2) (Only.refl _ _) hg h.cits).mono (fun _ => .inr)
 have o2 : Only (fun i => c i = 1 ∨ c i = 2) w (w'.setCell ⟨bb, 0, none⟩ sv') := o.setCell (.inl (.inl h.cbook)) sv'
 have hB : Blk w' bb 31 #[sv] := h.book.grown hg (fun e => by have := h.cits bb e.symm; have := h.cbook; omega)
 have oc : Only (· = bb) w' (w'.setCell ⟨bb, 0, none⟩ sv') := (Only.refl (· = bb) w').setCell (p := ⟨bb, 0, none⟩) (.inl rfl) _
 have hb := Blk.lt h.book
 have hd := h.upd 2
 refine ⟨hB, ⟨hd.low, Nat.le_trans h.size o2.size, ?_, hd.cbook, ?_, ?_, own_only h.all o2 (fun k hk e => by have := h.call k hk; omega), hd.call, own_only h.ids o2 (fun k hk e => by have := h.cids k hk; omega), hd.cids, own_only h.logs o2 (fun k hk e => by have := h.clogs k hk; omega), hd.clogs, h.plen, fun j hj => (hd.sets j hj).only o2 (fun i hi e => ?_)⟩, o2⟩
 ·have := hB.set 0 sv'
  simpa using this
 ·rw [fivals_items, List.length_append]
  refine own_only ho oc (fun k hk e => ?_)
  rcases hn with hn | hn
  ·have := h.cits k (hn ▸ hk); rw [e] at this; have := h.cbook; omega
  ·rw [hn] at hk; injection hk with hk; omega
 ·exact new_col hn (fun i hi => ⟨own_lt h.its hi, h.cits i hi⟩)
 ·rcases e with e | e
  ·exact upd_no hi e (by omega)
  ·exact upd_no hi e (by omega)
/-- the book is a source -/
theorem HMem.src (h : HMem B0 c w bb sv al iv lv U A ids D ps) (hl : U.length ≤ 9223372036854775807) : SrcAt w 29 (.pointer (some ⟨bb, 0, none⟩)) (getF (itemsS U)) := by
 obtain ⟨a, k, e, hf⟩ := own_items h.its hl
 exact book_src _ _ _ ⟨a, U.length, k, e ▸ h.book, hf⟩
/-- at the start -/
theorem HMem.start (w : World) : HMem w.heap.size (fun i => if i < w.heap.size then 9 else if i = w.heap.size then 1 else if i = w.heap.size + 1 then 3 else if i = w.heap.size + 2 then 4 else if i = w.heap.size + 3 then 5 else 8)
  ((((w.alloc (.cells #[.slice none 0 0] 31)).alloc (.cells #[] 9)).alloc (.cells #[] 9)).alloc (.cells #[] 50)) w.heap.size (.slice none 0 0)
  (.slice (some ⟨w.heap.size + 1, 0, none⟩) 0 0) (.slice (some ⟨w.heap.size + 2, 0, none⟩) 0 0) (.slice (some ⟨w.heap.size + 3, 0, none⟩) 0 0) [] [] [] [] [] where
 low := fun i hi => by simp [hi]
 size := by simp; omega
 book := (((Blk.new w _ _).alloc _).alloc _).alloc _
 cbook := by simp
 its := ⟨rfl, .inl ⟨rfl, rfl⟩⟩
 cits := fun k hk => by simp [Value.ownBlock] at hk
 all := by
  have := ((own_noneSt (w.alloc (.cells #[.slice none 0 0] 31))).alloc (.cells #[] 9)).alloc (.cells #[] 50)
  rw [World.size_alloc] at this
  exact own_lower this
 call := fun k hk => by
  have : w.heap.size + 1 = k := by simpa [Value.ownBlock] using hk
  subst this; simp
 ids := by
  have := (own_noneSt ((w.alloc (.cells #[.slice none 0 0] 31)).alloc (.cells #[] 9))).alloc (.cells #[] 50)
  rw [World.size_alloc, World.size_alloc] at this
  exact own_lower this
 cids := fun k hk => by
  have : w.heap.size + 2 = k := by simpa [Value.ownBlock] using hk
  subst this; simp
 logs := by
  have := own_none0 (((w.alloc (.cells #[.slice none 0 0] 31)).alloc (.cells #[] 9)).alloc (.cells #[] 9)) 50
  rw [World.size_alloc, World.size_alloc, World.size_alloc] at this
  exact own_lower this
 clogs := fun k hk => by
  have : w.heap.size + 3 = k := by simpa [Value.ownBlock] using hk
  subst this; simp
 plen := rfl
 sets := fun j hj => absurd hj (Nat.not_lt_zero _)
end
end Go.Proofs.YtmpjdoiogbbcoaaGreatDoor
/- The state of the law on histories: before a round, within it. -/
namespace Go.Proofs.YtmpjdoiogbbcoaaGreatDoor
open Go.RowKit Book Pap Ojt Sn
set_option linter.unusedVariables false
set_option linter.unusedSimpArgs false

/-- before round i -/
structure HInv (fs : List Fi) (i : Nat) (U A ids : List ByteArray) (D : List (List ByteArray)) : Prop where
 i12 : i ≤ 12
 idl : ids.length = i
 uh : UHist fs i U
 ch : CHist (getF (itemsS U)) ids D
 sub : ∀ t ∈ U, t ∈ A
 asz : ∀ t ∈ A, t.size ≤ 131072
 alen : A.length ≤ 3843 * i
 okf : 0 < i → OkFs fs
theorem HInv.start (fs : List Fi) : HInv fs 0 [] [] [] [] := ⟨by omega, rfl, UHist.nil fs, CHist.nil _, fun t h => (by cases h), fun t h => (by cases h), by simp, fun h => by omega⟩
/-- the parents drawn so far, and what they came from -/
structure WInv (G : Sw.Src) (ids : List ByteArray) (i k : Nat) (P want : List ByteArray) : Prop where
 k4 : k ≤ 4
 k0 : i = 0 → P = []
 rp : Rising P
 lp : P.length ≤ k
 pin : ∀ p ∈ P, p ∈ ids
 rw : Rising want
 wm : ∀ q, q ∈ want ↔ ∃ p ∈ P, Rch G p q
theorem WInv.start (G : Sw.Src) (ids : List ByteArray) (i : Nat) : WInv G ids i 0 [] [] := ⟨by omega, fun _ => rfl, .nil, Nat.le_refl _, fun p h => (by cases h), .nil, fun q => by simp⟩
theorem CHist.row {G : Sw.Src} {ids : List ByteArray} {D : List (List ByteArray)} (h : CHist G ids D) {j : Nat} (hj : j < ids.length) :
  Rising (D.getD j []) ∧ (∀ q, q ∈ D.getD j [] ↔ Rch G (ids.getD j ByteArray.empty) q) ∧ (D.getD j []).length ≤ ids.length := by
 have hd : j < D.length := by rw [h.len]; exact hj
 have e1 : D.getD j [] = D[j] := by rw [List.getD_eq_getElem?_getD, List.getElem?_eq_getElem hd]; rfl
 have e2 : ids.getD j ByteArray.empty = ids[j] := by rw [List.getD_eq_getElem?_getD, List.getElem?_eq_getElem hj]; rfl
 rw [e1, e2]
 obtain ⟨h1, h2⟩ := h.log j hj hd
 refine ⟨h1, h2, nodup_le (rising_nodup h1) (fun q hq => ?_)⟩
 obtain ⟨k, hk, -, rfl⟩ := h.in_ids hj ((h2 q).1 hq)
 exact List.getElem_mem hk
theorem WInv.len {G : Sw.Src} {ids : List ByteArray} {D : List (List ByteArray)} {i k : Nat} {P want : List ByteArray} (h : WInv G ids i k P want) (hc : CHist G ids D) : want.length ≤ ids.length :=
 nodup_le (rising_nodup h.rw) (fun q hq => by
  obtain ⟨p, hp, hq⟩ := (h.wm q).1 hq
  obtain ⟨j, hj, rfl⟩ := List.getElem_of_mem (h.pin p hp)
  obtain ⟨m, hm, -, rfl⟩ := hc.in_ids hj hq
  exact List.getElem_mem hm)
theorem WInv.step {G : Sw.Src} {ids : List ByteArray} {D : List (List ByteArray)} {i k j : Nat} {P want : List ByteArray} (h : WInv G ids i k P want) (hc : CHist G ids D) (hk : k < 4) (hi : 0 < i) (hj : j < ids.length) :
  WInv G ids i (k + 1) (putN P (ids.getD j ByteArray.empty)) (unionB want (D.getD j [])) := by
 obtain ⟨d1, d2, d3⟩ := hc.row hj
 obtain ⟨x, hx⟩ : ∃ x, ids.getD j ByteArray.empty = x := ⟨_, rfl⟩
 have hxi : x ∈ ids := by rw [← hx, List.getD_eq_getElem?_getD, List.getElem?_eq_getElem hj]; exact List.getElem_mem hj
 rw [hx] at d2 ⊢
 refine ⟨by omega, fun e => by omega, putN_rising h.rp x, by have := putN_len P x; have := h.lp; omega, fun p hp => ?_, Sw.setOf_rising _, fun q => ?_⟩
 ·rcases (mem_putN h.rp x p).1 hp with hp | rfl
  ·exact h.pin p hp
  ·exact hxi
 ·unfold unionB
  rw [Sw.setOf_mem, List.mem_append, h.wm q, d2 q]
  constructor
  ·rintro (⟨p, hp, hq⟩ | hq)
   ·exact ⟨p, (mem_putN h.rp x p).2 (.inl hp), hq⟩
   ·exact ⟨x, (mem_putN h.rp x x).2 (.inr rfl), hq⟩
  ·rintro ⟨p, hp, hq⟩
   rcases (mem_putN h.rp x p).1 hp with hp | rfl
   ·exact .inl ⟨p, hp, hq⟩
   ·exact .inr hq
theorem Tryz.infoPS : (Tryz.prog.info? 50).map (fun i => (i.zero, i.size, i.bytes)) = some (some (.pointer none), 1, 8) := by kernel_rfl
/-- what a round's end knows of the new commit -/
structure After1 (G : Sw.Src) (id : ByteArray) (want : List ByteArray) : Prop where
 found : G id ≠ none
 fine : ∀ q, Rch G id q → errF G q = 0 ∧ RightF G q ∧ (q = id ∨ hG G q < hG G id)
 rw : Rising want
 wm : ∀ q, q ∈ want ↔ Rch G id q
theorem after_of {G : Sw.Src} {ids : List ByteArray} {D : List (List ByteArray)} {id : ByteArray} {want : List ByteArray} (h : CHist G (ids ++ [id]) (D ++ [want])) : After1 G id want := by
 have hj : ids.length < (ids ++ [id]).length := by simp
 have e : (ids ++ [id])[ids.length] = id := by simp
 have hl : D.length = ids.length := by have := h.len; simp at this; exact this
 obtain ⟨r1, r2, -⟩ := h.row hj
 have e1 : (D ++ [want]).getD ids.length [] = want := by rw [List.getD_eq_getElem?_getD, ← hl]; simp
 have e2 : (ids ++ [id]).getD ids.length ByteArray.empty = id := by rw [List.getD_eq_getElem?_getD]; simp
 rw [e1] at r1 r2
 rw [e2] at r2
 have hf := fun q => h.fine hj (q := q)
 rw [e] at hf
 have ho := (h.ob hj).2.2.2.2.1
 rw [e] at ho
 exact ⟨ho, hf, r1, r2⟩
theorem After1.log {G : Sw.Src} {id : ByteArray} {want S : List ByteArray} {er : Int} (h : After1 G id want) (hs : SLogIs G id er S) : er = 0 ∧ (∃ r, S = id :: r) ∧ S.length = want.length ∧ ∀ x ∈ S, x ∈ want := by
 obtain ⟨h1, h2, h3⟩ := slog_fine hs h.found (fun q hq => (h.fine q hq).1) (fun q hq => (h.fine q hq).2.1)
 exact ⟨h1, log_head h2 h3 (fun q hq => (h.fine q hq).2.2), same_len (upq_nodup h2) (rising_nodup h.rw) (fun q => by rw [h3 q, h.wm q]), fun x hx => (h.wm x).2 ((h3 x).1 hx)⟩
theorem After1.facts {G : Sw.Src} {id : ByteArray} {want : List ByteArray} {L : List Fa} {er : Int} (h : After1 G id want) (hs : FactsIs G id er L) : er = 0 ∧ ∀ w fs, FaAt w fs L → fs.length = want.length ∧ (maxAt fs want.length).id = id := by
 obtain ⟨h1, l, h2, h3, rfl⟩ := facts_fine hs h.found (fun q hq => (h.fine q hq).1)
 have hl : l.length = want.length := same_len (rising_nodup h2) (rising_nodup h.rw) (fun q => by rw [h3 q, h.wm q])
 refine ⟨h1, fun w fs hf => ⟨?_, ?_⟩⟩
 ·rw [hf.1, List.length_map, hl]
 ·rw [← hl]
  exact best_is hf (rising_nodup h2) h3 (fun q hq => (h.fine q hq).2.2)
theorem HInv.next {fs : List Fi} {i : Nat} {U A ids L In want : List ByteArray} {D : List (List ByteArray)} {id : ByteArray} (h : HInv fs i U A ids D) (hi : i < 12) (hok : OkFs fs) (hz : ∀ s ∈ L, s.size ≤ 131072) (hl : L.length ≤ 3843) (hu : UHist fs (i + 1) (U ++ In)) (hm : ∀ t, t ∈ U ++ In ↔ t ∈ U ∨ t ∈ L) (hc : CHist (getF (itemsS (U ++ In))) (ids ++ [id]) (D ++ [want])) :
  HInv fs (i + 1) (U ++ In) (A ++ L) (ids ++ [id]) (D ++ [want]) where
 i12 := hi
 idl := by rw [List.length_append, List.length_singleton, h.idl]
 uh := hu
 ch := hc
 sub := fun t ht => List.mem_append.2 (((hm t).1 ht).imp (h.sub t) (fun x => x))
 asz := fun t ht => (List.mem_append.1 ht).elim (h.asz t) (hz t)
 alen := by rw [List.length_append]; have := h.alen; omega
 okf := fun _ => hok
theorem apart_less {A B : List ByteArray} (h : Sw.Apart B) (hs : ∀ t ∈ A, t ∈ B) : Sw.Apart A := fun a ha b hb e => h a (hs a ha) b (hs b hb) e
theorem conv_note {i : Nat} (h : i < 12) (W : World) (b : Nat) (hb : Blk W b 5 #[.int .u8 (i : Int)]) : (convert 59 9 (.slice (some ⟨b, 0, none⟩) 1 1)).run Tryz.prog W = .ok (.string (noteN i)) W := by
 have hn : (UInt8.ofNat i).toNat = i := by
  rw [UInt8.toNat_ofNat']
  exact Nat.mod_eq_of_lt (by omega)
 have h1 : W.ownsRow 0 5 1 (.slice (some ⟨b, 0, none⟩) 1 1) [UInt8.ofNat i].length (bvals [UInt8.ofNat i]) :=
  ⟨rfl, .inr ⟨b, 1, #[.int .u8 (i : Int)], rfl, Nat.zero_le _, hb, Nat.le_refl _, by unfold maxLen; omega, rfl, by simp [bvals, hn]⟩⟩
 exact conv_own h1
theorem at_lt (z : Int) (i : Nat) (h : 0 < i) (h12 : i ≤ 12) : ∃ t : Nat, t < i ∧ wrap64 ((IntKind.u64.wrap z).tmod i) = t := by
 have h0 := wrap_u64_nonneg z
 obtain ⟨u, hu⟩ : ∃ u, IntKind.u64.wrap z = u := ⟨_, rfl⟩
 rw [hu] at h0 ⊢
 rw [Int.tmod_eq_emod_of_nonneg h0]
 have a1 := Int.emod_nonneg u (b := (i : Int)) (by omega)
 have a2 := Int.emod_lt_of_pos u (b := (i : Int)) (by omega)
 refine ⟨(u % i).toNat, by omega, ?_⟩
 rw [show (((u % i).toNat : Nat) : Int) = u % i by omega]
 unfold wrap64
 omega
theorem SetC.past {c : Nat → Nat} {m k b : Nat} {S : List ByteArray} {w w' : World} (h : SetC (fun i => c i = m) w b S) (ho : Only (fun i => c i = k) w w') (hmk : m ≠ k) : SetC (fun i => upd c w.heap.size k i = m) w' b S :=
 (h.mono (Q := fun i => upd c w.heap.size k i = m) (fun i hi e => (upd_lt hi).trans e)).only ho (fun i hi e => upd_no hi e (by omega))
theorem SetC.past2 {c : Nat → Nat} {m k b : Nat} {S : List ByteArray} {w w' : World} (h : SetC (fun i => c i = m) w b S) (ho : Only (fun i => c i = 1 ∨ c i = 2) w w') (hm : m ≠ 1 ∧ m ≠ 2) (hmk : m ≠ k) : SetC (fun i => upd c w.heap.size k i = m) w' b S :=
 (h.mono (Q := fun i => upd c w.heap.size k i = m) (fun i hi e => (upd_lt hi).trans e)).only ho (fun i hi e => by
  rcases e with e | e
  ·exact upd_no hi e (by omega)
  ·exact upd_no hi e (by omega))
theorem SetC.put {c : Nat → Nat} {k b : Nat} {S : List ByteArray} {w w' : World} (h : SetC (fun i => c i = k ∨ w.heap.size ≤ i) w' b S) : SetC (fun i => upd c w.heap.size k i = k) w' b S :=
 h.mono (fun i hi e => by
  rcases Nat.lt_or_ge i w.heap.size with hl | hg
  ·rw [upd_lt hl]; omega
  ·exact upd_ge hg)
section
variable {B0 : Nat} {c : Nat → Nat} {w w' : World} {bb : Nat} {sv al iv lv : Value} {U A ids : List ByteArray} {D : List (List ByteArray)} {ps : List Nat} {bp bw : Nat} {P S T : List ByteArray}
/-- where a former set stands in the row -/
theorem HMem.logAt (h : HMem B0 c w bb sv al iv lv U A ids D ps) {j : Nat} (hj : j < D.length) : ∃ g k, lv = .slice (some ⟨g, 0, none⟩) D.length k ∧ w.cell? ⟨g, j, none⟩ = some (.pointer (some ⟨ps.getD j 0, 0, none⟩)) ∧ c g = 5 := by
 have hp := h.plen
 rcases h.logs.2 with ⟨-, e0⟩ | ⟨g, k, cur, e, -, hg, hnk, hk, hsz, htk⟩
 ·omega
 ·refine ⟨g, k, by rw [e, hp], ?_, h.clogs g (by rw [e]; rfl)⟩
  have hc := cell_of_row w g j cur _ (0, 0) hg
  rw [hc]
  have h2 : (cur.toList.take (ps.length * 1))[j]? = (ps.map ptrV)[j]? := by rw [htk]
  rw [List.getElem?_take_of_lt (by omega)] at h2
  rw [← Array.getElem?_toList, h2, List.getElem?_map, List.getD_eq_getElem?_getD, List.getElem?_eq_getElem (by omega)]
  rfl
/-- memory within a round: the parents' set (8), the wanted set (7) -/
def MSets (B0 : Nat) (c : Nat → Nat) (w : World) (bb : Nat) (sv al iv lv : Value) (U A ids : List ByteArray) (D : List (List ByteArray)) (ps : List Nat) (bp : Nat) (P : List ByteArray) (bw : Nat) (S : List ByteArray) : Prop :=
 HMem B0 c w bb sv al iv lv U A ids D ps ∧ SetC (fun i => c i = 8) w bp P ∧ SetC (fun i => c i = 7) w bw S
theorem MSets.later (h : MSets B0 c w bb sv al iv lv U A ids D ps bp P bw S) (hb : Below w.heap.size w w') : MSets B0 c w' bb sv al iv lv U A ids D ps bp P bw S := ⟨h.1.later hb, h.2.1.later hb, h.2.2.later hb⟩
theorem MSets.first {w1 w2 : World} (h : HMem B0 c w bb sv al iv lv U A ids D ps) (h1 : SetAt w.heap.size w1 bp []) (b1 : Below w.heap.size w w1) (h2 : SetAt w1.heap.size w2 bw []) (b2 : Below w1.heap.size w1 w2) :
  ∃ c', MSets B0 c' w2 bb sv al iv lv U A ids D ps bp [] bw [] := by
 have a1 := (h.upd 8).later b1
 have a2 := (a1.upd 7).later b2
 refine ⟨_, a2, ?_, ?_⟩
 ·exact ((h1.inC.mono (Q := fun i => upd (upd c w.heap.size 8) w1.heap.size 7 i = 8) (fun i hi e => by rw [upd_lt hi]; exact upd_ge e))).later b2
 ·exact h2.inC.mono (fun i hi e => upd_ge e)
theorem MSets.add (h : MSets B0 c w bb sv al iv lv U A ids D ps bp P bw S) (hp : SetC (fun i => c i = 8 ∨ w.heap.size ≤ i) w' bp T) (ho : Only (fun i => c i = 8) w w') :
  MSets B0 (upd c w.heap.size 8) w' bb sv al iv lv U A ids D ps bp T bw S :=
 ⟨(h.1.upd 8).only ho (fun i hi => by unfold upd; split <;> omega), hp.put, h.2.2.past ho (by omega)⟩
theorem MSets.addw (h : MSets B0 c w bb sv al iv lv U A ids D ps bp P bw S) (hp : SetC (fun i => c i = 7 ∨ w.heap.size ≤ i) w' bw T) (ho : Only (fun i => c i = 7) w w') :
  MSets B0 (upd c w.heap.size 7) w' bb sv al iv lv U A ids D ps bp P bw T :=
 ⟨(h.1.upd 7).only ho (fun i hi => by unfold upd; split <;> omega), h.2.1.past ho (by omega), hp.put⟩
theorem MSets.union {d : Nat} (h : MSets B0 c w bb sv al iv lv U A ids D ps bp P bw S) (hd : SetAt w.heap.size w' d T) (hb : Below w.heap.size w w') :
  MSets B0 (upd c w.heap.size 7) w' bb sv al iv lv U A ids D ps bp P d T :=
 ⟨(h.1.upd 7).later hb, (h.2.1.mono (Q := fun i => upd c w.heap.size 7 i = 8) (fun i hi e => (upd_lt hi).trans e)).later hb, hd.inC.mono (fun i hi e => upd_ge e)⟩
theorem MSets.putAll {L : List ByteArray} {al' : Value} (h : MSets B0 c w bb sv al iv lv U A ids D ps bp P bw S) (ho : w'.ownsRow 0 9 1 al' (A.length + L.length) (svals A ++ svals L)) (hg : w.grownBy w' al.ownBlock) (hn : al'.ownBlock = al.ownBlock ∨ al'.ownBlock = some w.heap.size) :
  MSets B0 (upd c w.heap.size 3) w' bb sv al' iv lv U (A ++ L) ids D ps bp P bw S ∧ Below B0 w w' := by
 obtain ⟨h1, h2⟩ := h.1.putAll ho hg hn
 exact ⟨⟨h1, h.2.1.past h2 (by omega), h.2.2.past h2 (by omega)⟩, h.1.below h2 (by omega)⟩
theorem MSets.putBook {V : List ByteArray} {sv' : Value} (h : MSets B0 c w bb sv al iv lv U A ids D ps bp P bw S) (ho : w'.ownsRow 0 80 2 sv' (U.length + V.length) (fivals (itemsS U) ++ fivals (itemsS V))) (hg : w.grownBy w' sv.ownBlock) (hn : sv'.ownBlock = sv.ownBlock ∨ sv'.ownBlock = some w.heap.size) :
  Blk w' bb 31 #[sv] ∧ MSets B0 (upd c w.heap.size 2) (w'.setCell ⟨bb, 0, none⟩ sv') bb sv' al iv lv (U ++ V) A ids D ps bp P bw S ∧ Below B0 w (w'.setCell ⟨bb, 0, none⟩ sv') := by
 obtain ⟨h1, h2, h3⟩ := h.1.putBook ho hg hn
 refine ⟨h1, ⟨h2, h.2.1.past2 h3 (by omega) (by omega), h.2.2.past2 h3 (by omega) (by omega)⟩, h3.below (fun i hi => ?_) h.1.size⟩
 rcases Nat.lt_or_ge i B0 with hl | hg
 ·have := h.1.low i hl; omega
 ·exact hg
theorem MSets.belowc {k : Nat} (h : MSets B0 c w bb sv al iv lv U A ids D ps bp P bw S) (ho : Only (fun i => c i = k) w w') (hk : k ≠ 9) : Below B0 w w' := h.1.below ho hk
end
end Go.Proofs.YtmpjdoiogbbcoaaGreatDoor
/- What awake() asks, plain: reckoned by the kernel. -/
namespace Go.Proofs.YtmpjdoiogbbcoaaGreatDoor
open Go.RowKit Book Pap Ojt Sn
set_option linter.unusedVariables false
set_option linter.unusedSimpArgs false

def awF : List Fi := [⟨⟨#[98]⟩, ⟨#[50]⟩⟩, ⟨⟨#[97, 47, 120]⟩, ⟨#[49]⟩⟩]
def awR : (List ByteArray × ByteArray) × Int := commitS (getF []) awF [] ⟨#[110]⟩
def awL : List ByteArray := awR.1.1
def awI : ByteArray := awR.1.2
def awG : Sw.Src := getF (itemsS awL)
theorem aw_err : awR.2 = 0 := by decide +kernel
theorem aw_len : awL.length = 5 := by decide +kernel
theorem aw_0 : awL.getD 0 ByteArray.empty = ⟨#[1, 49]⟩ := by decide +kernel
theorem aw_2 : awL.getD 2 ByteArray.empty = ⟨#[1, 50]⟩ := by decide +kernel
theorem aw_sz : ∀ s ∈ awL, s.size ≤ 1000 := by decide +kernel
theorem aw_id : awI.size = 32 := by decide +kernel
theorem aw_files : filesS awG awI = ([⟨⟨#[97, 47, 120]⟩, ⟨#[49]⟩⟩, ⟨⟨#[98]⟩, ⟨#[50]⟩⟩], 0) := by decide +kernel
theorem aw_find : (findS awG awI ⟨#[97, 47, 120]⟩).2 = 0 ∧ (findS awG awI ⟨#[97, 47, 120]⟩).1.name = ⟨#[120]⟩ := by decide +kernel
theorem aw_look : (lookK awG awI 3 21).2 = 0 ∧ (lookK awG awI 3 21).1.pars = [] ∧ (lookK awG awI 3 21).1.height = 0 := by decide +kernel
theorem aw_list : (listS awG awI).2 = 0 := by decide +kernel
theorem aw_none : (filesS awG ⟨#[120]⟩).2 = 12 := by decide +kernel
theorem aw_names : ((listS awG awI).1.map (fun e => e.name)).Nodup := by decide +kernel
/-- a commit differs from itself in nothing -/
theorem aw_diff {D : List Ch} (h : IsDiff (listS awG awI).1 (listS awG awI).1 D) : D = [] := by
 cases D with
 | nil => rfl
 | cons c r =>
  have h1 := (diff_mem aw_names aw_names h c).1 (List.mem_cons_self ..)
  exact absurd (h1.1.trans h1.2.1.symm) h1.2.2
end Go.Proofs.YtmpjdoiogbbcoaaGreatDoor
