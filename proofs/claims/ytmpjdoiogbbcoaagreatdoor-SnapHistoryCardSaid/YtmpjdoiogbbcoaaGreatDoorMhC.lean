/- Texts in a row: ObG, ShaP, SwP, SnP, SnS, Builder, Search, BldStr, BldK. -/
import Derived.Test.YtmpjdoiogbbcoaaGreatDoorMhB
import Derived.Laws.CopyOwn
import Derived.Deep.DeepFit
import Derived.Lib.Builder
import Derived.Lib.Slices
import Derived.Laws.Externs
import Derived.WalkLawsBesides
/- Objects: read from bytes: Decode. -/
namespace Go.Proofs.YtmpjdoiogbbcoaaGreatDoor
open Go.RowKit Book Pap Ojt
set_option linter.unusedVariables false

def decR (l : List UInt8) : Ob × Int := match dec l with
 | some x => (x, 0)
 | none => (zero, 4)
/-- what Decode hands back -/
def DecOut (w : World) (l : List UInt8) (e : Ending) (w' : World) : Prop :=
 ∃ x ev pv er, (x, er) = decR l ∧ e = .returned (.tuple #[.agg (obCs x ev pv), .int .i64 er]) ∧ ObAt w' ev pv x ∧ Below w.heap.size w w' ∧ ∀ k, (ev.ownBlock = some k ∨ pv.ownBlock = some k) → w.heap.size ≤ k
theorem zero_at (w : World) : ObAt w (.slice none 0 0) (.slice none 0 0) zero := ⟨none, 0, 0, none, 0, 0, rfl, ⟨rfl, by omega, .inl rfl⟩, rfl, ⟨rfl, by omega, .inl rfl⟩⟩
theorem zero_cs : obCs zero (.slice none 0 0) (.slice none 0 0) = #[.int .i64 0, .string ⟨#[]⟩, .slice none 0 0, .string ⟨#[]⟩, .slice none 0 0, .int .i64 0, .string ⟨#[]⟩] := rfl
set_option maxRecDepth 100000 in
set_option maxHeartbeats 4000000 in
theorem decode_nil (s : ByteArray) (hs : s.size = 0) (w : World) : Calls Tryz.prog 63 #[.string s] w (DecOut w s.data.toList) := by
 have HD : Hid (decR s.data.toList = (zero, 4)) := by
  have : s.data.toList = [] := by apply List.length_eq_zero_iff.1; simpa using hs
  show _ = _
  rw [this]; rfl
 have hs1 : s.toList.isEmpty = true := by rw [bstr_nil hs]; rfl
 have hs2 : s.toList = [] := bstr_nil hs
 have hs3 : (s.toList == []) = true := by rw [beq_iff_eq]; exact hs2
 go_enter Tryz.func63, Tryz.ntmps63
 go_wp2_with fail
 refine bodyPost_ret (v := .tuple #[.agg #[.int .i64 0, .string ⟨#[]⟩, .slice none 0 0, .string ⟨#[]⟩, .slice none 0 0, .int .i64 0, .string ⟨#[]⟩], .int .i64 4]) (by simp [results, Tryz.results63, go_sem]) rfl ⟨zero, .slice none 0 0, .slice none 0 0, 4, HD.out.symm, by rw [zero_cs], zero_at _, ?_, fun k hk => by simp [Value.ownBlock] at hk⟩
 exact (Below.refl _ _).alloc (Nat.le_refl _) _
/-- a text of one byte and more: what the walk asks of it -/
structure Head (s : ByteArray) (k : UInt8) (t : List UInt8) : Prop where
 l : s.data.toList = k :: t
theorem Head.size {s : ByteArray} {k : UInt8} {t : List UInt8} (h : Head s k t) : s.size = t.length + 1 := by
 have : s.data.toList.length = s.size := Array.length_toList
 rw [h.l] at this; simpa using this.symm
theorem Head.at0 {s : ByteArray} {k : UInt8} {t : List UInt8} (h : Head s k t) (hz : 0 < s.size) : s[0]'hz = k := by
 have h1 : s.data.toList[0]? = some k := by rw [h.l]; rfl
 rw [Array.getElem?_toList] at h1
 obtain ⟨_, h2⟩ := Array.getElem?_eq_some_iff.1 h1
 exact h2
theorem Head.rest {s : ByteArray} {k : UInt8} {t : List UInt8} (h : Head s k t) : (s.extract 1 s.size).data.toList = t := by
 have := bx_drop s.data.toList 1
 rw [bx_back] at this
 rw [this, bx_list, h.l]; rfl
theorem whole_bad {r : Rd} (h : wholeR r = true) : r.bad = false := by
 unfold wholeR at h
 cases hb : r.bad
 ·rfl
 ·rw [hb] at h; simp at h
theorem decR_blob (t : List UInt8) : decR (1 :: t) = if wholeR ⟨[], false⟩ = true ∧ good { zero with kind := 1, data := bx t } = true then ({ zero with kind := 1, data := bx t }, 0) else (zero, 4) := by
 have e : decR (1 :: t) = match (if good (blobO t) = true then some (blobO t) else none) with | some x => (x, 0) | none => (zero, 4) := rfl
 rw [e]
 by_cases h : good (blobO t) = true
 ·rw [if_pos h, if_pos ⟨rfl, h⟩]; rfl
 ·rw [if_neg h, if_neg (fun h2 => h h2.2)]
theorem decR_tree (t : List UInt8) (l : List Ent) (hl : (treeR (newR t)).2.bad = false → l = (treeR (newR t)).1) : decR (2 :: t) = if wholeR (treeR (newR t)).2 = true ∧ good { zero with kind := 2, ents := l } = true then ({ zero with kind := 2, ents := l }, 0) else (zero, 4) := by
 have e : decR (2 :: t) = match (if wholeR (treeR (newR t)).2 = true ∧ good (treeO t) = true then some (treeO t) else none) with | some x => (x, 0) | none => (zero, 4) := rfl
 rw [e]
 by_cases hw : wholeR (treeR (newR t)).2 = true
 ·have := hl (whole_bad hw)
  subst this
  by_cases h : good (treeO t) = true
  ·rw [if_pos ⟨hw, h⟩, if_pos ⟨hw, h⟩]; rfl
  ·rw [if_neg (fun h2 => h h2.2), if_neg (fun h2 => h h2.2)]
 ·rw [if_neg (fun h2 => hw h2.1), if_neg (fun h2 => hw h2.1)]
theorem decR_commit (t : List UInt8) (l : List ByteArray) (hl : (parsR (takeR (newR t) 32).2).2.bad = false → l = (parsR (takeR (newR t) 32).2).1) (hb : (commitR t).bad = false → (parsR (takeR (newR t) 32).2).2.bad = false) :
  decR (3 :: t) = if wholeR (commitR t) = true ∧ good { zero with kind := 3, tree := bx (takeR (newR t) 32).1, pars := l, height := (numR (parsR (takeR (newR t) 32).2).2).1, note := bx (textR (numR (parsR (takeR (newR t) 32).2).2).2 1000).1 } = true then ({ zero with kind := 3, tree := bx (takeR (newR t) 32).1, pars := l, height := (numR (parsR (takeR (newR t) 32).2).2).1, note := bx (textR (numR (parsR (takeR (newR t) 32).2).2).2 1000).1 }, 0) else (zero, 4) := by
 have e : decR (3 :: t) = match (if wholeR (commitR t) = true ∧ good (commitO t) = true then some (commitO t) else none) with | some x => (x, 0) | none => (zero, 4) := rfl
 rw [e]
 by_cases hw : wholeR (commitR t) = true
 ·have := hl (hb (whole_bad hw))
  subst this
  by_cases h : good (commitO t) = true
  ·rw [if_pos ⟨hw, h⟩, if_pos ⟨hw, h⟩]; rfl
  ·rw [if_neg (fun h2 => h h2.2), if_neg (fun h2 => h h2.2)]
 ·rw [if_neg (fun h2 => hw h2.1), if_neg (fun h2 => hw h2.1)]
theorem decR_other (k : UInt8) (t : List UInt8) (h1 : k ≠ 1) (h2 : k ≠ 2) (h3 : k ≠ 3) (r : Rd) : decR (k :: t) = if wholeR r = true ∧ good { zero with kind := k.toNat } = true then ({ zero with kind := k.toNat }, 0) else (zero, 4) := by
 have e : decR (k :: t) = (zero, 4) := by
  show (match (if k = 1 then (if good (blobO t) = true then some (blobO t) else none) else if k = 2 then (if wholeR (treeR (newR t)).2 = true ∧ good (treeO t) = true then some (treeO t) else none) else if k = 3 then (if wholeR (commitR t) = true ∧ good (commitO t) = true then some (commitO t) else none) else none : Option Ob) with | some x => (x, (0 : Int)) | none => (zero, 4)) = _
  rw [if_neg h1, if_neg h2, if_neg h3]
 have g : good { zero with kind := (k.toNat : Int) } = false := by
  have n1 : (k.toNat : Int) ≠ 1 := fun e => h1 (UInt8.toNat_inj.1 (by show k.toNat = 1; omega))
  have n2 : (k.toNat : Int) ≠ 2 := fun e => h2 (UInt8.toNat_inj.1 (by show k.toNat = 2; omega))
  have n3 : (k.toNat : Int) ≠ 3 := fun e => h3 (UInt8.toNat_inj.1 (by show k.toNat = 3; omega))
  unfold good
  simp only
  rw [if_neg n1, if_neg n2, if_neg n3]
 rw [e, g, if_neg (by simp)]
theorem takeR_badkeep {r : Rd} {n : Nat} (h : (takeR r n).2.bad = false) : r.bad = false := by
 unfold takeR at h
 cases hb : r.bad
 ·rfl
 ·rw [if_pos (.inl hb)] at h; cases h
theorem commit_keep {r : Rd} (h : (textR (numR r).2 1000).2.bad = false) : r.bad = false := by
 have h1 : (numR (numR r).2).2.bad = false ∨ True := .inr trivial
 unfold textR at h
 have h2 := takeR_badkeep h
 split at h2
 ·cases h2
 ·exact takeR_badkeep (takeR_badkeep h2)
theorem Tryz.infoObj (x : Ob) (ev pv : Value) : (Tryz.prog.info? 98).map (·.size) = some (obCs x ev pv).size := by
 show _ = some 7
 kernel_rfl
theorem obcs_one (x : Ob) (ea pa : Option Addr) (en ec pn pc : Nat) : (obCs x (.slice ea en ec) (.slice pa pn pc)).all (·.oneCell') = true := by
 simp [obCs, Value.oneCell']
theorem ObAt.far {w : World} {g : Nat} {x : Ob} {ea pa : Option Addr} {en ec pn pc : Nat} (h : ObAt w (.slice ea en ec) (.slice pa pn pc) x) (h1 : ∀ k, (Value.slice ea en ec).ownBlock = some k → k ≠ g) (h2 : ∀ k, (Value.slice pa pn pc).ownBlock = some k → k ≠ g) (cs : Array Value) : ObAt (w.setRow g cs) (.slice ea en ec) (.slice pa pn pc) x := by
 obtain ⟨ea', en', ec', pa', pn', pc', e1, he, e2, hp⟩ := h
 injection e1 with a1 a2 a3
 injection e2 with a4 a5 a6
 subst a1; subst a2; subst a3; subst a4; subst a5; subst a6
 refine ⟨_, _, _, _, _, _, rfl, ?_, rfl, ?_⟩
 ·obtain ⟨b1, b2, b3⟩ := he
  refine ⟨b1, b2, b3.imp id ?_⟩
  rintro ⟨b, off, rfl, hc⟩
  refine ⟨b, off, rfl, fun j hj => ?_⟩
  have hk : (w.setRow g cs).heap[b]? = w.heap[b]? := setRow_other w g b cs (h1 b rfl)
  obtain ⟨c0, c1, c2⟩ := hc j hj
  exact ⟨(World.cell?_of_block (a := ⟨b, _, none⟩) hk).trans c0, (World.cell?_of_block (a := ⟨b, _, none⟩) hk).trans c1, (World.cell?_of_block (a := ⟨b, _, none⟩) hk).trans c2⟩
 ·obtain ⟨b1, b2, b3⟩ := hp
  refine ⟨b1, b2, b3.imp id ?_⟩
  rintro ⟨b, off, rfl, hc⟩
  refine ⟨b, off, rfl, fun j hj => ?_⟩
  have hk : (w.setRow g cs).heap[b]? = w.heap[b]? := setRow_other w g b cs (h2 b rfl)
  exact (World.cell?_of_block (a := ⟨b, _, none⟩) hk).trans (hc j hj)
theorem entsR_len : ∀ (n : Nat) (r : Rd), (entsR n r).1.length ≤ n
 | 0, r => Nat.le_refl _
 | n + 1, r => by
  unfold entsR
  split
  ·exact Nat.zero_le _
  ·have := entsR_len n (entR r).2
   simp only [List.length_cons]; omega
theorem treeR_len (r : Rd) : (treeR r).1.length ≤ 256 := by
 unfold treeR spoil
 by_cases h : 256 < (numR r).1
 ·rw [if_pos h, entsR_bad rfl]; exact Nat.zero_le _
 ·have := entsR_len (numR r).1 (numR r).2
  rw [if_neg h]; omega
theorem EntsAt.kept {w w' : World} {a : Option Addr} {n c : Nat} {l : List Ent} (h : EntsAt w a n l) (hk : ∀ b, (Value.slice a n c).ownBlock = some b → w'.heap[b]? = w.heap[b]?) : EntsAt w' a n l := by
 obtain ⟨b1, b2, b3⟩ := h
 refine ⟨b1, b2, b3.imp id ?_⟩
 rintro ⟨b, off, rfl, hc⟩
 refine ⟨b, off, rfl, fun j hj => ?_⟩
 obtain ⟨c0, c1, c2⟩ := hc j hj
 exact ⟨(World.cell?_of_block (a := ⟨b, _, none⟩) (hk b rfl)).trans c0, (World.cell?_of_block (a := ⟨b, _, none⟩) (hk b rfl)).trans c1, (World.cell?_of_block (a := ⟨b, _, none⟩) (hk b rfl)).trans c2⟩
theorem StrsAt.kept {w w' : World} {a : Option Addr} {n c : Nat} {l : List ByteArray} (h : StrsAt w a n l) (hk : ∀ b, (Value.slice a n c).ownBlock = some b → b < w.heap.size → w'.heap[b]? = w.heap[b]?) : StrsAt w' a n l := by
 obtain ⟨b1, b2, b3⟩ := h
 refine ⟨b1, b2, b3.imp id ?_⟩
 rintro ⟨b, off, rfl, hc⟩
 exact ⟨b, off, rfl, fun j hj => (World.cell?_of_block (a := ⟨b, _, none⟩) (hk b rfl (World.block_lt_of_cell? w _ (hc j hj)))).trans (hc j hj)⟩
theorem idsR_rest : ∀ (n : Nat) (r : Rd), (idsR n r).2.rest.length ≤ r.rest.length
 | 0, r => Nat.le_refl _
 | n + 1, r => by
  unfold idsR
  split
  ·exact Nat.le_refl _
  ·exact Nat.le_trans (idsR_rest n _) (takeR_rest r 32)
theorem parsR_rest (r : Rd) : (parsR r).2.rest.length ≤ r.rest.length := by
 unfold parsR
 refine Nat.le_trans (idsR_rest _ _) ?_
 unfold spoil
 split
 ·exact Nat.zero_le _
 ·exact takeR_rest r 4
theorem dec_results (tmps : Array Value) (g : Nat) (er : Int) (x : Ob) (ev pv : Value) (w : World) (h2 : tmps.getD 2 undef = .pointer (some ⟨g, 0, none⟩)) (h3 : tmps.getD 3 undef = .int .i64 er) (H : Blk w g 98 (obCs x ev pv)) : (results Tryz.f63 tmps).run Tryz.prog w = .ok (.tuple #[.agg (obCs x ev pv), .int .i64 er]) w := by
 have c0 : w.cell? ⟨g, 0, none⟩ = some (.int .i64 x.kind) := Blk.cell H 0
 have c1 : w.cell? ⟨g, 1, none⟩ = some (.string x.data) := Blk.cell H 1
 have c2 : w.cell? ⟨g, 2, none⟩ = some ev := Blk.cell H 2
 have c3 : w.cell? ⟨g, 3, none⟩ = some (.string x.tree) := Blk.cell H 3
 have c4 : w.cell? ⟨g, 4, none⟩ = some pv := Blk.cell H 4
 have c5 : w.cell? ⟨g, 5, none⟩ = some (.int .i64 x.height) := Blk.cell H 5
 have c6 : w.cell? ⟨g, 6, none⟩ = some (.string x.note) := Blk.cell H 6
 have h2' : tmps[2]?.getD undef = .pointer (some ⟨g, 0, none⟩) := by simpa using h2
 have h3' : tmps[3]?.getD undef = .int .i64 er := by simpa using h3
 simp [results, Tryz.results63, go_sem, h2', h3', c0, c1, c2, c3, c4, c5, c6, obCs]
set_option maxRecDepth 100000 in
set_option maxHeartbeats 4000000 in
theorem decode_some (s : ByteArray) (k : UInt8) (t : List UInt8) (hd : Head s k t) (hsz : s.size ≤ 1000000000) (w : World) : Calls Tryz.prog 63 #[.string s] w (DecOut w s.data.toList) := by
 have hs0 := hd.size
 have hs1 : s.toList.isEmpty = false := bstr_isEmpty (by omega)
 have hs2 : ¬ s.toList = [] := bstr_some (by omega)
 have hs3 : (s.toList == []) = false := by rw [beq_eq_false_iff_ne]; exact hs2
 have hpos : 0 < s.size := by omega
 have hpos1 : (1 : Int) ≤ s.size := by omega
 have h0 : s[0]'hpos = k := hd.at0 hpos
 have h01 : s[0]? = some k := by rw [← h0]; exact getElem?_pos s 0 hpos
 have hk : k.toNat < 256 := k.toNat_lt
 have hki : (k.toNat : Int) ≤ 255 := by omega
 have hki0 : (0 : Int) ≤ (k.toNat : Int) := by omega
 have hrest := hd.rest
 have HDL := hid hd.l
 have HTL : Hid (t.length ≤ 1000000000) := by show _ ≤ _; omega
 obtain ⟨y, hy⟩ : ∃ y, s.extract 1 s.size = y := ⟨_, rfl⟩
 rw [hy] at hrest
 have HRS := hid hrest
 clear hd hrest hs0
 go_enter Tryz.func63, Tryz.ntmps63
 go_upto_region 4 with fail
 obtain ⟨g, hg⟩ : ∃ g, w.heap.size = g := ⟨_, rfl⟩
 have HG := hid hg
 have HZ1 : Hid (Blk ((w.alloc (.cells (obCs zero (.slice none 0 0) (.slice none 0 0)) 98)).alloc (.cells (obCs { zero with kind := k.toNat } (.slice none 0 0) (.slice none 0 0)) 98)) g 98 (obCs zero (.slice none 0 0) (.slice none 0 0))) := by
  have := (Blk.new w 98 (obCs zero (.slice none 0 0) (.slice none 0 0))).alloc (.cells (obCs { zero with kind := k.toNat } (.slice none 0 0) (.slice none 0 0)) 98)
  rw [hg] at this; exact this
 have HX1 : Hid (Blk ((w.alloc (.cells (obCs zero (.slice none 0 0) (.slice none 0 0)) 98)).alloc (.cells (obCs { zero with kind := k.toNat } (.slice none 0 0) (.slice none 0 0)) 98)) (g + 1) 98 (obCs { zero with kind := k.toNat } (.slice none 0 0) (.slice none 0 0))) := by
  have := Blk.new (w.alloc (.cells (obCs zero (.slice none 0 0) (.slice none 0 0)) 98)) 98 (obCs { zero with kind := k.toNat } (.slice none 0 0) (.slice none 0 0))
  simp only [World.size_alloc, hg] at this; exact this
 have HB1 : Hid (Below g w ((w.alloc (.cells (obCs zero (.slice none 0 0) (.slice none 0 0)) 98)).alloc (.cells (obCs { zero with kind := k.toNat } (.slice none 0 0) (.slice none 0 0)) 98))) := ((Below.refl _ _).alloc (Nat.le_of_eq hg.symm) _).alloc (by simp [hg]) _
 have hz1 : ((w.alloc (.cells (obCs zero (.slice none 0 0) (.slice none 0 0)) 98)).alloc (.cells (obCs { zero with kind := k.toNat } (.slice none 0 0) (.slice none 0 0)) 98)).heap.size = g + 2 := by simp [hg]
 rw [hg]
 unfold zero obCs at HZ1 HX1 HB1 hz1
 simp only at HZ1 HX1 HB1 hz1
 clear hg
 have hem : ByteArray.empty = ⟨#[]⟩ := rfl
 rw [hem] at HZ1 HX1 HB1 hz1
 clear hem
 generalize ((w.alloc (.cells #[.int .i64 0, .string ⟨#[]⟩, .slice none 0 0, .string ⟨#[]⟩, .slice none 0 0, .int .i64 0, .string ⟨#[]⟩] 98)).alloc (.cells #[.int .i64 (k.toNat : Int), .string ⟨#[]⟩, .slice none 0 0, .string ⟨#[]⟩, .slice none 0 0, .int .i64 0, .string ⟨#[]⟩] 98)) = w1 at HZ1 HX1 HB1 hz1 ⊢
 have HSZ := hid hz1
 clear hz1
 go_wp2_with fail
 refine (onew_any _ _).mono ?_; rintro e w2 ⟨rfl, hR, hb⟩
 rw [HRS.out, HSZ.out] at hR
 have HR2 := hid hR
 have HZ2 : Hid (Blk w2 g 98 _) := (hb.block g (by rw [HSZ.out]; omega)).trans HZ1.out
 have HX2 : Hid (Blk w2 (g + 1) 98 _) := (hb.block (g + 1) (by rw [HSZ.out]; omega)).trans HX1.out
 have HB2 : Hid (Below g w w2) := HB1.out.trans (hb.mono (by rw [HSZ.out]; omega))
 clear hR hb HZ1 HX1 HB1 h0 h01 hs1 hs2 hs3 hpos hpos1
 rw [HSZ.out]
 clear HSZ hy
 go_upto_region 5 with fail
 have k0 : w2.cell? ⟨g + 1, 0, none⟩ = some (.int .i64 (k.toNat : Int)) := Blk.cell HX2.out 0
 have hrt := HTL.out
 rw [HDL.out]
 by_cases e1 : k = 1
 ·subst e1
  have HL := hid (oleft_any HR2.out)
  have HTK := hid (otake_any t.length HR2.out (by show t.length ≤ _; omega) (by omega))
  have et : takeR (newR t) t.length = (t, ⟨[], false⟩) := by
   unfold takeR newR
   rw [if_neg (by simp)]
   simp
  rw [et] at HTK
  clear et
  have hL2 : (newR t).rest.length = t.length := rfl
  rw [hL2] at HL
  clear hL2
  obtain ⟨d, hd⟩ : ∃ d, bx t = d := ⟨_, rfl⟩
  have HDD := hid hd
  simp only at HTK
  rw [hd] at HTK
  clear hd
  have k0' : w2.cell? ⟨g + 1, 0, none⟩ = some (.int .i64 1) := k0
  clear k0
  go_wp2_with fail
  refine HL.out.mono ?_; rintro e w' ⟨rfl, rfl⟩
  go_wp2_with fail
  refine HTK.out.mono ?_; rintro e w3 ⟨rfl, hs, ho⟩
  have hx3 := HX2.out.only ho (by omega)
  have q1 := Blk.cell hx3 1
  have f1 := Blk.frozen hx3 1
  simp at q1
  clear k0'
  go_upto_region 15 with fail
  clear q1 f1
  have HX5 : Hid (Blk (w3.setCell ⟨g + 1, 1, none⟩ (.string d)) (g + 1) 98 (obCs { zero with kind := 1, data := d } (.slice none 0 0) (.slice none 0 0))) := Blk.set hx3 1 (.string d)
  have HZ5 : Hid (Blk (w3.setCell ⟨g + 1, 1, none⟩ (.string d)) g 98 (obCs zero (.slice none 0 0) (.slice none 0 0))) := Blk.far (HZ2.out.only ho (by omega)) (p := ⟨g + 1, 1, none⟩) (by show g ≠ g + 1; omega) _
  have HR5 : Hid (RdAt (w3.setCell ⟨g + 1, 1, none⟩ (.string d)) (g + 2) ⟨[], false⟩) := Blk.far hs (p := ⟨g + 1, 1, none⟩) (by show g + 2 ≠ g + 1; omega) _
  have HO5 : Hid (ObAt (w3.setCell ⟨g + 1, 1, none⟩ (.string d)) (.slice none 0 0) (.slice none 0 0) { zero with kind := 1, data := d }) := ⟨none, 0, 0, none, 0, 0, rfl, ⟨rfl, by omega, .inl rfl⟩, rfl, ⟨rfl, by omega, .inl rfl⟩⟩
  have HB5 : Hid (Below g w (w3.setCell ⟨g + 1, 1, none⟩ (.string d))) := (HB2.out.trans (ho.below (fun i e => by omega) (by have := Blk.lt HZ2.out; omega))).setCell (p := ⟨g + 1, 1, none⟩) (by show g ≤ g + 1; omega) _
  have HD5 : Hid (decR (1 :: t) = if wholeR ⟨[], false⟩ = true ∧ good { zero with kind := 1, data := d } = true then ({ zero with kind := 1, data := d }, 0) else (zero, 4)) := by
   have := decR_blob t; rw [HDD.out] at this; exact this
  have HN5 : Hid (wholeR ⟨[], false⟩ = true → ObN { zero with kind := 1, data := d }) := fun _ => ⟨⟨by show (-9223372036854775808 : Int) ≤ 1; omega, by show (1 : Int) ≤ 9223372036854775807; omega⟩, ⟨by show (-9223372036854775808 : Int) ≤ 0; omega, by show (0 : Int) ≤ 9223372036854775807; omega⟩, by show 0 ≤ 1000000; omega⟩
  generalize w3.setCell ⟨g + 1, 1, none⟩ (.string d) = W at HX5 HZ5 HR5 HO5 HB5 ⊢
  generalize (⟨[], false⟩ : Rd) = r at HR5 HD5 HN5
  generalize ({ zero with kind := 1, data := d } : Ob) = x at HX5 HO5 HD5 HN5
  clear HL HTK HX2 HZ2 HR2 HB2 hx3 hs ho
  obtain ⟨ea, en, ec, pa, pn, pc, hx5, ho5, hne, hnp⟩ : ∃ ea en ec pa pn pc, Blk W (g + 1) 98 (obCs x (.slice ea en ec) (.slice pa pn pc)) ∧ ObAt W (.slice ea en ec) (.slice pa pn pc) x ∧ (∀ k, (Value.slice ea en ec).ownBlock = some k → g < k) ∧ (∀ k, (Value.slice pa pn pc).ownBlock = some k → g < k) := ⟨_, _, _, _, _, _, HX5.out, HO5.out, (fun k hk => by simp [Value.ownBlock] at hk), (fun k hk => by simp [Value.ownBlock] at hk)⟩
  clear HX5 HO5
  have HX5 := hid hx5
  have HO5 := hid ho5
  have HNE := hid hne
  have HNP := hid hnp
  clear hx5 ho5 hne hnp
  have HWH := hid (owhole_any HR5.out)
  cases hwh : wholeR r
  ·rw [hwh] at HWH HD5
   clear HN5
   obtain ⟨wz, hwz⟩ : ∃ wz, W.setRow g (obCs zero (.slice none 0 0) (.slice none 0 0)) = wz := ⟨_, rfl⟩
   have HBZ : Hid (Blk wz g 98 (obCs zero (.slice none 0 0) (.slice none 0 0))) := by rw [← hwz]; exact setRow_heap _ _ _ _ _ _ HZ5.out
   have HLZ : Hid (Below g w wz) := by rw [← hwz]; exact below_setRow HB5.out (Nat.le_refl _) _
   have HWZ := hid hwz
   clear hwz
   go_wp2_with fail
   refine HWH.out.mono ?_; rintro e w' ⟨rfl, rfl⟩
   go_wp2_with (first
    | (refine wpList_store_row rfl _ (.tmp 2) (.tmp 53) rfl g (obCs zero (.slice none 0 0) (.slice none 0 0)) rfl rfl 98 (obCs zero (.slice none 0 0) (.slice none 0 0)) HZ5.out (Tryz.infoObj _ _ _) rfl (obcs_one _ _ _ _ _ _ _) ?_; rw [HWZ.out]))
   go_wp2_with fail
   refine bodyPost_ret (v := .tuple #[.agg (obCs zero (.slice none 0 0) (.slice none 0 0)), .int .i64 4]) ?hr1 rfl ⟨zero, .slice none 0 0, .slice none 0 0, 4, ?_, rfl, zero_at _, ?_, fun k hk => by simp [Value.ownBlock] at hk⟩
   case hr1 => exact dec_results _ g 4 zero _ _ wz rfl rfl HBZ.out
   ·rw [HDL.out, HD5.out]; simp
   ·rw [HG.out]; exact HLZ.out
  ·rw [hwh] at HWH HD5 HN5
   have HGD := hid (obgood_any x _ _ W HO5.out (HN5.out rfl))
   clear HN5
   have k0 : W.cell? ⟨g + 1, 0, none⟩ = some (.int .i64 x.kind) := Blk.cell HX5.out 0
   have k1 : W.cell? ⟨g + 1, 1, none⟩ = some (.string x.data) := Blk.cell HX5.out 1
   have k2 : W.cell? ⟨g + 1, 2, none⟩ = some (.slice ea en ec) := Blk.cell HX5.out 2
   have k3 : W.cell? ⟨g + 1, 3, none⟩ = some (.string x.tree) := Blk.cell HX5.out 3
   have k4 : W.cell? ⟨g + 1, 4, none⟩ = some (.slice pa pn pc) := Blk.cell HX5.out 4
   have k5 : W.cell? ⟨g + 1, 5, none⟩ = some (.int .i64 x.height) := Blk.cell HX5.out 5
   have k6 : W.cell? ⟨g + 1, 6, none⟩ = some (.string x.note) := Blk.cell HX5.out 6
   go_wp2_with fail
   refine HWH.out.mono ?_; rintro e w' ⟨rfl, rfl⟩
   go_wp2_with fail
   refine HGD.out.mono ?_; rintro e w7 ⟨rfl, hb⟩
   clear k0 k1 k2 k3 k4 k5 k6
   have HX7 : Hid (Blk w7 (g + 1) 98 (obCs x (.slice ea en ec) (.slice pa pn pc))) := (hb.block (g + 1) (Blk.lt HX5.out)).trans HX5.out
   have HZ7 : Hid (Blk w7 g 98 (obCs zero (.slice none 0 0) (.slice none 0 0))) := (hb.block g (Blk.lt HZ5.out)).trans HZ5.out
   have HO7 : Hid (ObAt w7 (.slice ea en ec) (.slice pa pn pc) x) := HO5.out.later hb
   have HB7 : Hid (Below g w w7) := HB5.out.trans (hb.mono (Nat.le_of_lt (Blk.lt HZ5.out)))
   have hg7 := Blk.lt HZ7.out
   clear hb HX5 HZ5 HO5 HB5
   cases hgx : good x
   ·rw [hgx] at HD5
    obtain ⟨wz, hwz⟩ : ∃ wz, w7.setRow g (obCs zero (.slice none 0 0) (.slice none 0 0)) = wz := ⟨_, rfl⟩
    have HBZ : Hid (Blk wz g 98 (obCs zero (.slice none 0 0) (.slice none 0 0))) := by rw [← hwz]; exact setRow_heap _ _ _ _ _ _ HZ7.out
    have HLZ : Hid (Below g w wz) := by rw [← hwz]; exact below_setRow HB7.out (Nat.le_refl _) _
    have HWZ := hid hwz
    clear hwz
    go_wp2_with (first
     | (refine wpList_store_row rfl _ (.tmp 2) (.tmp 53) rfl g (obCs zero (.slice none 0 0) (.slice none 0 0)) rfl rfl 98 (obCs zero (.slice none 0 0) (.slice none 0 0)) HZ7.out (Tryz.infoObj _ _ _) rfl (obcs_one _ _ _ _ _ _ _) ?_; rw [HWZ.out]))
    go_wp2_with fail
    refine bodyPost_ret (v := .tuple #[.agg (obCs zero (.slice none 0 0) (.slice none 0 0)), .int .i64 4]) ?hr2 rfl ⟨zero, .slice none 0 0, .slice none 0 0, 4, ?_, rfl, zero_at _, ?_, fun k hk => by simp [Value.ownBlock] at hk⟩
    case hr2 => exact dec_results _ g 4 zero _ _ wz rfl rfl HBZ.out
    ·rw [HDL.out, HD5.out]; simp
    ·rw [HG.out]; exact HLZ.out
   ·rw [hgx] at HD5
    obtain ⟨wz, hwz⟩ : ∃ wz, w7.setRow g (obCs x (.slice ea en ec) (.slice pa pn pc)) = wz := ⟨_, rfl⟩
    have HBZ : Hid (Blk wz g 98 (obCs x (.slice ea en ec) (.slice pa pn pc))) := by rw [← hwz]; exact setRow_heap _ _ _ _ _ _ HZ7.out
    have hlz : Below w7.heap.size w7 wz ∨ True := .inr trivial
    have HLZ : Hid (Below g w wz) := by rw [← hwz]; exact below_setRow HB7.out (Nat.le_refl _) _
    have HOZ : Hid (ObAt wz (.slice ea en ec) (.slice pa pn pc) x) := by rw [← hwz]; exact HO7.out.far (fun k hk => by have := HNE.out k hk; omega) (fun k hk => by have := HNP.out k hk; omega) _
    have HWZ := hid hwz
    clear hwz hlz
    have k0 : w7.cell? ⟨g + 1, 0, none⟩ = some (.int .i64 x.kind) := Blk.cell HX7.out 0
    have k1 : w7.cell? ⟨g + 1, 1, none⟩ = some (.string x.data) := Blk.cell HX7.out 1
    have k2 : w7.cell? ⟨g + 1, 2, none⟩ = some (.slice ea en ec) := Blk.cell HX7.out 2
    have k3 : w7.cell? ⟨g + 1, 3, none⟩ = some (.string x.tree) := Blk.cell HX7.out 3
    have k4 : w7.cell? ⟨g + 1, 4, none⟩ = some (.slice pa pn pc) := Blk.cell HX7.out 4
    have k5 : w7.cell? ⟨g + 1, 5, none⟩ = some (.int .i64 x.height) := Blk.cell HX7.out 5
    have k6 : w7.cell? ⟨g + 1, 6, none⟩ = some (.string x.note) := Blk.cell HX7.out 6
    go_wp2_with (first
     | (refine wpList_store_row rfl _ (.tmp 2) (.tmp 54) rfl g (obCs x (.slice ea en ec) (.slice pa pn pc)) rfl rfl 98 (obCs zero (.slice none 0 0) (.slice none 0 0)) HZ7.out (Tryz.infoObj _ _ _) rfl (obcs_one _ _ _ _ _ _ _) ?_; rw [HWZ.out]))
    go_wp2_with fail
    refine bodyPost_ret (v := .tuple #[.agg (obCs x (.slice ea en ec) (.slice pa pn pc)), .int .i64 0]) ?hr3 rfl ⟨x, .slice ea en ec, .slice pa pn pc, 0, ?_, rfl, HOZ.out, ?_, fun k hk => by rw [HG.out]; exact Nat.le_of_lt (hk.elim (HNE.out k) (HNP.out k))⟩
    case hr3 => exact dec_results _ g 0 x _ _ wz rfl rfl HBZ.out
    ·rw [HDL.out, HD5.out]; simp
    ·rw [HG.out]; exact HLZ.out
 ·by_cases e2 : k = 2
  ·subst e2
   have HEN := hid (entries_any (g + 2) (newR t) w2 HR2.out (by show t.length ≤ _; exact hrt))
   have hzl := Blk.lt HZ2.out
   have k0' : w2.cell? ⟨g + 1, 0, none⟩ = some (.int .i64 2) := k0
   clear k0
   go_wp2_with fail
   refine HEN.out.mono ?_; rintro e w3 ⟨ea, en, ec, l, rfl, he, hl, hs, ho, hog⟩
   have hx3 := HX2.out.only ho (by omega)
   have hgx := Blk.lt HX2.out
   have q2 := Blk.cell hx3 2
   have f2 := Blk.frozen hx3 2
   simp at q2
   clear k0'
   have HE := hid he; have HL := hid hl; have HOG := hid hog; have HSR := hid hs; have HOO := hid ho; have HX3 := hid hx3
   clear he hl hog hs ho hx3
   go_upto_region 15 with fail
   clear q2 f2
   have HX5 : Hid (Blk (w3.setCell ⟨g + 1, 2, none⟩ (.slice ea en ec)) (g + 1) 98 (obCs { zero with kind := 2, ents := l } (.slice ea en ec) (.slice none 0 0))) := Blk.set HX3.out 2 (.slice ea en ec)
   have HZ5 : Hid (Blk (w3.setCell ⟨g + 1, 2, none⟩ (.slice ea en ec)) g 98 (obCs zero (.slice none 0 0) (.slice none 0 0))) := Blk.far (HZ2.out.only HOO.out (by omega)) (p := ⟨g + 1, 2, none⟩) (by show g ≠ g + 1; omega) _
   have HR5 : Hid (RdAt (w3.setCell ⟨g + 1, 2, none⟩ (.slice ea en ec)) (g + 2) (treeR (newR t)).2) := Blk.far HSR.out (p := ⟨g + 1, 2, none⟩) (by show g + 2 ≠ g + 1; omega) _
   have HO5 : Hid (ObAt (w3.setCell ⟨g + 1, 2, none⟩ (.slice ea en ec)) (.slice ea en ec) (.slice none 0 0) { zero with kind := 2, ents := l }) := ⟨ea, en, ec, none, 0, 0, rfl, HE.out.kept (c := ec) (fun b hb => Below.heap_setCell w3 ⟨g + 1, 2, none⟩ _ b (by show b ≠ g + 1; have := HOG.out b hb; omega)), rfl, ⟨rfl, by omega, .inl rfl⟩⟩
   have HB5 : Hid (Below g w (w3.setCell ⟨g + 1, 2, none⟩ (.slice ea en ec))) := (HB2.out.trans (HOO.out.below (fun i e => by omega) (by omega))).setCell (p := ⟨g + 1, 2, none⟩) (by show g ≤ g + 1; omega) _
   have HD5 := hid (decR_tree t l HL.out)
   have HN5 : Hid (wholeR (treeR (newR t)).2 = true → ObN { zero with kind := 2, ents := l }) := fun hw => ⟨⟨by show (-9223372036854775808 : Int) ≤ 2; omega, by show (2 : Int) ≤ 9223372036854775807; omega⟩, ⟨by show (-9223372036854775808 : Int) ≤ 0; omega, by show (0 : Int) ≤ 9223372036854775807; omega⟩, by
    have h1 := HL.out (whole_bad hw)
    have h2 := treeR_len (newR t)
    show l.length ≤ 1000000
    rw [h1]; omega⟩
   generalize w3.setCell ⟨g + 1, 2, none⟩ (.slice ea en ec) = W at HX5 HZ5 HR5 HO5 HB5 ⊢
   generalize (treeR (newR t)).2 = r at HR5 HD5 HN5
   generalize ({ zero with kind := 2, ents := l } : Ob) = x at HX5 HO5 HD5 HN5
   clear HEN HX2 HZ2 HR2 HB2 HX3 HSR HOO HE HL
   obtain ⟨pa, pn, pc, hx5, ho5, hne, hnp⟩ : ∃ pa pn pc, Blk W (g + 1) 98 (obCs x (.slice ea en ec) (.slice pa pn pc)) ∧ ObAt W (.slice ea en ec) (.slice pa pn pc) x ∧ (∀ k, (Value.slice ea en ec).ownBlock = some k → g < k) ∧ (∀ k, (Value.slice pa pn pc).ownBlock = some k → g < k) := ⟨_, _, _, HX5.out, HO5.out, (fun k hk => by have := HOG.out k hk; omega), (fun k hk => by simp [Value.ownBlock] at hk)⟩
   clear HOG hzl hgx
   clear HX5 HO5
   have HX5 := hid hx5
   have HO5 := hid ho5
   have HNE := hid hne
   have HNP := hid hnp
   clear hx5 ho5 hne hnp
   have HWH := hid (owhole_any HR5.out)
   cases hwh : wholeR r
   ·rw [hwh] at HWH HD5
    clear HN5
    obtain ⟨wz, hwz⟩ : ∃ wz, W.setRow g (obCs zero (.slice none 0 0) (.slice none 0 0)) = wz := ⟨_, rfl⟩
    have HBZ : Hid (Blk wz g 98 (obCs zero (.slice none 0 0) (.slice none 0 0))) := by rw [← hwz]; exact setRow_heap _ _ _ _ _ _ HZ5.out
    have HLZ : Hid (Below g w wz) := by rw [← hwz]; exact below_setRow HB5.out (Nat.le_refl _) _
    have HWZ := hid hwz
    clear hwz
    go_wp2_with fail
    refine HWH.out.mono ?_; rintro e w' ⟨rfl, rfl⟩
    go_wp2_with (first
     | (refine wpList_store_row rfl _ (.tmp 2) (.tmp 53) rfl g (obCs zero (.slice none 0 0) (.slice none 0 0)) rfl rfl 98 (obCs zero (.slice none 0 0) (.slice none 0 0)) HZ5.out (Tryz.infoObj _ _ _) rfl (obcs_one _ _ _ _ _ _ _) ?_; rw [HWZ.out]))
    go_wp2_with fail
    refine bodyPost_ret (v := .tuple #[.agg (obCs zero (.slice none 0 0) (.slice none 0 0)), .int .i64 4]) ?hr1 rfl ⟨zero, .slice none 0 0, .slice none 0 0, 4, ?_, rfl, zero_at _, ?_, fun k hk => by simp [Value.ownBlock] at hk⟩
    case hr1 => exact dec_results _ g 4 zero _ _ wz rfl rfl HBZ.out
    ·rw [HDL.out, HD5.out]; simp
    ·rw [HG.out]; exact HLZ.out
   ·rw [hwh] at HWH HD5 HN5
    have HGD := hid (obgood_any x _ _ W HO5.out (HN5.out rfl))
    clear HN5
    have k0 : W.cell? ⟨g + 1, 0, none⟩ = some (.int .i64 x.kind) := Blk.cell HX5.out 0
    have k1 : W.cell? ⟨g + 1, 1, none⟩ = some (.string x.data) := Blk.cell HX5.out 1
    have k2 : W.cell? ⟨g + 1, 2, none⟩ = some (.slice ea en ec) := Blk.cell HX5.out 2
    have k3 : W.cell? ⟨g + 1, 3, none⟩ = some (.string x.tree) := Blk.cell HX5.out 3
    have k4 : W.cell? ⟨g + 1, 4, none⟩ = some (.slice pa pn pc) := Blk.cell HX5.out 4
    have k5 : W.cell? ⟨g + 1, 5, none⟩ = some (.int .i64 x.height) := Blk.cell HX5.out 5
    have k6 : W.cell? ⟨g + 1, 6, none⟩ = some (.string x.note) := Blk.cell HX5.out 6
    go_wp2_with fail
    refine HWH.out.mono ?_; rintro e w' ⟨rfl, rfl⟩
    go_wp2_with fail
    refine HGD.out.mono ?_; rintro e w7 ⟨rfl, hb⟩
    clear k0 k1 k2 k3 k4 k5 k6
    have HX7 : Hid (Blk w7 (g + 1) 98 (obCs x (.slice ea en ec) (.slice pa pn pc))) := (hb.block (g + 1) (Blk.lt HX5.out)).trans HX5.out
    have HZ7 : Hid (Blk w7 g 98 (obCs zero (.slice none 0 0) (.slice none 0 0))) := (hb.block g (Blk.lt HZ5.out)).trans HZ5.out
    have HO7 : Hid (ObAt w7 (.slice ea en ec) (.slice pa pn pc) x) := HO5.out.later hb
    have HB7 : Hid (Below g w w7) := HB5.out.trans (hb.mono (Nat.le_of_lt (Blk.lt HZ5.out)))
    have hg7 := Blk.lt HZ7.out
    clear hb HX5 HZ5 HO5 HB5
    cases hgx : good x
    ·rw [hgx] at HD5
     obtain ⟨wz, hwz⟩ : ∃ wz, w7.setRow g (obCs zero (.slice none 0 0) (.slice none 0 0)) = wz := ⟨_, rfl⟩
     have HBZ : Hid (Blk wz g 98 (obCs zero (.slice none 0 0) (.slice none 0 0))) := by rw [← hwz]; exact setRow_heap _ _ _ _ _ _ HZ7.out
     have HLZ : Hid (Below g w wz) := by rw [← hwz]; exact below_setRow HB7.out (Nat.le_refl _) _
     have HWZ := hid hwz
     clear hwz
     go_wp2_with (first
      | (refine wpList_store_row rfl _ (.tmp 2) (.tmp 53) rfl g (obCs zero (.slice none 0 0) (.slice none 0 0)) rfl rfl 98 (obCs zero (.slice none 0 0) (.slice none 0 0)) HZ7.out (Tryz.infoObj _ _ _) rfl (obcs_one _ _ _ _ _ _ _) ?_; rw [HWZ.out]))
     go_wp2_with fail
     refine bodyPost_ret (v := .tuple #[.agg (obCs zero (.slice none 0 0) (.slice none 0 0)), .int .i64 4]) ?hr2 rfl ⟨zero, .slice none 0 0, .slice none 0 0, 4, ?_, rfl, zero_at _, ?_, fun k hk => by simp [Value.ownBlock] at hk⟩
     case hr2 => exact dec_results _ g 4 zero _ _ wz rfl rfl HBZ.out
     ·rw [HDL.out, HD5.out]; simp
     ·rw [HG.out]; exact HLZ.out
    ·rw [hgx] at HD5
     obtain ⟨wz, hwz⟩ : ∃ wz, w7.setRow g (obCs x (.slice ea en ec) (.slice pa pn pc)) = wz := ⟨_, rfl⟩
     have HBZ : Hid (Blk wz g 98 (obCs x (.slice ea en ec) (.slice pa pn pc))) := by rw [← hwz]; exact setRow_heap _ _ _ _ _ _ HZ7.out
     have hlz : Below w7.heap.size w7 wz ∨ True := .inr trivial
     have HLZ : Hid (Below g w wz) := by rw [← hwz]; exact below_setRow HB7.out (Nat.le_refl _) _
     have HOZ : Hid (ObAt wz (.slice ea en ec) (.slice pa pn pc) x) := by rw [← hwz]; exact HO7.out.far (fun k hk => by have := HNE.out k hk; omega) (fun k hk => by have := HNP.out k hk; omega) _
     have HWZ := hid hwz
     clear hwz hlz
     have k0 : w7.cell? ⟨g + 1, 0, none⟩ = some (.int .i64 x.kind) := Blk.cell HX7.out 0
     have k1 : w7.cell? ⟨g + 1, 1, none⟩ = some (.string x.data) := Blk.cell HX7.out 1
     have k2 : w7.cell? ⟨g + 1, 2, none⟩ = some (.slice ea en ec) := Blk.cell HX7.out 2
     have k3 : w7.cell? ⟨g + 1, 3, none⟩ = some (.string x.tree) := Blk.cell HX7.out 3
     have k4 : w7.cell? ⟨g + 1, 4, none⟩ = some (.slice pa pn pc) := Blk.cell HX7.out 4
     have k5 : w7.cell? ⟨g + 1, 5, none⟩ = some (.int .i64 x.height) := Blk.cell HX7.out 5
     have k6 : w7.cell? ⟨g + 1, 6, none⟩ = some (.string x.note) := Blk.cell HX7.out 6
     go_wp2_with (first
      | (refine wpList_store_row rfl _ (.tmp 2) (.tmp 54) rfl g (obCs x (.slice ea en ec) (.slice pa pn pc)) rfl rfl 98 (obCs zero (.slice none 0 0) (.slice none 0 0)) HZ7.out (Tryz.infoObj _ _ _) rfl (obcs_one _ _ _ _ _ _ _) ?_; rw [HWZ.out]))
     go_wp2_with fail
     refine bodyPost_ret (v := .tuple #[.agg (obCs x (.slice ea en ec) (.slice pa pn pc)), .int .i64 0]) ?hr3 rfl ⟨x, .slice ea en ec, .slice pa pn pc, 0, ?_, rfl, HOZ.out, ?_, fun k hk => by rw [HG.out]; exact Nat.le_of_lt (hk.elim (HNE.out k) (HNP.out k))⟩
     case hr3 => exact dec_results _ g 0 x _ _ wz rfl rfl HBZ.out
     ·rw [HDL.out, HD5.out]; simp
     ·rw [HG.out]; exact HLZ.out
  ·by_cases e3 : k = 3
   ·subst e3
    have hzl := Blk.lt HZ2.out
    have hgx := Blk.lt HX2.out
    have k0' : w2.cell? ⟨g + 1, 0, none⟩ = some (.int .i64 3) := k0
    clear k0
    have hr0 : (newR t).rest.length ≤ 1000000000 := hrt
    obtain ⟨r0, hr0'⟩ : ∃ r, newR t = r := ⟨_, rfl⟩
    have HR0E := hid hr0'
    rw [hr0'] at hr0 HR2
    clear hr0'
    have HTK := hid (otake_any 32 HR2.out (by omega) (by omega))
    obtain ⟨tr, htr⟩ : ∃ x, bx (takeR r0 32).1 = x := ⟨_, rfl⟩
    obtain ⟨r1, hr1⟩ : ∃ x, (takeR r0 32).2 = x := ⟨_, rfl⟩
    have hl1 : r1.rest.length ≤ 1000000000 := by rw [← hr1]; exact Nat.le_trans (takeR_rest _ _) hr0
    rw [htr, hr1] at HTK
    have HTR := hid htr; have HR1E := hid hr1
    clear htr hr1
    go_wp2_with fail
    refine HTK.out.mono ?_; rintro e w3 ⟨rfl, hs, ho⟩
    have hx3 := HX2.out.only ho (by omega)
    have q3 := Blk.cell hx3 3
    have f3 := Blk.frozen hx3 3
    simp at q3
    have HX3 : Hid (Blk (w3.setCell ⟨g + 1, 3, none⟩ (.string tr)) (g + 1) 98 (obCs { zero with kind := 3, tree := tr } (.slice none 0 0) (.slice none 0 0))) := Blk.set hx3 3 (.string tr)
    have HZ3 : Hid (Blk (w3.setCell ⟨g + 1, 3, none⟩ (.string tr)) g 98 (obCs zero (.slice none 0 0) (.slice none 0 0))) := Blk.far (HZ2.out.only ho (by omega)) (p := ⟨g + 1, 3, none⟩) (by show g ≠ g + 1; omega) _
    have HR3 : Hid (RdAt (w3.setCell ⟨g + 1, 3, none⟩ (.string tr)) (g + 2) r1) := Blk.far hs (p := ⟨g + 1, 3, none⟩) (by show g + 2 ≠ g + 1; omega) _
    have HB3 : Hid (Below g w (w3.setCell ⟨g + 1, 3, none⟩ (.string tr))) := (HB2.out.trans (ho.below (fun i e => by omega) (by omega))).setCell (p := ⟨g + 1, 3, none⟩) (by show g ≤ g + 1; omega) _
    clear hx3 hs ho HX2 HZ2 HR2 HB2 HTK k0'
    go_wp2_with fail
    clear q3 f3
    generalize w3.setCell ⟨g + 1, 3, none⟩ (.string tr) = u3 at HX3 HZ3 HR3 HB3 ⊢
    have hzl3 := Blk.lt HX3.out
    refine (parents_any (g + 2) r1 u3 HR3.out hl1).mono ?_; rintro e w4 ⟨pa, pn, pc, pl, rfl, hp, hpl, hs, ho, hog⟩
    obtain ⟨r2, hr2⟩ : ∃ x, (parsR r1).2 = x := ⟨_, rfl⟩
    have hl2 : r2.rest.length ≤ 1000000000 := by rw [← hr2]; exact Nat.le_trans (parsR_rest _) hl1
    rw [hr2] at hs hpl
    have HR2E := hid hr2
    clear hr2
    have hx4 := HX3.out.only ho (by omega)
    have q4 : w4.cell? ⟨g + 1, 4, none⟩ = some (.slice none 0 0) := Blk.cell hx4 4
    have f4 := Blk.frozen hx4 4
    have HX4 : Hid (Blk (w4.setCell ⟨g + 1, 4, none⟩ (.slice pa pn pc)) (g + 1) 98 (obCs { zero with kind := 3, tree := tr, pars := pl } (.slice none 0 0) (.slice pa pn pc))) := Blk.set hx4 4 (.slice pa pn pc)
    have HZ4 : Hid (Blk (w4.setCell ⟨g + 1, 4, none⟩ (.slice pa pn pc)) g 98 (obCs zero (.slice none 0 0) (.slice none 0 0))) := Blk.far (HZ3.out.only ho (by omega)) (p := ⟨g + 1, 4, none⟩) (by show g ≠ g + 1; omega) _
    have HR4 : Hid (RdAt (w4.setCell ⟨g + 1, 4, none⟩ (.slice pa pn pc)) (g + 2) r2) := Blk.far hs (p := ⟨g + 1, 4, none⟩) (by show g + 2 ≠ g + 1; omega) _
    have HB4 : Hid (Below g w (w4.setCell ⟨g + 1, 4, none⟩ (.slice pa pn pc))) := (HB3.out.trans (ho.below (fun i e => by omega) (by omega))).setCell (p := ⟨g + 1, 4, none⟩) (by show g ≤ g + 1; omega) _
    have HP4 : Hid (StrsAt (w4.setCell ⟨g + 1, 4, none⟩ (.slice pa pn pc)) pa pn pl) := StrsAt.kept (c := pc) hp (fun b hb _ => Below.heap_setCell w4 ⟨g + 1, 4, none⟩ _ b (by show b ≠ g + 1; have := hog b hb; omega))
    have HOG : Hid (∀ k, (Value.slice pa pn pc).ownBlock = some k → g + 2 < k) := fun k hk => by have := hog k hk; have := Blk.lt HR3.out; omega
    have HPL := hid hpl
    have hzz := ho.size
    clear hx4 hs ho HX3 HZ3 HR3 HB3 hp hpl hog
    go_wp2_with fail
    clear q4 f4
    generalize w4.setCell ⟨g + 1, 4, none⟩ (.slice pa pn pc) = u4 at HX4 HZ4 HR4 HB4 HP4 ⊢
    have hzl4 := Blk.lt HX4.out
    refine (onum_any HR4.out (by omega)).mono ?_; rintro e w5 ⟨rfl, hs, ho⟩
    have hn32 : (numR r2).1 < 4294967296 := numV_lt _
    obtain ⟨ht, hht⟩ : ∃ x, (numR r2).1 = x := ⟨_, rfl⟩
    obtain ⟨r3, hr3⟩ : ∃ x, (numR r2).2 = x := ⟨_, rfl⟩
    have hl3 : r3.rest.length ≤ 1000000000 := by rw [← hr3]; exact Nat.le_trans (takeR_rest r2 4) hl2
    rw [hr3] at hs
    rw [hht] at hn32 ⊢
    have HHT := hid hht; have HR3E := hid hr3
    clear hht hr3
    have hx5 := HX4.out.only ho (by omega)
    have q5 : w5.cell? ⟨g + 1, 5, none⟩ = some (.int .i64 0) := Blk.cell hx5 5
    have f5 := Blk.frozen hx5 5
    have hw32 : IntKind.i64.wrap (ht : Int) = (ht : Int) := by rw [IntKind.wrap_i64]; omega
    have HX5 : Hid (Blk (w5.setCell ⟨g + 1, 5, none⟩ (.int .i64 ht)) (g + 1) 98 (obCs { zero with kind := 3, tree := tr, pars := pl, height := ht } (.slice none 0 0) (.slice pa pn pc))) := Blk.set hx5 5 (.int .i64 ht)
    have HZ5 : Hid (Blk (w5.setCell ⟨g + 1, 5, none⟩ (.int .i64 ht)) g 98 (obCs zero (.slice none 0 0) (.slice none 0 0))) := Blk.far (HZ4.out.only ho (by omega)) (p := ⟨g + 1, 5, none⟩) (by show g ≠ g + 1; omega) _
    have HR5 : Hid (RdAt (w5.setCell ⟨g + 1, 5, none⟩ (.int .i64 ht)) (g + 2) r3) := Blk.far hs (p := ⟨g + 1, 5, none⟩) (by show g + 2 ≠ g + 1; omega) _
    have HB5 : Hid (Below g w (w5.setCell ⟨g + 1, 5, none⟩ (.int .i64 ht))) := (HB4.out.trans (ho.below (fun i e => by omega) (by omega))).setCell (p := ⟨g + 1, 5, none⟩) (by show g ≤ g + 1; omega) _
    have HP5 : Hid (StrsAt (w5.setCell ⟨g + 1, 5, none⟩ (.int .i64 ht)) pa pn pl) := StrsAt.kept (c := pc) (StrsAt.kept (c := pc) HP4.out (fun b hb hl => ho.block b hl (by have := HOG.out b hb; omega))) (fun b hb _ => Below.heap_setCell w5 ⟨g + 1, 5, none⟩ _ b (by show b ≠ g + 1; have := HOG.out b hb; omega))
    clear hx5 hs ho HX4 HZ4 HR4 HB4 HP4
    go_wp2_with fail
    clear q5 f5
    generalize w5.setCell ⟨g + 1, 5, none⟩ (.int .i64 ht) = u5 at HX5 HZ5 HR5 HB5 HP5 ⊢
    have hzl5 := Blk.lt HX5.out
    refine (otext_any 1000 (by omega) HR5.out (by omega)).mono ?_; rintro e w6 ⟨rfl, hs, ho⟩
    obtain ⟨nt, hnt⟩ : ∃ x, bx (textR r3 1000).1 = x := ⟨_, rfl⟩
    obtain ⟨r4, hr4⟩ : ∃ x, (textR r3 1000).2 = x := ⟨_, rfl⟩
    rw [hr4] at hs
    rw [hnt]
    have HNT := hid hnt; have HR4E := hid hr4
    clear hnt hr4
    have hx6 := HX5.out.only ho (by omega)
    have q6 : w6.cell? ⟨g + 1, 6, none⟩ = some (.string ⟨#[]⟩) := Blk.cell hx6 6
    have f6 := Blk.frozen hx6 6
    have HX6 : Hid (Blk (w6.setCell ⟨g + 1, 6, none⟩ (.string nt)) (g + 1) 98 (obCs { zero with kind := 3, tree := tr, pars := pl, height := ht, note := nt } (.slice none 0 0) (.slice pa pn pc))) := Blk.set hx6 6 (.string nt)
    have HZ6 : Hid (Blk (w6.setCell ⟨g + 1, 6, none⟩ (.string nt)) g 98 (obCs zero (.slice none 0 0) (.slice none 0 0))) := Blk.far (HZ5.out.only ho (by omega)) (p := ⟨g + 1, 6, none⟩) (by show g ≠ g + 1; omega) _
    have HR6 : Hid (RdAt (w6.setCell ⟨g + 1, 6, none⟩ (.string nt)) (g + 2) r4) := Blk.far hs (p := ⟨g + 1, 6, none⟩) (by show g + 2 ≠ g + 1; omega) _
    have HB6 : Hid (Below g w (w6.setCell ⟨g + 1, 6, none⟩ (.string nt))) := (HB5.out.trans (ho.below (fun i e => by omega) (by omega))).setCell (p := ⟨g + 1, 6, none⟩) (by show g ≤ g + 1; omega) _
    have HP6 : Hid (StrsAt (w6.setCell ⟨g + 1, 6, none⟩ (.string nt)) pa pn pl) := StrsAt.kept (c := pc) (StrsAt.kept (c := pc) HP5.out (fun b hb hl => ho.block b hl (by have := HOG.out b hb; omega))) (fun b hb _ => Below.heap_setCell w6 ⟨g + 1, 6, none⟩ _ b (by show b ≠ g + 1; have := HOG.out b hb; omega))
    clear hx6 hs ho HX5 HZ5 HR5 HB5 HP5
    go_upto_region 15 with fail
    clear q6 f6
    generalize w6.setCell ⟨g + 1, 6, none⟩ (.string nt) = W at HX6 HZ6 HR6 HB6 HP6 ⊢
    have HX5 := hid HX6.out; have HZ5 := hid HZ6.out; have HR5 := hid HR6.out; have HB5 := hid HB6.out
    have HO5 : Hid (ObAt W (.slice none 0 0) (.slice pa pn pc) { zero with kind := 3, tree := tr, pars := pl, height := ht, note := nt }) := ⟨none, 0, 0, pa, pn, pc, rfl, ⟨rfl, by omega, .inl rfl⟩, rfl, HP6.out⟩
    have HD5 : Hid (decR (3 :: t) = if wholeR r4 = true ∧ good { zero with kind := 3, tree := tr, pars := pl, height := ht, note := nt } = true then ({ zero with kind := 3, tree := tr, pars := pl, height := ht, note := nt }, 0) else (zero, 4)) := by
     have h := decR_commit t pl (by rw [HR0E.out, HR1E.out, HR2E.out]; exact HPL.out) (fun hb => commit_keep (r := (parsR (takeR (newR t) 32).2).2) hb)
     have e4 : commitR t = r4 := by
      have : commitR t = (textR (numR (parsR (takeR (newR t) 32).2).2).2 1000).2 := rfl
      rw [this, HR0E.out, HR1E.out, HR2E.out, HR3E.out, HR4E.out]
     rw [e4, HR0E.out, HR1E.out, HR2E.out, HR3E.out, HTR.out, HHT.out, HNT.out] at h
     exact h
    have HN5 : Hid (wholeR r4 = true → ObN { zero with kind := 3, tree := tr, pars := pl, height := ht, note := nt }) := fun hw => ⟨⟨by show (-9223372036854775808 : Int) ≤ 3; omega, by show (3 : Int) ≤ 9223372036854775807; omega⟩, ⟨by show (-9223372036854775808 : Int) ≤ (ht : Int); omega, by show (ht : Int) ≤ 9223372036854775807; omega⟩, by show 0 ≤ 1000000; omega⟩
    clear HX6 HZ6 HR6 HB6 HP6 HR0E HR1E HR2E HR3E HR4E HTR HHT HNT HPL hw32
    generalize ({ zero with kind := 3, tree := tr, pars := pl, height := (ht : Int), note := nt } : Ob) = x at HX5 HO5 HD5 HN5
    generalize r4 = r at HR5 HD5 HN5
    obtain ⟨ea, en, ec, hx5, ho5, hne, hnp⟩ : ∃ ea en ec, Blk W (g + 1) 98 (obCs x (.slice ea en ec) (.slice pa pn pc)) ∧ ObAt W (.slice ea en ec) (.slice pa pn pc) x ∧ (∀ k, (Value.slice ea en ec).ownBlock = some k → g < k) ∧ (∀ k, (Value.slice pa pn pc).ownBlock = some k → g < k) := ⟨_, _, _, HX5.out, HO5.out, (fun k hk => by simp [Value.ownBlock] at hk), (fun k hk => by have := HOG.out k hk; omega)⟩
    clear HOG
    clear HX5 HO5
    have HX5 := hid hx5
    have HO5 := hid ho5
    have HNE := hid hne
    have HNP := hid hnp
    clear hx5 ho5 hne hnp
    have HWH := hid (owhole_any HR5.out)
    cases hwh : wholeR r
    ·rw [hwh] at HWH HD5
     clear HN5
     obtain ⟨wz, hwz⟩ : ∃ wz, W.setRow g (obCs zero (.slice none 0 0) (.slice none 0 0)) = wz := ⟨_, rfl⟩
     have HBZ : Hid (Blk wz g 98 (obCs zero (.slice none 0 0) (.slice none 0 0))) := by rw [← hwz]; exact setRow_heap _ _ _ _ _ _ HZ5.out
     have HLZ : Hid (Below g w wz) := by rw [← hwz]; exact below_setRow HB5.out (Nat.le_refl _) _
     have HWZ := hid hwz
     clear hwz
     go_wp2_with fail
     refine HWH.out.mono ?_; rintro e w' ⟨rfl, rfl⟩
     go_wp2_with (first
      | (refine wpList_store_row rfl _ (.tmp 2) (.tmp 53) rfl g (obCs zero (.slice none 0 0) (.slice none 0 0)) rfl rfl 98 (obCs zero (.slice none 0 0) (.slice none 0 0)) HZ5.out (Tryz.infoObj _ _ _) rfl (obcs_one _ _ _ _ _ _ _) ?_; rw [HWZ.out]))
     go_wp2_with fail
     refine bodyPost_ret (v := .tuple #[.agg (obCs zero (.slice none 0 0) (.slice none 0 0)), .int .i64 4]) ?hr1 rfl ⟨zero, .slice none 0 0, .slice none 0 0, 4, ?_, rfl, zero_at _, ?_, fun k hk => by simp [Value.ownBlock] at hk⟩
     case hr1 => exact dec_results _ g 4 zero _ _ wz rfl rfl HBZ.out
     ·rw [HDL.out, HD5.out]; simp
     ·rw [HG.out]; exact HLZ.out
    ·rw [hwh] at HWH HD5 HN5
     have HGD := hid (obgood_any x _ _ W HO5.out (HN5.out rfl))
     clear HN5
     have k0 : W.cell? ⟨g + 1, 0, none⟩ = some (.int .i64 x.kind) := Blk.cell HX5.out 0
     have k1 : W.cell? ⟨g + 1, 1, none⟩ = some (.string x.data) := Blk.cell HX5.out 1
     have k2 : W.cell? ⟨g + 1, 2, none⟩ = some (.slice ea en ec) := Blk.cell HX5.out 2
     have k3 : W.cell? ⟨g + 1, 3, none⟩ = some (.string x.tree) := Blk.cell HX5.out 3
     have k4 : W.cell? ⟨g + 1, 4, none⟩ = some (.slice pa pn pc) := Blk.cell HX5.out 4
     have k5 : W.cell? ⟨g + 1, 5, none⟩ = some (.int .i64 x.height) := Blk.cell HX5.out 5
     have k6 : W.cell? ⟨g + 1, 6, none⟩ = some (.string x.note) := Blk.cell HX5.out 6
     go_wp2_with fail
     refine HWH.out.mono ?_; rintro e w' ⟨rfl, rfl⟩
     go_wp2_with fail
     refine HGD.out.mono ?_; rintro e w7 ⟨rfl, hb⟩
     clear k0 k1 k2 k3 k4 k5 k6
     have HX7 : Hid (Blk w7 (g + 1) 98 (obCs x (.slice ea en ec) (.slice pa pn pc))) := (hb.block (g + 1) (Blk.lt HX5.out)).trans HX5.out
     have HZ7 : Hid (Blk w7 g 98 (obCs zero (.slice none 0 0) (.slice none 0 0))) := (hb.block g (Blk.lt HZ5.out)).trans HZ5.out
     have HO7 : Hid (ObAt w7 (.slice ea en ec) (.slice pa pn pc) x) := HO5.out.later hb
     have HB7 : Hid (Below g w w7) := HB5.out.trans (hb.mono (Nat.le_of_lt (Blk.lt HZ5.out)))
     have hg7 := Blk.lt HZ7.out
     clear hb HX5 HZ5 HO5 HB5
     cases hgx : good x
     ·rw [hgx] at HD5
      obtain ⟨wz, hwz⟩ : ∃ wz, w7.setRow g (obCs zero (.slice none 0 0) (.slice none 0 0)) = wz := ⟨_, rfl⟩
      have HBZ : Hid (Blk wz g 98 (obCs zero (.slice none 0 0) (.slice none 0 0))) := by rw [← hwz]; exact setRow_heap _ _ _ _ _ _ HZ7.out
      have HLZ : Hid (Below g w wz) := by rw [← hwz]; exact below_setRow HB7.out (Nat.le_refl _) _
      have HWZ := hid hwz
      clear hwz
      go_wp2_with (first
       | (refine wpList_store_row rfl _ (.tmp 2) (.tmp 53) rfl g (obCs zero (.slice none 0 0) (.slice none 0 0)) rfl rfl 98 (obCs zero (.slice none 0 0) (.slice none 0 0)) HZ7.out (Tryz.infoObj _ _ _) rfl (obcs_one _ _ _ _ _ _ _) ?_; rw [HWZ.out]))
      go_wp2_with fail
      refine bodyPost_ret (v := .tuple #[.agg (obCs zero (.slice none 0 0) (.slice none 0 0)), .int .i64 4]) ?hr2 rfl ⟨zero, .slice none 0 0, .slice none 0 0, 4, ?_, rfl, zero_at _, ?_, fun k hk => by simp [Value.ownBlock] at hk⟩
      case hr2 => exact dec_results _ g 4 zero _ _ wz rfl rfl HBZ.out
      ·rw [HDL.out, HD5.out]; simp
      ·rw [HG.out]; exact HLZ.out
     ·rw [hgx] at HD5
      obtain ⟨wz, hwz⟩ : ∃ wz, w7.setRow g (obCs x (.slice ea en ec) (.slice pa pn pc)) = wz := ⟨_, rfl⟩
      have HBZ : Hid (Blk wz g 98 (obCs x (.slice ea en ec) (.slice pa pn pc))) := by rw [← hwz]; exact setRow_heap _ _ _ _ _ _ HZ7.out
      have hlz : Below w7.heap.size w7 wz ∨ True := .inr trivial
      have HLZ : Hid (Below g w wz) := by rw [← hwz]; exact below_setRow HB7.out (Nat.le_refl _) _
      have HOZ : Hid (ObAt wz (.slice ea en ec) (.slice pa pn pc) x) := by rw [← hwz]; exact HO7.out.far (fun k hk => by have := HNE.out k hk; omega) (fun k hk => by have := HNP.out k hk; omega) _
      have HWZ := hid hwz
      clear hwz hlz
      have k0 : w7.cell? ⟨g + 1, 0, none⟩ = some (.int .i64 x.kind) := Blk.cell HX7.out 0
      have k1 : w7.cell? ⟨g + 1, 1, none⟩ = some (.string x.data) := Blk.cell HX7.out 1
      have k2 : w7.cell? ⟨g + 1, 2, none⟩ = some (.slice ea en ec) := Blk.cell HX7.out 2
      have k3 : w7.cell? ⟨g + 1, 3, none⟩ = some (.string x.tree) := Blk.cell HX7.out 3
      have k4 : w7.cell? ⟨g + 1, 4, none⟩ = some (.slice pa pn pc) := Blk.cell HX7.out 4
      have k5 : w7.cell? ⟨g + 1, 5, none⟩ = some (.int .i64 x.height) := Blk.cell HX7.out 5
      have k6 : w7.cell? ⟨g + 1, 6, none⟩ = some (.string x.note) := Blk.cell HX7.out 6
      go_wp2_with (first
       | (refine wpList_store_row rfl _ (.tmp 2) (.tmp 54) rfl g (obCs x (.slice ea en ec) (.slice pa pn pc)) rfl rfl 98 (obCs zero (.slice none 0 0) (.slice none 0 0)) HZ7.out (Tryz.infoObj _ _ _) rfl (obcs_one _ _ _ _ _ _ _) ?_; rw [HWZ.out]))
      go_wp2_with fail
      refine bodyPost_ret (v := .tuple #[.agg (obCs x (.slice ea en ec) (.slice pa pn pc)), .int .i64 0]) ?hr3 rfl ⟨x, .slice ea en ec, .slice pa pn pc, 0, ?_, rfl, HOZ.out, ?_, fun k hk => by rw [HG.out]; exact Nat.le_of_lt (hk.elim (HNE.out k) (HNP.out k))⟩
      case hr3 => exact dec_results _ g 0 x _ _ wz rfl rfl HBZ.out
      ·rw [HDL.out, HD5.out]; simp
      ·rw [HG.out]; exact HLZ.out
   ·have n1 : (k.toNat : Int) ≠ 1 := fun e => e1 (UInt8.toNat_inj.1 (by show k.toNat = 1; omega))
    have n2 : (k.toNat : Int) ≠ 2 := fun e => e2 (UInt8.toNat_inj.1 (by show k.toNat = 2; omega))
    have n3 : (k.toNat : Int) ≠ 3 := fun e => e3 (UInt8.toNat_inj.1 (by show k.toNat = 3; omega))
    have HD5 := hid (decR_other k t e1 e2 e3 (newR t))
    clear e1 e2 e3
    go_upto_region 15 with fail
    clear n1 n2 n3 k0
    have HX5 : Hid (Blk w2 (g + 1) 98 (obCs { zero with kind := (k.toNat : Int) } (.slice none 0 0) (.slice none 0 0))) := HX2.out
    have HZ5 : Hid (Blk w2 g 98 (obCs zero (.slice none 0 0) (.slice none 0 0))) := HZ2.out
    have HR5 := hid HR2.out
    have HO5 : Hid (ObAt w2 (.slice none 0 0) (.slice none 0 0) { zero with kind := (k.toNat : Int) }) := ⟨none, 0, 0, none, 0, 0, rfl, ⟨rfl, by omega, .inl rfl⟩, rfl, ⟨rfl, by omega, .inl rfl⟩⟩
    have HB5 := hid HB2.out
    have HN5 : Hid (wholeR (newR t) = true → ObN { zero with kind := (k.toNat : Int) }) := fun _ => ⟨⟨by show (-9223372036854775808 : Int) ≤ (k.toNat : Int); omega, by show (k.toNat : Int) ≤ 9223372036854775807; omega⟩, ⟨by show (-9223372036854775808 : Int) ≤ 0; omega, by show (0 : Int) ≤ 9223372036854775807; omega⟩, by show 0 ≤ 1000000; omega⟩
    clear HX2 HZ2 HR2 HB2
    generalize newR t = r at HR5 HD5 HN5
    generalize ({ zero with kind := (k.toNat : Int) } : Ob) = x at HX5 HO5 HD5 HN5
    obtain ⟨ea, en, ec, pa, pn, pc, hx5, ho5, hne, hnp⟩ : ∃ ea en ec pa pn pc, Blk w2 (g + 1) 98 (obCs x (.slice ea en ec) (.slice pa pn pc)) ∧ ObAt w2 (.slice ea en ec) (.slice pa pn pc) x ∧ (∀ k, (Value.slice ea en ec).ownBlock = some k → g < k) ∧ (∀ k, (Value.slice pa pn pc).ownBlock = some k → g < k) := ⟨_, _, _, _, _, _, HX5.out, HO5.out, (fun k hk => by simp [Value.ownBlock] at hk), (fun k hk => by simp [Value.ownBlock] at hk)⟩
    clear HX5 HO5
    have HX5 := hid hx5
    have HO5 := hid ho5
    have HNE := hid hne
    have HNP := hid hnp
    clear hx5 ho5 hne hnp
    have HWH := hid (owhole_any HR5.out)
    cases hwh : wholeR r
    ·rw [hwh] at HWH HD5
     clear HN5
     obtain ⟨wz, hwz⟩ : ∃ wz, w2.setRow g (obCs zero (.slice none 0 0) (.slice none 0 0)) = wz := ⟨_, rfl⟩
     have HBZ : Hid (Blk wz g 98 (obCs zero (.slice none 0 0) (.slice none 0 0))) := by rw [← hwz]; exact setRow_heap _ _ _ _ _ _ HZ5.out
     have HLZ : Hid (Below g w wz) := by rw [← hwz]; exact below_setRow HB5.out (Nat.le_refl _) _
     have HWZ := hid hwz
     clear hwz
     go_wp2_with fail
     refine HWH.out.mono ?_; rintro e w' ⟨rfl, rfl⟩
     go_wp2_with (first
      | (refine wpList_store_row rfl _ (.tmp 2) (.tmp 53) rfl g (obCs zero (.slice none 0 0) (.slice none 0 0)) rfl rfl 98 (obCs zero (.slice none 0 0) (.slice none 0 0)) HZ5.out (Tryz.infoObj _ _ _) rfl (obcs_one _ _ _ _ _ _ _) ?_; rw [HWZ.out]))
     go_wp2_with fail
     refine bodyPost_ret (v := .tuple #[.agg (obCs zero (.slice none 0 0) (.slice none 0 0)), .int .i64 4]) ?hr1 rfl ⟨zero, .slice none 0 0, .slice none 0 0, 4, ?_, rfl, zero_at _, ?_, fun k hk => by simp [Value.ownBlock] at hk⟩
     case hr1 => exact dec_results _ g 4 zero _ _ wz rfl rfl HBZ.out
     ·rw [HDL.out, HD5.out]; simp
     ·rw [HG.out]; exact HLZ.out
    ·rw [hwh] at HWH HD5 HN5
     have HGD := hid (obgood_any x _ _ w2 HO5.out (HN5.out rfl))
     clear HN5
     have k0 : w2.cell? ⟨g + 1, 0, none⟩ = some (.int .i64 x.kind) := Blk.cell HX5.out 0
     have k1 : w2.cell? ⟨g + 1, 1, none⟩ = some (.string x.data) := Blk.cell HX5.out 1
     have k2 : w2.cell? ⟨g + 1, 2, none⟩ = some (.slice ea en ec) := Blk.cell HX5.out 2
     have k3 : w2.cell? ⟨g + 1, 3, none⟩ = some (.string x.tree) := Blk.cell HX5.out 3
     have k4 : w2.cell? ⟨g + 1, 4, none⟩ = some (.slice pa pn pc) := Blk.cell HX5.out 4
     have k5 : w2.cell? ⟨g + 1, 5, none⟩ = some (.int .i64 x.height) := Blk.cell HX5.out 5
     have k6 : w2.cell? ⟨g + 1, 6, none⟩ = some (.string x.note) := Blk.cell HX5.out 6
     go_wp2_with fail
     refine HWH.out.mono ?_; rintro e w' ⟨rfl, rfl⟩
     go_wp2_with fail
     refine HGD.out.mono ?_; rintro e w7 ⟨rfl, hb⟩
     clear k0 k1 k2 k3 k4 k5 k6
     have HX7 : Hid (Blk w7 (g + 1) 98 (obCs x (.slice ea en ec) (.slice pa pn pc))) := (hb.block (g + 1) (Blk.lt HX5.out)).trans HX5.out
     have HZ7 : Hid (Blk w7 g 98 (obCs zero (.slice none 0 0) (.slice none 0 0))) := (hb.block g (Blk.lt HZ5.out)).trans HZ5.out
     have HO7 : Hid (ObAt w7 (.slice ea en ec) (.slice pa pn pc) x) := HO5.out.later hb
     have HB7 : Hid (Below g w w7) := HB5.out.trans (hb.mono (Nat.le_of_lt (Blk.lt HZ5.out)))
     have hg7 := Blk.lt HZ7.out
     clear hb HX5 HZ5 HO5 HB5
     cases hgx : good x
     ·rw [hgx] at HD5
      obtain ⟨wz, hwz⟩ : ∃ wz, w7.setRow g (obCs zero (.slice none 0 0) (.slice none 0 0)) = wz := ⟨_, rfl⟩
      have HBZ : Hid (Blk wz g 98 (obCs zero (.slice none 0 0) (.slice none 0 0))) := by rw [← hwz]; exact setRow_heap _ _ _ _ _ _ HZ7.out
      have HLZ : Hid (Below g w wz) := by rw [← hwz]; exact below_setRow HB7.out (Nat.le_refl _) _
      have HWZ := hid hwz
      clear hwz
      go_wp2_with (first
       | (refine wpList_store_row rfl _ (.tmp 2) (.tmp 53) rfl g (obCs zero (.slice none 0 0) (.slice none 0 0)) rfl rfl 98 (obCs zero (.slice none 0 0) (.slice none 0 0)) HZ7.out (Tryz.infoObj _ _ _) rfl (obcs_one _ _ _ _ _ _ _) ?_; rw [HWZ.out]))
      go_wp2_with fail
      refine bodyPost_ret (v := .tuple #[.agg (obCs zero (.slice none 0 0) (.slice none 0 0)), .int .i64 4]) ?hr2 rfl ⟨zero, .slice none 0 0, .slice none 0 0, 4, ?_, rfl, zero_at _, ?_, fun k hk => by simp [Value.ownBlock] at hk⟩
      case hr2 => exact dec_results _ g 4 zero _ _ wz rfl rfl HBZ.out
      ·rw [HDL.out, HD5.out]; simp
      ·rw [HG.out]; exact HLZ.out
     ·rw [hgx] at HD5
      obtain ⟨wz, hwz⟩ : ∃ wz, w7.setRow g (obCs x (.slice ea en ec) (.slice pa pn pc)) = wz := ⟨_, rfl⟩
      have HBZ : Hid (Blk wz g 98 (obCs x (.slice ea en ec) (.slice pa pn pc))) := by rw [← hwz]; exact setRow_heap _ _ _ _ _ _ HZ7.out
      have hlz : Below w7.heap.size w7 wz ∨ True := .inr trivial
      have HLZ : Hid (Below g w wz) := by rw [← hwz]; exact below_setRow HB7.out (Nat.le_refl _) _
      have HOZ : Hid (ObAt wz (.slice ea en ec) (.slice pa pn pc) x) := by rw [← hwz]; exact HO7.out.far (fun k hk => by have := HNE.out k hk; omega) (fun k hk => by have := HNP.out k hk; omega) _
      have HWZ := hid hwz
      clear hwz hlz
      have k0 : w7.cell? ⟨g + 1, 0, none⟩ = some (.int .i64 x.kind) := Blk.cell HX7.out 0
      have k1 : w7.cell? ⟨g + 1, 1, none⟩ = some (.string x.data) := Blk.cell HX7.out 1
      have k2 : w7.cell? ⟨g + 1, 2, none⟩ = some (.slice ea en ec) := Blk.cell HX7.out 2
      have k3 : w7.cell? ⟨g + 1, 3, none⟩ = some (.string x.tree) := Blk.cell HX7.out 3
      have k4 : w7.cell? ⟨g + 1, 4, none⟩ = some (.slice pa pn pc) := Blk.cell HX7.out 4
      have k5 : w7.cell? ⟨g + 1, 5, none⟩ = some (.int .i64 x.height) := Blk.cell HX7.out 5
      have k6 : w7.cell? ⟨g + 1, 6, none⟩ = some (.string x.note) := Blk.cell HX7.out 6
      go_wp2_with (first
       | (refine wpList_store_row rfl _ (.tmp 2) (.tmp 54) rfl g (obCs x (.slice ea en ec) (.slice pa pn pc)) rfl rfl 98 (obCs zero (.slice none 0 0) (.slice none 0 0)) HZ7.out (Tryz.infoObj _ _ _) rfl (obcs_one _ _ _ _ _ _ _) ?_; rw [HWZ.out]))
      go_wp2_with fail
      refine bodyPost_ret (v := .tuple #[.agg (obCs x (.slice ea en ec) (.slice pa pn pc)), .int .i64 0]) ?hr3 rfl ⟨x, .slice ea en ec, .slice pa pn pc, 0, ?_, rfl, HOZ.out, ?_, fun k hk => by rw [HG.out]; exact Nat.le_of_lt (hk.elim (HNE.out k) (HNP.out k))⟩
      case hr3 => exact dec_results _ g 0 x _ _ wz rfl rfl HBZ.out
      ·rw [HDL.out, HD5.out]; simp
      ·rw [HG.out]; exact HLZ.out
end Go.Proofs.YtmpjdoiogbbcoaaGreatDoor
/- The digest of bytes (layer 2): plain Lean. -/
namespace Go.Proofs.YtmpjdoiogbbcoaaGreatDoor.Sha
open Go.RowKit
set_option linter.unusedVariables false

def m32 : Nat := 4294967296
def rotr (n x : Nat) : Nat := x * 2 ^ (32 - n) % m32 ||| x / 2 ^ n
def ch (e f g : Nat) : Nat := (e &&& f) ^^^ ((4294967295 ^^^ e) &&& g)
def maj (a b c : Nat) : Nat := (a &&& b) ^^^ (a &&& c) ^^^ (b &&& c)
def turn3 (x i j k : Nat) : Nat := rotr i x ^^^ rotr j x ^^^ rotr k x
def ss0 (x : Nat) : Nat := rotr 7 x ^^^ rotr 18 x ^^^ x / 8
def ss1 (y : Nat) : Nat := rotr 17 y ^^^ rotr 19 y ^^^ y / 1024
def kt : List Nat := [0x428a2f98, 0x71374491, 0xb5c0fbcf, 0xe9b5dba5, 0x3956c25b, 0x59f111f1, 0x923f82a4, 0xab1c5ed5,
 0xd807aa98, 0x12835b01, 0x243185be, 0x550c7dc3, 0x72be5d74, 0x80deb1fe, 0x9bdc06a7, 0xc19bf174,
 0xe49b69c1, 0xefbe4786, 0x0fc19dc6, 0x240ca1cc, 0x2de92c6f, 0x4a7484aa, 0x5cb0a9dc, 0x76f988da,
 0x983e5152, 0xa831c66d, 0xb00327c8, 0xbf597fc7, 0xc6e00bf3, 0xd5a79147, 0x06ca6351, 0x14292967,
 0x27b70a85, 0x2e1b2138, 0x4d2c6dfc, 0x53380d13, 0x650a7354, 0x766a0abb, 0x81c2c92e, 0x92722c85,
 0xa2bfe8a1, 0xa81a664b, 0xc24b8b70, 0xc76c51a3, 0xd192e819, 0xd6990624, 0xf40e3585, 0x106aa070,
 0x19a4c116, 0x1e376c08, 0x2748774c, 0x34b0bcb5, 0x391c0cb3, 0x4ed8aa4a, 0x5b9cca4f, 0x682e6ff3,
 0x748f82ee, 0x78a5636f, 0x84c87814, 0x8cc70208, 0x90befffa, 0xa4506ceb, 0xbef9a3f7, 0xc67178f2]
/-- eight words -/
structure S8 where
 a : Nat
 b : Nat
 c : Nat
 d : Nat
 e : Nat
 f : Nat
 g : Nat
 h : Nat
def first : S8 := ⟨0x6a09e667, 0xbb67ae85, 0x3c6ef372, 0xa54ff53a, 0x510e527f, 0x9b05688c, 0x1f83d9ab, 0x5be0cd19⟩
def rnd (s : S8) (k w : Nat) : S8 :=
 let p := (s.h + turn3 s.e 6 11 25 + ch s.e s.f s.g + k + w) % m32
 let q := (turn3 s.a 2 13 22 + maj s.a s.b s.c) % m32
 ⟨(p + q) % m32, s.a, s.b, s.c, (s.d + p) % m32, s.e, s.f, s.g⟩
/-- a word of a block -/
def word (b : List UInt8) (i : Nat) : Nat := 16777216 * (b.getD (4 * i) 0).toNat + 65536 * (b.getD (4 * i + 1) 0).toNat + 256 * (b.getD (4 * i + 2) 0).toNat + (b.getD (4 * i + 3) 0).toNat
def w16 (b : List UInt8) : List Nat := (List.range 16).map (word b)
def nextW (l : List Nat) : Nat := (l.getD (l.length - 16) 0 + ss0 (l.getD (l.length - 15) 0) + l.getD (l.length - 7) 0 + ss1 (l.getD (l.length - 2) 0)) % m32
def wext : Nat → List Nat → List Nat
 | 0, l => l
 | n + 1, l => wext n (l ++ [nextW l])
def spreadL (b : List UInt8) : List Nat := wext 48 (w16 b)
/-- so many rounds -/
def rounds (W : List Nat) : Nat → S8 → S8
 | 0, s => s
 | n + 1, s => let r := rounds W n s; rnd r (kt.getD n 0) (W.getD n 0)
def addS (x y : S8) : S8 := ⟨(x.a + y.a) % m32, (x.b + y.b) % m32, (x.c + y.c) % m32, (x.d + y.d) % m32, (x.e + y.e) % m32, (x.f + y.f) % m32, (x.g + y.g) % m32, (x.h + y.h) % m32⟩
def mixL (h : S8) (b : List UInt8) : S8 := addS h (rounds (spreadL b) 64 h)
/-- bytes taken in, block by block -/
def absorb : Nat → S8 → List UInt8 → S8 × List UInt8
 | 0, h, l => (h, l)
 | f + 1, h, l => if l.length < 64 then (h, l) else absorb f (mixL h (l.take 64)) (l.drop 64)
def zerosN (n : Nat) : Nat := (119 - n % 64) % 64
def tailL (n : Nat) : List UInt8 := 0x80 :: List.replicate (zerosN n) 0 ++ (List.range 8).map (fun i => UInt8.ofNat (n * 8 / 256 ^ (7 - i)))
def word4 (x : Nat) : List UInt8 := [UInt8.ofNat (x / 16777216), UInt8.ofNat (x / 65536), UInt8.ofNat (x / 256), UInt8.ofNat x]
def outL (s : S8) : List UInt8 := word4 s.a ++ word4 s.b ++ word4 s.c ++ word4 s.d ++ word4 s.e ++ word4 s.f ++ word4 s.g ++ word4 s.h
def endL (h : S8) (rest : List UInt8) (n : Nat) : List UInt8 := outL (absorb (rest ++ tailL n).length h (rest ++ tailL n)).1
def shaL (s : List UInt8) : List UInt8 := endL (absorb s.length first s).1 (absorb s.length first s).2 s.length
theorem shaL_len (s : List UInt8) : (shaL s).length = 32 := rfl
end Go.Proofs.YtmpjdoiogbbcoaaGreatDoor.Sha
/- Which objects may come, and which must stay (layer 14): plain Lean. -/
namespace Go.Proofs.YtmpjdoiogbbcoaaGreatDoor.Sw
open Go.RowKit Book Ojt
set_option linter.unusedVariables false

structure It where
 id : ByteArray
 data : ByteArray
 deriving DecidableEq
/-- a source as a law sees it -/
abbrev Src := ByteArray → Option ByteArray
def getI : List It → Src
 | [], _ => none
 | x :: r, id => if x.id = id then some x.data else getI r id
def idOf (t : ByteArray) : ByteArray := bz (Sha.shaL t.data.toList)
def decO (t : ByteArray) : Option Ob := dec t.data.toList
/-- an object by its id, and the error -/
def look (G : Src) (id : ByteArray) : Int × Ob := match G id with
 | none => (21, zero)
 | some t => match decO t with
  | none => (4, zero)
  | some x => (0, x)
def fitsK (G : Src) : List Lnk → List Int → Int × List Int
 | [], hs => (0, hs)
 | l :: r, hs => if (look G l.id).1 ≠ 0 then ((look G l.id).1, hs) else if (look G l.id).2.kind ≠ l.kind then (22, hs)
  else fitsK G r (if l.kind = 3 then hs ++ [(look G l.id).2.height] else hs)
def fits (G : Src) (x : Ob) : Int :=
 if (fitsK G (links x) []).1 ≠ 0 then (fitsK G (links x) []).1 else if x.kind = 3 ∧ x.height ≠ heightL (fitsK G (links x) []).2 then 41 else 0
/-- a source with what came ahead -/
def over (came : List It) (G : Src) : Src := fun id => match getI came id with
 | some t => some t
 | none => G id
def took (came : List It) (t : ByteArray) : List It := if (getI came (idOf t)).isNone = true then came ++ [⟨idOf t, t⟩] else came
def brought (G : Src) (came out : List It) (t : ByteArray) : List It := if (over came G (idOf t)).isNone = true then out ++ [⟨idOf t, t⟩] else out
/-- how one text of a list is taken: the error -/
def errAt (G : Src) (came : List It) (t : ByteArray) : Int :=
 if 131072 < t.size then 5 else match decO t with
  | none => 4
  | some x => if (over came G (idOf t)).isNone = true then fits (over came G) x else 0
def admitF (G : Src) : List ByteArray → List It → List It → List It × Int
 | [], _, out => (out, 0)
 | t :: r, came, out => if errAt G came t ≠ 0 then ([], errAt G came t) else admitF G r (took came t) (brought G came out t)
theorem rising_ext : ∀ {a b : List ByteArray}, Rising a → Rising b → (∀ x, x ∈ a ↔ x ∈ b) → a = b
 | [], [], _, _, _ => rfl
 | [], y :: b, _, _, h => absurd ((h y).2 (List.mem_cons_self ..)) (List.not_mem_nil)
 | x :: a, [], _, _, h => absurd ((h x).1 (List.mem_cons_self ..)) (List.not_mem_nil)
 | x :: a, y :: b, ha, hb, h => by
  obtain ⟨a1, a2⟩ := List.pairwise_cons.1 ha
  obtain ⟨b1, b2⟩ := List.pairwise_cons.1 hb
  have hxy : x = y := by
   rcases List.mem_cons.1 ((h x).1 (List.mem_cons_self ..)) with e | hx
   ·exact e
   ·rcases List.mem_cons.1 ((h y).2 (List.mem_cons_self ..)) with e | hy
    ·exact e.symm
    ·have := lt_trans (a1 y hy) (b1 x hx)
     rw [lt_irr] at this; cases this
  subst hxy
  rw [rising_ext a2 b2 (fun z => ?_)]
  constructor
  ·intro hz
   rcases List.mem_cons.1 ((h z).1 (List.mem_cons_of_mem _ hz)) with e | hz'
   ·have := a1 z hz; rw [e, lt_irr] at this; cases this
   ·exact hz'
  ·intro hz
   rcases List.mem_cons.1 ((h z).2 (List.mem_cons_of_mem _ hz)) with e | hz'
   ·have := b1 z hz; rw [e, lt_irr] at this; cases this
   ·exact hz'
/-! orders from below -/
def setOf (l : List ByteArray) : List ByteArray := l.foldl putN []
end Go.Proofs.YtmpjdoiogbbcoaaGreatDoor.Sw
/- Folders of files as objects, and back (layer 15): plain Lean. -/
namespace Go.Proofs.YtmpjdoiogbbcoaaGreatDoor.Sn
open Go.RowKit Book Pap Ojt Sw
set_option linter.unusedVariables false

/-- a file below a folder: its names and its bytes -/
abbrev Fl := List ByteArray × ByteArray
def subOf (n : ByteArray) (f : Fl) : Option Fl := match f.1 with
 | a :: b :: r => if a = n then some (b :: r, f.2) else none
 | _ => none
/-- what lies in a folder's folder -/
def sub (n : ByteArray) (fs : List Fl) : List Fl := fs.filterMap (subOf n)
/-- what stands in a folder as a file -/
def leafs (fs : List Fl) (n : ByteArray) : Option ByteArray := fs.foldl (fun g f => if f.1 = [n] then some f.2 else g) none
theorem sub_snoc (n : ByteArray) (fs : List Fl) (f : Fl) : sub n (fs ++ [f]) = sub n fs ++ (subOf n f).toList := by
 unfold sub; rw [List.filterMap_append]; cases h : subOf n f <;> simp [h]
theorem leafs_snoc (fs : List Fl) (f : Fl) (n : ByteArray) : leafs (fs ++ [f]) n = if f.1 = [n] then some f.2 else leafs fs n := by
 unfold leafs; rw [List.foldl_append]; rfl
def headOf (f : Fl) : Option ByteArray := f.1.head?
/-- all names that stand directly in a folder -/
def namesF (fs : List Fl) : List ByteArray := setOf (fs.filterMap headOf)
def encP (x : Ob) : ByteArray := if good x = true then bz (encL x) else ByteArray.empty
/-- an object laid down: the list, its id -/
def layS (L : List ByteArray) (x : Ob) : List ByteArray × ByteArray := (if hasN L (encP x) = true then L else L ++ [encP x], idOf (encP x))
def blobOf (s : ByteArray) : Ob := { zero with kind := 1, data := s }
def treeOf (l : List Ent) : Ob := { zero with kind := 2, ents := l }
/-- one name of a folder: the list, the entry -/
def nameS (rec : List Fl → List ByteArray → List ByteArray × ByteArray) (fs : List Fl) (L : List ByteArray) (n : ByteArray) : List ByteArray × Ent :=
 if sub n fs = [] then ((layS L (blobOf ((leafs fs n).getD ByteArray.empty))).1, ⟨n, 1, (layS L (blobOf ((leafs fs n).getD ByteArray.empty))).2⟩)
 else ((rec (sub n fs) L).1, ⟨n, 2, (rec (sub n fs) L).2⟩)
def entsS (rec : List Fl → List ByteArray → List ByteArray × ByteArray) (fs : List Fl) : List ByteArray → List ByteArray → List Ent → List ByteArray × List Ent
 | [], L, E => (L, E)
 | n :: r, L, E => entsS rec fs r (nameS rec fs L n).1 (E ++ [(nameS rec fs L n).2])
/-- a folder laid down -/
def treeS : Nat → List Fl → List ByteArray → List ByteArray × ByteArray
 | 0, fs, L => (L, ByteArray.empty)
 | d + 1, fs, L => layS (entsS (treeS d) fs (namesF fs) L []).1 (treeOf (entsS (treeS d) fs (namesF fs) L []).2)
/-! a source looked into -/
def lookK (G : Sw.Src) (id : ByteArray) (kind lacks : Int) : Ob × Int := match G id with
 | none => (zero, lacks)
 | some t => match decO t with
  | none => (zero, 4)
  | some x => if x.kind ≠ kind then (zero, 22) else (x, 0)
def heightsS (G : Sw.Src) : List ByteArray → List Int → List Int × Int
 | [], H => (H, 0)
 | p :: r, H => if (lookK G p 3 12).2 ≠ 0 then ([], (lookK G p 3 12).2) else heightsS G r (H ++ [(lookK G p 3 12).1.height])
structure Wk where
 met : Nat
 blobs : List Ent
/-- names as a path -/
def pathOf (l : List ByteArray) : ByteArray := bz (joinL (l.map fun s => s.data.toList))
def overE (rec : ByteArray → List ByteArray → Wk → Wk × Int) (above : List ByteArray) : List Ent → Wk → Wk × Int
 | [], s => (s, 0)
 | y :: r, s =>
  if 4096 < s.met + 1 then ({ s with met := s.met + 1 }, 6)
  else if 64 < above.length + 1 then ({ s with met := s.met + 1 }, 33)
  else if y.kind = 2 then
   if (rec y.id (above ++ [y.name]) { s with met := s.met + 1 }).2 ≠ 0 then rec y.id (above ++ [y.name]) { s with met := s.met + 1 }
   else overE rec above r (rec y.id (above ++ [y.name]) { s with met := s.met + 1 }).1
  else overE rec above r ⟨s.met + 1, s.blobs ++ [⟨pathOf (above ++ [y.name]), y.kind, y.id⟩]⟩
def overS (G : Sw.Src) : Nat → ByteArray → List ByteArray → Wk → Wk × Int
 | 0, id, above, s => (s, 0)
 | d + 1, id, above, s => if (lookK G id 2 21).2 ≠ 0 then (s, (lookK G id 2 21).2) else overE (overS G d) above (lookK G id 2 21).1.ents s
def listS (G : Sw.Src) (id : ByteArray) : List Ent × Int :=
 if (lookK G id 3 12).2 ≠ 0 then ([], (lookK G id 3 12).2)
 else if (overS G 66 (lookK G id 3 12).1.tree [] ⟨0, []⟩).2 ≠ 0 then ([], (overS G 66 (lookK G id 3 12).1.tree [] ⟨0, []⟩).2)
 else ((overS G 66 (lookK G id 3 12).1.tree [] ⟨0, []⟩).1.blobs, 0)
/-- a file: its path, its bytes -/
structure Fi where
 path : ByteArray
 data : ByteArray
 deriving DecidableEq
def filesF (G : Sw.Src) : List Ent → List Fi → List Fi × Int
 | [], F => (F, 0)
 | y :: r, F => if (lookK G y.id 1 21).2 ≠ 0 then ([], (lookK G y.id 1 21).2) else filesF G r (F ++ [⟨y.name, (lookK G y.id 1 21).1.data⟩])
def filesS (G : Sw.Src) (id : ByteArray) : List Fi × Int := if (listS G id).2 ≠ 0 then ([], (listS G id).2) else filesF G (listS G id).1 []
def noEnt : Ent := ⟨ByteArray.empty, 0, ByteArray.empty⟩
def findF (G : Sw.Src) : List ByteArray → Ent → Ent × Int
 | [], y => (y, 0)
 | n :: r, y => if y.kind ≠ 2 then (noEnt, 12) else if (lookK G y.id 2 21).2 ≠ 0 then (noEnt, (lookK G y.id 2 21).2)
  else match (lookK G y.id 2 21).1.ents.find? (fun e => decide (e.name = n)) with
   | none => (noEnt, 12)
   | some e => findF G r e
def findS (G : Sw.Src) (id path : ByteArray) : Ent × Int :=
 if path.size ≠ 0 ∧ splitE path.data.toList ≠ 0 then (noEnt, splitE path.data.toList)
 else if (lookK G id 3 12).2 ≠ 0 then (noEnt, (lookK G id 3 12).2)
 else findF G (if path.size = 0 then [] else (pieces path.data.toList).map bz) ⟨ByteArray.empty, 2, (lookK G id 3 12).1.tree⟩
end Go.Proofs.YtmpjdoiogbbcoaaGreatDoor.Sn
/- A source of objects; an object of a kind looked up: look. -/
namespace Go.Proofs.YtmpjdoiogbbcoaaGreatDoor
open Go.RowKit Book Pap Ojt Sn
set_option linter.unusedVariables false

/-- what Get hands back -/
def GetOut (G : Sw.Src) (id : ByteArray) (W : World) (e : Ending) (W' : World) : Prop :=
 e = .returned (.tuple #[.string ((G id).getD ByteArray.empty), .bool (G id).isSome]) ∧ Below W.heap.size W W'
/-- an interface value is a source -/
def SrcAt (w : World) (t : TypeId) (rv : Value) (G : Sw.Src) : Prop :=
 ∃ f r, (∀ W, (method 449 t rv "Get").run Tryz.prog W = .ok (f, r) W) ∧ (∀ args W, (callFunc f args).run Tryz.prog W = .ok (.enter f args) W) ∧ ∀ id W, Below w.heap.size w W → Calls Tryz.prog f #[r, .string id] W (GetOut G id W)
theorem SrcAt.later {w w' : World} {t : TypeId} {rv : Value} {G : Sw.Src} (h : SrcAt w t rv G) (hb : Below w.heap.size w w') : SrcAt w' t rv G := by
 obtain ⟨f, r, h1, h2, h3⟩ := h
 exact ⟨f, r, h1, h2, fun id W hW => h3 id W (below_then hb hW)⟩
/-- the texts of a source are of a size -/
def SrcSz (G : Sw.Src) : Prop := ∀ id t, G id = some t → t.size ≤ 1000000000
/-- what look hands back -/
def LookOut (w : World) (x : Ob) (er : Int) (e : Ending) (w' : World) : Prop :=
 ∃ ev pv, e = .returned (.tuple #[.agg (obCs x ev pv), .int .i64 er]) ∧ ObAt w' ev pv x ∧ Below w.heap.size w w' ∧ ∀ k, (ev.ownBlock = some k ∨ pv.ownBlock = some k) → w.heap.size ≤ k
theorem decode_any (s : ByteArray) (hsz : s.size ≤ 1000000000) (w : World) : Calls Tryz.prog 63 #[.string s] w (DecOut w s.data.toList) := by
 cases hl : s.data.toList with
 | nil =>
  have h0 : s.size = 0 := by have : s.data.toList.length = s.size := Array.length_toList; rw [hl] at this; simpa using this.symm
  rw [← hl]; exact decode_nil s h0 w
 | cons k t => rw [← hl]; exact decode_some s k t ⟨hl⟩ hsz w
theorem decO_R (t : ByteArray) : decR t.data.toList = match Sw.decO t with | some x => (x, 0) | none => (zero, 4) := rfl
theorem look_results (tmps : Array Value) (g : Nat) (er : Int) (x : Ob) (ev pv : Value) (w : World) (h2 : tmps.getD 8 undef = .pointer (some ⟨g, 0, none⟩)) (h3 : tmps.getD 9 undef = .int .i64 er) (H : Blk w g 98 (obCs x ev pv)) : (results Tryz.f38 tmps).run Tryz.prog w = .ok (.tuple #[.agg (obCs x ev pv), .int .i64 er]) w := by
 have c0 : w.cell? ⟨g, 0, none⟩ = some (.int .i64 x.kind) := Blk.cell H 0
 have c1 : w.cell? ⟨g, 1, none⟩ = some (.string x.data) := Blk.cell H 1
 have c2 : w.cell? ⟨g, 2, none⟩ = some ev := Blk.cell H 2
 have c3 : w.cell? ⟨g, 3, none⟩ = some (.string x.tree) := Blk.cell H 3
 have c4 : w.cell? ⟨g, 4, none⟩ = some pv := Blk.cell H 4
 have c5 : w.cell? ⟨g, 5, none⟩ = some (.int .i64 x.height) := Blk.cell H 5
 have c6 : w.cell? ⟨g, 6, none⟩ = some (.string x.note) := Blk.cell H 6
 have h2' : tmps[8]?.getD undef = .pointer (some ⟨g, 0, none⟩) := by simpa using h2
 have h3' : tmps[9]?.getD undef = .int .i64 er := by simpa using h3
 simp [results, Tryz.results38, go_sem, h2', h3', c0, c1, c2, c3, c4, c5, c6, obCs]
set_option maxRecDepth 100000 in
set_option maxHeartbeats 8000000 in
theorem look_any (t : TypeId) (rv : Value) (G : Sw.Src) (id : ByteArray) (kind lacks : Int) (w : World) (hs : SrcAt w t rv G) (hz : SrcSz G) : Calls Tryz.prog 38 #[.iface t rv, .string id, .int .i64 kind, .int .i64 lacks] w (LookOut w (lookK G id kind lacks).1 (lookK G id kind lacks).2) := by
 obtain ⟨f, r, hm, hen, hget⟩ := hs
 have HGT := hid hget
 have HLK : Hid (lookK G id kind lacks = match G id with | none => (zero, lacks) | some t => match Sw.decO t with | none => (zero, 4) | some x => if x.kind ≠ kind then (zero, 22) else (x, 0)) := rfl
 clear hget
 go_enter Tryz.func38, Tryz.ntmps38
 go_upto_region 1 with fail
 obtain ⟨g, hg⟩ : ∃ g, w.heap.size = g := ⟨_, rfl⟩
 have HG := hid hg
 have HZ1 : Hid (Blk (w.alloc (.cells (obCs zero (.slice none 0 0) (.slice none 0 0)) 98)) g 98 (obCs zero (.slice none 0 0) (.slice none 0 0))) := by
  have := Blk.new w 98 (obCs zero (.slice none 0 0) (.slice none 0 0)); rw [hg] at this; exact this
 have HB1 : Hid (Below g w (w.alloc (.cells (obCs zero (.slice none 0 0) (.slice none 0 0)) 98))) := (Below.refl _ _).alloc (Nat.le_of_eq hg.symm) _
 rw [hg]
 rw [zero_cs] at HZ1 HB1
 clear hg
 generalize (w.alloc (.cells #[.int .i64 0, .string ⟨#[]⟩, .slice none 0 0, .string ⟨#[]⟩, .slice none 0 0, .int .i64 0, .string ⟨#[]⟩] 98)) = w1 at HZ1 HB1 ⊢
 have hgl1 := Blk.lt HZ1.out
 go_wp2_with fail
 refine (HGT.out id w1 (by rw [HG.out]; exact HB1.out)).mono ?_; rintro e w2 ⟨rfl, hb2⟩
 have HZ2 : Hid (Blk w2 g 98 #[.int .i64 0, .string ⟨#[]⟩, .slice none 0 0, .string ⟨#[]⟩, .slice none 0 0, .int .i64 0, .string ⟨#[]⟩]) := (hb2.block g hgl1).trans HZ1.out
 have HB2 : Hid (Below g w w2) := HB1.out.trans (hb2.mono (Nat.le_of_lt hgl1))
 clear hb2 HZ1 HB1
 cases hG : G id with
 | none =>
  rw [hG] at HLK
  have HL : Hid (lookK G id kind lacks = (zero, lacks)) := HLK.out
  clear HLK
  obtain ⟨wz, hwz⟩ : ∃ wz, w2.setRow g (obCs zero (.slice none 0 0) (.slice none 0 0)) = wz := ⟨_, rfl⟩
  have HBZ : Hid (Blk wz g 98 (obCs zero (.slice none 0 0) (.slice none 0 0))) := by rw [← hwz]; exact setRow_heap _ _ _ _ _ _ HZ2.out
  have HLZ : Hid (Below g w wz) := by rw [← hwz]; exact below_setRow HB2.out (Nat.le_refl _) _
  have HWZ := hid hwz
  clear hwz
  go_wp2_with (first
   | (refine wpList_store_row rfl _ (.tmp 8) (.tmp 22) rfl g (obCs zero (.slice none 0 0) (.slice none 0 0)) rfl rfl 98 (obCs zero (.slice none 0 0) (.slice none 0 0)) HZ2.out (Tryz.infoObj _ _ _) rfl (obcs_one _ _ _ _ _ _ _) ?_; rw [HWZ.out]))
  go_wp2_with fail
  refine bodyPost_ret (v := .tuple #[.agg (obCs zero (.slice none 0 0) (.slice none 0 0)), .int .i64 lacks]) ?hr1 rfl ⟨.slice none 0 0, .slice none 0 0, ?_, ?_, ?_, fun k hk => by simp [Value.ownBlock] at hk⟩
  case hr1 => exact look_results _ g lacks zero _ _ wz rfl rfl HBZ.out
  ·rw [HL.out]
  ·rw [HL.out]; exact zero_at _
  ·rw [HG.out]; exact HLZ.out
 | some tx =>
  have hzt := hz id tx hG
  rw [hG] at HLK
  clear hz hG
  go_wp2_with fail
  refine (decode_any tx hzt w2).mono ?_; rintro e w3 ⟨x, ev, pv, er, hdr, rfl, hO3, hb3, hf3⟩
  rw [decO_R] at hdr
  have hgl2 := Blk.lt HZ2.out
  have HZ3 : Hid (Blk w3 g 98 #[.int .i64 0, .string ⟨#[]⟩, .slice none 0 0, .string ⟨#[]⟩, .slice none 0 0, .int .i64 0, .string ⟨#[]⟩]) := (hb3.block g hgl2).trans HZ2.out
  have HB3 : Hid (Below g w w3) := HB2.out.trans (hb3.mono (Nat.le_of_lt hgl2))
  have HF3 : Hid (∀ k, (ev.ownBlock = some k ∨ pv.ownBlock = some k) → g < k) := fun k hk => by have := hf3 k hk; omega
  have hgl3 := Blk.lt HZ3.out
  have HO3 := hid hO3
  obtain ⟨ea, en, ec, pa, pn, pc, rfl, -, rfl, -⟩ := hO3
  have HX4 : Hid (Blk (w3.alloc (.cells (obCs x (.slice ea en ec) (.slice pa pn pc)) 98)) w3.heap.size 98 (obCs x (.slice ea en ec) (.slice pa pn pc))) := Blk.new w3 _ _
  have HZ4 : Hid (Blk (w3.alloc (.cells (obCs x (.slice ea en ec) (.slice pa pn pc)) 98)) g 98 #[.int .i64 0, .string ⟨#[]⟩, .slice none 0 0, .string ⟨#[]⟩, .slice none 0 0, .int .i64 0, .string ⟨#[]⟩]) := HZ3.out.alloc _
  have HB4 : Hid (Below g w (w3.alloc (.cells (obCs x (.slice ea en ec) (.slice pa pn pc)) 98))) := HB3.out.alloc (Nat.le_of_lt hgl3) _
  have HO4 : Hid (ObAt (w3.alloc (.cells (obCs x (.slice ea en ec) (.slice pa pn pc)) 98)) (.slice ea en ec) (.slice pa pn pc) x) := HO3.out.later ((Below.refl _ _).alloc (Nat.le_refl _) _)
  unfold obCs at HX4 HZ4 HB4 HO4 ⊢
  clear hb3 hf3 HO3 HZ3 HB3 HZ2 HB2
  go_upto_region 5 with fail
  generalize hw4 : (w3.alloc (.cells #[.int .i64 x.kind, .string x.data, .slice ea en ec, .string x.tree, .slice pa pn pc, .int .i64 x.height, .string x.note] 98)) = w4 at HX4 HZ4 HB4 HO4 ⊢
  generalize hg4 : w3.heap.size = g4 at HX4 ⊢
  have hne4 : g ≠ g4 := by omega
  clear hw4 hg4
  have HZC : Hid (Blk w4 g 98 (obCs zero (.slice none 0 0) (.slice none 0 0))) := by rw [zero_cs]; exact HZ4.out
  have HXC : Hid (Blk w4 g4 98 (obCs x (.slice ea en ec) (.slice pa pn pc))) := HX4.out
  clear HZ4 HX4
  cases hD : Sw.decO tx with
  | none =>
   rw [hD] at hdr HLK
   have HL : Hid (lookK G id kind lacks = (zero, 4)) := HLK.out
   obtain ⟨hdx, hde⟩ := Prod.mk.inj hdr
   subst hde
   clear hdr hdx HLK hD
   obtain ⟨wz, hwz⟩ : ∃ wz, w4.setRow g (obCs zero (.slice none 0 0) (.slice none 0 0)) = wz := ⟨_, rfl⟩
   have HBZ : Hid (Blk wz g 98 (obCs zero (.slice none 0 0) (.slice none 0 0))) := by rw [← hwz]; exact setRow_heap _ _ _ _ _ _ HZC.out
   have HLZ : Hid (Below g w wz) := by rw [← hwz]; exact below_setRow HB4.out (Nat.le_refl _) _
   have HWZ := hid hwz
   clear hwz
   go_wp2_with (first
    | (refine wpList_store_row rfl _ (.tmp 8) (.tmp 32) rfl g (obCs zero (.slice none 0 0) (.slice none 0 0)) rfl rfl 98 (obCs zero (.slice none 0 0) (.slice none 0 0)) HZC.out (Tryz.infoObj _ _ _) rfl (obcs_one _ _ _ _ _ _ _) ?_; rw [HWZ.out]))
   go_wp2_with fail
   refine bodyPost_ret (v := .tuple #[.agg (obCs zero (.slice none 0 0) (.slice none 0 0)), .int .i64 4]) ?hr2 rfl ⟨.slice none 0 0, .slice none 0 0, ?_, ?_, ?_, fun k hk => by simp [Value.ownBlock] at hk⟩
   case hr2 => exact look_results _ g 4 zero _ _ wz rfl rfl HBZ.out
   ·rw [HL.out]
   ·rw [HL.out]; exact zero_at _
   ·rw [HG.out]; exact HLZ.out
  | some y =>
   rw [hD] at hdr HLK
   obtain ⟨hdx, hde⟩ := Prod.mk.inj hdr
   subst hde hdx
   clear hdr hD
   have k0 : w4.cell? ⟨g4, 0, none⟩ = some (.int .i64 x.kind) := Blk.cell HXC.out 0
   by_cases hk : x.kind = kind
   ·have HL : Hid (lookK G id kind lacks = (x, 0)) := by
     show _ = _
     rw [HLK.out]
     show (if x.kind ≠ kind then (zero, (22 : Int)) else (x, 0)) = _
     rw [if_neg (by simp [hk])]
    have q1 : (x.kind != kind) = false := by simp [hk]
    have q2 : (x.kind == kind) = true := by simp [hk]
    have k1 : w4.cell? ⟨g4, 1, none⟩ = some (.string x.data) := Blk.cell HXC.out 1
    have k2 : w4.cell? ⟨g4, 2, none⟩ = some (.slice ea en ec) := Blk.cell HXC.out 2
    have k3 : w4.cell? ⟨g4, 3, none⟩ = some (.string x.tree) := Blk.cell HXC.out 3
    have k4 : w4.cell? ⟨g4, 4, none⟩ = some (.slice pa pn pc) := Blk.cell HXC.out 4
    have k5 : w4.cell? ⟨g4, 5, none⟩ = some (.int .i64 x.height) := Blk.cell HXC.out 5
    have k6 : w4.cell? ⟨g4, 6, none⟩ = some (.string x.note) := Blk.cell HXC.out 6
    obtain ⟨wz, hwz⟩ : ∃ wz, w4.setRow g (obCs x (.slice ea en ec) (.slice pa pn pc)) = wz := ⟨_, rfl⟩
    have HBZ : Hid (Blk wz g 98 (obCs x (.slice ea en ec) (.slice pa pn pc))) := by rw [← hwz]; exact setRow_heap _ _ _ _ _ _ HZC.out
    have HLZ : Hid (Below g w wz) := by rw [← hwz]; exact below_setRow HB4.out (Nat.le_refl _) _
    have HOZ : Hid (ObAt wz (.slice ea en ec) (.slice pa pn pc) x) := by rw [← hwz]; exact HO4.out.far (fun k hk => by have := HF3.out k (.inl hk); omega) (fun k hk => by have := HF3.out k (.inr hk); omega) _
    have HWZ := hid hwz
    clear hwz HLK hk
    go_wp2_with (first
     | (refine wpList_store_row rfl _ (.tmp 8) (.tmp 40) rfl g (obCs x (.slice ea en ec) (.slice pa pn pc)) rfl rfl 98 (obCs zero (.slice none 0 0) (.slice none 0 0)) HZC.out (Tryz.infoObj _ _ _) rfl (obcs_one _ _ _ _ _ _ _) ?_; rw [HWZ.out]))
    go_wp2_with fail
    refine bodyPost_ret (v := .tuple #[.agg (obCs x (.slice ea en ec) (.slice pa pn pc)), .int .i64 0]) ?hr3 rfl ⟨.slice ea en ec, .slice pa pn pc, ?_, ?_, ?_, fun k hk => by rw [HG.out]; exact Nat.le_of_lt (HF3.out k hk)⟩
    case hr3 => exact look_results _ g 0 x _ _ wz rfl rfl HBZ.out
    ·rw [HL.out]
    ·rw [HL.out]; exact HOZ.out
    ·rw [HG.out]; exact HLZ.out
   ·have HL : Hid (lookK G id kind lacks = (zero, 22)) := by
     show _ = _
     rw [HLK.out]
     show (if x.kind ≠ kind then (zero, (22 : Int)) else (x, 0)) = _
     rw [if_pos hk]
    have q1 : (x.kind != kind) = true := by simp [hk]
    have q2 : (x.kind == kind) = false := by simp [hk]
    obtain ⟨wz, hwz⟩ : ∃ wz, w4.setRow g (obCs zero (.slice none 0 0) (.slice none 0 0)) = wz := ⟨_, rfl⟩
    have HBZ : Hid (Blk wz g 98 (obCs zero (.slice none 0 0) (.slice none 0 0))) := by rw [← hwz]; exact setRow_heap _ _ _ _ _ _ HZC.out
    have HLZ : Hid (Below g w wz) := by rw [← hwz]; exact below_setRow HB4.out (Nat.le_refl _) _
    have HWZ := hid hwz
    clear hwz HLK hk
    go_wp2_with (first
     | (refine wpList_store_row rfl _ (.tmp 8) (.tmp 39) rfl g (obCs zero (.slice none 0 0) (.slice none 0 0)) rfl rfl 98 (obCs zero (.slice none 0 0) (.slice none 0 0)) HZC.out (Tryz.infoObj _ _ _) rfl (obcs_one _ _ _ _ _ _ _) ?_; rw [HWZ.out]))
    go_wp2_with fail
    refine bodyPost_ret (v := .tuple #[.agg (obCs zero (.slice none 0 0) (.slice none 0 0)), .int .i64 22]) ?hr4 rfl ⟨.slice none 0 0, .slice none 0 0, ?_, ?_, ?_, fun k hk => by simp [Value.ownBlock] at hk⟩
    case hr4 => exact look_results _ g 22 zero _ _ wz rfl rfl HBZ.out
    ·rw [HL.out]
    ·rw [HL.out]; exact zero_at _
    ·rw [HG.out]; exact HLZ.out
end Go.Proofs.YtmpjdoiogbbcoaaGreatDoor
/- A strings.Builder that the call has made itself: its first look (copyCheck). -/
namespace Go.Proofs.YtmpjdoiogbbcoaaGreatDoor
open Go.RowKit
set_option linter.unusedVariables false

theorem bldSize : (Tryz.prog.info? 242).map (·.size) = some 2 := by kernel_rfl
theorem bldLies : liesAt Tryz.prog Tryz.prog.depth 242 (2 / Tryz.prog.cellsOf 242) 0 242 1 = true := by kernel_rfl
abbrev BAt := Lib.BuilderAt 242 5
abbrev BIs := Lib.IsBuilder 242 5

set_option maxRecDepth 100000 in
set_option maxHeartbeats 1000000 in
theorem check_fresh (b : Nat) (w : World) (h0 : w.cell? ⟨b, 0, none⟩ = some (.pointer none)) (hsh : w.shape? b = some (242, 2)) (hfz : w.frozen? ⟨b, 0, none⟩ = false) :
  Calls Tryz.prog 209 #[.pointer (some ⟨b, 0, none⟩)] w fun e w' => e = .returned (.tuple #[]) ∧ w' = w.setCell ⟨b, 0, none⟩ (.pointer (some ⟨b, 0, none⟩)) := by
 obtain ⟨j, hj, hjs⟩ := Option.map_eq_some_iff.1 bldSize
 go_enter Tryz.func209, Tryz.ntmps209
 go_wp2
 rw [Lib.run_to_unsafe w ⟨b, 0, none⟩ Tryz.underlying240 Tryz.underlying302 hj (by rw [hjs]; decide) hsh (Nat.zero_lt_succ 1)]
 simp only [Result.andThen]
 rw [Oper.upon_value]
 go_wp2
 rw [run_callFunc_extern Tryz.func241 (by kernel_rfl) (by kernel_rfl) (by kernel_rfl) (e := Extern.AbiNoEscape.same) (by kernel_rfl)]
 rw [Lib.run_noEscape]
 simp only [Result.andThen]
 rw [Oper.upon_value]
 go_wp2
 rw [Lib.run_from_unsafe w ⟨b, 0, none⟩ Tryz.underlying302 Tryz.underlying240 hj hsh bldLies]
 simp only [Result.andThen]
 rw [Oper.upon_value]
 go_wp2
 go_end0
 exact ⟨rfl, rfl⟩

set_option maxRecDepth 100000 in
set_option maxHeartbeats 1000000 in
theorem check_used (b : Nat) (w : World) (h0 : w.cell? ⟨b, 0, none⟩ = some (.pointer (some ⟨b, 0, none⟩))) :
  Calls Tryz.prog 209 #[.pointer (some ⟨b, 0, none⟩)] w fun e w' => e = .returned (.tuple #[]) ∧ w' = w := by
 obtain ⟨j, hj, _⟩ := Option.map_eq_some_iff.1 bldSize
 have hne := Lib.run_neq_ptr_same (P := Tryz.prog) w ⟨b, 0, none⟩ Tryz.underlying240 hj
 go_enter Tryz.func209, Tryz.ntmps209
 go_wp2
 go_end0
 exact ⟨rfl, rfl⟩

end Go.Proofs.YtmpjdoiogbbcoaaGreatDoor
/- cmp.Less and slices.BinarySearch over texts; what stands in rising order. -/
namespace Go.Proofs.YtmpjdoiogbbcoaaGreatDoor
open Go.RowKit
set_option linter.unusedVariables false

/-- x stands, or would, at k -/
def PosAt (l : List ByteArray) (x : ByteArray) (k : Nat) : Prop := k ≤ l.length ∧ ∀ t, t < l.length → lt' (l.getD t ByteArray.empty) x = decide (t < k)

theorem sisNaN_any (s : ByteArray) (w : World) : Calls Tryz.prog 195 #[.string s] w fun e w' => e = .returned (.bool false) ∧ w = w' := by
 go_enter Tryz.func195, Tryz.ntmps195
 go_wp2
 go_ret
 exact ⟨ret_bool (by simp), rfl⟩
theorem cisNaN_any (s : ByteArray) (w : World) : Calls Tryz.prog 194 #[.string s] w fun e w' => e = .returned (.bool false) ∧ w = w' := by
 go_enter Tryz.func194, Tryz.ntmps194
 go_wp2
 go_ret
 exact ⟨ret_bool (by simp), rfl⟩
theorem less_any (x y : ByteArray) (w : World) : Calls Tryz.prog 157 #[.string x, .string y] w fun e w' => e = .returned (.bool (lt' x y)) ∧ w = w' := by
 unfold lt'
 cases h : Op.bytesLess x.toList y.toList
 ·go_enter Tryz.func157, Tryz.ntmps157
  go_wp2_with (go_at_call 194; refine (cisNaN_any _ _).mono ?_; rintro e w' ⟨rfl, rfl⟩)
  go_ret
  exact ⟨rfl, rfl⟩
 ·go_enter Tryz.func157, Tryz.ntmps157
  go_wp2_with (go_at_call 194; refine (cisNaN_any _ _).mono ?_; rintro e w' ⟨rfl, rfl⟩)
  go_ret
  exact ⟨rfl, rfl⟩

set_option maxHeartbeats 1000000 in
theorem bs_any (a : Option Addr) (n c : Nat) (l : List ByteArray) (x : ByteArray) (k : Nat) (w : World) (hS : StrsAt w a n l) (hbig : n ≤ 1048576) (hk : PosAt l x k) :
  Calls Tryz.prog 138 #[.slice a n c, .string x] w fun e w' => e = .returned (.tuple #[.int .i64 k, .bool (decide (k < n ∧ l.getD k ByteArray.empty = x))]) ∧ w = w' := by
 obtain ⟨h1, h2, h3⟩ := hS
 obtain ⟨k1, k2⟩ := hk
 have K2 := hid k2; clear k2
 have H1 := hid h1
 have hkn : k ≤ n := by omega
 obtain ⟨r, hr⟩ : ∃ r, decide (k < n ∧ l.getD k ByteArray.empty = x) = r := ⟨_, rfl⟩
 rw [hr]
 have HR := hid hr
 clear h1 k1 hr
 go_enter Tryz.func138, Tryz.ntmps138
 go_wp2
 go_loop [7, 8] (fun s7 s8 => ∃ lo hi : Nat, s7 = .int .i64 lo ∧ s8 = .int .i64 hi ∧ lo ≤ k ∧ k ≤ hi ∧ hi ≤ n) (fun s7 s8 => (intOf s8 - intOf s7).toNat)
 case atStart => exact ⟨0, n, rfl, rfl, Nat.zero_le _, hkn, Nat.le_refl _⟩
 case round =>
  obtain ⟨lo, hi, rfl, rfl, g1, g2, g3⟩ := hrel
  by_cases hlt : lo < hi
  ·obtain ⟨b, off, rfl, hc⟩ := h3.resolve_left (by omega)
   have cm := hc ((lo + hi) / 2) (by omega)
   have ky := K2.out ((lo + hi) / 2) (by rw [H1.out]; omega)
   obtain ⟨y, hy⟩ : ∃ y, l.getD ((lo + hi) / 2) ByteArray.empty = y := ⟨_, rfl⟩
   rw [hy] at cm ky
   clear hc hy
   by_cases hm : (lo + hi) / 2 < k
   ·have hL : lt' y x = true := by rw [ky]; exact decide_eq_true hm
    clear ky
    go_wp2_with (go_at_call 157; refine (less_any _ _ _).mono ?_; rw [hL]; rintro e w' ⟨rfl, rfl⟩)
    go_round
    case rel => exact ⟨(lo + hi) / 2 + 1, hi, by rw [show ((lo : Int) + (hi : Int)) / 2 + 1 = (((lo + hi) / 2 + 1 : Nat) : Int) by omega], rfl, by omega, by omega, g3⟩
    case measure => simp [intOf]; omega
   ·have hL : lt' y x = false := by rw [ky]; exact decide_eq_false hm
    clear ky
    go_wp2_with (go_at_call 157; refine (less_any _ _ _).mono ?_; rw [hL]; rintro e w' ⟨rfl, rfl⟩)
    go_round
    case rel => exact ⟨lo, (lo + hi) / 2, rfl, by rw [show ((lo : Int) + (hi : Int)) / 2 = (((lo + hi) / 2 : Nat) : Int) by omega], g1, by omega, by omega⟩
    case measure => simp [intOf]; omega
  ·obtain rfl : lo = k := by omega
   by_cases hn : lo < n
   ·obtain ⟨b, off, rfl, hc⟩ := h3.resolve_left (by omega)
    have cl := hc lo hn
    obtain ⟨y, hy⟩ : ∃ y, l.getD lo ByteArray.empty = y := ⟨_, rfl⟩
    rw [hy] at cl
    have HY := hid hy
    clear hc hy
    by_cases hyx : y = x
    ·subst hyx
     obtain rfl : r = true := HR.out.symm.trans (decide_eq_true ⟨hn, HY.out⟩)
     go_wp2_with (go_at_call 195; refine (sisNaN_any _ _).mono ?_; rintro e w' ⟨rfl, rfl⟩)
     go_ret2
     exact ⟨rfl, rfl⟩
    ·obtain rfl : r = false := HR.out.symm.trans (decide_eq_false (fun e => hyx (HY.out.symm.trans e.2)))
     have hne := bstr_ne hyx
     have hne2 : ¬ y.toList = x.toList := by simpa using hne
     clear hyx
     go_wp2_with (go_at_call 195; refine (sisNaN_any _ _).mono ?_; rintro e w' ⟨rfl, rfl⟩)
     go_ret2
     exact ⟨rfl, rfl⟩
   ·obtain rfl : r = false := HR.out.symm.trans (decide_eq_false (fun e => hn e.1))
    go_wp2
    go_ret2
    exact ⟨rfl, rfl⟩
theorem bs_names (a : Option Addr) (n c : Nat) (l : List ByteArray) (x : ByteArray) (w : World) (hS : StrsAt w a n l) (hbig : n ≤ 1048576) (hr : Rising l) :
  Calls Tryz.prog 138 #[.slice a n c, .string x] w fun e w' => e = .returned (.tuple #[.int .i64 (posOf l x : Nat), .bool (hasN l x)]) ∧ w = w' := by
 have := bs_any a n c l x (posOf l x) w hS hbig ⟨posOf_le l x, posOf_at hr x⟩
 rw [← hS.1, pos_bool hr] at this
 rw [← hS.1]; exact this
def MapF (m : Nat) (ks vs : Value) : Nat → Prop := fun k => k = m ∨ ks.ownBlock = some k ∨ vs.ownBlock = some k
theorem own_slice {w : World} {B e s n : Nat} {v : Value} {xs : List Value} (h : w.ownsRow B e s v n xs) : ∃ a c, v = .slice a n c ∧ n ≤ c := by
 rcases h.2 with ⟨rfl, h0⟩ | ⟨g, cap, cur, rfl, hb, hg, hn, r⟩
 ·exact ⟨none, 0, by rw [h0], by omega⟩
 ·exact ⟨_, _, rfl, hn⟩
theorem svals_one (l : List ByteArray) : ∀ u ∈ svals l, u.oneCell' = true := by
 intro u hu; unfold svals at hu; obtain ⟨x, _, rfl⟩ := List.mem_map.1 hu; rfl
end Go.Proofs.YtmpjdoiogbbcoaaGreatDoor
/- A text written to a strings.Builder that the call has made itself. -/
namespace Go.Proofs.YtmpjdoiogbbcoaaGreatDoor
open Go.RowKit
set_option linter.unusedVariables false

theorem own_low {w : World} {B B' : Nat} {e : TypeId} {s n : Nat} {v : Value} {xs : List Value} (h : w.ownsRow B e s v n xs) (hB : ∀ k, v.ownBlock = some k → B' ≤ k) : w.ownsRow B' e s v n xs := by
 refine ⟨h.1, h.2.imp id ?_⟩
 rintro ⟨g, cap, cur, rfl, hb, r⟩
 exact ⟨g, cap, cur, rfl, hB g rfl, r⟩
end Go.Proofs.YtmpjdoiogbbcoaaGreatDoor
/- A strings.Builder that the call has made itself: bytes and texts written to it; what lies beside it stays. -/
namespace Go.Proofs.YtmpjdoiogbbcoaaGreatDoor
open Go.RowKit
set_option linter.unusedVariables false

/-- blocks of other things stay -/
def KeepT (w w' : World) : Prop := ∀ g t cs, t ≠ 5 → t ≠ 242 → Blk w g t cs → Blk w' g t cs
theorem KeepT.refl (w : World) : KeepT w w := fun _ _ _ _ _ h => h
theorem bat_blk {B b : Nat} {p : Value} {bs : List Value} {w : World} (h : BAt B b p bs w) {g : Nat} {t : TypeId} {cs : Array Value} (ht : t ≠ 242) (hg : Blk w g t cs) : g ≠ b := by
 obtain ⟨hB, v, hbk, hown, hne⟩ := h
 have hb : Blk w b 242 #[p, v] := hbk
 exact hg.ne hb ht
theorem copyCheck_keep (B b : Nat) (bs : List Value) (w : World) (h : BIs B b bs w) :
  Calls Tryz.prog 209 #[.pointer (some ⟨b, 0, none⟩)] w fun e w' => e = .returned (.tuple #[]) ∧ (BAt B b (.pointer (some ⟨b, 0, none⟩)) bs w' ∧ Below B w w' ∧ KeepT w w') := by
 rcases h with h | h
 ·refine (check_fresh b w h.cell0 h.shape h.frozen0).mono ?_
  rintro e w' ⟨rfl, rfl⟩
  exact ⟨rfl, h.used _, (Below.refl B w).setCell (p := ⟨b, 0, none⟩) h.1 _, fun g t cs h1 h2 h3 => h3.far (p := ⟨b, 0, none⟩) (bat_blk h h2 h3) _⟩
 ·refine (check_used b w h.cell0).mono ?_
  rintro e w' ⟨rfl, rfl⟩
  exact ⟨rfl, h, Below.refl B _, KeepT.refl _⟩
set_option maxHeartbeats 1000000 in
theorem writeString_keep (B b : Nat) (l : List UInt8) (s : ByteArray) (w : World) (h : BIs B b (bvals l) w) (hlen : l.length + s.size ≤ 140737488355328) (hBw : B ≤ w.heap.size) :
  Calls Tryz.prog 166 #[.pointer (some ⟨b, 0, none⟩), .string s] w fun e w' => e = .returned (.tuple #[.int .i64 s.size, .nilIface]) ∧ (BIs B b (bvals (l ++ s.data.toList)) w' ∧ Below B w w' ∧ KeepT w w') := by
 go_enter Tryz.func166, Tryz.ntmps166
 go_wp2_with (go_at_call 209; refine (copyCheck_keep B b (bvals l) _ h).mono ?_)
 rintro e w1 ⟨rfl, h1, hb1, hk1⟩
 obtain ⟨hB, v, hbk, hown, hne⟩ := h1
 have HBK : Hid (BAt B b (.pointer (some ⟨b, 0, none⟩)) (bvals l) w1) := ⟨hB, v, hbk, hown, hne⟩
 have hsz := hb1.size
 have c0 : w1.cell? ⟨b, 0, none⟩ = some (.pointer (some ⟨b, 0, none⟩)) := by rw [Lib.cell_of_heap hbk]; rfl
 have c1 : w1.cell? ⟨b, 1, none⟩ = some v := by rw [Lib.cell_of_heap hbk]; rfl
 have hbk1 := hid hbk
 rw [bvals_length] at hown
 have hlt : b < w1.heap.size := by
  rcases Nat.lt_or_ge b w1.heap.size with h' | h'
  ·exact h'
  ·simp [Array.getElem?_eq_none h'] at hbk
 have HB1 := hid hb1
 have HK1 := hid hk1
 have hvB : ∀ k, v.ownBlock = some k → B ≤ k := fun k hk => (hown.lt k hk).1
 have hown0 : w1.ownsRow 0 5 1 v l.length (bvals l) := own_low hown (fun _ _ => Nat.zero_le _)
 have HVB := hid hvB
 have HOW := hid hown0
 clear hbk hb1 hvB h hown hk1
 go_wp2_with (refine wpList_append_str rfl (.tmp 12) (.tmp 13) rfl v l s (by rfl) (by rfl) hown0 hlen ?_)
 intro v' w2 hown' hgrow hat
 have hb2 : w2.heap[b]? = some (.cells #[.pointer (some ⟨b, 0, none⟩), v] 242 (0, 0)) := by
  rw [hgrow.block b hlt (fun e => hne e.symm)]; exact hbk1.out
 have d0 : w2.cell? ⟨b, 0, none⟩ = some (.pointer (some ⟨b, 0, none⟩)) := by rw [Lib.cell_of_heap hb2]; rfl
 have d1 : w2.cell? ⟨b, 1, none⟩ = some v := by rw [Lib.cell_of_heap hb2]; rfl
 have f1 : w2.frozen? ⟨b, 1, none⟩ = false := Lib.frozen_of_heap hb2 1
 have hownB : w2.ownsRow B 5 1 v' (l.length + s.size) (bvals (l ++ s.data.toList)) := own_low hown' (fun k hk => by
  rcases hat with e | e
  ·exact HVB.out k (by rw [← e]; exact hk)
  ·rw [hk] at e; cases e; omega)
 obtain ⟨va, vc, rfl, -⟩ := own_slice hownB
 have HFIN : Hid (BIs B b (bvals (l ++ s.data.toList)) (w2.setCell ⟨b, 1, none⟩ (.slice va (l.length + s.size) vc)) ∧ Below B w (w2.setCell ⟨b, 1, none⟩ (.slice va (l.length + s.size) vc)) ∧ KeepT w (w2.setCell ⟨b, 1, none⟩ (.slice va (l.length + s.size) vc))) := by
  refine ⟨.inr (Lib.BuilderAt.put (T := 242) (e := 5) hB hb2 (bs' := bvals (l ++ s.data.toList)) (by rw [bvals_length, List.length_append, Array.length_toList]; exact hownB) (by decide)), ?_, ?_⟩
  ·exact ((HB1.out.grown hgrow (by omega) (fun k hk => HVB.out k hk)).setCell (p := ⟨b, 1, none⟩) hB _)
  ·intro g t cs h1 h2 h3
   have h4 := HK1.out g t cs h1 h2 h3
   exact (h4.grown hgrow (fun e => own_blk_ne HOW.out h4 (Ne.symm h1) e.symm)).far (p := ⟨b, 1, none⟩) (bat_blk HBK.out h2 h4) _
 clear hown' hownB hgrow hat hb2
 go_wp2
 go_ret2
 exact ⟨rfl, HFIN.out⟩
set_option maxHeartbeats 1000000 in
theorem writeByte_keep (B b : Nat) (l : List UInt8) (c : UInt8) (w : World) (h : BIs B b (bvals l) w) (hlen : l.length + 1 ≤ 140737488355328) (hBw : B ≤ w.heap.size) (ci : Int) (hci : ci = (c.toNat : Int)) :
  Calls Tryz.prog 165 #[.pointer (some ⟨b, 0, none⟩), .int .u8 ci] w fun e w' => e = .returned .nilIface ∧ (BIs B b (bvals (l ++ [c])) w' ∧ Below B w w' ∧ KeepT w w') := by
 obtain ⟨i0, hi, hz0, hz1, hz2⟩ := info_parts Tryz.infoB
 go_enter Tryz.func165, Tryz.ntmps165
 go_wp2_with (go_at_call 209; refine (copyCheck_keep B b (bvals l) _ h).mono ?_)
 rintro e w1 ⟨rfl, h1, hb1, hk1⟩
 obtain ⟨hB, v, hbk, hown, hne⟩ := h1
 have HBK : Hid (BAt B b (.pointer (some ⟨b, 0, none⟩)) (bvals l) w1) := ⟨hB, v, hbk, hown, hne⟩
 have hsz := hb1.size
 have HK1 := hid hk1
 have HOW := hid hown
 have HCI := hid hci
 have c0 : w1.cell? ⟨b, 0, none⟩ = some (.pointer (some ⟨b, 0, none⟩)) := by rw [Lib.cell_of_heap hbk]; rfl
 have c1 : w1.cell? ⟨b, 1, none⟩ = some v := by rw [Lib.cell_of_heap hbk]; rfl
 have hbk1 := hid hbk
 rw [bvals_length] at hown
 clear hci
 go_wp2_with (at_builtin; refine wpList_append_own _ rfl _ _ 59 rfl B 5 i0 (.int .u8 0) 1 1 Tryz.underlying59 hi hz0 hz1 hz2 rfl (by decide) _ _ _ rfl (hown.alloc _) ⟨w1.heap.size, 0, none⟩ 1 1 [.int .u8 ci] rfl rfl (cellNew1 _ _ _) (one_bytes rfl) (by unfold maxLen; omega) (by omega) (by simp; omega) ?_)
 intro v' w2 hown' hgrow _
 have hlt : b < w1.heap.size := by
  rcases Nat.lt_or_ge b w1.heap.size with h' | h'
  ·exact h'
  ·simp [Array.getElem?_eq_none h'] at hbk
 have hb2 : w2.heap[b]? = some (.cells #[.pointer (some ⟨b, 0, none⟩), v] 242 (0, 0)) := by
  rw [hgrow.block b (by simp; omega) (fun e => hne e.symm), heap_alloc_old w1 _ hlt]
  exact hbk
 have d0 : w2.cell? ⟨b, 0, none⟩ = some (.pointer (some ⟨b, 0, none⟩)) := by rw [Lib.cell_of_heap hb2]; rfl
 have d1 : w2.cell? ⟨b, 1, none⟩ = some v := by rw [Lib.cell_of_heap hb2]; rfl
 have f1 : w2.frozen? ⟨b, 1, none⟩ = false := Lib.frozen_of_heap hb2 1
 obtain ⟨g, cap, rfl⟩ : ∃ g cap, v' = .slice (some ⟨g, 0, none⟩) (l.length + 1) cap := by
  rcases hown'.2 with ⟨_, h0⟩ | ⟨g, cap, cur, hv, _⟩
  ·omega
  ·exact ⟨g, cap, hv⟩
 have HFIN : Hid (BIs B b (bvals (l ++ [c])) (w2.setCell ⟨b, 1, none⟩ (.slice (some ⟨g, 0, none⟩) (l.length + 1) cap)) ∧ Below B w (w2.setCell ⟨b, 1, none⟩ (.slice (some ⟨g, 0, none⟩) (l.length + 1) cap)) ∧ KeepT w (w2.setCell ⟨b, 1, none⟩ (.slice (some ⟨g, 0, none⟩) (l.length + 1) cap))) := by
  refine ⟨.inr (Lib.BuilderAt.put (T := 242) (e := 5) hB hb2 (bs' := bvals (l ++ [c])) ?_ (by decide)), ?_, ?_⟩
  ·rw [bvals_length, bvals_append, List.length_append]
   rw [HCI.out] at hown'
   exact hown'
  ·exact ((hb1.alloc (by omega) _).grown hgrow (by simp; omega) (fun k hk => (hown.lt k hk).1)).setCell (p := ⟨b, 1, none⟩) hB _
  ·intro g t cs h1 h2 h3
   have h4 := HK1.out g t cs h1 h2 h3
   exact ((h4.alloc _).grown hgrow (fun e => own_blk_ne HOW.out h4 (Ne.symm h1) e.symm)).far (p := ⟨b, 1, none⟩) (bat_blk HBK.out h2 h4) _
 go_wp2
 go_ret
 exact ⟨rfl, HFIN.out⟩
end Go.Proofs.YtmpjdoiogbbcoaaGreatDoor
