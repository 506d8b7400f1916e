/- Texts in a row: FactT, LkA, LkB, OrdM, OrdN, AllO, FactU, OrdG, Slog, SlogP. -/
import Derived.Test.YtmpjdoiogbbcoaaGreatDoorMgG
import Derived.Deep.DeepCutAuto
import Derived.Deep.CutBlock
import Derived.Maps.OwnIn
/- A commit's facts, whatever it came from: snap.Facts. -/
namespace Go.Proofs.YtmpjdoiogbbcoaaGreatDoor
open Go.RowKit Book Pap Ojt Sn Go.Deep
attribute [local go_sem] Oper.semAt_some
set_option linter.unusedVariables false
set_option linter.unusedSimpArgs false

def noFa : Fa := ⟨ByteArray.empty, 0, []⟩
/-- facts in memory and what they say -/
def FaAt (w : World) (fs : List Fc) (L : List Fa) : Prop := fs.length = L.length ∧ ∀ j, j < fs.length → (fs.getD j noFc).id = (L.getD j noFa).id ∧ (fs.getD j noFc).h = (L.getD j noFa).h ∧ StrsAt w (fs.getD j noFc).pa (fs.getD j noFc).pn (L.getD j noFa).ps
theorem FaAt.later {w w' : World} {fs : List Fc} {L : List Fa} (h : FaAt w fs L) (hb : Below w.heap.size w w') : FaAt w' fs L :=
 ⟨h.1, fun j hj => ⟨(h.2 j hj).1, (h.2 j hj).2.1, (h.2 j hj).2.2.later hb⟩⟩
/-- what Facts hands back -/
def FactsOut (w : World) (G : Sw.Src) (id : ByteArray) (e : Ending) (w' : World) : Prop :=
 ∃ er L a n c fs, FactsIs G id er L ∧ e = .returned (.tuple #[.slice a n c, .int .i64 er]) ∧ FcsAt w' a n fs ∧ FaAt w' fs L ∧ Below w.heap.size w w'
/-- parents in memory, apart from what may be written to -/
def PsAt (w : World) (M : Nat → Prop) (f : Fc) (ps : List ByteArray) : Prop := StrsAt w f.pa f.pn ps ∧ (f.pn = 0 ∨ ∃ b off, f.pa = some ⟨b, off, none⟩ ∧ ¬ M b ∧ b < w.heap.size)
theorem PsAt.step {w w' : World} {M M' F : Nat → Prop} {f : Fc} {ps : List ByteArray} (h : PsAt w M f ps) (ho : Only F w w') (hF : ∀ k, k < w.heap.size → F k → M k) (hM : ∀ k, k < w.heap.size → M' k → M k) : PsAt w' M' f ps := by
 obtain ⟨⟨h1, h2, h3⟩, h4⟩ := h
 rcases h4 with h4 | ⟨b, off, ha, hb, hl⟩
 ·exact ⟨⟨h1, h2, .inl h4⟩, .inl h4⟩
 ·refine ⟨⟨h1, h2, h3.imp id ?_⟩, .inr ⟨b, off, ha, fun e => hb (hM b hl e), Nat.lt_of_lt_of_le hl ho.size⟩⟩
  rintro ⟨b', off', ha', hc⟩
  refine ⟨b', off', ha', fun j hj => ?_⟩
  rw [ha] at ha'
  injection ha' with e
  injection e with e1 e2
  subst e1
  exact (World.cell?_of_block (a := ⟨b, off' + j, none⟩) (ho.block b hl (fun e => hb (hF b hl e)))).trans (hc j hj)
/-- the walk's state in memory -/
structure FInv (w wr : World) (G : Sw.Src) (id : ByteArray) (m : Nat) (er : Int) (a : Option Addr) (c : Nat) (td : List ByteArray) (ks vs : Value) (l : List ByteArray) (fs : List Fc) : Prop where
 went : Went G id l td er
 map : MapIsF wr m ks vs l fs
 que : QAt wr w.heap.size a td.length c td
 ids : fs.map (·.id) = l
 facts : ∀ f ∈ fs, f.h = (obF G f.id).height ∧ PsAt wr (fun k => MapF m ks vs k ∨ qF a c k) f (obF G f.id).pars
 sep : ∀ k, MapF m ks vs k → ¬ qF a c k
 low : ∀ k, MapF m ks vs k → w.heap.size ≤ k
 below : Below w.heap.size w wr
 few : td.length ≤ 8 * l.length + 1
theorem FInv.later {w wr w2 : World} {G : Sw.Src} {id : ByteArray} {m : Nat} {er : Int} {a : Option Addr} {c : Nat} {td : List ByteArray} {ks vs : Value} {l : List ByteArray} {fs : List Fc} (h : FInv w wr G id m er a c td ks vs l fs) (hb : Below wr.heap.size wr w2) : FInv w w2 G id m er a c td ks vs l fs := by
 have o : Only NoF wr w2 := Only.of_below hb NoF
 exact ⟨h.went, h.map.only o (fun _ _ e => e), h.que.only o (fun _ _ e => e), h.ids, fun f hf => ⟨(h.facts f hf).1, (h.facts f hf).2.step o (fun _ _ e => e.elim) (fun _ _ e => e)⟩, h.sep, h.low, below_then h.below hb, h.few⟩
theorem FInv.skip {w wr : World} {G : Sw.Src} {id x : ByteArray} {m : Nat} {er : Int} {a a' : Option Addr} {c c' : Nat} {td : List ByteArray} {ks vs : Value} {l : List ByteArray} {fs : List Fc} (h : FInv w wr G id m er a c (x :: td) ks vs l fs) (hin : x ∈ l) (hq : QAt wr w.heap.size a' td.length c' td) (hk : ∀ k, qF a' c' k → qF a c k) : FInv w wr G id m er a' c' td ks vs l fs := by
 refine ⟨h.went.skip hin, h.map, hq, h.ids, fun f hf => ⟨(h.facts f hf).1, (h.facts f hf).2.step (Only.refl NoF wr) (fun _ _ e => e.elim) (fun k _ e => e.imp (fun h => h) (hk k))⟩, fun k h1 h2 => h.sep k h1 (hk k h2), h.low, h.below, ?_⟩
 have := h.few
 rw [List.length_cons] at this
 omega
theorem FInv.cut {w wr : World} {G : Sw.Src} {id x : ByteArray} {m : Nat} {er : Int} {a a' : Option Addr} {c c' : Nat} {td : List ByteArray} {ks vs : Value} {l : List ByteArray} {fs : List Fc} (h : FInv w wr G id m er a c (x :: td) ks vs l fs) (hk : ∀ k, qF a' c' k → qF a c k) :
  (∀ f ∈ fs, f.h = (obF G f.id).height ∧ PsAt wr (fun k => MapF m ks vs k ∨ qF a' c' k) f (obF G f.id).pars) ∧ ∀ k, MapF m ks vs k → ¬ qF a' c' k :=
 ⟨fun f hf => ⟨(h.facts f hf).1, (h.facts f hf).2.step (Only.refl NoF wr) (fun _ _ e => e.elim) (fun k _ e => e.imp (fun h => h) (hk k))⟩, fun k h1 h2 => h.sep k h1 (hk k h2)⟩
/-- a new fact -/
theorem FInv.take {w w5 w6 w8 w9 w10 : World} {G : Sw.Src} {id x : ByteArray} {m : Nat} {er : Int} {a a' a'' : Option Addr} {c c' c'' : Nat} {td : List ByteArray} {ks vs ks' vs' : Value} {l : List ByteArray} {fs : List Fc} {pa : Option Addr} {pn pc : Nat}
  (h : FInv w w5 G id m er a c (x :: td) ks vs l fs) (hx : hasN l x = false) (hk : ∀ k, qF a' c' k → qF a c k) (h6 : Below w5.heap.size w5 w6) (hps : StrsAt w6 pa pn (obF G x).pars) (hpf : ∀ k, (Value.slice pa pn pc).ownBlock = some k → w5.heap.size ≤ k) (h8 : Below w6.heap.size w6 w8) (hpar : (obF G x).pars.length ≤ 8)
  (hm9 : MapIsF w9 m ks' vs' (putN l x) (putVF l fs x ⟨x, (obF G x).height, pa, pn, pc⟩)) (ho9 : Only (MapF m ks vs) w8 w9) (hk9 : ∀ k, MapF m ks' vs' k → MapF m ks vs k ∨ w8.heap.size ≤ k)
  (hq10 : QAt w10 w.heap.size a'' (td.length + pn) c'' (td ++ (obF G x).pars)) (ho10 : Only (qF a' c') w9 w10) (hk10 : ∀ k, qF a'' c'' k → qF a' c' k ∨ w9.heap.size ≤ k) :
  FInv w w10 G id m (worseZ er (errF G x)) a'' c'' (td ++ (obF G x).pars) ks' vs' (putN l x) (putVF l fs x ⟨x, (obF G x).height, pa, pn, pc⟩) := by
 obtain ⟨hfa, hsep⟩ := h.cut hk
 have hr := h.map.2.2.2.2.1
 have hpl : (obF G x).pars.length = pn := hps.1
 have s56 := h6.size
 have s68 := h8.size
 have s89 := ho9.size
 have s910 := ho10.size
 have sB := h.below.size
 have hlt : ∀ k, MapF m ks vs k → k < w5.heap.size := h.map.lt
 have hqlt : ∀ k, qF a' c' k → k < w5.heap.size := fun k e => (h.que.lt (hk k e)).2
 have hnot : x ∉ l := hasN_no.1 hx
 have hmlt : ∀ k, MapF m ks' vs' k → k < w9.heap.size := hm9.lt
 have hsep' : ∀ k, MapF m ks' vs' k → ¬ qF a'' c'' k := fun k h1 h2 => by
  have hk1 := hmlt k h1
  rcases hk10 k h2 with h3 | h3
  ·rcases hk9 k h1 with h4 | h4
   ·exact hsep k h4 h3
   ·have := hqlt k h3; omega
  ·omega
 have hm10 : MapIsF w10 m ks' vs' (putN l x) (putVF l fs x ⟨x, (obF G x).height, pa, pn, pc⟩) := hm9.only ho10 (fun k h1 h2 => by
  rcases hk9 k h1 with h4 | h4
  ·exact hsep k h4 h2
  ·have := hqlt k h2; omega)
 have eN : putN l x = l.take (posOf l x) ++ x :: l.drop (posOf l x) := by unfold putN; rw [if_neg (by simp [hx])]
 have hmem : ∀ q, q ∈ putN l x ↔ q ∈ l ∨ q = x := mem_putN hr x
 have hlen : (putN l x).length = l.length + 1 := by rw [eN, List.length_append, List.length_cons, List.length_take, List.length_drop]; have := posOf_le l x; omega
 refine ⟨h.went.take hmem (fun q => ?_) (fun q hq => ?_), hm10, ?_, ?_, ?_, hsep', fun k hk1 => ?_, ?_, ?_⟩
 ·rw [List.mem_append]
 ·exact (List.mem_append.1 hq).elim (fun h => .inr (.inr (.inl h))) (fun h => .inr (.inr (.inr h)))
 ·rw [List.length_append, hpl]; exact hq10
 ·unfold putVF
  rw [eN, List.map_append, List.map_cons, List.map_take, List.map_drop, h.ids]
 ·intro f hf
  unfold putVF at hf
  have hcase : f ∈ fs ∨ f = ⟨x, (obF G x).height, pa, pn, pc⟩ := by
   rcases List.mem_append.1 hf with h1 | h1
   ·exact .inl (List.mem_of_mem_take h1)
   ·rcases List.mem_cons.1 h1 with h1 | h1
    ·exact .inr h1
    ·exact .inl (List.mem_of_mem_drop h1)
  have hold : ∀ k, k < w8.heap.size → (MapF m ks' vs' k ∨ qF a'' c'' k) → (MapF m ks vs k ∨ qF a' c' k) := fun k hkl e => by
   rcases e with e | e
   ·rcases hk9 k e with h4 | h4
    ·exact .inl h4
    ·omega
   ·rcases hk10 k e with h4 | h4
    ·exact .inr h4
    ·omega
  rcases hcase with h1 | rfl
  ·obtain ⟨g1, g2⟩ := hfa f h1
   refine ⟨g1, ?_⟩
   have p6 := g2.step (M' := fun k => MapF m ks vs k ∨ qF a' c' k) (Only.of_below h6 NoF) (fun _ _ e => e.elim) (fun _ _ e => e)
   have p8 := p6.step (M' := fun k => MapF m ks vs k ∨ qF a' c' k) (Only.of_below h8 NoF) (fun _ _ e => e.elim) (fun _ _ e => e)
   have p9 := p8.step (M' := fun k => (MapF m ks' vs' k ∨ qF a'' c'' k) ∨ (MapF m ks vs k ∨ qF a' c' k)) ho9 (fun _ _ e => .inl e) (fun k hkl e => e.elim (hold k hkl) (fun e => e))
   exact p9.step ho10 (fun k hkl e => .inr (.inr e)) (fun k hkl e => .inl e)
  ·refine ⟨rfl, ?_⟩
   have p6 : PsAt w6 (fun k => MapF m ks vs k ∨ qF a' c' k) ⟨x, (obF G x).height, pa, pn, pc⟩ (obF G x).pars := by
    refine ⟨hps, ?_⟩
    rcases hps.2.2 with h0 | ⟨b, off, ha, hc⟩
    ·exact .inl h0
    ·by_cases h0 : pn = 0
     ·exact .inl h0
     ·have hbl := World.block_lt_of_cell? w6 _ (hc 0 (by omega))
      refine .inr ⟨b, off, ha, fun e => ?_, hbl⟩
      have hge := hpf b (by rw [ha]; rfl)
      rcases e with e | e
      ·have := hlt b e; omega
      ·have := hqlt b e; omega
   have p8 := p6.step (M' := fun k => MapF m ks vs k ∨ qF a' c' k) (Only.of_below h8 NoF) (fun _ _ e => e.elim) (fun _ _ e => e)
   have p9 := p8.step (M' := fun k => (MapF m ks' vs' k ∨ qF a'' c'' k) ∨ (MapF m ks vs k ∨ qF a' c' k)) ho9 (fun _ _ e => .inl e) (fun k hkl e => e.elim (hold k hkl) (fun e => e))
   exact p9.step ho10 (fun k hkl e => .inr (.inr e)) (fun k hkl e => .inl e)
 ·rcases hk9 k hk1 with h4 | h4
  ·exact h.low k h4
  ·omega
 ·have b8 : Below w.heap.size w w8 := below_then (below_then h.below h6) h8
  have b9 := b8.trans (ho9.below (fun k e => h.low k e) (by omega))
  exact b9.trans (ho10.below (fun k e => (h.que.lt (hk k e)).1) (by omega))
 ·have h2 := h.few
  rw [List.length_cons] at h2
  rw [List.length_append, hlen]; omega
end Go.Proofs.YtmpjdoiogbbcoaaGreatDoor
/- What an object names: how links stand to each other (object.Links$1). -/
namespace Go.Proofs.YtmpjdoiogbbcoaaGreatDoor
open Go.RowKit Book Pap Ojt Go.Sort
set_option linter.unusedVariables false
set_option linter.unusedSimpArgs false

end Go.Proofs.YtmpjdoiogbbcoaaGreatDoor
/- What an object names: an own slice of links sorted. -/
namespace Go.Proofs.YtmpjdoiogbbcoaaGreatDoor
open Go.RowKit Book Pap Ojt Go.Sort
set_option linter.unusedVariables false
set_option linter.unusedSimpArgs false

theorem cbytes_lt : ∀ a b : List UInt8, Lib.compareBytes a b = if Op.bytesLess a b = true then -1 else if a = b then 0 else 1
 | [], [] => rfl
 | [], _ :: _ => rfl
 | _ :: _, [] => rfl
 | a :: x, b :: y => by
  unfold Lib.compareBytes Op.bytesLess
  rw [cbytes_lt x y]
  by_cases h1 : a < b
  ·simp [h1]
  ·by_cases h2 : b < a
   ·have hne : ¬ a = b := fun e => h1 (by subst e; exact absurd h2 (UInt8.lt_irrefl a))
    simp [h1, h2, hne]
   ·have he : a = b := UInt8.le_antisymm (UInt8.not_lt.1 h2) (UInt8.not_lt.1 h1)
    subst he
    simp
theorem cbytes_neg (a b : ByteArray) : Lib.compareBytes a.data.toList b.data.toList = if lt' a b = true then -1 else if a = b then 0 else 1 := by
 rw [cbytes_lt]
 unfold lt'
 rw [ba_toList, ba_toList]
 by_cases h : a = b
 ·subst h; rw [if_pos rfl, if_pos rfl]
 ·have h2 : ¬ a.data.toList = b.data.toList := fun e => h (ba_ext e)
  rw [if_neg h, if_neg h2]
end Go.Proofs.YtmpjdoiogbbcoaaGreatDoor
/- How commits stand, whatever they came from: the order of facts (plain), isRight, an own list of facts sorted. -/
namespace Go.Proofs.YtmpjdoiogbbcoaaGreatDoor
open Go.RowKit Book Pap Ojt Sn Go.Sort
set_option linter.unusedVariables false
set_option linter.unusedSimpArgs false

/-- one stands above another one: higher, or as high with a greater id -/
def upK (h : Int) (a : ByteArray) (h2 : Int) (b : ByteArray) : Bool := decide (h2 < h) || (decide (h2 = h) && lt' b a)
theorem upK_irr (h : Int) (a : ByteArray) : upK h a h a = false := by
 unfold upK; simp [lt_irr]
theorem upK_trans {h1 h2 h3 : Int} {a b c : ByteArray} (x : upK h1 a h2 b = true) (y : upK h2 b h3 c = true) : upK h1 a h3 c = true := by
 unfold upK at *
 simp only [Bool.or_eq_true, Bool.and_eq_true, decide_eq_true_eq] at *
 rcases x with x | ⟨x, x'⟩ <;> rcases y with y | ⟨y, y'⟩
 ·exact .inl (by omega)
 ·exact .inl (by omega)
 ·exact .inl (by omega)
 ·exact .inr ⟨by omega, Go.Proofs.YtmpjdoiogbbcoaaGreatDoor.lt_trans y' x'⟩
theorem upK_tri {h1 h2 : Int} {a b : ByteArray} (x : upK h1 a h2 b = false) (y : upK h2 b h1 a = false) : h1 = h2 ∧ a = b := by
 unfold upK at *
 simp only [Bool.or_eq_false_iff, Bool.and_eq_false_iff, decide_eq_false_iff_not] at *
 have e : h1 = h2 := by omega
 subst e
 refine ⟨rfl, ?_⟩
 rcases x.2 with h | h
 ·exact absurd rfl h
 ·rcases y.2 with h' | h'
  ·exact absurd rfl h'
  ·exact lt_tri h' h
theorem upK_cmp (f g : Fc) : decide (cmpZ g f < 0) = upK f.h f.id g.h g.id := by
 unfold cmpZ orZ upK Lib.compareInt
 rw [cbytes_neg]
 by_cases h1 : g.h < f.h
 ·simp [h1]
 ·by_cases h2 : g.h > f.h
  ·have h3 : ¬ g.h = f.h := by omega
   simp [h1, h2, h3]
  ·have h3 : g.h = f.h := by omega
   simp only [h1, h2, h3, if_false, decide_true, Bool.true_and, decide_false, Bool.false_or]
   by_cases h4 : lt' g.id f.id = true
   ·simp [h4]
   ·by_cases h5 : g.id = f.id
    ·simp [h4, h5, lt_irr]
    ·simp [h4, h5]
/-- .. of ids with heights -/
def upQ (hk : ByteArray → Int) (p q : ByteArray) : Bool := upK (hk p) p (hk q) q
theorem upQ_tri {hk : ByteArray → Int} {p q : ByteArray} (x : upQ hk p q = false) (y : upQ hk q p = false) : p = q := (upK_tri x y).2
theorem upQ_ntrans {hk : ByteArray → Int} {x y z : ByteArray} (h1 : upQ hk x y = false) (h2 : upQ hk y z = false) : upQ hk x z = false := by
 by_cases h : upQ hk x z = true
 ·cases hyx : upQ hk y x
  ·obtain rfl := upQ_tri h1 hyx
   rw [h2] at h; cases h
  ·have := upK_trans hyx h
   unfold upQ at h2
   rw [h2] at this; cases this
 ·exact Bool.not_eq_true _ ▸ h
theorem upQ_one {hk : ByteArray → Int} {l m : List ByteArray} (hl : l.Pairwise (fun a b => upQ hk a b = true)) (hm : m.Pairwise (fun a b => upQ hk a b = true)) (h : ∀ q, q ∈ l ↔ q ∈ m) : l = m :=
 pw_ext (R := fun a b => upQ hk a b = true) (fun a h => by have h' : upQ hk a a = true := h; have : upQ hk a a = false := upK_irr _ _; rw [this] at h'; cases h') (fun a b c h1 h2 => upK_trans (h1 := hk a) (h2 := hk b) (h3 := hk c) h1 h2) l m hl hm h
/-- a list of ids, the greatest first -/
def sortD (hk : ByteArray → Int) (l : List ByteArray) : List ByteArray := l.mergeSort fun x y => !(upQ hk) y x
theorem sortD_mem (hk : ByteArray → Int) (l : List ByteArray) (q : ByteArray) : q ∈ sortD hk l ↔ q ∈ l := List.mem_mergeSort
theorem sortD_len (hk : ByteArray → Int) (l : List ByteArray) : (sortD hk l).length = l.length := List.length_mergeSort ..
theorem sortD_pw (hk : ByteArray → Int) {l : List ByteArray} (hn : l.Nodup) : (sortD hk l).Pairwise (fun a b => upQ hk a b = true) := by
 have hp := List.pairwise_mergeSort (le := fun x y : ByteArray => !(upQ hk) y x) (fun a b c h1 h2 => by
  simp only [Bool.not_eq_true'] at *
  exact upQ_ntrans h2 h1) (fun a b => by
  cases h : upQ hk b a
  ·simp
  ·have h2 : upQ hk a b = false := by
    cases h3 : upQ hk a b
    ·rfl
    ·have h4 : upQ hk b b = true := upK_trans h h3
     have h5 : upQ hk b b = false := upK_irr _ _
     rw [h5] at h4; cases h4
   simp [h2]) l
 have hnd : (sortD hk l).Nodup := (List.mergeSort_perm l _).nodup_iff.2 hn
 refine (hp.and hnd).imp ?_
 rintro a b ⟨h1, hne⟩
 simp only [Bool.not_eq_true'] at h1
 cases h3 : upQ hk a b
 ·exact absurd (upQ_tri h3 h1) hne
 ·rfl
/-- an own slice of facts sorted: F tells the fact of an id -/
theorem sortFc_own (F : ByteArray → Fc) (hF : ∀ q, (F q).id = q) (B n : Nat) (v : Value) (l : List ByteArray) (w : World) (h : w.ownsRow B 66 3 v n (fvals (l.map F))) (hn : n ≤ 1000000) :
  Calls Tryz.prog 148 #[v, .func (.func 149) #[] #[]] w fun e w' => e = .returned (.tuple #[]) ∧ w'.ownsRow B 66 3 v n (fvals ((sortD (fun q => (F q).h) l).map F)) ∧ w.grownBy w' v.ownBlock := by
 haveI : Inhabited ByteArray := ⟨ByteArray.empty⟩
 have e1 : ∀ p q : ByteArray, ltOf (fun p q => cmpZ (F q) (F p)) p q = upQ (fun q => (F q).h) p q := fun p q => by
  unfold ltOf
  rw [upK_cmp, hF, hF]; rfl
 have e2 : (ltOf (fun p q => cmpZ (F q) (F p)) : ByteArray → ByteArray → Bool) = upQ (fun q => (F q).h) := by funext p q; exact e1 p q
 have hSW : SWO (ltOf (fun p q => cmpZ (F q) (F p)) : ByteArray → ByteArray → Bool) := by
  rw [e2]
  exact ⟨fun x => upK_irr _ _, fun x y z h1 h2 => upK_trans h1 h2, fun x y z h1 h2 => upQ_ntrans h1 h2⟩
 have hfl : ∀ l : List ByteArray, l.flatMap (fun q => fcs (F q)) = fvals (l.map F) := fun l => by unfold fvals; rw [List.flatMap_map]
 refine (sortK_own Tryz.sortF148 3 (by decide) Tryz.isAgg66 Tryz.sizeOf66 (fun q : ByteArray => fcs (F q)) (fun x => rfl) (fun x u hu => by simp [fcs] at hu; rcases hu with rfl | rfl | rfl <;> rfl) (fun p q => cmpZ (F q) (F p)) hSW (fun x y h1 h2 => by rw [e2] at h1 h2; exact upQ_tri h1 h2) 149 #[] B n v l w
  (enters_of Tryz.func149 (by kernel_rfl) rfl) (fun W hg x y => ?_) (by rw [hfl]; exact h) hn).mono ?_
 ·refine (met1_any (F x) (F y) W).mono ?_
  rintro e w' ⟨rfl, q, os, rfl⟩
  exact ⟨rfl, q, os, rfl⟩
 ·rintro e w' ⟨rfl, h1, h2⟩
  refine ⟨rfl, ?_, h2⟩
  rw [hfl, e2] at h1
  exact h1
theorem fcMap_get1 {w : World} {m n : Nat} {f : ByteArray → Option Fc} (h : FcMap w m n f) (s : ByteArray) (hs : s.size ≤ maxLen) : (Instr.lookup 169 (.map (some m)) (.string s) false).run Tryz.prog w = .ok (valF ((f s).getD noFc)) w :=
 MapFn.get1 Tryz.underlying9 Tryz.underlying169 valF_inj datF_inj (z0 := noFc) zeroFc h s hs
theorem field_h (s : ByteArray) (h : Int) (ps : Option Addr) (pn pc : Nat) (w : World) : (Instr.field 66 (.agg #[.string s, .int .i64 h, .slice ps pn pc]) 1).run Tryz.prog w = .ok (.int .i64 h) w := by
 kernel_rfl
set_option maxRecDepth 100000 in
set_option maxHeartbeats 8000000 in
theorem isRight_any (m n : Nat) (fs : List Fc) (f : Fc) (ps : List ByteArray) (w : World) (hm : FcMap w m n (tabF fs)) (hp : StrsAt w f.pa f.pn ps) (hpn : f.pn ≤ 100000) (hsz : ∀ p ∈ ps, p.size ≤ maxLen) (hh : ∀ p ∈ ps, 0 ≤ ((tabF fs p).getD noFc).h ∧ ((tabF fs p).getD noFc).h ≤ 1073741824) :
  Calls Tryz.prog 90 #[.map (some m), valF f] w fun e w' => e = .returned (.bool (f.h == heightL (ps.map (fun p => ((tabF fs p).getD noFc).h)))) ∧ Below w.heap.size w w' := by
 obtain ⟨i0, hi0, hz0, hz1, hz2⟩ := info_parts Tryz.infoInt15
 obtain ⟨fi, fh, fa, fn, fc⟩ := f
 simp only at hp hpn ⊢
 have e1 : valF ⟨fi, fh, fa, fn, fc⟩ = .agg #[.string fi, .int .i64 fh, .slice fa fn fc] := rfl
 rw [e1]
 clear e1
 have HX : Hid (Blk (w.alloc (.cells #[.string fi, .int .i64 fh, .slice fa fn fc] 66)) w.heap.size 66 #[.string fi, .int .i64 fh, .slice fa fn fc]) := Blk.new w _ _
 have HB : Hid (Below w.heap.size w (w.alloc (.cells #[.string fi, .int .i64 fh, .slice fa fn fc] 66))) := (Below.refl _ _).alloc (Nat.le_refl _) _
 have HM : Hid (FcMap (w.alloc (.cells #[.string fi, .int .i64 fh, .slice fa fn fc] 66)) m n (tabF fs)) := hm.later HB.out
 have HP : Hid (StrsAt (w.alloc (.cells #[.string fi, .int .i64 fh, .slice fa fn fc] 66)) fa fn ps) := hp.later HB.out
 have HSZ := hid hsz
 have hlen := hp.1
 have hxl : (ps.map (fun p => ((tabF fs p).getD noFc).h)).length = fn := by rw [List.length_map]; exact hlen
 have HXG : Hid (∀ i, i < fn → (ps.map (fun p => ((tabF fs p).getD noFc).h)).getD i 0 = ((tabF fs (ps.getD i ByteArray.empty)).getD noFc).h) := fun i hi => by
  rw [List.getD_eq_getElem?_getD, List.getElem?_map, List.getD_eq_getElem?_getD, List.getElem?_eq_getElem (by omega)]; rfl
 have HH0 : Hid (∀ z ∈ ps.map (fun p => ((tabF fs p).getD noFc).h), 0 ≤ z ∧ z ≤ 1073741824) := fun z hz => by
  obtain ⟨p, hp1, rfl⟩ := List.mem_map.1 hz
  exact hh p hp1
 obtain ⟨H, hH⟩ : ∃ H, ps.map (fun p => ((tabF fs p).getD noFc).h) = H := ⟨_, rfl⟩
 rw [hH] at hxl HXG HH0 ⊢
 have HXL := hid hxl
 have HLEN := hid hlen
 clear hm hp hsz hh hH hxl hlen
 go_enter Tryz.func90, Tryz.ntmps90
 go_upto_region 1 with fail
 generalize (w.alloc (.cells #[.string fi, .int .i64 fh, .slice fa fn fc] 66)) = w1 at HX HB HM HP ⊢
 generalize hg : w.heap.size = g at HX HB ⊢
 have k2 : w1.cell? ⟨g, 2, none⟩ = some (.slice fa fn fc) := Blk.cell HX.out 2
 go_wp2_with fail
 clear k2
 go_loopw [11, 5] (fun iv hv wr => ∃ i va vc, i ≤ fn ∧ iv = .int .i64 i ∧ hv = .slice va i vc ∧ Hid (wr.ownsRow w1.heap.size 3 1 (.slice va i vc) i (nvals (H.take i))) ∧ Hid (Below w1.heap.size w1 wr)) (fun iv _ _ => fn - (intOf iv).toNat)
 case atStart => exact ⟨0, none, 0, Nat.zero_le _, rfl, rfl, World.ownsRow_nil _ _ _ _, Below.refl _ _⟩
 case round =>
  obtain ⟨i, va, vc, hi, rfl, rfl, HO, HBR⟩ := hrel
  by_cases hlt : i < fn
  ·have ci : (i : Int) < fn := by omega
   have ci0 : (0 : Int) ≤ (i : Int) := by omega
   obtain ⟨-, -, h3⟩ := HP.out.later HBR.out
   obtain ⟨pb, poff, rfl, hcell⟩ := h3.resolve_left (by omega)
   have q0 := hcell i hlt
   have hil : i < ps.length := by rw [HLEN.out]; exact hlt
   have hps : (ps.getD i ByteArray.empty).size ≤ maxLen := HSZ.out _ (by rw [List.getD_eq_getElem?_getD, List.getElem?_eq_getElem hil]; exact List.getElem_mem hil)
   have hlk := fcMap_get1 (HM.out.later HBR.out) _ hps
   have HT : Hid (nvals (H.take (i + 1)) = nvals (H.take i) ++ [.int .i64 ((tabF fs (ps.getD i ByteArray.empty)).getD noFc).h]) := by
    show _ = _
    have hiH : i < H.length := by rw [HXL.out]; exact hlt
    have e := HXG.out i hlt
    rw [List.getD_eq_getElem?_getD, List.getElem?_eq_getElem hiH] at e
    rw [List.take_succ_eq_append_getElem hiH, nvals_append, ← e]; rfl
   obtain ⟨p, hpe⟩ : ∃ p, ps.getD i ByteArray.empty = p := ⟨_, rfl⟩
   rw [hpe] at q0 hlk HT
   obtain ⟨⟨xi, xh, xa, xn, xc⟩, hxe⟩ : ∃ x, (tabF fs p).getD noFc = x := ⟨_, rfl⟩
   rw [hxe] at hlk HT
   have ev : valF ⟨xi, xh, xa, xn, xc⟩ = .agg #[.string xi, .int .i64 xh, .slice xa xn xc] := rfl
   rw [ev] at hlk
   simp only at HT
   have hfd := fun W => field_h xi xh xa xn xc W
   have hsr := HBR.out.size
   clear hcell h3 hps hpe hxe ev hil
   go_wp2_with (first
    | (at_builtin; refine wpList_append_own _ rfl (.tmp 15) (.tmp 20) 52 rfl w1.heap.size 3 i0 (.int .i64 0) 1 8 Tryz.underlying52 hi0 hz0 hz1 hz2 rfl (by decide) (.slice va i vc) _ _ rfl (HO.out.alloc _) ⟨wr.heap.size, 0, none⟩ 1 1 [.int .i64 xh] rfl rfl (cellNew1 _ _ _) (one_bytes rfl) (by unfold maxLen; omega) (by omega) (by rw [World.size_alloc]; omega) ?_; intro v' w9 hown' hgrow _; have HOWN := hid hown'; have HGR := hid hgrow; clear hown' hgrow))
   obtain ⟨va', vc', rfl, hvc'⟩ := own_slice' HOWN.out
   have HO9 : Hid (w9.ownsRow w1.heap.size 3 1 (.slice va' (i + 1) vc') (i + 1) (nvals (H.take (i + 1)))) := by
    rw [HT.out]; exact HOWN.out
   have HB9 : Hid (Below w1.heap.size w1 w9) := below_grown1 HBR.out HO.out _ hsr HGR.out
   go_roundw
   case rel => first | exact ⟨i + 1, va', vc', by omega, by go_num, rfl, HO9, HB9⟩ | ((repeat apply Exists.intro); exact ⟨⟨i + 1, va', vc', by omega, by go_num, rfl, HO9, HB9⟩, rfl⟩)
   case measure => simp [intOf]; omega
  ·obtain rfl : i = fn := by omega
   have ci : ¬ (i : Int) < i := by omega
   have hfull : H.take i = H := List.take_of_length_le (by rw [HXL.out]; exact Nat.le_refl _)
   have HNS : Hid (NumsAt wr va i H) := by
    have h := HO.out
    rw [hfull] at h
    exact own_nums h
   have HHT := hid (fun q => objheight_any va i vc H (wr.drewN q) HNS.out (by omega) (fun z hz => by have := HH0.out z hz; omega))
   have HX9 : Hid (Blk wr g 66 #[.string fi, .int .i64 fh, .slice fa i fc]) := (HBR.out.block g (Blk.lt HX.out)).trans HX.out
   have k1 : wr.cell? ⟨g, 1, none⟩ = some (.int .i64 fh) := Blk.cell HX9.out 1
   have HB9 : Hid (Below g w wr) := HB.out.trans (HBR.out.mono (by rw [← hg]; exact HB.out.size))
   clear hfull
   go_wp2_with fail
   go_quiet (first | (go_at_call 56; exact Calls.quiet_of_same ((HHT.out _).mono fun _ _ h => ⟨h.1, h.2.symm⟩)))
   go_wp2_with fail
   go_ret
   exact ⟨rfl, by rw [hg]; exact below_drewN HB9.out _⟩
end Go.Proofs.YtmpjdoiogbbcoaaGreatDoor
/- All facts that are met from one on: order.met. -/
namespace Go.Proofs.YtmpjdoiogbbcoaaGreatDoor
open Go.RowKit Book Pap Ojt Sn Go.Sort
set_option linter.unusedVariables false
set_option linter.unusedSimpArgs false

def seenF (A : List ByteArray) : ByteArray → Option Bool := fun q => if hasN A q = true then some true else none
theorem seenF_snoc (A : List ByteArray) (p : ByteArray) : seenF (A ++ [p]) = fun q => if q = p then some true else seenF A q := by
 funext q
 unfold seenF
 by_cases h : q = p
 ·subst h
  rw [if_pos rfl, if_pos (hasN_iff.2 (by simp))]
 ·rw [if_neg h]
  cases hA : hasN A q
  ·have h2 : hasN (A ++ [p]) q = false := hasN_no.2 (fun hm => by
    rcases List.mem_append.1 hm with hm | hm
    ·exact hasN_no.1 hA hm
    ·exact h (List.mem_singleton.1 hm))
   rw [h2]
  ·have h2 : hasN (A ++ [p]) q = true := hasN_iff.2 (List.mem_append.2 (.inl (hasN_iff.1 hA)))
   rw [h2]
theorem zeroBo (w : World) : (zeroValue 4).run Tryz.prog w = .ok (.bool false) w := by kernel_rfl
theorem boMap_get1 {w : World} {m n : Nat} {f : ByteArray → Option Bool} (h : BoMap w m n f) (s : ByteArray) (hs : s.size ≤ maxLen) : (Instr.lookup 225 (.map (some m)) (.string s) false).run Tryz.prog w = .ok (.bool ((f s).getD false)) w :=
 MapFn.get1 Tryz.underlying9 Tryz.underlying225 valB_inj (fun x y h => by injection h with h; injection h) (z0 := false) zeroBo h s hs
/-- the walk's state -/
structure MInv (w wr : World) (F : ByteArray → Fc) (l : List ByteArray) (id : ByteArray) (m2 : Nat) (A : List ByteArray) (va : Option Addr) (vc : Nat) : Prop where
 nd : A.Nodup
 sub : ∀ q ∈ A, q ∈ l
 has : id ∈ A
 row : wr.ownsRow w.heap.size 66 3 (.slice va A.length vc) A.length (fvals (A.map F))
 seen : BoMap wr m2 A.length (seenF A)
 low : w.heap.size ≤ m2
 below : Below w.heap.size w wr
theorem MInv.later {w wr w2 : World} {F : ByteArray → Fc} {l : List ByteArray} {id : ByteArray} {m2 : Nat} {A : List ByteArray} {va : Option Addr} {vc : Nat} (h : MInv w wr F l id m2 A va vc) (hb : Below wr.heap.size wr w2) : MInv w w2 F l id m2 A va vc :=
 ⟨h.nd, h.sub, h.has, own_below h.row hb, h.seen.later hb, h.low, below_then h.below hb⟩
theorem fvals_snoc (F : ByteArray → Fc) (A : List ByteArray) (p : ByteArray) : fvals ((A ++ [p]).map F) = fvals (A.map F) ++ [.string (F p).id, .int .i64 (F p).h, .slice (F p).pa (F p).pn (F p).pc] := by
 rw [List.map_append, fvals_append]; rfl
/-- what met hands back -/
def MetOut (w : World) (F : ByteArray → Fc) (l : List ByteArray) (e : Ending) (w' : World) : Prop :=
 ∃ S a c, e = .returned (.tuple #[.slice a (List.length S) c, .int .i64 0]) ∧ w'.ownsRow w.heap.size 66 3 (.slice a S.length c) S.length (fvals (S.map F)) ∧ S.Pairwise (fun p q => upQ (fun q => (F q).h) p q = true) ∧ (∀ q, q ∈ S ↔ q ∈ l) ∧ Below w.heap.size w w'
theorem met_all {G : Sw.Src} {id : ByteArray} {A l : List ByteArray} (hl : ∀ q, q ∈ l ↔ Rch G id q) (h1 : id ∈ A) (h2 : ∀ q ∈ A, ∀ p ∈ (obF G q).pars, p ∈ A) (h3 : ∀ q ∈ A, q ∈ l) (q : ByteArray) : q ∈ A ↔ q ∈ l := by
 refine ⟨h3 q, fun h => ?_⟩
 have hr := (hl q).1 h
 clear h
 induction hr with
 | root => exact h1
 | step _ hp ih => exact h2 _ ih _ hp
set_option maxRecDepth 100000 in
set_option maxHeartbeats 16000000 in
theorem met_any (G : Sw.Src) (id : ByteArray) (l : List ByteArray) (hl : ∀ q, q ∈ l ↔ Rch G id q) (hl6 : l.length ≤ 500000) (m n : Nat) (fs : List Fc) (F : ByteArray → Fc) (hF : ∀ q, (F q).id = q) (hT : ∀ q ∈ l, tabF fs q = some (F q)) (hsz : ∀ q ∈ l, q.size ≤ maxLen)
  (w : World) (hm : FcMap w m n (tabF fs)) (hp : ∀ q ∈ l, StrsAt w (F q).pa (F q).pn (obF G q).pars) :
  Calls Tryz.prog 89 #[.map (some m), .string id] w (MetOut w F l) := by
 have hmk : ∀ (T : TypeId) (W : World), (Instr.makeMap T none).run Tryz.prog W = .ok (.map (some W.heap.size)) (W.alloc (.map #[] 0)) := fun T W => run_makeMap T W
 have hid0 : id ∈ l := (hl id).2 .root
 have hids : id.size ≤ maxLen := hsz id hid0
 have hlk := fcMap_get2 hm id hids
 rw [hT id hid0] at hlk
 have hF0 := hF id
 have HL := hid hl; have HT := hid hT; have HSZ := hid hsz; have HF := hid hF; have HM := hid hm; have HP := hid hp
 clear hl hT hsz hF hm hp
 obtain ⟨f0, hf0⟩ : ∃ f0, F id = f0 := ⟨_, rfl⟩
 rw [hf0] at hlk hF0
 obtain ⟨fi, fh, fa, fn, fc⟩ := f0
 simp only at hF0
 subst hF0
 have ev : valF ((some (⟨fi, fh, fa, fn, fc⟩ : Fc)).getD noFc) = .agg #[.string fi, .int .i64 fh, .slice fa fn fc] := rfl
 rw [ev] at hlk
 simp only [Option.isSome_some] at hlk
 clear ev
 have HF0 := hid hf0
 have HID := hid hid0
 clear hf0 hid0
 have HX : Hid (Blk (w.alloc (.cells #[.string fi, .int .i64 fh, .slice fa fn fc] 66)) w.heap.size 66 #[.string fi, .int .i64 fh, .slice fa fn fc]) := Blk.new w _ _
 have HB : Hid (Below w.heap.size w (w.alloc (.cells #[.string fi, .int .i64 fh, .slice fa fn fc] 66))) := (Below.refl _ _).alloc (Nat.le_refl _) _
 go_enter Tryz.func89, Tryz.ntmps89
 go_upto_region 2 with fail
 generalize (w.alloc (.cells #[.string fi, .int .i64 fh, .slice fa fn fc] 66)) = w1 at HX HB ⊢
 clear hlk
 have hgl : w.heap.size ≤ w1.heap.size := HB.out.size
 have hg1 : w.heap.size < w1.heap.size := Blk.lt HX.out
 have HM2 : Hid (BoMap (w1.alloc (.map #[] 0)) w1.heap.size 0 (fun _ => none)) := MapFn.made w1
 have HX2 : Hid (Blk (w1.alloc (.map #[] 0)) w.heap.size 66 #[.string fi, .int .i64 fh, .slice fa fn fc]) := Blk.alloc HX.out _
 have HB2 : Hid (Below w.heap.size w (w1.alloc (.map #[] 0))) := HB.out.alloc hgl _
 go_upto_region 5 with (first
  | (refine wpList_mapFn_ins rfl (.tmp 23) (.tmp 24) (.const (.bool true)) 225 rfl Tryz.underlying9 Tryz.underlying225 valB_inj HM2.out (by unfold maxLen; omega) fi hids true rfl rfl rfl ?_; intro w6 hm6 hg6; have HG6 := hid hg6; have HM6 := hid hm6; clear hm6 hg6)
  | go_in)
 have HX6 : Hid (Blk w6 w.heap.size 66 #[.string fi, .int .i64 fh, .slice fa fn fc]) := (HG6.out.block w.heap.size (by rw [World.size_alloc]; omega) (by intro e; injection e with e; omega)).trans HX2.out
 have HB6 : Hid (Below w.heap.size w w6) := HB2.out.grown HG6.out (by rw [World.size_alloc]; omega) (fun j hj => by cases hj; exact hgl)
 have hs6 : w1.heap.size < w6.heap.size := by have := HG6.out.size; rw [World.size_alloc] at this; omega
 clear HG6 HM2 HX2 HB2 HX HB
 generalize w1.heap.size = m2 at HM6 hgl hg1 hs6 ⊢
 have k0 : w6.cell? ⟨w.heap.size, 0, none⟩ = some (.string fi) := Blk.cell HX6.out 0
 have k1 : w6.cell? ⟨w.heap.size, 1, none⟩ = some (.int .i64 fh) := Blk.cell HX6.out 1
 have k2 : w6.cell? ⟨w.heap.size, 2, none⟩ = some (.slice fa fn fc) := Blk.cell HX6.out 2
 go_upto_region 6 with fail
 have HI7 : Hid (MInv w (w6.alloc (.cells #[.string fi, .int .i64 fh, .slice fa fn fc] 66)) F l fi m2 [fi] (some ⟨w6.heap.size, 0, none⟩) 1) := by
  have hlow : w.heap.size ≤ w6.heap.size := by omega
  refine ⟨by simp, fun q hq => by rw [List.mem_singleton.1 hq]; exact HID.out, List.mem_singleton.2 rfl, ⟨rfl, .inr ⟨w6.heap.size, 1, _, rfl, hlow, Blk.new w6 _ _, Nat.le_refl _, by unfold maxLen; omega, rfl, ?_⟩⟩, ?_, hgl, HB6.out.alloc hlow _⟩
  ·simp only [List.map_cons, List.map_nil, HF0.out]; rfl
  ·have e : seenF [fi] = fun q => if q = fi then some true else none := by
    have := seenF_snoc [] fi
    rw [List.nil_append] at this
    rw [this]; funext q; split
    ·rfl
    ·rfl
   rw [e]
   exact HM6.out.later ((Below.refl _ _).alloc (Nat.le_refl _) _)
 clear k0 k1 k2 HX6 HB6 HM6
 generalize (w6.alloc (.cells #[.string fi, .int .i64 fh, .slice fa fn fc] 66)) = w7 at HI7 ⊢
 generalize w6.heap.size = e7 at HI7 hs6 ⊢
 go_wp2_with fail
 go_loopw [10, 9] (fun iv av wr => ∃ i A va vc, i ≤ List.length A ∧ iv = .int .i64 i ∧ av = .slice va (List.length A) vc ∧ Hid (MInv w wr F l fi m2 A va vc) ∧ Hid (∀ q ∈ A.take i, ∀ p ∈ (obF G q).pars, p ∈ A)) (fun iv _ _ => l.length - (intOf iv).toNat)
 case atStart => exact ⟨0, [fi], _, _, Nat.zero_le _, rfl, rfl, HI7, fun q hq => by simp at hq⟩
 case round =>
  obtain ⟨i, A0, va, vc, hi, rfl, rfl, HI, HC⟩ := hrel
  have hAl : A0.length ≤ l.length := nodup_le HI.out.nd HI.out.sub
  by_cases hlt : i < A0.length
  ·have ci : (i : Int) < A0.length := by omega
   have ci0 : (0 : Int) ≤ (i : Int) := by omega
   obtain ⟨x, hx⟩ : ∃ x, A0[i] = x := ⟨_, rfl⟩
   have hxA : x ∈ A0 := by rw [← hx]; exact List.getElem_mem hlt
   have hxl : x ∈ l := HI.out.sub x hxA
   obtain ⟨g1, d1, e1, _, _⟩ := HI.out.row.form (by omega)
   injection e1 with e11 _ e12
   subst e11
   have q2 := HI.out.row.cellAt (i * 3 + 2) (by omega)
   have hgd : (A0.map F).getD i noFc = F x := by
    rw [List.getD_eq_getElem?_getD, List.getElem?_map, List.getElem?_eq_getElem hlt, hx]; rfl
   rw [fvals_get (A0.map F) i 2 (by rw [List.length_map]; exact hlt) (by omega), hgd] at q2
   have HPX := hid (HP.out x hxl)
   have HX0 := hid hx
   have HXA := hid hxA
   have HXL := hid hxl
   obtain ⟨⟨xi, xh, xa, xn, xc⟩, hfx⟩ : ∃ f, F x = f := ⟨_, rfl⟩
   rw [hfx] at q2 HPX
   simp only at HPX
   replace q2 : wr.cell? ⟨g1, i * 3 + 2, none⟩ = some (.slice xa xn xc) := q2
   clear hx hgd hfx e12 hxA hxl
   go_wp2_with fail
   clear q2
   have hA0l := hAl
   have hx63 : xn ≤ 9223372036854775807 := HPX.out.2.1
   go_loopw [40, 9] (fun jv av wr => ∃ k A va vc, k ≤ xn ∧ jv = .int .i64 k ∧ av = .slice va (List.length A) vc ∧ Hid (MInv w wr F l fi m2 A va vc) ∧ Hid (A0 <+: A) ∧ Hid (∀ p ∈ (obF G x).pars.take k, p ∈ A)) (fun jv _ _ => xn - (intOf jv).toNat)
   case atStart => exact ⟨0, A0, _, vc, Nat.zero_le _, rfl, rfl, HI, List.prefix_refl _, fun p hp => by simp at hp⟩
   case round =>
    obtain ⟨k, A, va, vc2, hk, rfl, rfl, HIK, HPRE, HPK⟩ := hrel
    by_cases hlk2 : k < xn
    ·have ck : (k : Int) < xn := by omega
     have ck0 : (0 : Int) ≤ (k : Int) := by omega
     obtain ⟨hpl, -, h3⟩ := HPX.out.later HIK.out.below
     obtain ⟨pb, poff, rfl, hcell⟩ := h3.resolve_left (by omega)
     have q0 := hcell k hlk2
     have hkl : k < (obF G x).pars.length := by omega
     obtain ⟨p, hpe⟩ : ∃ p, (obF G x).pars[k] = p := ⟨_, rfl⟩
     have hgd : (obF G x).pars.getD k ByteArray.empty = p := by rw [List.getD_eq_getElem?_getD, List.getElem?_eq_getElem hkl]; exact hpe
     rw [hgd] at q0
     have hpm : p ∈ (obF G x).pars := by rw [← hpe]; exact List.getElem_mem hkl
     have hpL : p ∈ l := (HL.out p).2 (.step ((HL.out x).1 HXL.out) hpm)
     have HTK : Hid ((obF G x).pars.take (k + 1) = (obF G x).pars.take k ++ [p]) := by
      show _ = _
      rw [List.take_succ_eq_append_getElem hkl, hpe]
     have hps := HSZ.out p hpL
     have HPL := hid hpL
     have hlk := fcMap_get2 (HM.out.later HIK.out.below) p hps
     rw [HT.out p hpL] at hlk
     obtain ⟨⟨yi, yh, ya, yn, yc⟩, hye⟩ : ∃ f, F p = f := ⟨_, rfl⟩
     rw [hye] at hlk
     have HYE := hid hye
     have ev : valF ((some (⟨yi, yh, ya, yn, yc⟩ : Fc)).getD noFc) = .agg #[.string yi, .int .i64 yh, .slice ya yn yc] := rfl
     rw [ev] at hlk
     simp only [Option.isSome_some] at hlk
     have hsx := HIK.out.below.size
     have HIY : Hid (MInv w (wr.alloc (.cells #[.string yi, .int .i64 yh, .slice ya yn yc] 66)) F l fi m2 A va vc2) := HIK.out.later ((Below.refl _ _).alloc (Nat.le_refl _) _)
     have HYB : Hid (Blk (wr.alloc (.cells #[.string yi, .int .i64 yh, .slice ya yn yc] 66)) wr.heap.size 66 #[.string yi, .int .i64 yh, .slice ya yn yc]) := Blk.new wr _ _
     clear hcell h3 hpl hgd hpm hpL hye ev hpe
     go_upto_region 13 with fail
     clear q0 hlk
     generalize (wr.alloc (.cells #[.string yi, .int .i64 yh, .slice ya yn yc] 66)) = w3 at HIY HYB ⊢
     generalize wr.heap.size = g3 at HYB hsx ⊢
     have hlk := boMap_get1 HIY.out.seen p hps
     cases hin : hasN A p with
     | true =>
      have es : (seenF A p).getD false = true := by unfold seenF; rw [hin]; rfl
      rw [es] at hlk
      have HPK2 : Hid (∀ q ∈ (obF G x).pars.take (k + 1), q ∈ A) := fun q hq => by
       rw [HTK.out] at hq
       rcases List.mem_append.1 hq with hq | hq
       ·exact HPK.out q hq
       ·rw [List.mem_singleton.1 hq]; exact hasN_iff.1 hin
      clear es hin
      go_wp2_with fail
      go_roundw
      case rel => first | exact ⟨k + 1, A, va, vc2, by omega, by go_num, rfl, HIY, HPRE, HPK2⟩ | ((repeat apply Exists.intro); exact ⟨⟨k + 1, A, va, vc2, by omega, by go_num, rfl, HIY, HPRE, HPK2⟩, rfl⟩)
      case measure => simp [intOf]; omega
     | false =>
      have es : (seenF A p).getD false = false := by unfold seenF; rw [hin]; rfl
      rw [es] at hlk
      have hAk : A.length ≤ l.length := nodup_le HIY.out.nd HIY.out.sub
      have HNI := hid (hasN_no.1 hin)
      have HEQ := hid (seenF_snoc A p)
      clear es hin
      obtain ⟨i0, hi0, hz0, hz1, hz2⟩ := info_parts Tryz.infoFact
      go_wp2_with (first
       | (at_mapUpdate; refine wpList_mapFn_set rfl (.tmp 56) (.tmp 57) (.const (.bool true)) 225 rfl Tryz.underlying9 Tryz.underlying225 valB_inj HIY.out.seen (by unfold maxLen; omega) p hps true rfl rfl rfl ?_; intro w5 hm5 hg5; have HG5 := hid hg5; have HM5 : Hid (BoMap w5 m2 (A.length + 1) (seenF (A ++ [p]))) := (by rw [HEQ.out]; exact hm5); have HO5 : Hid (Only (· = m2) w3 w5) := (⟨hg5.os, hg5.tape, hg5.output, hg5.size, fun k hk hne => hg5.block k hk (fun e => hne (by cases e; rfl))⟩); have HR5 : Hid (w5.ownsRow w.heap.size 66 3 (.slice va A.length vc2) A.length (fvals (A.map F))) := (own_only HIY.out.row HO5.out (fun k hk e => map_row_ne HIY.out.seen HIY.out.row (by rw [hk]; exact congrArg some e))); have HY5 : Hid (Blk w5 g3 66 #[.string yi, .int .i64 yh, .slice ya yn yc]) := (HYB.out.only HO5.out (fun e => map_blk_ne HIY.out.seen HYB.out e)); have y0 : w5.cell? ⟨g3, 0, none⟩ = some (.string yi) := Blk.cell HY5.out 0; have y1 : w5.cell? ⟨g3, 1, none⟩ = some (.int .i64 yh) := Blk.cell HY5.out 1; have y2 : w5.cell? ⟨g3, 2, none⟩ = some (.slice ya yn yc) := Blk.cell HY5.out 2; have HB5 : Hid (Below w.heap.size w w5) := (HIY.out.below.grown hg5 HIY.out.below.size (fun j hj => by cases hj; exact HIY.out.low)); have hs5 : w.heap.size ≤ w5.heap.size := HB5.out.size; clear hm5 hg5)
       | (at_builtin; refine wpList_append_own_at _ rfl (.tmp 58) (.tmp 60) 35 rfl w.heap.size 66 i0 (.agg #[.string ⟨#[]⟩, .int .i64 0, .slice none 0 0]) 3 48 Tryz.underlying35 hi0 hz0 hz1 hz2 rfl (by decide) (.slice va A.length vc2) _ _ rfl (HR5.out.alloc _) ⟨w5.heap.size, 0, none⟩ 1 1 [.string yi, .int .i64 yh, .slice ya yn yc] rfl rfl (cellBlk3 (Blk.new _ _ _)) (one3 rfl rfl rfl) (by unfold maxLen; omega) (by omega) (by rw [World.size_alloc]; omega) ?_; intro v' w6 hown' hg6 _ hat6; obtain ⟨va', vc', hvv', hvc'⟩ := own_slice' hown'; subst hvv'; have HOWN := hid hown'; have HG6 := hid hg6; clear hown' hg6 hat6)
       | go_in)
      have HI6 : Hid (MInv w w6 F l fi m2 (A ++ [p]) va' vc') := by
       have hnd : (A ++ [p]).Nodup := List.nodup_append.2 ⟨HIY.out.nd, by simp, fun a ha b hb e => HNI.out (by rw [List.mem_singleton.1 hb] at e; rw [← e]; exact ha)⟩
       have hlen : (A ++ [p]).length = A.length + 1 := by simp
       refine ⟨hnd, fun q hq => ?_, List.mem_append.2 (.inl HIY.out.has), ?_, ?_, HIY.out.low, below_grown1 HB5.out HR5.out _ hs5 HG6.out⟩
       ·rcases List.mem_append.1 hq with hq | hq
        ·exact HIY.out.sub q hq
        ·rw [List.mem_singleton.1 hq]; exact HPL.out
       ·rw [hlen, fvals_snoc, HYE.out]; exact HOWN.out
       ·rw [hlen]
        have hm6 : BoMap (w5.alloc (.cells #[.string yi, .int .i64 yh, .slice ya yn yc] 66)) m2 (A.length + 1) (seenF (A ++ [p])) := HM5.out.later ((Below.refl _ _).alloc (Nat.le_refl _) _)
        exact hm6.kept HG6.out (fun e => map_row_ne HM5.out HR5.out e.symm)
      have HPRE2 : Hid (A0 <+: A ++ [p]) := List.IsPrefix.trans HPRE.out (List.prefix_append _ _)
      have HPK2 : Hid (∀ q ∈ (obF G x).pars.take (k + 1), q ∈ A ++ [p]) := fun q hq => by
       rw [HTK.out] at hq
       rcases List.mem_append.1 hq with hq | hq
       ·exact List.mem_append.2 (.inl (HPK.out q hq))
       ·exact List.mem_append.2 (.inr hq)
      have HLA : Hid (A.length + 1 = (A ++ [p]).length) := by unfold Hid; simp
      go_roundw
      case rel => first | exact ⟨k + 1, A ++ [p], va', vc', by omega, by go_num, by rw [HLA.out], HI6, HPRE2, HPK2⟩ | ((repeat apply Exists.intro); exact ⟨⟨k + 1, A ++ [p], va', vc', by omega, by go_num, by rw [HLA.out], HI6, HPRE2, HPK2⟩, rfl⟩)
      case measure => simp [intOf]; omega
    ·obtain rfl : k = xn := by omega
     have ck : ¬ (k : Int) < k := by omega
     have HC2 : Hid (∀ q ∈ A.take (i + 1), ∀ p ∈ (obF G q).pars, p ∈ A) := fun q hq p hp => by
      obtain ⟨R, hR⟩ := HPRE.out
      have e1 : A.take (i + 1) = A0.take i ++ [x] := by
       rw [← hR, List.take_append_of_le_length (by omega), List.take_succ_eq_append_getElem hlt, HX0.out]
      rw [e1] at hq
      rcases List.mem_append.1 hq with hq | hq
      ·rw [← hR]; exact List.mem_append.2 (.inl (HC.out q hq p hp))
      ·rw [List.mem_singleton.1 hq] at hp
       exact HPK.out p (by rw [List.take_of_length_le (by rw [HPX.out.1]; exact Nat.le_refl _)]; exact hp)
     have hAA : A0.length ≤ A.length := HPRE.out.length_le
     go_wp2_with fail
     go_roundw
     case rel => first | exact ⟨i + 1, A, va, vc2, by omega, by go_num, rfl, HIK, HC2⟩ | ((repeat apply Exists.intro); exact ⟨⟨i + 1, A, va, vc2, by omega, by go_num, rfl, HIK, HC2⟩, rfl⟩)
     case measure => simp [intOf]; omega
  ·obtain rfl : i = A0.length := by omega
   have ci : ¬ (A0.length : Int) < A0.length := by omega
   have HALL : Hid (∀ q, q ∈ A0 ↔ q ∈ l) := fun q => met_all HL.out HI.out.has (fun q hq p hp => HC.out q (by rw [List.take_of_length_le (Nat.le_refl _)]; exact hq) p hp) HI.out.sub q
   have HSO := hid (sortFc_own F HF.out w.heap.size A0.length _ A0 wr HI.out.row (by omega))
   go_wp2_with fail
   refine HSO.out.mono ?_; rintro e w9 ⟨rfl, ho9, hg9⟩
   have HO9 := hid ho9
   have HB9 : Hid (Below w.heap.size w w9) := HI.out.below.grown hg9 HI.out.below.size (fun j hj => (HI.out.row.lt j hj).1)
   have HPW := hid (sortD_pw (fun q => (F q).h) HI.out.nd)
   clear ho9 hg9 HSO
   go_wp2_with fail
   go_ret2
   refine ⟨sortD (fun q => (F q).h) A0, va, vc, ?_, ?_, HPW.out, fun q => (sortD_mem _ _ q).trans (HALL.out q), HB9.out⟩
   ·rw [sortD_len]; rfl
   ·rw [sortD_len]; exact HO9.out
end Go.Proofs.YtmpjdoiogbbcoaaGreatDoor
/- The shelf's map of facts gone over by a loop that appends to a list of its own. -/
namespace Go.Proofs.YtmpjdoiogbbcoaaGreatDoor
open Go.RowKit Book Pap
attribute [local go_sem] Oper.semAt_some
set_option linter.unusedVariables false
set_option linter.unusedSimpArgs false

/-- cells from n₀ on stay, but those of the list that the variable in block ob holds -/
def KeepO (n₀ ob : Nat) (A B : World) : Prop := A.heap.size ≤ B.heap.size ∧ ∀ k C t fz, n₀ ≤ k → A.heap[k]? = some (.cells C t fz) → (∀ v, A.cell? ⟨ob, 0, none⟩ = some v → v.ownBlock ≠ some k) → B.heap[k]? = some (.cells C t fz) ∧ ∀ v, B.cell? ⟨ob, 0, none⟩ = some v → v.ownBlock ≠ some k
theorem keepO_t {n₀ ob : Nat} {A B C : World} (h : KeepO n₀ ob A B) (k : KeepO n₀ ob B C) : KeepO n₀ ob A C := ⟨Nat.le_trans h.1 k.1, fun i c t fz hi e hv => by
 obtain ⟨h1, h2⟩ := h.2 i c t fz hi e hv
 exact k.2 i c t fz hi h1 h2⟩
theorem keepO_refl (n₀ ob : Nat) (A : World) : KeepO n₀ ob A A := ⟨Nat.le_refl _, fun _ _ _ _ _ e hv => ⟨e, hv⟩⟩
theorem keepO_b {n₀ ob s : Nat} (hob : ob < s) (W : World) (l : Nat) (o o' : Obj) (hl : s ≤ l) (h : W.heap[l]? = some o) (hc : o.isCells = false) (_ : o.isWalk = false) : KeepO n₀ ob W (W.putObj l o') := by
 refine ⟨by simp, fun k C t fz hk e hv => ⟨?_, fun v hv2 => hv v ?_⟩⟩
 ·by_cases hkl : k = l
  ·subst hkl; rw [h] at e; injection e with e; subst e; simp [Obj.isCells] at hc
  ·rw [World.putObj_heap_other hkl]; exact e
 ·rw [← hv2]
  have e2 : (W.putObj l o').heap[ob]? = W.heap[ob]? := World.putObj_heap_other (by omega)
  exact (World.cell?_of_block (a := ⟨ob, 0, none⟩) e2).symm
theorem own_keepO {n₀ ob B e s n : Nat} {v : Value} {xs : List Value} {A W : World} (h : A.ownsRow B e s v n xs) (hB : n₀ ≤ B) (hk : KeepO n₀ ob A W) (hn : A.cell? ⟨ob, 0, none⟩ = some (.slice none 0 0)) : W.ownsRow B e s v n xs := by
 refine ⟨h.1, h.2.imp id ?_⟩
 rintro ⟨g, cap, cur, hv, hb, hg, r⟩
 refine ⟨g, cap, cur, hv, hb, (hk.2 _ _ _ _ (by omega) hg (fun v hv => ?_)).1, r⟩
 rw [hn] at hv; injection hv with hv; subst hv; simp [Value.ownBlock]
/-- an append to the list that the variable holds -/
theorem keepO_append {n₀ ob g va pn vc cap' : Nat} {a : Option Addr} {W w1 : World} (hn : ob < n₀) (hcell : W.cell? ⟨ob, 0, none⟩ = some (.slice a pn vc)) (C : Obj) (hg : (W.alloc C).grownBy w1 (Value.slice a pn vc).ownBlock) (hb : (Value.slice (some ⟨g, 0, none⟩) (pn + 1) cap').ownBlock = (Value.slice a pn vc).ownBlock ∨ (Value.slice (some ⟨g, 0, none⟩) (pn + 1) cap').ownBlock = some (W.alloc C).heap.size)
  (hs : (w1.setCell ⟨ob, 0, none⟩ (.slice (some ⟨g, 0, none⟩) (pn + 1) cap')).cell? ⟨ob, 0, none⟩ = some (.slice (some ⟨g, 0, none⟩) (pn + 1) cap')) : KeepO n₀ ob W (w1.setCell ⟨ob, 0, none⟩ (.slice (some ⟨g, 0, none⟩) (pn + 1) cap')) := by
 have h1 := hg.size
 rw [World.size_alloc] at h1
 refine ⟨by simp [World.setCell]; omega, fun k C' t fz hk e hv => ?_⟩
 have hkl := (Array.getElem?_eq_some_iff.1 e).1
 have hne := hv _ hcell
 refine ⟨?_, fun v hv2 => ?_⟩
 ·have e1 := (Below.heap_alloc W C k hkl).trans e
  have e2 := (hg.block k (by rw [World.size_alloc]; omega) (fun e => hne e.symm)).trans e1
  exact (Below.heap_setCell _ _ _ k (fun e => by have e : k = ob := e; omega)).trans e2
 ·rw [hs] at hv2
  injection hv2 with hv2
  subst hv2
  rcases hb with hb | hb
  ·rw [hb]; exact hne
  ·rw [hb, World.size_alloc]
   intro e
   injection e with e
   omega
set_option maxRecDepth 100000 in
set_option maxHeartbeats 4000000 in
theorem allStopsO (n Bm m n₀ ob : Nat) (ks vs : Value) (l : List ByteArray) (ps : List Fc) (w : World) (hn : 1 ≤ n) (hq : w.cell? ⟨Bm, 0, none⟩ = some (.pointer (some ⟨m, 0, none⟩))) (hm : MapIsF w m ks vs l ps) (hn0 : n₀ ≤ w.heap.size) (hob : w.cell? ⟨ob, 0, none⟩ = some (.slice none 0 0)) :
  SeqStopsK Fence.wide n Tryz.prog 83 #[.pointer (some ⟨Bm, 0, none⟩)] (encsF l ps) (KeepO n₀ ob) (fun xs => xs = List.finRange l.length) (fun pre => pre <+: List.finRange l.length) l.length w := by
 intro L J Jx W hW hJ hJx hY h0
 have hqW : W.cell? ⟨Bm, 0, none⟩ = some (.pointer (some ⟨m, 0, none⟩)) := (hW.cell (p := ⟨Bm, 0, none⟩) (World.block_lt_of_cell? _ _ hq)).trans hq
 obtain ⟨b1, b2, b3, b4, b5, b6⟩ := hm
 have oW : Only NoF w W := Only.of_below hW _
 have hmW : MapIsF W m ks vs l ps := ⟨b1.only oW (fun e => e), own_only b2 oW (fun _ _ e => e), own_only b3 oW (fun _ _ e => e), b4, b5, b6⟩
 have CC := hid (cloneF vs ps W hmW.2.2.1 (by omega))
 have HK : Hid (∀ W1, Below W.heap.size W W1 → Calls Tryz.prog 85 #[.pointer (some ⟨m, 0, none⟩)] W1 fun e w' => ∃ v, e = .returned v ∧ w'.ownsRow W1.heap.size 9 1 v l.length (svals l) ∧ Below W1.heap.size W1 w') := fun W1 hb => by
  have o1 : Only NoF W W1 := Only.of_below hb _
  exact keysF m ks vs l ps W1 ⟨hmW.1.only o1 (fun e => e), own_only hmW.2.1 o1 (fun _ _ e => e), own_only hmW.2.2.1 o1 (fun _ _ e => e), b4, b5, b6⟩
 have c1 := hmW.1.cell 1
 simp at c1
 obtain ⟨va, vc, rfl, hvc⟩ := own_slice hmW.2.2.1
 have hHY := hid hY; have hHJ := hid hJ
 have hnW : n₀ ≤ W.heap.size := Nat.le_trans hn0 hW.size
 obtain ⟨zs, hzs⟩ : ∃ zs, List.finRange l.length = zs := ⟨_, rfl⟩
 have hzl : zs.length = l.length := by rw [← hzs, List.length_finRange]
 have HZ : Hid (∀ k, (hk : k < l.length) → ∃ h : k < zs.length, zs[k] = ⟨k, hk⟩) := fun k hk => ⟨by omega, by subst hzs; simp⟩
 rw [hzs]
 have HQM : Hid (∀ W1, Below W.heap.size W W1 → W1.cell? ⟨Bm, 0, none⟩ = some (.pointer (some ⟨m, 0, none⟩))) := fun W1 hb => (hb.cell (p := ⟨Bm, 0, none⟩) (World.block_lt_of_cell? _ _ hqW)).trans hqW
 have HOB : Hid (∀ W1, Below W.heap.size W W1 → W1.cell? ⟨ob, 0, none⟩ = some (.slice none 0 0)) := fun W1 hb => by
  have e1 : W.cell? ⟨ob, 0, none⟩ = some (.slice none 0 0) := (hW.cell (p := ⟨ob, 0, none⟩) (World.block_lt_of_cell? _ _ hob)).trans hob
  exact (hb.cell (p := ⟨ob, 0, none⟩) (World.block_lt_of_cell? _ _ e1)).trans e1
 have H0 := hid h0
 have hln : l.length ≤ 1000000 := b6
 have HB4 := hid b4
 have hpl : ps.length ≤ 1000000 := by omega
 have HZL := hid hzl
 clear hY hJ hJx hmW b1 b2 b3 b4 b5 oW hzs hW hq h0 hzl b6 hob
 refine callsIn_of_wp Tryz.func83 rfl trivial ?_ rfl
 simp only [Tryz.ntmps83, List.size_toArray, List.length_cons, List.length_nil, Nat.reduceAdd, Nat.reduceSub, Array.replicate_succ, Array.replicate_zero, List.push_toArray, List.append_toArray, List.nil_append, List.cons_append]
 gi_wp2_with fail
 refine ⟨trivial, (callsIn_wide.2 CC.out).mono ?_⟩; rintro e W1 ⟨v1, rfl, o1, hb1⟩
 have q1 := HQM.out W1 hb1
 have HJ1 : Hid (J [] W1) := hHJ.out _ _ _ none H0.out ⟨hb1.os, hb1.tape, hb1.output, hb1.size, fun k hk _ => hb1.block k hk⟩ (fun _ e => by cases e)
 gi_wp2_with fail
 refine ⟨trivial, (callsIn_wide.2 (HK.out W1 hb1)).mono ?_⟩; rintro e W2 ⟨v2, rfl, o2, hb2⟩
 have HJ2 : Hid (J [] W2) := hHJ.out _ _ _ none HJ1.out ⟨hb2.os, hb2.tape, hb2.output, hb2.size, fun k hk _ => hb2.block k hk⟩ (fun _ e => by cases e)
 have HO2 := hid (HOB.out W2 (below_then hb1 hb2))
 have V2 : W2.ownsRow W.heap.size 66 3 v1 ps.length (fvals ps) := own_only o1 (Only.of_below hb2 NoF) (fun _ _ e => e)
 obtain ⟨a2, c2, rfl, hac2⟩ := own_slice o2
 obtain ⟨a1, c1', rfl, hac1⟩ := own_slice V2
 have hb1s := hb1.size
 have HV2 := hid V2; have HN2 := hid o2
 clear V2 o2 o1 hb1 hb2
 gi_wp2_with fail
 gi_loopw [16] (fun i wr => ∃ (k : Nat) (pre : List (Fin l.length)), k ≤ l.length ∧ i = .int .i64 k ∧ Hid (pre = zs.take k) ∧ J pre wr ∧ KeepO n₀ ob W2 wr) (fun i _ => l.length - (intOf i).toNat)
 case atStart => exact ⟨0, [], Nat.zero_le _, rfl, rfl, HJ2.out, keepO_refl _ _ _⟩
 case round =>
  obtain ⟨k, pre, hk, rfl, HP, hJs, hkp⟩ := hrel
  by_cases hlt : k < l.length
  ·obtain ⟨h3, he⟩ := HZ.out k hlt
   have h1 := hlt
   have h2 : k < ps.length := by rw [HB4.out]; exact hlt
   have ck : wr.ownsRow W1.heap.size 9 1 (.slice a2 l.length c2) l.length (svals l) := own_keepO HN2.out (by omega) hkp HO2.out
   have cv : wr.ownsRow W.heap.size 66 3 (.slice a1 ps.length c1') ps.length (fvals ps) := own_keepO HV2.out hnW hkp HO2.out
   obtain ⟨g2, d2, e2, _, _⟩ := ck.form (by omega)
   obtain ⟨g1, d1, e1, _, _⟩ := cv.form (by omega)
   injection e2 with e21 _ e22
   injection e1 with e11 _ e12
   subst e21 e22 e11 e12
   have hck := ck.cellAt k (by omega)
   have hcv0 := cv.cellAt (k * 3 + 0) (by omega)
   have hcv1 := cv.cellAt (k * 3 + 1) (by omega)
   have hcv2 := cv.cellAt (k * 3 + 2) (by omega)
   rw [fvals_get ps k 0 h2 (by omega)] at hcv0
   rw [fvals_get ps k 1 h2 (by omega)] at hcv1
   rw [fvals_get ps k 2 h2 (by omega)] at hcv2
   obtain ⟨fx, hfx⟩ : ∃ fx, ps.getD k noFc = fx := ⟨_, rfl⟩
   rw [hfx] at hcv0 hcv1 hcv2
   replace hcv0 : wr.cell? ⟨g1, k * 3, none⟩ = some (.string fx.id) := hcv0
   replace hcv1 : wr.cell? ⟨g1, k * 3 + 1, none⟩ = some (.int .i64 fx.h) := hcv1
   replace hcv2 : wr.cell? ⟨g1, k * 3 + 2, none⟩ = some (.slice fx.pa fx.pn fx.pc) := hcv2
   have x1 : (svals l)[k]? = some (.string l[k]) := by unfold svals; rw [List.getElem?_map, List.getElem?_eq_getElem h1]; rfl
   rw [x1] at hck
   obtain ⟨fn, tmps, assign, body, hy, hR⟩ := hHY.out pre ⟨k, hlt⟩ wr hJs (by rw [HP.out, List.length_take, HZL.out]; omega)
   have hpre : pre ++ [⟨k, hlt⟩] = zs.take (k + 1) := by
    rw [HP.out, ← he, List.take_append_getElem h3]
   unfold encsF at hy
   have y1 : l.getD k ByteArray.empty = l[k] := by rw [List.getD_eq_getElem?_getD, List.getElem?_eq_getElem h1]; rfl
   simp only [y1, hfx] at hy
   obtain ⟨nk, hnk⟩ : ∃ nk, l[k] = nk := ⟨_, rfl⟩
   rw [hnk] at hck x1
   rw [hnk] at hy
   unfold fcs at hy
   obtain ⟨j0, hj0⟩ : ∃ j0 : Fin l.length, ⟨k, hlt⟩ = j0 := ⟨_, rfl⟩
   rw [hj0] at hpre hR
   have HPR := hid hpre
   have hkp2 : k < ps.length := h2
   clear x1 he hpre hnk hfx hJs y1 hj0
   gi_wp2
   refine hR.mono ?_
   rintro e W3 (⟨rfl, hJ3, hk3⟩ | ⟨rfl, hJx3⟩)
   ·have HJ3 := hid hJ3; have HK3 := hid hk3
    clear hJ3 hk3
    gi_wp2
    go_roundw
    case rel => exact ⟨k + 1, pre ++ [j0], by omega, by go_num, HPR.out, HJ3.out, keepO_t hkp HK3.out⟩
    case measure => simp [intOf]; omega
   ·have HJ3 := hid hJx3
    clear hJx3
    gi_wp2
    refine bodyPost_ret (results_none rfl _ _ _) rfl ?_
    exact ⟨⟨_, rfl⟩, .inr ⟨pre ++ [j0], by rw [HPR.out]; exact List.take_prefix _ _, HJ3.out⟩⟩
  ·obtain rfl : k = l.length := by omega
   have HPZ : Hid (pre = zs) := by unfold Hid; rw [HP.out, List.take_of_length_le (Nat.le_of_eq HZL.out)]
   gi_wp2
   go_end0
   exact ⟨⟨_, rfl⟩, .inl ⟨_, rfl, by rw [← HPZ.out]; exact hJs⟩⟩
end Go.Proofs.YtmpjdoiogbbcoaaGreatDoor
/- snap.Facts, whatever the commit came from. -/
namespace Go.Proofs.YtmpjdoiogbbcoaaGreatDoor
open Go.RowKit Book Pap Ojt Sn Go.Deep
attribute [local go_sem] Oper.semAt_some
set_option linter.unusedVariables false
set_option linter.unusedSimpArgs false

/-- how many keys the map holds -/
def keysN (w : World) (m : Nat) : Nat := lenV ((w.cell? ⟨m, 0, none⟩).getD undef)
theorem MapIsF.keysN {w : World} {m : Nat} {ks vs : Value} {l : List ByteArray} {fs : List Fc} (h : MapIsF w m ks vs l fs) : Go.Proofs.YtmpjdoiogbbcoaaGreatDoor.keysN w m = l.length := by
 obtain ⟨h1, h2, r⟩ := h
 obtain ⟨ka, kc, rfl, hkc⟩ := own_slice h2
 have c0 : w.cell? ⟨m, 0, none⟩ = some (.slice ka l.length kc) := Blk.cell h1 0
 unfold Go.Proofs.YtmpjdoiogbbcoaaGreatDoor.keysN
 rw [c0]; rfl
theorem factsIs_none {G : Sw.Src} {id : ByteArray} (h : G id = none) : FactsIs G id 12 [] := .inl ⟨h, rfl, rfl⟩
theorem factsIs_err {G : Sw.Src} {id : ByteArray} {l : List ByteArray} {er : Int} (h : G id ≠ none) (hw : Went G id l [] er) (h0 : er ≠ 0) : FactsIs G id er [] := .inr ⟨h, hw.worst, .inl ⟨h0, rfl⟩⟩
theorem factsIs_ok {G : Sw.Src} {id : ByteArray} {l : List ByteArray} (h : G id ≠ none) (hw : Went G id l [] 0) (hr : Rising l) : FactsIs G id 0 (l.map (faOf G)) := .inr ⟨h, hw.worst, .inr ⟨rfl, l, hr, hw.all, rfl⟩⟩
set_option maxRecDepth 100000 in
set_option maxHeartbeats 16000000 in
theorem facts_any (t : TypeId) (rv : Value) (G : Sw.Src) (hz : SrcSz G) (id : ByteArray) (U : List ByteArray) (hU : Univ G id U) (w : World) (hs : SrcAt w t rv G) :
  Calls Tryz.prog 9 #[.iface t rv, .string id] w (FactsOut w G id) := by
 have HS := hid hs
 have HU := hid hU
 obtain ⟨f, r, hm, hen, hget⟩ := hs
 have HGT := hid (hget id w (Below.refl _ _))
 clear hget hU
 unfold GetOut at HGT
 cases hG : G id with
 | none =>
  have HFI := hid (factsIs_none hG)
  rw [hG] at HGT
  clear hG
  refine (callsIn_wide (n := 5)).1 ?_
  refine callsIn_of_wp_marks Tryz.func9 rfl trivial ?_ rfl
  simp only [Tryz.ntmps9, List.size_toArray, List.length_cons, List.length_nil, Nat.reduceAdd, Nat.reduceSub, Array.replicate_succ, Array.replicate_zero, List.push_toArray, List.append_toArray, List.nil_append, List.cons_append]
  refine wpIn_wide.2 ?_
  go_wp2_with fail
  refine HGT.out.mono ?_; rintro e w1 ⟨rfl, hb1⟩
  have HB1 := hid hb1
  clear hb1 HGT hm hen
  go_wp2_with fail
  exact ⟨_, results_tmp2 rfl _ _ _, 12, [], none, 0, 0, [], HFI.out, rfl, ⟨rfl, by omega, .inl rfl⟩, ⟨rfl, fun j hj => by (cases hj)⟩, HB1.out⟩
 | some tx =>
  have hne : G id ≠ none := by rw [hG]; simp
  have HNE := hid hne
  rw [hG] at HGT
  clear hG hne
  refine (callsIn_wide (n := 5)).1 ?_
  refine callsIn_of_wp_marks Tryz.func9 rfl trivial ?_ rfl
  simp only [Tryz.ntmps9, List.size_toArray, List.length_cons, List.length_nil, Nat.reduceAdd, Nat.reduceSub, Array.replicate_succ, Array.replicate_zero, List.push_toArray, List.append_toArray, List.nil_append, List.cons_append]
  refine wpIn_wide.2 ?_
  go_wp2_with fail
  refine HGT.out.mono ?_; rintro e w1 ⟨rfl, hb1⟩
  have HB1 := hid hb1
  have HN := hid (fnew_any w1)
  have hs1 := hb1.size
  clear hb1 HGT hm hen
  go_wp2_with fail
  refine HN.out.mono ?_; rintro e w2 ⟨rfl, hm2, hb2⟩
  have HB2 : Hid (Below w.heap.size w w2) := HB1.out.trans (hb2.mono hs1)
  have hml := Blk.lt hm2
  have hs2 : w.heap.size ≤ w2.heap.size := HB2.out.size
  have HI3 : Hid (FInv w (w2.alloc (.cells #[.string id] 9)) G id w1.heap.size 0 (some ⟨w2.heap.size, 0, none⟩) 1 [id] (.slice none 0 0) (.slice none 0 0) [] []) := by
   have hb3 : Below w.heap.size w (w2.alloc (.cells #[.string id] 9)) := HB2.out.alloc hs2 _
   have hmf : ∀ k, MapF w1.heap.size (.slice none 0 0) (.slice none 0 0) k → k = w1.heap.size := fun k hk => by
    rcases hk with h | h | h
    ·exact h
    ·simp [Value.ownBlock] at h
    ·simp [Value.ownBlock] at h
   refine ⟨Went.start G id, ⟨Blk.alloc hm2 _, World.ownsRow_nil _ _ _ _, World.ownsRow_nil _ _ _ _, rfl, List.Pairwise.nil, by simp⟩, ⟨rfl, Nat.le_refl _, by unfold maxLen; omega, .inr ⟨w2.heap.size, 0, _, rfl, hs2, Blk.new w2 _ _, rfl, rfl⟩⟩, rfl, fun f hf => by (cases hf), fun k hk hq => ?_, fun k hk => by rw [hmf k hk]; exact hs1, hb3, by simp⟩
   have e := hmf k hk
   obtain ⟨_, ad, ha, hb⟩ := hq
   injection ha with ha
   subst ha
   simp only at hb
   omega
  clear hm2 hb2 HN HB2 HB1 hs2
  go_wp2_with fail
  generalize (w2.alloc (.cells #[.string id] 9)) = w3 at HI3 ⊢
  generalize w2.heap.size = g at HI3 ⊢
  generalize w1.heap.size = m at HI3 ⊢
  clear hml hs1
  go_loopw [9, 10] (fun wo tv wr => ∃ er a c td ks vs l fs, wo = .int .i64 er ∧ tv = .slice a td.length c ∧ Hid (FInv w wr G id m er a c td ks vs l fs)) (fun _ tv wr => 9 * (U.length - keysN wr m) + lenV tv)
  case atStart => exact ⟨0, _, 1, [id], _, _, [], [], rfl, rfl, HI3⟩
  case round =>
   obtain ⟨er, a, c, td, ks, vs, l, fs, rfl, rfl, HI⟩ := hrel
   cases td with
   | nil =>
    by_cases h0 : er = 0
    ·subst h0
     have HW := hid HI.out.went
     have HFO := hid (factsIs_ok HNE.out HI.out.went HI.out.map.2.2.2.2.1)
     have hmap := HI.out.map
     have HB := hid HI.out.below
     have HIDS := hid HI.out.ids
     have HFL := hid hmap.2.2.2.1
     have HL6 := hid hmap.2.2.2.2.2
     have HFA : Hid (FaAt wr fs (l.map (faOf G))) := by
      have hids := HI.out.ids
      refine ⟨by rw [List.length_map]; exact HFL.out, fun j hj => ?_⟩
      have hjl : j < l.length := by rw [← HFL.out]; exact hj
      have e1 : fs.getD j noFc = fs[j] := by rw [List.getD_eq_getElem?_getD, List.getElem?_eq_getElem hj]; rfl
      have e2 : (fs[j]).id = l[j] := by
       have h1 : (fs.map (·.id))[j]'(by rw [List.length_map]; exact hj) = l[j] := by simp only [hids]
       rw [List.getElem_map] at h1; exact h1
      have e3 : (l.map (faOf G)).getD j noFa = faOf G l[j] := by
       rw [List.getD_eq_getElem?_getD, List.getElem?_map, List.getElem?_eq_getElem hjl]; rfl
      rw [e1, e3]
      obtain ⟨g1, g2⟩ := HI.out.facts fs[j] (List.getElem_mem hj)
      rw [e2] at g1 g2
      exact ⟨e2, g1, g2.1⟩
     clear HI
     have HMP : Hid (MapIsF ((wr.alloc (.cells #[.slice none 0 0] 35)).alloc (.cells #[.pointer (some ⟨m, 0, none⟩)] 94)) m ks vs l fs) := hmap.only (F := NoF) (((Only.refl NoF wr).alloc _).alloc _) (fun _ _ e => e)
     have HBW : Hid (Below wr.heap.size wr ((wr.alloc (.cells #[.slice none 0 0] 35)).alloc (.cells #[.pointer (some ⟨m, 0, none⟩)] 94))) := ((Below.refl _ wr).alloc (Nat.le_refl _) _).alloc (by rw [World.size_alloc]; omega) _
     have HBO : Hid (Boxed ((wr.alloc (.cells #[.slice none 0 0] 35)).alloc (.cells #[.pointer (some ⟨m, 0, none⟩)] 94)) wr.heap.size 35 (.slice none 0 0)) := (Boxed.new wr _ _).alloc _
     have HQ : Hid (((wr.alloc (.cells #[.slice none 0 0] 35)).alloc (.cells #[.pointer (some ⟨m, 0, none⟩)] 94)).cell? ⟨wr.heap.size + 1, 0, none⟩ = some (.pointer (some ⟨m, 0, none⟩))) := by
      have := (Blk.new (wr.alloc (.cells #[.slice none 0 0] 35)) 94 #[.pointer (some ⟨m, 0, none⟩)]).cell 0
      rw [World.size_alloc] at this
      exact this
     have CA := hid (allF_any (some ⟨m, 0, none⟩) (wr.alloc (.cells #[.slice none 0 0] 35)))
     clear hmap
     go_wp2_with fail
     refine CA.out.mono ?_; rintro e W3 ⟨rfl, rfl⟩
     rw [World.size_alloc]
     generalize hW3 : ((wr.alloc (.cells #[.slice none 0 0] 35)).alloc (.cells #[.pointer (some ⟨m, 0, none⟩)] 94)) = W3 at HMP HBW HBO HQ ⊢
     have hz3 : W3.heap.size = wr.heap.size + 2 := by rw [← hW3, World.size_alloc, World.size_alloc]
     clear CA hW3
     go_wp2_with fail
     obtain ⟨F, hF⟩ : ∃ F : Fin l.length → Fc, F = fun j => fs.getD j.1 noFc := ⟨_, rfl⟩
     have HFF := hid hF
     clear hF
     have hown0 : W3.ownsRow wr.heap.size 66 3 (.slice none 0 0) 0 [] := World.ownsRow_nil _ _ _ _
     refine (wpIn_wide (n := 5)).1 ?_
     generalize hA0 : Act.mk _ _ = A0
     refine wpIn_rangeFunc_ownH (F := Fence.wide) (n := 5) rfl (by omega) (gf := 83) (lb := #[.pointer (some ⟨wr.heap.size + 1, 0, none⟩)]) (by subst hA0; rfl) trivial (enters_of Tryz.func83 (by kernel_rfl) rfl)
      (allStopsO (5 - 1) (wr.heap.size + 1) m W3.heap.size wr.heap.size ks vs l fs W3 (by omega) HQ.out HMP.out (Nat.le_refl _) HBO.out.cell) keepO_t (keepO_b (by omega)) (Below.refl _ _) (fun _ => rfl)
      (fun pre W => (∃ v, Boxed W wr.heap.size 35 v ∧ W.ownsRow wr.heap.size 66 3 v pre.length (fvals (pre.map F)) ∧ (pre = [] → v = .slice none 0 0)) ∧ Below wr.heap.size wr W)
      (fun _ _ _ => False)
      (OwnFrom.and (Own.from (holdsRow_own wr.heap.size wr.heap.size 35 66 3 (fun pre : List (Fin l.length) => pre.length) (fun pre => fvals (pre.map F)) (fun pre v => pre = [] → v = .slice none 0 0)) _) (ownFrom_below (Nat.le_refl _) (by omega)))
      (fun _ _ _ _ _ hs _ _ => hs)
      ⟨⟨_, HBO.out, hown0, fun _ => rfl⟩, HBW.out⟩
      (fun y a' W => ∃ bx, Blk W bx 66 (fcs (F y)).toArray ∧ a' = { tmps := ((A0.tmps.setIfInBounds 72 (.string (l.getD y.1 ByteArray.empty))).setIfInBounds 73 (.agg (fcs (F y)).toArray)).setIfInBounds 18 (.pointer (some ⟨bx, 0, none⟩)), defers := [] })
      (fun y a' _ X Y row hs hg hr => by
       obtain ⟨bx, h1, h2⟩ := hs
       refine ⟨bx, ?_, h2⟩
       have hne : some bx ≠ row := fun e => by
        obtain ⟨o, ho, hc⟩ := (hr bx e.symm).2
        rw [show X.heap[bx]? = _ from h1] at ho; cases ho; cases hc
       exact (hg.block bx (Blk.lt h1) hne).trans h1)
      ?assign ?body ?done ?stop
     case assign =>
      rintro l2 pre y W K ⟨⟨v, hv, hrow, hnil⟩, hB1⟩ hK
      have hy : fs.getD y.1 noFc = F y := by rw [HFF.out]
      unfold encsF
      rw [hy]
      unfold fcs
      obtain ⟨bx, hbx⟩ : ∃ bx, W.heap.size = bx := ⟨_, rfl⟩
      have HK := hid hK
      have HY := hid hy
      have HBX := hid hbx
      have HS1 := hid hB1.size
      clear hK hy
      subst hA0
      gi_wp2
      refine HK.out _ _ ((KeepsOthers.alloc _ _).from _) ⟨by simp, fun k C t fz hk e hvv => ⟨(Below.heap_alloc W _ k (Array.getElem?_eq_some_iff.1 e).1).trans e, fun v2 hv2 => hvv v2 (by rw [hv.cell, ← hv2, (hv.alloc _).cell])⟩⟩ ⟨⟨v, hv.alloc _, hrow.alloc _, hnil⟩, hB1.alloc HS1.out _⟩ ⟨bx, ?_, by simp [fcs]⟩
      have := Blk.new W 66 #[.string (F y).id, .int .i64 (F y).h, .slice (F y).pa (F y).pn (F y).pc]
      rw [HBX.out] at this
      exact this
     case body =>
      rintro l2 pre y a' W hl hlo ⟨⟨v, hv, hrow, hnil⟩, hB⟩ ⟨bx, hbx, rfl⟩ hlt
      have hpl : pre.length < 1000000 := by have h := HL6.out; omega
      have hfin : fvals ((pre ++ [y]).map F) = fvals (pre.map F) ++ [.string (F y).id, .int .i64 (F y).h, .slice (F y).pa (F y).pn (F y).pc] := by
       rw [List.map_append, fvals_append]; rfl
      have hlen : (pre ++ [y]).length = pre.length + 1 := by simp
      obtain ⟨i0, hi0, hz0, hz1, hz2⟩ := info_parts Tryz.infoFact
      have k0 : W.cell? ⟨bx, 0, none⟩ = some (.string (F y).id) := Blk.cell hbx 0
      have k1 : W.cell? ⟨bx, 1, none⟩ = some (.int .i64 (F y).h) := Blk.cell hbx 1
      have k2 : W.cell? ⟨bx, 2, none⟩ = some (.slice (F y).pa (F y).pn (F y).pc) := Blk.cell hbx 2
      have hc := hv.cell
      have hfz := hv.frozen
      have hsz := hB.size
      unfold fcs
      subst hA0
      obtain ⟨pn0, hpn0⟩ : ∃ pn0, pre.length = pn0 := ⟨_, rfl⟩
      obtain ⟨xs0, hxs0⟩ : ∃ xs0, fvals (pre.map F) = xs0 := ⟨_, rfl⟩
      rw [hpn0, hxs0] at hrow
      rw [hpn0] at hpl hlen
      rw [hxs0] at hfin
      have HFIN := hid hfin; have HLEN := hid hlen
      clear hnil hfin hlen hlt hpn0 hxs0
      obtain ⟨va, vc, rfl, hvc⟩ := own_slice' hrow
      gi_wp2_with (gi_at_builtin; refine wpListIn_append_own_at _ rfl _ _ 35 rfl wr.heap.size 66 i0 (.agg #[.string ⟨#[]⟩, .int .i64 0, .slice none 0 0]) 3 48 Tryz.underlying35 hi0 hz0 hz1 hz2 rfl (by decide) (.slice va pn0 vc) _ _ rfl (hrow.alloc _) ⟨W.heap.size, 0, none⟩ 1 1 [.string (F y).id, .int .i64 (F y).h, .slice (F y).pa (F y).pn (F y).pc] rfl rfl (cellBlk3 (Blk.new _ _ _)) (one3 rfl rfl rfl) (by unfold maxLen; omega) (by omega) (by simp; omega) ?_; intro v' w1 hown' hgrow _ hat; obtain ⟨g', cap', rfl⟩ := ownsRow_succ hown'; obtain ⟨hv1, hv2, hr2, hk2, hb2⟩ := hv.appended (by decide) hrow hB.size (Nat.le_refl _) hown' hgrow; have hc1 := hv1.cell; have hf1 := hv1.frozen)
      refine ⟨hk2.from _, keepO_append (va := 0) (by omega) hc _ hgrow hat hv2.cell, ⟨_, hv2, by rw [HLEN.out, HFIN.out]; exact hr2, fun h => by simp at h⟩, hB.trans hb2⟩
     case done =>
      rintro D xs W hD rfl ⟨⟨v, hv, hrow, -⟩, hB⟩ hK
      have hxs : (List.finRange l.length).map F = fs := by
       have hF : F = fun j => fs.getD j.1 noFc := HFF.out
       rw [hF]
       apply List.ext_getElem
       ·rw [List.length_map, List.length_finRange]; exact HFL.out.symm
       ·intro k h1 h2
        rw [List.getElem_map, List.getElem_finRange]
        simp only [Fin.val_cast]
        rw [List.getD_eq_getElem?_getD, List.getElem?_eq_getElem h2]; rfl
      rw [hxs, List.length_finRange] at hrow
      obtain ⟨va, vc, rfl, hvc⟩ := own_slice' hrow
      have hrow2 : W.ownsRow wr.heap.size 66 3 (.slice va l.length vc) l.length (fvals fs) := hrow
      have hc := hv.cell
      have hK2 := hid hK
      have HROW := hid hrow2
      have HBB := hid hB
      subst hA0
      clear hK hrow hB hrow2 hxs
      go_wp2
      refine ⟨by simp, .inl ⟨_, _, rfl, run_takeDeferred hK2.out, ?_⟩⟩
      have hbe : Below wr.heap.size wr (W.putObj D (.deferred none)) := HBB.out.trans (belowK_b (w := wr) (Nat.le_refl _) W D _ _ (by omega) hK2.out rfl rfl)
      obtain ⟨va', vc', hfe, hF⟩ := own_fcs (ownsRow_putObj HROW.out (.deferred none) hK2.out rfl) (by have := HL6.out; omega)
      injection hfe with e1 e2 e3
      subst e1; subst e3
      exact ⟨_, results_tmp2 rfl _ _ _, 0, l.map (faOf G), _, _, _, fs, HFO.out, rfl, hF, HFA.out.later hbe, below_then HB.out hbe⟩
     case stop =>
      rintro D c pre W _ _ h _
      exact h.elim
    ·have HFI := hid (factsIs_err HNE.out HI.out.went h0)
     have HB := hid HI.out.below
     have h1 : (er != 0) = true := by simp [h0]
     have h2 : decide (er = 0) = false := decide_eq_false h0
     have h3 : (er == 0) = false := by simp [h0]
     clear h0 HI
     go_wp2_with fail
     exact ⟨_, results_tmp2 rfl _ _ _, er, [], none, 0, 0, [], HFI.out, rfl, ⟨rfl, by omega, .inl rfl⟩, ⟨rfl, fun j hj => by (cases hj)⟩, HB.out⟩
   | cons x td =>
    obtain ⟨qg, qo, rfl, q0, hq1, hq2⟩ := HI.out.que.head
    have hnc := HI.out.que.2.1
    have hl0 : (0 : Int) < ((x :: td).length : Int) := by rw [List.length_cons]; omega
    have HL : Hid ((x :: td).length = td.length + 1) := rfl
    have HKN := hid HI.out.map.keysN
    obtain ⟨xn, hxn⟩ : ∃ xn, (x :: td).length = xn := ⟨_, rfl⟩
    have HXN : Hid (xn = td.length + 1) := hxn.symm
    rw [hxn] at hnc hl0 hq1 hq2 ⊢
    have hq3 := hid hq1; have hq4 := hid hq2
    clear hq1 hq2 hxn HL
    go_upto_region 9 with fail
    go_cut [10] from 30 to 66 (fun tv wx => ∃ a' c', tv = .slice a' td.length c' ∧ wr = wx ∧ Hid (QAt wr w.heap.size a' td.length c' td ∧ ∀ k, qF a' c' k → qF (some ⟨qg, qo, none⟩) c k))
    case first =>
     have hx1 := HXN.out
     subst hx1
     by_cases hc1 : c = 1
     ·subst hc1
      obtain rfl : td = [] := List.length_eq_zero_iff.1 (by omega)
      go_wp2_with fail
      go_meet
      case rel => exact ⟨_, _, rfl, rfl, hq4.out trivial _, fun k hk => by (exact (qF_none hk).elim)⟩
     ·have hc2 : ¬ (c = 1) := hc1
      have hc3 : ¬ (c - 1 = 0) := by omega
      have hc4 : (c - 1 == 0) = false := by simp [hc3]
      go_wp2_with fail
      go_meet
      case rel => exact ⟨_, _, rfl, rfl, hq3.out (by omega), fun k hk => qF_tail hk⟩
    case rest =>
     obtain ⟨a', c', rfl, rfl, HQ⟩ := hcut
     have HG := hid (getFc m ks vs l fs x wr HI.out.map)
     clear q0
     go_wp2_with fail
     refine HG.out.mono ?_; rintro e w4 ⟨fx, rfl, hb4⟩
     have HB5 : Hid (Below wr.heap.size wr (w4.alloc (.cells #[.string fx.id, .int .i64 fx.h, .slice fx.pa fx.pn fx.pc] 66))) := hb4.alloc hb4.size _
     clear hb4 HG
     go_upto_region 11 with fail
     generalize (w4.alloc (.cells #[.string fx.id, .int .i64 fx.h, .slice fx.pa fx.pn fx.pc] 66)) = w5 at HB5 ⊢
     have HI5 := hid (HI.out.later HB5.out)
     have HM5 := hid HI5.out.map.keysN
     cases hh : hasN l x with
     | true =>
      have HI6 := hid (HI5.out.skip (hasN_iff.1 hh) (HQ.out.1.only (Only.of_below HB5.out NoF) (fun _ _ e => e)) HQ.out.2)
      clear hh
      go_wp2_with fail
      go_roundw
      case rel => exact ⟨er, a', c', td, ks, vs, l, fs, rfl, rfl, HI6⟩
      case measure => rw [HM5.out, HKN.out]; have := HXN.out; simp only [lenV]; omega
     | false =>
      have hx := hid hh
      clear hh
      have HLK := hid (look_any t rv G x 3 21 w5 (HS.out.later HI5.out.below) hz)
      go_wp2_with fail
      refine HLK.out.mono ?_; rintro e w6 ⟨ev, pv, rfl, hO6, hb6, hf6⟩
      obtain ⟨ea, en, ec, pa, pn, pc, rfl, -, rfl, hps⟩ := hO6
      have HPS : Hid (StrsAt w6 pa pn (obF G x).pars) := hps
      have HPF : Hid (∀ k, (Value.slice pa pn pc).ownBlock = some k → w5.heap.size ≤ k) := fun k hk => hf6 k (.inr hk)
      have HB6 := hid hb6
      have eE : (lookK G x 3 21).2 = errF G x := rfl
      have eO : (lookK G x 3 21).1 = obF G x := rfl
      rw [eE, eO]
      obtain ⟨X, hX⟩ : ∃ X, obF G x = X := ⟨_, rfl⟩
      obtain ⟨er2, her2⟩ : ∃ er2, errF G x = er2 := ⟨_, rfl⟩
      rw [hX, her2]
      rw [hX] at HPS
      have HXX := hid hX
      have HER := hid her2
      have HX7 : Hid (Blk (w6.alloc (.cells (obCs X (.slice ea en ec) (.slice pa pn pc)) 98)) w6.heap.size 98 (obCs X (.slice ea en ec) (.slice pa pn pc))) := Blk.new w6 _ _
      have HB7 : Hid (Below w6.heap.size w6 (w6.alloc (.cells (obCs X (.slice ea en ec) (.slice pa pn pc)) 98))) := (Below.refl _ _).alloc (Nat.le_refl _) _
      unfold obCs at HX7 HB7
      simp only [obCs]
      clear hps hb6 hf6 HLK eE eO hX her2
      have HW := hid (worse_any er er2)
      go_upto_region 13 with fail
      generalize (w6.alloc (.cells #[.int .i64 X.kind, .string X.data, .slice ea en ec, .string X.tree, .slice pa pn pc, .int .i64 X.height, .string X.note] 98)) = w7 at HX7 HB7 ⊢
      generalize ho7 : w6.heap.size = o7 at HX7 HB7 ⊢
      have HO7 := hid ho7
      clear ho7
      go_wp2_with fail
      refine (HW.out w7).mono ?_; rintro e w8 ⟨rfl, hb8⟩
      have HX8 : Hid (Blk w8 o7 98 #[.int .i64 X.kind, .string X.data, .slice ea en ec, .string X.tree, .slice pa pn pc, .int .i64 X.height, .string X.note]) := (hb8.block o7 (Blk.lt HX7.out)).trans HX7.out
      have HB8 : Hid (Below w6.heap.size w6 w8) := by have h := HB7.out; rw [← HO7.out] at h; exact below_then h hb8
      clear hb8 HX7 HB7 HW
      have k4 : w8.cell? ⟨o7, 4, none⟩ = some (.slice pa pn pc) := Blk.cell HX8.out 4
      have k5 : w8.cell? ⟨o7, 5, none⟩ = some (.int .i64 X.height) := Blk.cell HX8.out 5
      have HI8 := hid ((HI5.out.later HB6.out).later HB8.out)
      have HCUT := hid (HI8.out.cut HQ.out.2)
      obtain ⟨hU1, hU2, hU3⟩ := HU.out
      have hlU : l.length + 1 ≤ U.length := by
       have hr := HI.out.map.2.2.2.2.1
       have hn : (x :: l).Nodup := List.nodup_cons.2 ⟨hasN_no.1 hx.out, rising_nodup hr⟩
       have := nodup_le hn (m := U) (fun q hq => by
        rcases List.mem_cons.1 hq with rfl | hq
        ·exact hU1 _ (HI.out.went.todo _ (List.mem_cons_self ..))
        ·exact hU1 q (HI.out.went.seen q hq))
       simpa using this
      have hp8 : X.pars.length ≤ 8 := by rw [← HXX.out]; exact hU3 x
      have hpl : X.pars.length = pn := HPS.out.1
      have HPL := hid hpl
      have HPU := hid (putF_no m ks vs l fs x x X.height pa pn pc w8 HI8.out.map hx.out (by omega))
      have HLU := hid hlU
      have HP8 : Hid (pn ≤ 8) := by rw [← hpl]; exact hp8
      have HUL := hid hU2
      have HFEW := hid HI.out.few
      clear hU1 hU2 hU3 hlU hp8 hpl
      go_wp2_with fail
      refine HPU.out.mono ?_; rintro e w9 ⟨rfl, ks', vs', hm9, ho9, hk9⟩
      have HM9 := hid hm9; have HO9 := hid ho9; have HK9 := hid hk9
      have hmo : ¬ MapF m ks vs o7 := fun e => by
       have h1 := HI5.out.map.lt o7 e
       have h2 := HB6.out.size
       rw [HO7.out] at h2; omega
      have k4' : w9.cell? ⟨o7, 4, none⟩ = some (.slice pa pn pc) := Blk.cell ((ho9.block o7 (Blk.lt HX8.out) hmo).trans HX8.out) 4
      have HPS9 : Hid (StrsAt w9 pa pn X.pars) := by
       have h8 : StrsAt w8 pa pn X.pars := HPS.out.later HB8.out
       have hp : PsAt w8 (MapF m ks vs) ⟨x, 0, pa, pn, pc⟩ X.pars := by
        refine ⟨h8, ?_⟩
        rcases h8.2.2 with h0 | ⟨b, off, ha, hc⟩
        ·exact .inl h0
        ·by_cases h0 : pn = 0
         ·exact .inl h0
         ·refine .inr ⟨b, off, ha, fun e => ?_, World.block_lt_of_cell? w8 _ (hc 0 (by omega))⟩
          have hge := HPF.out b (by rw [ha]; rfl)
          have := HI5.out.map.lt b e
          omega
       exact (hp.step (M' := NoF) HO9.out (fun _ _ e => e) (fun _ _ e => e.elim)).1
      have HQ9 : Hid (QAt w9 w.heap.size a' td.length c' td) := by
       have q8 : QAt w8 w.heap.size a' td.length c' td := ((HQ.out.1.only (Only.of_below HB5.out NoF) (fun _ _ e => e)).only (Only.of_below HB6.out NoF) (fun _ _ e => e)).only (Only.of_below HB8.out NoF) (fun _ _ e => e)
       exact q8.only HO9.out (fun k h1 h2 => HCUT.out.2 k h2 h1)
      have hwB : w.heap.size ≤ w9.heap.size := Nat.le_trans HI8.out.below.size ho9.size
      have hfew2 : td.length + pn ≤ 1000000 := by
       have h1 := HFEW.out; have h2 := HP8.out; have h3 := HLU.out; have h4 := HUL.out
       rw [List.length_cons] at h1; omega
      clear hm9 ho9 hk9 hmo HPU k4 k5 HX8
      go_wp2_with (at_builtin; refine wpList_append_q rfl (.tmp 63) (.tmp 65) rfl w.heap.size a' td.length c' td rfl HQ9.out hwB pa pn pc X.pars rfl HPS9.out hfew2 ?_; intro a9 c9 w10 hq10 ho10 hk10; have HQ10 := hid hq10; have HO10 := hid ho10; have HK10 := hid hk10; clear hq10 ho10 hk10)
      have HI10 : Hid (FInv w w10 G id m (worseZ er er2) a9 c9 (td ++ X.pars) ks' vs' (putN l x) (putVF l fs x ⟨x, X.height, pa, pn, pc⟩)) := by
       rw [← HER.out, ← HXX.out]
       refine FInv.take HI5.out hx.out HQ.out.2 HB6.out (by rw [HXX.out]; exact HPS.out) HPF.out HB8.out (by rw [HXX.out, HPL.out]; exact HP8.out) (by rw [HXX.out]; exact HM9.out) HO9.out HK9.out (by rw [HXX.out]; exact HQ10.out) HO10.out HK10.out
      have HL10 : Hid (td.length + pn = (td ++ X.pars).length) := by
       show _ = _
       rw [List.length_append, HPL.out]
      have HM10 := hid HI10.out.map.keysN
      have HN10 : Hid ((putN l x).length = l.length + 1) := by
       show _ = _
       unfold putN
       rw [if_neg (by rw [hx.out]; simp), List.length_append, List.length_cons, List.length_take, List.length_drop]
       have := posOf_le l x; omega
      go_roundw
      case rel => exact ⟨worseZ er er2, a9, c9, td ++ X.pars, ks', vs', _, _, rfl, by rw [HL10.out], HI10⟩
      case measure =>
       rw [HM10.out, HKN.out, HN10.out]
       have h1 := HXN.out; have h2 := HP8.out; have h3 := HLU.out
       simp only [lenV]; omega
end Go.Proofs.YtmpjdoiogbbcoaaGreatDoor
/- What a commit came from, the highest first: order.Log, snap.Log, whatever the commit came from. -/
namespace Go.Proofs.YtmpjdoiogbbcoaaGreatDoor
open Go.RowKit Book Pap Ojt Sn Go.Sort
set_option linter.unusedVariables false
set_option linter.unusedSimpArgs false

def hG (G : Sw.Src) (q : ByteArray) : Int := (obF G q).height
def rightB (G : Sw.Src) (q : ByteArray) : Bool := hG G q == heightL ((obF G q).pars.map (hG G))
def RightF (G : Sw.Src) (q : ByteArray) : Prop := rightB G q = true
def LogIs (G : Sw.Src) (id : ByteArray) (er : Int) (S : List ByteArray) : Prop :=
 (er = 41 ∧ S = [] ∧ ∃ q, Rch G id q ∧ ¬ RightF G q) ∨ (er = 0 ∧ (∀ q, Rch G id q → RightF G q) ∧ S.Pairwise (fun p q => upQ (hG G) p q = true) ∧ ∀ q, q ∈ S ↔ Rch G id q)
theorem log_one {G : Sw.Src} {id : ByteArray} {e e' : Int} {S S' : List ByteArray} (h : LogIs G id e S) (h' : LogIs G id e' S') : e = e' ∧ S = S' := by
 rcases h with ⟨a1, a2, q, a3, a4⟩ | ⟨a1, a2, a3, a4⟩ <;> rcases h' with ⟨b1, b2, q', b3, b4⟩ | ⟨b1, b2, b3, b4⟩
 ·exact ⟨by rw [a1, b1], by rw [a2, b2]⟩
 ·exact absurd (b2 q a3) a4
 ·exact absurd (a2 q' b3) b4
 ·exact ⟨by rw [a1, b1], upQ_one a3 b3 (fun q => (a4 q).trans (b4 q).symm)⟩
def SLogIs (G : Sw.Src) (id : ByteArray) (er : Int) (S : List ByteArray) : Prop :=
 ∃ er0 L, FactsIs G id er0 L ∧ ((er0 ≠ 0 ∧ er = er0 ∧ S = []) ∨ (er0 = 0 ∧ LogIs G id er S))
theorem slog_one {G : Sw.Src} {id : ByteArray} {e e' : Int} {S S' : List ByteArray} (h : SLogIs G id e S) (h' : SLogIs G id e' S') : e = e' ∧ S = S' := by
 obtain ⟨e0, L, h1, h2⟩ := h
 obtain ⟨e1, L', h3, h4⟩ := h'
 obtain ⟨rfl, rfl⟩ := facts_one h1 h3
 rcases h2 with ⟨a1, a2, a3⟩ | ⟨a1, a2⟩ <;> rcases h4 with ⟨b1, b2, b3⟩ | ⟨b1, b2⟩
 ·exact ⟨by rw [a2, b2], by rw [a3, b3]⟩
 ·exact absurd b1 a1
 ·exact absurd a1 b1
 ·exact log_one a2 b2
/-- the fact of an id -/
def facT (fs : List Fc) (q : ByteArray) : Fc := (tabF fs q).getD ⟨q, 0, none, 0, 0⟩
theorem facT_id (fs : List Fc) (q : ByteArray) : (facT fs q).id = q := by
 unfold facT tabF
 cases h : fs.find? (fun f => decide (f.id = q)) with
 | none => rfl
 | some f =>
  have := List.find?_some h
  simpa using this
theorem facT_at {G : Sw.Src} {w : World} {fs : List Fc} {l : List ByteArray} (hfa : FaAt w fs (l.map (faOf G))) {q : ByteArray} (hq : q ∈ l) : tabF fs q = some (facT fs q) ∧ (facT fs q).h = hG G q ∧ StrsAt w (facT fs q).pa (facT fs q).pn (obF G q).pars := by
 have key : ∀ j, (hj : j < fs.length) → ∃ hjl : j < l.length, fs[j].id = l[j] ∧ fs[j].h = hG G l[j] ∧ StrsAt w fs[j].pa fs[j].pn (obF G l[j]).pars := fun j hj => by
  have hjl : j < l.length := by have := hfa.1; rw [List.length_map] at this; omega
  obtain ⟨g1, g2, g3⟩ := hfa.2 j hj
  have e1 : fs.getD j noFc = fs[j] := by rw [List.getD_eq_getElem?_getD, List.getElem?_eq_getElem hj]; rfl
  have e3 : (l.map (faOf G)).getD j noFa = faOf G l[j] := by
   rw [List.getD_eq_getElem?_getD, List.getElem?_map, List.getElem?_eq_getElem hjl]; rfl
  rw [e1, e3] at g1 g2 g3
  exact ⟨hjl, g1, g2, g3⟩
 obtain ⟨j, hj, rfl⟩ := List.getElem_of_mem hq
 have hjf : j < fs.length := by have := hfa.1; rw [List.length_map] at this; omega
 obtain ⟨_, k1, _, _⟩ := key j hjf
 have hs : (fs.find? (fun f => decide (f.id = l[j]))).isSome = true := List.find?_isSome.2 ⟨fs[j], List.getElem_mem hjf, by simp [k1]⟩
 obtain ⟨f, hf⟩ := Option.isSome_iff_exists.1 hs
 have hfm := List.mem_of_find?_eq_some hf
 have hfi : f.id = l[j] := by simpa using List.find?_some hf
 have e : facT fs l[j] = f := by unfold facT tabF; rw [hf]; rfl
 rw [e]
 obtain ⟨k, hk, rfl⟩ := List.getElem_of_mem hfm
 obtain ⟨hkl, c1, c2, c3⟩ := key k hk
 have e2 : l[k] = l[j] := by rw [← c1, hfi]
 rw [e2] at c2 c3
 exact ⟨hf, c2, c3⟩
def LogOut (w : World) (P : Int → List ByteArray → Prop) (e : Ending) (w' : World) : Prop :=
 ∃ er S a n c, P er S ∧ e = .returned (.tuple #[.slice a n c, .int .i64 er]) ∧ StrsAt w' a n S ∧ Below w.heap.size w w'
set_option maxRecDepth 100000 in
set_option maxHeartbeats 16000000 in
theorem log_any (G : Sw.Src) (id : ByteArray) (l : List ByteArray) (hl : ∀ q, q ∈ l ↔ Rch G id q) (hr : Rising l) (hl6 : l.length ≤ 500000) (a : Option Addr) (n c : Nat) (fs : List Fc) (hsz : ∀ q ∈ l, q.size ≤ maxLen) (hp8 : ∀ q, (obF G q).pars.length ≤ 8) (hh : ∀ q, 0 ≤ hG G q ∧ hG G q ≤ 1073741824)
  (w : World) (hf : FcsAt w a n fs) (hfa : FaAt w fs (l.map (faOf G))) :
  Calls Tryz.prog 45 #[.slice a n c, .string id] w (LogOut w (LogIs G id)) := by
 obtain ⟨i0, hi0, hz0, hz1, hz2⟩ := info_parts Tryz.infoS
 have hids : fs.map (·.id) = l := by
  apply List.ext_getElem
  ·rw [List.length_map, hfa.1, List.length_map]
  ·intro j h1 h2
   rw [List.length_map] at h1
   obtain ⟨g1, g2, g3⟩ := hfa.2 j h1
   have e1 : fs.getD j noFc = fs[j] := by rw [List.getD_eq_getElem?_getD, List.getElem?_eq_getElem h1]; rfl
   have e3 : (l.map (faOf G)).getD j noFa = faOf G l[j] := by
    rw [List.getD_eq_getElem?_getD, List.getElem?_map, List.getElem?_eq_getElem h2]; rfl
   rw [e1, e3] at g1
   rw [List.getElem_map]; exact g1
 have HR := hid (read_any a n c fs w hf (by rw [hids]; exact rising_nodup hr) (fun g hg => hsz _ (by rw [← hids]; exact List.mem_map.2 ⟨g, hg, rfl⟩)))
 have HL := hid hl; have HSZ := hid hsz; have HP8 := hid hp8; have HH := hid hh; have HFA := hid hfa
 clear hf hl hsz hp8 hh hfa hr hids
 go_enter Tryz.func45, Tryz.ntmps45
 go_wp2_with fail
 refine HR.out.mono ?_; rintro e w1 ⟨m, rfl, hm1, hml, hb1⟩
 have HM1 := hid hm1
 have HB1 := hid hb1
 have hs1 : w.heap.size ≤ w1.heap.size := hb1.size
 have HFA1 := hid (HFA.out.later hb1)
 have HME := hid (met_any G id l HL.out hl6 m n fs (facT fs) (facT_id fs) (fun q hq => (facT_at HFA1.out hq).1) HSZ.out w1 hm1 (fun q hq => (facT_at HFA1.out hq).2.2))
 clear hm1 hb1 HR
 go_wp2_with fail
 refine HME.out.mono ?_; rintro e w2 ⟨S, fa, fc, rfl, ho2, hpw, hmem, hb2⟩
 have HB2 : Hid (Below w.heap.size w w2) := HB1.out.trans (hb2.mono hs1)
 have HM2 := hid (HM1.out.later hb2)
 have HFA2 := hid (HFA1.out.later hb2)
 have HMEM := hid hmem
 have hndS : S.Nodup := hpw.imp (fun {p q} h e => by subst e; have : upQ (fun q => (facT fs q).h) p p = false := upK_irr _ _; rw [this] at h; cases h)
 have hSl : S.length ≤ 500000 := Nat.le_trans (nodup_le hndS (fun q hq => (hmem q).1 hq)) hl6
 have HPW : Hid (S.Pairwise (fun p q => upQ (hG G) p q = true)) := by
  refine List.Pairwise.imp_of_mem (fun {p q} hp hq h => ?_) hpw
  have e1 := (facT_at HFA2.out ((hmem p).1 hp)).2.1
  have e2 := (facT_at HFA2.out ((hmem q).1 hq)).2.1
  unfold upQ at h ⊢
  rw [← e1, ← e2]; exact h
 obtain ⟨fa', fc', hfe, hF⟩ := own_fcs ho2 (by omega)
 injection hfe with e1 e2 e3
 subst e1; subst e3
 have HFS := hid hF
 have hs2 : w.heap.size ≤ w2.heap.size := HB2.out.size
 clear hF ho2 hb2 HME HM1 HB1 e2 hpw hmem hndS HFA1
 go_wp2_with fail
 go_loopw [31, 9] (fun iv sv wr => ∃ (k : Nat) (sa : Option Addr) (sc : Nat), k ≤ S.length ∧ iv = .int .i64 k ∧ sv = .slice sa k sc ∧ Hid (wr.ownsRow w2.heap.size 9 1 (.slice sa k sc) k (svals (S.take k))) ∧ Hid (Below w2.heap.size w2 wr) ∧ Hid (∀ q ∈ S.take k, RightF G q)) (fun iv _ _ => S.length - (intOf iv).toNat)
 case atStart => exact ⟨0, none, 0, by omega, rfl, rfl, World.ownsRow_nil _ _ _ _, Below.refl _ _, fun q hq => by simp at hq⟩
 case round =>
  obtain ⟨k, sa, sc, hk, rfl, rfl, HO, HBR, HRT⟩ := hrel
  have hsr := HBR.out.size
  by_cases hlt : k < S.length
  ·have ck : (k : Int) < S.length := by omega
   have ck0 : (0 : Int) ≤ (k : Int) := by omega
   obtain ⟨hx0, -, h3⟩ := HFS.out.later HBR.out
   obtain ⟨eb, eoff, rfl, hcell⟩ := h3.resolve_left (by omega)
   obtain ⟨q0, q1, q2⟩ := hcell k hlt
   obtain ⟨x, hx⟩ : ∃ x, S[k] = x := ⟨_, rfl⟩
   have hgd : (S.map (facT fs)).getD k noFc = facT fs x := by
    rw [List.getD_eq_getElem?_getD, List.getElem?_map, List.getElem?_eq_getElem hlt, hx]; rfl
   rw [hgd] at q0 q1 q2
   have hxS : x ∈ S := by rw [← hx]; exact List.getElem_mem hlt
   have hxl : x ∈ l := (HMEM.out x).1 hxS
   have HXL := hid hxl
   have HTK : Hid (S.take (k + 1) = S.take k ++ [x]) := by
    show _ = _
    rw [List.take_succ_eq_append_getElem hlt, hx]
   have hcl : ∀ p ∈ (obF G x).pars, p ∈ l := fun p hp => (HL.out p).2 (.step ((HL.out x).1 hxl) hp)
   have hhp : ∀ p ∈ (obF G x).pars, ((tabF fs p).getD noFc).h = hG G p := fun p hp => by
    obtain ⟨r1, r2, _⟩ := facT_at HFA2.out (hcl p hp)
    rw [r1]; exact r2
   have HRW : Hid (∀ W, Below wr.heap.size wr W → Calls Tryz.prog 90 #[.map (some m), valF (facT fs x)] W fun e w' => e = .returned (.bool (rightB G x)) ∧ Below W.heap.size W w') := fun W hW => by
    have hbW : Below w2.heap.size w2 W := below_then HBR.out hW
    obtain ⟨r1, r2, r3⟩ := facT_at (HFA2.out.later hbW) hxl
    refine (isRight_any m n fs (facT fs x) (obF G x).pars W (HM2.out.later hbW) r3 (by have h8 := HP8.out x; have h9 := r3.1; omega) (fun p hp => HSZ.out p (hcl p hp)) (fun p hp => by rw [hhp p hp]; exact HH.out p)).mono ?_
    rintro e w' ⟨rfl, hb⟩
    refine ⟨?_, hb⟩
    have hmap : (obF G x).pars.map (fun p => ((tabF fs p).getD noFc).h) = (obF G x).pars.map (hG G) := List.map_congr_left hhp
    rw [r2, hmap]; rfl
   have hfi := facT_id fs x
   obtain ⟨⟨xi, xh, xa, xn, xc⟩, hfx⟩ : ∃ f, facT fs x = f := ⟨_, rfl⟩
   rw [hfx] at q0 q1 q2 HRW hfi
   simp only at q0 q1 q2 hfi
   subst hfi
   have ev : valF ⟨xi, xh, xa, xn, xc⟩ = .agg #[.string xi, .int .i64 xh, .slice xa xn xc] := rfl
   rw [ev] at HRW
   have HX : Hid (Blk (wr.alloc (.cells #[.string xi, .int .i64 xh, .slice xa xn xc] 66)) wr.heap.size 66 #[.string xi, .int .i64 xh, .slice xa xn xc]) := Blk.new wr _ _
   have HBX : Hid (Below wr.heap.size wr (wr.alloc (.cells #[.string xi, .int .i64 xh, .slice xa xn xc] 66))) := (Below.refl _ _).alloc (Nat.le_refl _) _
   have HBW : Hid (w.heap.size ≤ wr.heap.size) := Nat.le_trans hs2 hsr
   clear hcell h3 hx0 hgd hx hxS hxl hcl hhp hfx ev
   go_upto_region 11 with fail
   clear q0 q1 q2
   generalize (wr.alloc (.cells #[.string xi, .int .i64 xh, .slice xa xn xc] 66)) = w4 at HX HBX ⊢
   generalize hg4 : wr.heap.size = g4 at HX ⊢
   have HG4 := hid hg4
   clear hg4
   have k0 : w4.cell? ⟨g4, 0, none⟩ = some (.string xi) := Blk.cell HX.out 0
   have k1 : w4.cell? ⟨g4, 1, none⟩ = some (.int .i64 xh) := Blk.cell HX.out 1
   have k2 : w4.cell? ⟨g4, 2, none⟩ = some (.slice xa xn xc) := Blk.cell HX.out 2
   have HIR := hid (HRW.out w4 HBX.out)
   cases hrt : rightB G xi
   case true =>
    rw [hrt] at HIR
    have HRT2 : Hid (∀ q ∈ S.take (k + 1), RightF G q) := fun q hq => by
     rw [HTK.out] at hq
     rcases List.mem_append.1 hq with hq | hq
     ·exact HRT.out q hq
     ·rw [List.mem_singleton.1 hq]; exact hrt
    clear hrt
    go_wp2_with fail
    refine HIR.out.mono ?_; rintro e w5 ⟨rfl, hb5⟩
    have HX5 : Hid (Blk w5 g4 66 #[.string xi, .int .i64 xh, .slice xa xn xc]) := (hb5.block g4 (Blk.lt HX.out)).trans HX.out
    have HB5 : Hid (Below wr.heap.size wr w5) := below_then HBX.out hb5
    have hs5 := HB5.out.size
    have k0' : w5.cell? ⟨g4, 0, none⟩ = some (.string xi) := Blk.cell HX5.out 0
    have HO5 := hid (own_below HO.out HB5.out)
    clear k0 k1 k2 hb5 HIR HX HBX
    have hk5 : k ≤ 500000 := by omega
    have hw5 : w2.heap.size ≤ w5.heap.size := Nat.le_trans hsr hs5
    go_wp2_with (first
     | (at_builtin; refine wpList_append_own _ rfl (.tmp 39) (.tmp 42) 40 rfl w2.heap.size 9 i0 (.string ⟨#[]⟩) 1 16 Tryz.underlying40 hi0 hz0 hz1 hz2 rfl (by decide) (.slice sa k sc) _ _ rfl (HO5.out.alloc _) ⟨w5.heap.size, 0, none⟩ 1 1 [.string xi] rfl rfl (cellNew1 _ _ _) (one_bytes rfl) (by unfold maxLen; omega) (by omega) (by rw [World.size_alloc]; omega) ?_; intro v' w9 hown' hgrow _; have HOWN := hid hown'; have HGR := hid hgrow; clear hown' hgrow))
    obtain ⟨va', vc', rfl, hvc'⟩ := own_slice' HOWN.out
    have HO9 : Hid (w9.ownsRow w2.heap.size 9 1 (.slice va' (k + 1) vc') (k + 1) (svals (S.take (k + 1)))) := by
     have h := HOWN.out
     rw [HTK.out]
     unfold svals at h ⊢
     rw [List.map_append]; exact h
    have HB9 : Hid (Below w2.heap.size w2 w9) := below_grown1 (below_then HBR.out HB5.out) HO5.out _ hw5 HGR.out
    go_roundw
    case rel => first | exact ⟨k + 1, va', vc', by omega, by go_num, rfl, HO9, HB9, HRT2⟩ | ((repeat apply Exists.intro); exact ⟨⟨k + 1, va', vc', by omega, by go_num, rfl, HO9, HB9, HRT2⟩, rfl⟩)
    case measure => simp [intOf]; omega
   case false =>
    rw [hrt] at HIR
    have HLI : Hid (LogIs G id 41 []) := .inl ⟨rfl, rfl, xi, (HL.out xi).1 HXL.out, by unfold RightF; rw [hrt]; simp⟩
    clear hrt
    go_wp2_with fail
    refine HIR.out.mono ?_; rintro e w5 ⟨rfl, hb5⟩
    have HB5 : Hid (Below w.heap.size w w5) := below_then HB2.out (below_then HBR.out (below_then HBX.out hb5))
    clear hb5 HIR k0 k1 k2
    go_wp2_with fail
    go_ret2
    exact ⟨41, [], none, 0, 0, HLI.out, rfl, ⟨rfl, by omega, .inl rfl⟩, HB5.out⟩
  ·obtain rfl : k = S.length := by omega
   have ck : ¬ (S.length : Int) < S.length := by omega
   have hfull : S.take S.length = S := List.take_of_length_le (Nat.le_refl _)
   have HLI : Hid (LogIs G id 0 S) := .inr ⟨rfl, fun q hq => HRT.out q (by rw [hfull]; exact (HMEM.out q).2 ((HL.out q).2 hq)), HPW.out, fun q => (HMEM.out q).trans (HL.out q)⟩
   have HST : Hid (StrsAt wr sa S.length S) := by
    have h := HO.out
    rw [hfull] at h
    obtain ⟨a9, c9, e9, h9⟩ := own_strs h (by omega)
    injection e9 with e91 _ _
    rw [e91]; exact h9
   clear hfull
   go_wp2_with fail
   go_ret2
   exact ⟨0, S, _, _, _, HLI.out, rfl, HST.out, below_then HB2.out HBR.out⟩
end Go.Proofs.YtmpjdoiogbbcoaaGreatDoor
/- snap.Log, whatever the commit came from; how far a commit's history reaches. -/
namespace Go.Proofs.YtmpjdoiogbbcoaaGreatDoor
open Go.RowKit Book Pap Ojt Sn Go.Sort
set_option linter.unusedVariables false
set_option linter.unusedSimpArgs false

theorem obF_good (G : Sw.Src) (q : ByteArray) : (obF G q).pars.length ≤ 8 ∧ (∀ p ∈ (obF G q).pars, p.size = 32) ∧ 0 ≤ hG G q ∧ hG G q ≤ 1073741824 := by
 by_cases h : errF G q = 0
 ·have he : lookK G q 3 21 = (obF G q, 0) := by
   have : (lookK G q 3 21).2 = 0 := h
   unfold obF
   rw [← this]
  obtain ⟨g1, g2⟩ := lookK_ok he (by decide)
  obtain ⟨h1, h2, h3, h4, _⟩ := good_commit g1 g2
  exact ⟨h1, h2, h3, h4⟩
 ·unfold hG
  rw [obF_err h]
  exact ⟨by decide, ⟨fun p hp => (by cases hp), by decide, by decide⟩⟩
theorem rch_size {G : Sw.Src} {id : ByteArray} (h : id.size ≤ maxLen) {q : ByteArray} (hq : Rch G id q) : q.size ≤ maxLen := by
 cases hq with
 | root => exact h
 | step _ hp => rw [(obF_good G _).2.1 _ hp]; unfold maxLen; omega
theorem flat_le {α β : Type} (f : α → List β) (k : Nat) : ∀ l : List α, (∀ x ∈ l, (f x).length ≤ k) → (l.flatMap f).length ≤ l.length * k
 | [], _ => by simp
 | a :: l, h => by
  have h1 := h a (List.mem_cons_self ..)
  have h2 := flat_le f k l (fun x hx => h x (List.mem_cons_of_mem _ hx))
  rw [List.flatMap_cons, List.length_append, List.length_cons, Nat.add_mul]
  omega
theorem univ_of (fs : List Fi) (hn : fs.length ≤ 12000) (id : ByteArray) : Univ (getF fs) id (id :: fs.flatMap (fun f => (obF (getF fs) f.path).pars)) := by
 refine ⟨fun q hq => ?_, ?_, fun q => (obF_good _ q).1⟩
 ·cases hq with
  | root => exact List.mem_cons_self ..
  | step _ hp =>
   rename_i q' _
   refine List.mem_cons_of_mem _ ?_
   have he : errF (getF fs) q' = 0 := by
    by_cases h : errF (getF fs) q' = 0
    ·exact h
    ·rw [obF_err h] at hp; cases hp
   have hsome : ∃ f ∈ fs, f.path = q' := by
    cases hf : fs.find? (fun f => decide (f.path = q')) with
    | none =>
     exfalso
     have : getF fs q' = none := by unfold getF; rw [hf]; rfl
     unfold errF lookK at he
     rw [this] at he
     simp at he
    | some f => exact ⟨f, List.mem_of_find?_eq_some hf, by simpa using List.find?_some hf⟩
   obtain ⟨f, hf, rfl⟩ := hsome
   exact List.mem_flatMap.2 ⟨f, hf, hp⟩
 ·have := flat_le (fun f : Fi => (obF (getF fs) f.path).pars) 8 fs (fun f _ => (obF_good _ _).1)
  rw [List.length_cons]; omega
set_option maxRecDepth 100000 in
set_option maxHeartbeats 8000000 in
theorem slog_any (t : TypeId) (rv : Value) (G : Sw.Src) (hz : SrcSz G) (id : ByteArray) (hi : id.size ≤ maxLen) (U : List ByteArray) (hU : Univ G id U) (w : World) (hs : SrcAt w t rv G) :
  Calls Tryz.prog 12 #[.iface t rv, .string id] w (LogOut w (SLogIs G id)) := by
 have HF := hid (facts_any t rv G hz id U hU w hs)
 have HU := hid hU
 clear hs hU
 go_enter Tryz.func12, Tryz.ntmps12
 go_wp2_with fail
 refine HF.out.mono ?_; rintro e w1 ⟨er, L, a, n, c, fs, hfi, rfl, hfc, hfa, hb1⟩
 have HB1 := hid hb1
 by_cases h0 : er = 0
 ·subst h0
  have hl : ∃ l, Rising l ∧ (∀ q, q ∈ l ↔ Rch G id q) ∧ L = l.map (faOf G) := by
   rcases hfi with ⟨_, h, _⟩ | ⟨_, _, h⟩
   ·cases h
   ·rcases h with ⟨h, _⟩ | ⟨_, h⟩
    ·exact absurd rfl h
    ·exact h
  obtain ⟨l, hr, hmem, rfl⟩ := hl
  have hl6 : l.length ≤ 500000 := by
   have h1 := nodup_le (rising_nodup hr) (m := U) (fun q hq => HU.out.1 q ((hmem q).1 hq))
   have h2 := HU.out.2.1
   omega
  have HL := hid (log_any G id l hmem hr hl6 a n c fs (fun q hq => rch_size hi ((hmem q).1 hq)) (fun q => (obF_good G q).1) (fun q => (obF_good G q).2.2) w1 hfc hfa)
  have HFI := hid hfi
  clear hfi hfc hfa hb1 HF hmem
  go_wp2_with fail
  refine HL.out.mono ?_; rintro e w2 ⟨er2, S, sa, sn, sc, hli, rfl, hst, hb2⟩
  have HST := hid hst
  have HB2 : Hid (Below w.heap.size w w2) := below_then HB1.out hb2
  have HLI : Hid (SLogIs G id er2 S) := ⟨0, _, HFI.out, .inr ⟨rfl, hli⟩⟩
  clear hst hb2 hli HL
  go_wp2_with fail
  go_ret2
  exact ⟨er2, S, _, _, _, HLI.out, rfl, HST.out, HB2.out⟩
 ·have HLI : Hid (SLogIs G id er []) := ⟨er, L, hfi, .inl ⟨h0, rfl, rfl⟩⟩
  have h1 : (er != 0) = true := by simp [h0]
  have h2 : decide (er = 0) = false := decide_eq_false h0
  have h3 : (er == 0) = false := by simp [h0]
  clear hfi hfc hfa hb1 HF h0
  go_wp2_with fail
  go_ret2
  exact ⟨er, [], none, 0, 0, HLI.out, rfl, ⟨rfl, by omega, .inl rfl⟩, HB1.out⟩
end Go.Proofs.YtmpjdoiogbbcoaaGreatDoor
/- Facts and a log where nothing is missing and all heights are right (plain). -/
namespace Go.Proofs.YtmpjdoiogbbcoaaGreatDoor
open Go.RowKit Book Pap Ojt Sn
set_option linter.unusedVariables false
set_option linter.unusedSimpArgs false

theorem worst_zero {G : Sw.Src} {R : ByteArray → Prop} {er : Int} (h : WorstOf G R er) (h0 : ∀ q, R q → errF G q = 0) : er = 0 := by
 rcases h.2.1 with e | ⟨q, hq, e⟩
 ·exact e
 ·rw [h0 q hq] at e; exact e.symm
theorem facts_fine {G : Sw.Src} {id : ByteArray} {er : Int} {L : List Fa} (h : FactsIs G id er L) (hn : G id ≠ none) (h0 : ∀ q, Rch G id q → errF G q = 0) : er = 0 ∧ ∃ l, Rising l ∧ (∀ q, q ∈ l ↔ Rch G id q) ∧ L = l.map (faOf G) := by
 rcases h with ⟨h1, _⟩ | ⟨_, h2, h3⟩
 ·exact absurd h1 hn
 ·have e := worst_zero h2 h0
  rcases h3 with ⟨h4, _⟩ | ⟨_, h5⟩
  ·exact absurd e h4
  ·exact ⟨e, h5⟩
theorem slog_fine {G : Sw.Src} {id : ByteArray} {er : Int} {S : List ByteArray} (h : SLogIs G id er S) (hn : G id ≠ none) (h0 : ∀ q, Rch G id q → errF G q = 0) (hr : ∀ q, Rch G id q → RightF G q) :
  er = 0 ∧ S.Pairwise (fun p q => upQ (hG G) p q = true) ∧ ∀ q, q ∈ S ↔ Rch G id q := by
 obtain ⟨e0, L, h1, h2⟩ := h
 obtain ⟨rfl, -⟩ := facts_fine h1 hn h0
 rcases h2 with ⟨h2, _⟩ | ⟨_, h3⟩
 ·exact absurd rfl h2
 ·rcases h3 with ⟨_, _, q, hq, hb⟩ | ⟨h4, _, h5, h6⟩
  ·exact absurd (hr q hq) hb
  ·exact ⟨h4, h5, h6⟩
theorem found_of {G : Sw.Src} {id : ByteArray} {X : Ob} (hx : lookK G id 3 21 = (X, 0)) : G id ≠ none := by
 intro h
 unfold lookK at hx
 rw [h] at hx
 injection hx with _ hx
 exact absurd hx (by decide)
theorem slog_root {G : Sw.Src} {id : ByteArray} {X : Ob} {er : Int} {S : List ByteArray} (hx : lookK G id 3 21 = (X, 0)) (hp : X.pars = []) (hh : X.height = 0) (h : SLogIs G id er S) : er = 0 ∧ S = [id] := by
 have ho : obF G id = X := by unfold obF; rw [hx]
 have key : ∀ q, Rch G id q → q = id := fun q hq => by
  induction hq with
  | root => rfl
  | step _ hpq ih =>
   subst ih
   rw [ho, hp] at hpq; cases hpq
 obtain ⟨h1, h2, h3⟩ := slog_fine h (found_of hx) (fun q hq => by rw [key q hq]; unfold errF; rw [hx]) (fun q hq => by
  rw [key q hq]
  unfold RightF rightB hG
  rw [ho, hp, hh]; rfl)
 refine ⟨h1, upQ_one h2 (List.pairwise_singleton _ _) (fun q => (h3 q).trans ⟨fun hq => List.mem_singleton.2 (key q hq), fun hq => by rw [List.mem_singleton.1 hq]; exact .root⟩)⟩
end Go.Proofs.YtmpjdoiogbbcoaaGreatDoor
