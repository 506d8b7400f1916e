/- Texts in a row: SnT, SnU, SnF, PathWalkD, SnC, SnD, SeqV. -/
import Derived.Test.YtmpjdoiogbbcoaaGreatDoorMhG
import Derived.RangeFuncBox
import Derived.RangeFuncLeaves
import Derived.Shelf.Abstract
import Derived.WalkKit
import Derived.OwnWalkIn
import Derived.TacticsInMore
import Derived.LoopNIn
import Derived.LoopIn
import Derived.Maps.AppendAt
/- Folders laid down: tree. -/
namespace Go.Proofs.YtmpjdoiogbbcoaaGreatDoor
open Go.RowKit Book Pap Ojt Sn
set_option linter.unusedVariables false
set_option linter.unusedSimpArgs false

/-- no name is a file and a folder -/
def FitD : Nat → List Fl → Prop
 | 0, _ => True
 | d + 1, fs => (∀ n, leafs fs n ≠ none → sub n fs = []) ∧ (∀ n, FitD d (sub n fs)) ∧ ∀ n ∈ namesF fs, n.size ≤ 9223372036854775807
theorem layS_len (L : List ByteArray) (x : Ob) : L.length ≤ (layS L x).1.length := by
 unfold layS
 simp only
 split
 ·exact Nat.le_refl _
 ·rw [List.length_append]; omega
theorem nameS_len {rec : List Fl → List ByteArray → List ByteArray × ByteArray} (hr : ∀ fs L, L.length ≤ (rec fs L).1.length) (fs : List Fl) (L : List ByteArray) (n : ByteArray) : L.length ≤ (nameS rec fs L n).1.length := by
 unfold nameS
 split
 ·exact layS_len _ _
 ·exact hr _ _
theorem entsS_len {rec : List Fl → List ByteArray → List ByteArray × ByteArray} (hr : ∀ fs L, L.length ≤ (rec fs L).1.length) (fs : List Fl) : ∀ (ns : List ByteArray) (L : List ByteArray) (E : List Ent), L.length ≤ (entsS rec fs ns L E).1.length
 | [], L, E => Nat.le_refl _
 | n :: r, L, E => Nat.le_trans (nameS_len hr fs L n) (entsS_len hr fs r _ _)
theorem treeS_len : ∀ (d : Nat) (fs : List Fl) (L : List ByteArray), L.length ≤ (treeS d fs L).1.length
 | 0, fs, L => Nat.le_refl _
 | d + 1, fs, L => Nat.le_trans (entsS_len (treeS_len d) fs _ L []) (layS_len _ _)
theorem nameS_leaf {rec : List Fl → List ByteArray → List ByteArray × ByteArray} {fs : List Fl} {L : List ByteArray} {n : ByteArray} (h : sub n fs = []) : nameS rec fs L n = ((layS L (blobOf ((leafs fs n).getD ByteArray.empty))).1, ⟨n, 1, (layS L (blobOf ((leafs fs n).getD ByteArray.empty))).2⟩) := by
 unfold nameS; rw [if_pos h]
theorem nameS_dir {rec : List Fl → List ByteArray → List ByteArray × ByteArray} {fs : List Fl} {L : List ByteArray} {n : ByteArray} (h : sub n fs ≠ []) : nameS rec fs L n = ((rec (sub n fs) L).1, ⟨n, 2, (rec (sub n fs) L).2⟩) := by
 unfold nameS; rw [if_neg h]
theorem BuAt.only {G : Nat → Prop} {B : Nat} {w w' : World} {b m : Nat} {v : Value} {L : List ByteArray} (h : BuAt B w b m v L) (ho : Only G w w') (hb : ¬ G b) (hm : ¬ G m) (hv : ∀ k, v.ownBlock = some k → ¬ G k) : BuAt B w' b m v L :=
 ⟨h.1.only ho hb, own_only h.2.1 ho hv, h.2.2.1.only ho hm, h.2.2.2⟩
theorem putN_len (l : List ByteArray) (y : ByteArray) : (putN l y).length ≤ l.length + 1 := by
 unfold putN
 split
 ·omega
 ·rw [List.length_append, List.length_cons, List.length_take, List.length_drop]; omega
theorem setOf_len : ∀ (l acc : List ByteArray), (l.foldl putN acc).length ≤ acc.length + l.length
 | [], acc => Nat.le_refl _
 | y :: l, acc => by
  have h1 := setOf_len l (putN acc y)
  have h2 := putN_len acc y
  rw [List.foldl_cons, List.length_cons]; omega
theorem namesF_len (fs : List Fl) : (namesF fs).length ≤ fs.length := by
 unfold namesF
 have h1 := setOf_len (fs.filterMap headOf) []
 have h2 := List.length_filterMap_le headOf fs
 simp only [List.length_nil, Nat.zero_add] at h1
 exact Nat.le_trans h1 h2
/-- in a round of tree: the entry's block, the object's, its entries, the builder -/
def TrAt (B b m x0 e0 : Nat) (w2 : World) (v vi : Value) (Li : List ByteArray) (ea : Option Addr) (ec i : Nat) (E : List Ent) (W : World) (cs : Array Value) : Prop :=
 Blk W e0 76 cs ∧ Blk W x0 98 (obCs (treeOf E) (.slice ea i ec) (.slice none 0 0)) ∧ W.ownsRow w2.heap.size 76 3 (.slice ea i ec) i (evals E) ∧ BuAt B W b m vi Li ∧
 Only (fun k => BF b m v k ∨ k = x0) w2 W ∧ (∀ k, vi.ownBlock = some k → (v.ownBlock = some k ∨ w2.heap.size ≤ k) ∧ k ≠ e0) ∧ (∀ k, (Value.slice ea i ec).ownBlock = some k → k ≠ e0) ∧
 (b < x0 ∧ m < x0 ∧ (∀ k, v.ownBlock = some k → k < x0) ∧ x0 < w2.heap.size ∧ w2.heap.size ≤ e0)
theorem own_ne2 {w : World} {B B' : Nat} {e e' : TypeId} {size size' n n' : Nat} {v v' : Value} {xs xs' : List Value} (h : w.ownsRow B e size v n xs) (h' : w.ownsRow B' e' size' v' n' xs') (hne : e ≠ e') {k : Nat} (hk : v.ownBlock = some k) : v'.ownBlock ≠ some k := by
 rcases h.2 with ⟨rfl, _⟩ | ⟨g', cap, cur, rfl, _, hh, _⟩
 ·simp [Value.ownBlock] at hk
 ·have : g' = k := by simpa [Value.ownBlock] using hk
  subst this
  exact own_blk_ne h' (cs := cur) (t := e) hh (fun e => hne e.symm)
theorem TrAt.set {B b m x0 e0 : Nat} {w2 : World} {v vi : Value} {Li : List ByteArray} {ea : Option Addr} {ec i : Nat} {E : List Ent} {W : World} {cs : Array Value} (h : TrAt B b m x0 e0 w2 v vi Li ea ec i E W cs) (j : Nat) (u : Value) :
  TrAt B b m x0 e0 w2 v vi Li ea ec i E (W.setCell ⟨e0, j, none⟩ u) (cs.setIfInBounds j u) := by
 obtain ⟨h1, h2, h3, h4, h5, h6, h7, g1, g2, g3, g4, g5⟩ := h
 have ho : Only (· = e0) W (W.setCell ⟨e0, j, none⟩ u) := (Only.refl (· = e0) W).setCell (p := ⟨e0, j, none⟩) (.inl rfl) _
 exact ⟨h1.set j u, h2.only ho (fun (e : x0 = e0) => by omega), own_only h3 ho (fun k hk e => h7 k hk e), h4.only ho (fun (e : b = e0) => by omega) (fun (e : m = e0) => by omega) (fun k hk e => (h6 k hk).2 e),
  h5.setCell (p := ⟨e0, j, none⟩) (.inr g5) _, h6, h7, g1, g2, g3, g4, g5⟩
theorem TrAt.lay {B b m x0 e0 : Nat} {w2 : World} {v vi : Value} {Li : List ByteArray} {ea : Option Addr} {ec i : Nat} {E : List Ent} {W : World} {cs : Array Value} (h : TrAt B b m x0 e0 w2 v vi Li ea ec i E W cs) {r : List ByteArray × ByteArray} {e : Ending} {W' : World} (o : LayOut B W b m vi r e W') :
  ∃ v', e = .returned (.string r.2) ∧ TrAt B b m x0 e0 w2 v v' r.1 ea ec i E W' cs := by
 obtain ⟨h1, h2, h3, h4, h5, h6, h7, g1, g2, g3, g4, g5⟩ := h
 obtain ⟨v', rfl, hu, ho, hv⟩ := o
 have hx : ¬ BF b m vi x0 := by
  rintro (e | e | e)
  ·omega
  ·omega
  ·rcases (h6 _ e).1 with h | h
   ·have := g3 _ h; omega
   ·omega
 have he : ¬ BF b m vi e0 := by
  rintro (e | e | e)
  ·omega
  ·omega
  ·exact (h6 _ e).2 rfl
 refine ⟨v', rfl, h1.only ho he, h2.only ho hx, own_only h3 ho ?_, hu, h5.trans ho ?_, fun k hk => ?_, h7, g1, g2, g3, g4, g5⟩
 ·rintro k hk (e | e | e)
  ·have := (h3.lt k hk).1; omega
  ·have := (h3.lt k hk).1; omega
  ·exact own_ne2 h3 h4.2.1 (by decide) hk e
 ·rintro k (e | e | e)
  ·exact .inl (.inl (.inl e))
  ·exact .inl (.inl (.inr (.inl e)))
  ·rcases (h6 _ e).1 with h | h
   ·exact .inl (.inl (.inr (.inr h)))
   ·exact .inr h
 ·rcases hv k hk with h | h
  ·exact h6 k h
  ·have h8 := h1.lt
   have h9 := h5.size
   exact ⟨.inr (by omega), by omega⟩
theorem TrAt.app {B b m x0 e0 : Nat} {w2 : World} {v vi : Value} {Li : List ByteArray} {ea : Option Addr} {ec i : Nat} {E : List Ent} {W W2 : World} {cs : Array Value} (h : TrAt B b m x0 e0 w2 v vi Li ea ec i E W cs) (o : Obj) {ea' : Option Addr} {ec' : Nat} {y : Ent}
  (hg : (W.alloc o).grownBy W2 (Value.slice ea i ec).ownBlock) (hr : W2.ownsRow w2.heap.size 76 3 (.slice ea' (i + 1) ec') (i + 1) (evals (E ++ [y]))) (hx : Blk W2 x0 98 (obCs (treeOf E) (.slice ea i ec) (.slice none 0 0))) :
  Blk (W2.setCell ⟨x0, 2, none⟩ (.slice ea' (i + 1) ec')) x0 98 (obCs (treeOf (E ++ [y])) (.slice ea' (i + 1) ec') (.slice none 0 0)) ∧ (W2.setCell ⟨x0, 2, none⟩ (.slice ea' (i + 1) ec')).ownsRow w2.heap.size 76 3 (.slice ea' (i + 1) ec') (i + 1) (evals (E ++ [y])) ∧
  BuAt B (W2.setCell ⟨x0, 2, none⟩ (.slice ea' (i + 1) ec')) b m vi Li ∧ Only (fun k => BF b m v k ∨ k = x0) w2 (W2.setCell ⟨x0, 2, none⟩ (.slice ea' (i + 1) ec')) ∧ ∀ k, vi.ownBlock = some k → v.ownBlock = some k ∨ w2.heap.size ≤ k := by
 obtain ⟨h1, h2, h3, h4, h5, h6, h7, g1, g2, g3, g4, g5⟩ := h
 have ho : Only (· = x0) W2 (W2.setCell ⟨x0, 2, none⟩ (.slice ea' (i + 1) ec')) := (Only.refl (· = x0) W2).setCell (p := ⟨x0, 2, none⟩) (.inl rfl) _
 have hg' : Only (fun k => (Value.slice ea i ec).ownBlock = some k) W W2 := ((Only.refl _ _).alloc o).grown hg (fun k hk => .inl hk)
 have hxv : ∀ k, vi.ownBlock = some k → k ≠ x0 := fun k hk e => by
  subst e
  rcases (h6 _ hk).1 with h | h
  ·have := g3 _ h; omega
  ·omega
 refine ⟨?_, own_only hr ho (fun k hk e => own_blk_ne hr hx (by decide) (by rw [hk]; exact congrArg some e)), (h4.only hg' (own_blk_ne h3 h4.1 (by decide)) (map_row_ne h4.2.2.1 h3) (fun k hk e => own_ne2 h3 h4.2.1 (by decide) e hk)).only ho (fun (e : b = x0) => by omega) (fun (e : m = x0) => by omega) (fun k hk e => hxv k hk e), ?_, fun k hk => (h6 k hk).1⟩
 ·have := hx.set 2 (.slice ea' (i + 1) ec')
  show Blk _ _ _ _
  simpa [obCs, treeOf] using this
 ·exact (((h5.alloc o).grown hg (fun k hk => .inr (h3.lt k hk).1))).setCell (p := ⟨x0, 2, none⟩) (.inl (.inr rfl)) _
set_option maxRecDepth 100000 in
set_option maxHeartbeats 16000000 in
theorem tree_any (B b m : Nat) : ∀ (d : Nat) (fs : List Fl) (F : Nat → Prop) (bf : Nat) (L : List ByteArray) (v : Value) (w : World),
  FoAt d w F bf fs → FitD d fs → fs.length ≤ 1000 → BuAt B w b m v L → (∀ k, F k → ¬ BF b m v k) → B ≤ w.heap.size → (treeS d fs L).1.length ≤ 100000 →
  Calls Tryz.prog 101 #[.pointer (some ⟨b, 0, none⟩), .pointer (some ⟨bf, 0, none⟩)] w (LayOut B w b m v (treeS d fs L)) := by
 intro d
 induction d with
 | zero => intro fs F bf L v w h; exact h.elim
 | succ d ih =>
  intro fs F bf L v w hF hfit hfl hU hsep hBw hfin
  have IH := hid ih
  clear ih
  obtain ⟨i0, hi0, hz0, hz1, hz2⟩ := info_parts Tryz.infoEnt
  have HF := hid hF; have HFT := hid hfit; have HU := hid hU; have HSEP := hid hsep
  have HTR : Hid (treeS (d + 1) fs L = layS (entsS (treeS d) fs (namesF fs) L []).1 (treeOf (entsS (treeS d) fs (namesF fs) L []).2)) := rfl
  have HEL : Hid ((entsS (treeS d) fs (namesF fs) L []).1.length ≤ 100000) := Nat.le_trans (layS_len _ _) hfin
  have hbl : b < w.heap.size := Blk.lt hU.1
  have hml : m < w.heap.size := hU.2.2.1.lt
  have HVL : Hid (∀ k, v.ownBlock = some k → k < w.heap.size) := fun k hk => own_lt hU.2.1 hk
  have hBb := hU.2.2.2.1
  have hBm := hU.2.2.2.2
  have HX1 : Hid (Blk (w.alloc (.cells (obCs (treeOf []) (.slice none 0 0) (.slice none 0 0)) 98)) w.heap.size 98 (obCs (treeOf []) (.slice none 0 0) (.slice none 0 0))) := Blk.new w _ _
  have HL1 : Hid (Below w.heap.size w (w.alloc (.cells (obCs (treeOf []) (.slice none 0 0) (.slice none 0 0)) 98))) := (Below.refl _ _).alloc (Nat.le_refl _) _
  have e0 : obCs (treeOf []) (.slice none 0 0) (.slice none 0 0) = #[.int .i64 2, .string ⟨#[]⟩, .slice none 0 0, .string ⟨#[]⟩, .slice none 0 0, .int .i64 0, .string ⟨#[]⟩] := rfl
  rw [e0] at HX1 HL1
  clear e0 hF hfit hU hsep hfin
  go_enter Tryz.func101, Tryz.ntmps101
  go_upto_region 2 with fail
  obtain ⟨x0, hx0⟩ : ∃ g, w.heap.size = g := ⟨_, rfl⟩
  have HX0 := hid hx0
  rw [hx0] at HX1 HL1 HVL hbl hml hBw ⊢
  clear hx0
  generalize (w.alloc (.cells #[.int .i64 2, .string ⟨#[]⟩, .slice none 0 0, .string ⟨#[]⟩, .slice none 0 0, .int .i64 0, .string ⟨#[]⟩] 98)) = w1 at HX1 HL1 ⊢
  have hx1 := Blk.lt HX1.out
  have HNM := hid (names_any d bf fs F w1 (HF.out.only (Only.of_below (by rw [HX0.out]; exact HL1.out) NoF) (fun _ _ e => e)) HFT.out.1 hfl)
  go_wp2_with fail
  refine HNM.out.mono ?_; rintro e w2 ⟨na, nn, nc, rfl, hst, hb2, hfr, hnc⟩
  have HX2 : Hid (Blk w2 x0 98 (obCs (treeOf []) (.slice none 0 0) (.slice none 0 0))) := (hb2.block x0 hx1).trans HX1.out
  have HL2 : Hid (Below x0 w w2) := HL1.out.trans (hb2.mono (Nat.le_of_lt hx1))
  have HST := hid hst; have HFR := hid hfr
  have HNN := hid hst.1
  have hnn63 := hst.2.1
  have hsz2 : x0 < w2.heap.size := Nat.lt_of_lt_of_le hx1 hb2.size
  have hx1' : x0 + 1 ≤ w1.heap.size := hx1
  clear hst hb2 hfr HNM HX1 HL1 hnc
  have HNZ : Hid (∀ k, (Value.slice na nn nc).ownBlock = some k → k < w2.heap.size → ¬ (BF b m v k ∨ k = x0)) := fun k hk hl hf => by
   have h1 := HFR.out k hk
   rcases hf with (hf | hf | hf) | hf
   ·omega
   ·omega
   ·have := HVL.out k hf; omega
   ·omega
  go_wp2_with fail
  go_loopw [14] (fun iv wr => ∃ (i : Nat) (vi : Value) (Li : List ByteArray) (E : List Ent) (ea : Option Addr) (ec : Nat), i ≤ nn ∧ iv = .int .i64 i ∧ Hid (E.length = i) ∧ Hid (Blk wr x0 98 (obCs (treeOf E) (.slice ea i ec) (.slice none 0 0))) ∧ Hid (wr.ownsRow w2.heap.size 76 3 (.slice ea i ec) i (evals E)) ∧ Hid (BuAt B wr b m vi Li) ∧ Hid (Only (fun k => BF b m v k ∨ k = x0) w2 wr) ∧ Hid (∀ k, vi.ownBlock = some k → v.ownBlock = some k ∨ w2.heap.size ≤ k) ∧ Hid (entsS (treeS d) fs (namesF fs) L [] = entsS (treeS d) fs ((namesF fs).drop i) Li E)) (fun iv _ => nn - (intOf iv).toNat)
  case atStart => exact ⟨0, v, L, [], none, 0, Nat.zero_le _, rfl, rfl, HX2, World.ownsRow_nil _ _ _ _, (HU.out.below (by rw [HX0.out]; exact HL2.out)), Only.refl _ _, fun k hk => .inl hk, rfl⟩
  case round =>
   obtain ⟨i, vi, Li, E, ea, ec, hi, rfl, HEL2, HXr, HER, HUr, HO2, HV, HE⟩ := hrel
   have hszr := HO2.out.size
   have HOW : Hid (∀ W, Only (fun k => BF b m v k ∨ k = x0) w2 W → Only (BF b m v) w W) := fun W hO => (Only.of_below (by rw [HX0.out]; exact HL2.out) _).trans hO (fun k hk => hk.imp (fun e => e) (fun e => by rw [HX0.out]; omega))
   have HVI : Hid (∀ k, vi.ownBlock = some k → k < wr.heap.size) := fun k hk => own_lt HUr.out.2.1 hk
   by_cases hlt : i < nn
   ·have ci : (i : Int) < nn := by omega
    have ci0 : (0 : Int) ≤ (i : Int) := by omega
    have hstr : StrsAt wr na nn (namesF fs) := StrsAt.only (c := nc) HST.out HO2.out HNZ.out
    obtain ⟨-, -, h3⟩ := hstr
    obtain ⟨nb, noff, rfl, hcell⟩ := h3.resolve_left (by omega)
    have q0 := hcell i hlt
    have hil : i < (namesF fs).length := by rw [HNN.out]; exact hlt
    have hmem : (namesF fs).getD i ByteArray.empty ∈ namesF fs := by rw [List.getD_eq_getElem?_getD, List.getElem?_eq_getElem hil]; exact List.getElem_mem hil
    have HT : Hid ((namesF fs).drop i = (namesF fs).getD i ByteArray.empty :: (namesF fs).drop (i + 1)) := by
     show _ = _
     rw [List.drop_eq_getElem_cons hil, List.getD_eq_getElem?_getD, List.getElem?_eq_getElem hil]; rfl
    obtain ⟨n, hns⟩ : ∃ z, (namesF fs).getD i ByteArray.empty = z := ⟨_, rfl⟩
    rw [hns] at q0 HT hmem
    have hnz : n.size ≤ maxLen := HFT.out.2.2 n hmem
    have HE1 : Hid (entsS (treeS d) fs (namesF fs) L [] = entsS (treeS d) fs ((namesF fs).drop (i + 1)) (nameS (treeS d) fs Li n).1 (E ++ [(nameS (treeS d) fs Li n).2])) := by
     show _ = _
     rw [HE.out, HT.out]; rfl
    have HNL : Hid ((nameS (treeS d) fs Li n).1.length ≤ 100000) := by
     have h1 := HEL.out
     rw [HE1.out] at h1
     exact Nat.le_trans (entsS_len (treeS_len d) fs _ _ _) h1
    clear hns HT hmem h3 hcell HE hil
    go_upto_region 5 with fail
    obtain ⟨e0, he0⟩ : ∃ e, wr.heap.size = e := ⟨_, rfl⟩
    have HE0 := hid he0
    have HN1 : Hid (Blk (wr.alloc (.cells #[.string n, .int .i64 2, .string ⟨#[]⟩] 76)) e0 76 #[.string n, .int .i64 2, .string ⟨#[]⟩]) := by
     have := Blk.new wr 76 #[.string n, .int .i64 2, .string ⟨#[]⟩]; rw [he0] at this; exact this
    have HX1 : Hid (Blk (wr.alloc (.cells #[.string n, .int .i64 2, .string ⟨#[]⟩] 76)) x0 98 (obCs (treeOf E) (.slice ea i ec) (.slice none 0 0))) := HXr.out.alloc _
    have HER1 : Hid ((wr.alloc (.cells #[.string n, .int .i64 2, .string ⟨#[]⟩] 76)).ownsRow w2.heap.size 76 3 (.slice ea i ec) i (evals E)) := HER.out.alloc _
    have HU1 : Hid (BuAt B (wr.alloc (.cells #[.string n, .int .i64 2, .string ⟨#[]⟩] 76)) b m vi Li) := HUr.out.below ((Below.refl _ _).alloc (Nat.le_refl _) _)
    have HO1 : Hid (Only (fun k => BF b m v k ∨ k = x0) w2 (wr.alloc (.cells #[.string n, .int .i64 2, .string ⟨#[]⟩] 76))) := HO2.out.alloc _
    have hz1 : (wr.alloc (.cells #[.string n, .int .i64 2, .string ⟨#[]⟩] 76)).heap.size = e0 + 1 := by rw [World.size_alloc, he0]
    rw [he0] at HVI hszr
    have HERL0 : Hid (∀ k, (Value.slice ea i ec).ownBlock = some k → k ≠ e0) := fun k hk => by
     have h := (HER.out.lt k hk).2
     omega
    clear HXr HER HUr HO2 he0
    obtain ⟨we, hwe⟩ : ∃ we, (wr.alloc (.cells #[.string n, .int .i64 2, .string ⟨#[]⟩] 76)) = we := ⟨_, rfl⟩
    rw [hwe] at HN1 HX1 HER1 HU1 HO1 hz1
    have HWE := hid hwe
    have HZ1 := hid hz1
    clear hz1
    have HFO := hid (HF.out.only (HOW.out we HO1.out) HSEP.out)
    obtain ⟨mf, md, N, kid, KF, h1, h2, h3, h4, h5, ⟨hFb, hFf, hFd⟩, h6, h7, h8, h9⟩ := HFO.out
    have kb1 : we.cell? ⟨bf, 1, none⟩ = some (.map (some md)) := Blk.cell h1 1
    have hlk := ptrMap_get1 h3 n hnz
    have hgv : ((kid n).map some).getD none = kid n := by cases kid n <;> rfl
    rw [hgv] at hlk
    have H1 := hid h1; have H2 := hid h2; have H7 := hid (h7 n); have H8 := hid (h8 n)
    clear h1 h2 h3 h4 h5 h6 h7 h8 h9 hgv HFO
    rw [← hwe] at kb1 hlk
    clear hwe q0
    obtain ⟨kn, hkn⟩ : ∃ z, kid n = z := ⟨_, rfl⟩
    rw [hkn] at hlk
    have H78 : Hid ((kn = none ↔ sub n fs = []) ∧ ∀ c, kn = some c → FoAt d we (KF n) c (sub n fs) ∧ ∀ k, KF n k → F k) := ⟨by rw [← hkn]; exact H7.out, fun c hc => ⟨(H8.out c (hkn.trans hc)).1, fun k hk => ((H8.out c (hkn.trans hc)).2 k hk).1⟩⟩
    clear H7 H8 hkn
    have HLF := hid (H2.out)
    clear H2
    have HERL : Hid (∀ k, (Value.slice ea i ec).ownBlock = some k → k ≠ e0) := HERL0
    clear HERL0
    go_upto_region 7 with fail
    rw [HWE.out, HE0.out]
    go_cut [27] (fun s27 wx => s27 = .bool kn.isSome ∧ we = wx)
    case first =>
     cases kn with
     | none =>
      rw [show valP none = .pointer none from rfl]
      go_wp2_with fail
      go_meet
      case rel => exact ⟨rfl, rfl⟩
     | some c0 =>
      rw [show valP (some c0) = .pointer (some ⟨c0, 0, none⟩) from rfl]
      go_wp2_with fail
      go_meet
      case rel => exact ⟨rfl, rfl⟩
    case rest =>
    obtain ⟨rfl, rfl⟩ := hcut
    go_upto_if 27 with fail
    have hbx : b < x0 := hbl
    have hmx : m < x0 := hml
    have HTA : Hid (TrAt B b m x0 e0 w2 v vi Li ea ec i E we #[.string n, .int .i64 2, .string ⟨#[]⟩]) :=
     ⟨HN1.out, HX1.out, HER1.out, HU1.out, HO1.out, fun k hk => ⟨HV.out k hk, by have := HVI.out k hk; omega⟩, HERL.out, hbx, hmx, HVL.out, hsz2, hszr⟩
    go_cut [8] (fun s8 wx => s8 = .pointer (some ⟨e0, 0, none⟩) ∧ ∃ (v1 : Value) (L1 : List ByteArray) (kd : Int) (id : ByteArray), Hid (nameS (treeS d) fs Li n = (L1, ⟨n, kd, id⟩)) ∧ Hid (TrAt B b m x0 e0 w2 v v1 L1 ea ec i E wx #[.string n, .int .i64 kd, .string id]))
    case first =>
     clear kb1 HER1 HU1 HO1 HX1 HN1
     cases kn with
     | some c0 =>
      rw [show valP (some c0) = .pointer (some ⟨c0, 0, none⟩) from rfl]
      have hsn : sub n fs ≠ [] := fun e => by have := H78.out.1.2 e; cases this
      have hlen := HNL.out
      rw [nameS_dir hsn] at hlen
      have HC : Hid (Calls Tryz.prog 101 #[.pointer (some ⟨b, 0, none⟩), .pointer (some ⟨c0, 0, none⟩)] we (LayOut B we b m vi (treeS d (sub n fs) Li))) :=
       IH.out (sub n fs) (KF n) c0 Li vi we (H78.out.2 c0 rfl).1 (HFT.out.2.1 n) (Nat.le_trans (List.length_filterMap_le _ _) hfl) HTA.out.2.2.2.1 (fun k hk hb => by
        have hF := (H78.out.2 c0 rfl).2 k hk
        have hl := HF.out.lt k hF
        rcases hb with e | e | e
        ·exact HSEP.out k hF (.inl e)
        ·exact HSEP.out k hF (.inr (.inl e))
        ·rcases HV.out k e with h | h
         ·exact HSEP.out k hF (.inr (.inr h))
         ·have := HX0.out; omega) (by have := HZ1.out; omega) hlen
      have HNM1 := hid (nameS_dir (rec := treeS d) (L := Li) hsn)
      clear hlen hsn hlk
      go_wp2_with fail
      refine HC.out.mono ?_; rintro e w3 ho3
      obtain ⟨v3, rfl, ht3⟩ := HTA.out.lay ho3
      have HT3 := hid ht3
      have k2 : w3.cell? ⟨e0, 2, none⟩ = some (.string ⟨#[]⟩) := Blk.cell ht3.1 2
      have f2 := Blk.frozen ht3.1 2
      clear ho3 ht3 HC
      go_wp2_with fail
      go_meet
      case rel => exact ⟨rfl, _, _, _, _, HNM1, HT3.out.set 2 _⟩
     | none =>
      have hsn : sub n fs = [] := H78.out.1.1 rfl
      have hlen := HNL.out
      rw [nameS_leaf hsn] at hlen
      have HNM1 := hid (nameS_leaf (rec := treeS d) (L := Li) hsn)
      obtain ⟨tx, htx⟩ : ∃ t, (leafs fs n).getD ByteArray.empty = t := ⟨_, rfl⟩
      rw [htx] at hlen HNM1
      have hta := HTA.out.set 1 (.int .i64 1)
      have HT1 : Hid (TrAt B b m x0 e0 w2 v vi Li ea ec i E (we.setCell ⟨e0, 1, none⟩ (.int .i64 1)) #[.string n, .int .i64 1, .string ⟨#[]⟩]) := by
       show TrAt _ _ _ _ _ _ _ _ _ _ _ _ _ _ _
       simpa using hta
      have ho1 : Only (· = e0) we (we.setCell ⟨e0, 1, none⟩ (.int .i64 1)) := (Only.refl (· = e0) we).setCell (p := ⟨e0, 1, none⟩) (.inl rfl) _
      have hbf0 : bf < e0 := by have := HF.out.lt bf hFb; have := HX0.out; omega
      have hmf0 : mf < e0 := by have := HF.out.lt mf hFf; have := HX0.out; omega
      have k0 : (we.setCell ⟨e0, 1, none⟩ (.int .i64 1)).cell? ⟨bf, 0, none⟩ = some (.map (some mf)) := Blk.cell (H1.out.only ho1 (fun (e : bf = e0) => by omega)) 0
      have hlk2 := strMap_get1 (HLF.out.only ho1 (fun (e : mf = e0) => by omega)) n hnz
      have e1 : (leafs fs n).getD ⟨#[]⟩ = tx := htx
      rw [e1] at hlk2
      have k1 : we.cell? ⟨e0, 1, none⟩ = some (.int .i64 2) := Blk.cell HTA.out.1 1
      have f1 := Blk.frozen HTA.out.1 1
      have HLA : Hid (Calls Tryz.prog 57 #[.pointer (some ⟨b, 0, none⟩), .agg #[.int .i64 1, .string tx, .slice none 0 0, .string ⟨#[]⟩, .slice none 0 0, .int .i64 0, .string ⟨#[]⟩]] (we.setCell ⟨e0, 1, none⟩ (.int .i64 1)) (LayOut B (we.setCell ⟨e0, 1, none⟩ (.int .i64 1)) b m vi (layS Li (blobOf tx)))) :=
       lay_any B b m vi Li (blobOf tx) (.slice none 0 0) (.slice none 0 0) _ HT1.out.2.2.2.1 ⟨none, 0, 0, none, 0, 0, rfl, ⟨rfl, by omega, .inl rfl⟩, rfl, ⟨rfl, by omega, .inl rfl⟩⟩ ⟨by show (-9223372036854775808 : Int) ≤ 1 ∧ (1 : Int) ≤ _; omega, by show (-9223372036854775808 : Int) ≤ 0 ∧ (0 : Int) ≤ _; omega, Nat.zero_le _⟩ (fun a n c e => by cases e; exact Nat.le_refl _) (Nat.le_trans (layS_len _ _) hlen)
      clear hta ho1 htx e1 hlen
      go_wp2_with fail
      refine HLA.out.mono ?_; rintro e w3 ho3
      obtain ⟨v3, rfl, ht3⟩ := HT1.out.lay ho3
      have HT3 := hid ht3
      have k2 : w3.cell? ⟨e0, 2, none⟩ = some (.string ⟨#[]⟩) := Blk.cell ht3.1 2
      have f2 := Blk.frozen ht3.1 2
      clear ho3 ht3 HLA k0 k1 f1 hlk hlk2
      go_wp2_with fail
      go_meet
      case rel => exact ⟨rfl, _, _, _, _, HNM1, HT3.out.set 2 _⟩
    case rest =>
     obtain ⟨rfl, v1, L1, kd, id, HNM, HTB⟩ := hcut
     clear kb1 HER1 HU1 HO1 HX1 HN1 HTA hlk H78 HLF H1 HWE HZ1 HE0
     have hsw : w2.heap.size ≤ wc.heap.size := HTB.out.2.2.2.2.1.size
     have c0 : wc.cell? ⟨e0, 0, none⟩ = some (.string n) := Blk.cell HTB.out.1 0
     have c1 : wc.cell? ⟨e0, 1, none⟩ = some (.int .i64 kd) := Blk.cell HTB.out.1 1
     have c2 : wc.cell? ⟨e0, 2, none⟩ = some (.string id) := Blk.cell HTB.out.1 2
     have kx : wc.cell? ⟨x0, 2, none⟩ = some (.slice ea i ec) := Blk.cell HTB.out.2.1 2
     have him : i < 1000000 := by
      have h1 := HNN.out
      have h2 := namesF_len fs
      omega
     go_wp2_with (first
      | (at_builtin; refine wpList_append_own_at _ rfl (.tmp 44) (.tmp 46) 83 rfl w2.heap.size 76 i0 (.agg #[.string ⟨#[]⟩, .int .i64 0, .string ⟨#[]⟩]) 3 40 Tryz.underlying83 hi0 hz0 hz1 hz2 rfl (by decide) (.slice ea i ec) _ _ rfl (HTB.out.2.2.1.alloc _) ⟨wc.heap.size, 0, none⟩ 1 1 [.string n, .int .i64 kd, .string id] rfl rfl (cellNew3 _ _ _ _ _) (one3 rfl rfl rfl) (by unfold maxLen; omega) (by omega) (by rw [World.size_alloc]; omega) ?_; intro v' w5 hown' hg5 _ hat5; obtain ⟨va', vc', hvv', hvc'⟩ := own_slice' hown'; subst hvv'; have HOWN := hid hown'; have HG5 := hid hg5; clear hown' hg5 hat5; have HK5 : Hid (Blk w5 x0 98 (obCs (treeOf E) (.slice ea i ec) (.slice none 0 0))) := (HTB.out.2.1.alloc _).grown HG5.out (fun e => own_blk_ne HTB.out.2.2.1 HTB.out.2.1 (by decide) e.symm); have q0' : w5.cell? ⟨x0, 2, none⟩ = some (.slice ea i ec) := Blk.cell HK5.out 2; have f0' := Blk.frozen HK5.out 2)
      | go_in)
     have hgr : (wc.alloc (.cells #[.string n, .int .i64 kd, .string id] 76)).grownBy w5 (Value.slice ea i ec).ownBlock := HG5.out
     have hrow : w5.ownsRow w2.heap.size 76 3 (.slice va' (i + 1) vc') (i + 1) (evals (E ++ [⟨n, kd, id⟩])) := by
      have h := HOWN.out
      rw [evals_append]; exact h
     obtain ⟨r1, r2, r3, r4, r5⟩ := HTB.out.app _ hgr hrow HK5.out
     have HE3 : Hid (entsS (treeS d) fs (namesF fs) L [] = entsS (treeS d) fs ((namesF fs).drop (i + 1)) L1 (E ++ [⟨n, kd, id⟩])) := by
      have h := HE1.out
      rw [HNM.out] at h
      exact h
     have HEL3 : Hid ((E ++ [(⟨n, kd, id⟩ : Ent)]).length = i + 1) := by show _ = _; rw [List.length_append, HEL2.out]; rfl
     refine ⟨⟨i + 1, v1, L1, E ++ [⟨n, kd, id⟩], va', vc', by omega, by go_num, HEL3, hid r1, hid r2, hid r3, hid r4, hid r5, HE3⟩, ?_⟩
     simp [intOf]; omega
   ·obtain rfl : i = nn := by omega
    have HFI : Hid (entsS (treeS d) fs (namesF fs) L [] = (Li, E)) := by
     have h := HE.out
     rw [List.drop_eq_nil_of_le (by rw [HNN.out]; exact Nat.le_refl _)] at h
     exact h
    have ci : ¬ (i : Int) < i := by omega
    have hsw : w2.heap.size ≤ wr.heap.size := hszr
    have HX0r := HXr
    have k0 : wr.cell? ⟨x0, 0, none⟩ = some (.int .i64 2) := Blk.cell HXr.out 0
    have k1 : wr.cell? ⟨x0, 1, none⟩ = some (.string ⟨#[]⟩) := Blk.cell HXr.out 1
    have k2 : wr.cell? ⟨x0, 2, none⟩ = some (.slice ea i ec) := Blk.cell HXr.out 2
    have k3 : wr.cell? ⟨x0, 3, none⟩ = some (.string ⟨#[]⟩) := Blk.cell HXr.out 3
    have k4 : wr.cell? ⟨x0, 4, none⟩ = some (.slice none 0 0) := Blk.cell HXr.out 4
    have k5 : wr.cell? ⟨x0, 5, none⟩ = some (.int .i64 0) := Blk.cell HXr.out 5
    have k6 : wr.cell? ⟨x0, 6, none⟩ = some (.string ⟨#[]⟩) := Blk.cell HXr.out 6
    have hlen : Li.length ≤ 100000 := by have h := HEL.out; rw [HFI.out] at h; exact h
    have hE1 : E.length = i := HEL2.out
    have hi6 : i ≤ 1000 := by
     have h1 := HNN.out
     have h2 := namesF_len fs
     omega
    have hent : EntsAt wr ea i E := by
     have h : wr.ownsRow w2.heap.size 76 3 (.slice ea i ec) E.length (evals E) := by rw [hE1]; exact HER.out
     obtain ⟨a, c, e, h⟩ := own_ents h (by omega)
     rw [hE1] at e h
     cases e; exact h
    have hec : i ≤ ec := by
     have h := own_slice' HER.out
     obtain ⟨a, c, e, h⟩ := h
     cases e; exact h
    have HLA : Hid (Calls Tryz.prog 57 #[.pointer (some ⟨b, 0, none⟩), .agg #[.int .i64 2, .string ⟨#[]⟩, .slice ea i ec, .string ⟨#[]⟩, .slice none 0 0, .int .i64 0, .string ⟨#[]⟩]] wr (LayOut B wr b m vi (layS Li (treeOf E)))) :=
     lay_any B b m vi Li (treeOf E) (.slice ea i ec) (.slice none 0 0) _ HUr.out ⟨ea, i, ec, none, 0, 0, rfl, hent, rfl, ⟨rfl, by omega, .inl rfl⟩⟩ ⟨by show (-9223372036854775808 : Int) ≤ 2 ∧ (2 : Int) ≤ _; omega, by show (-9223372036854775808 : Int) ≤ 0 ∧ (0 : Int) ≤ _; omega, by show E.length ≤ _; omega⟩ (fun a n c e => by cases e; exact Nat.le_refl _) hlen
    have HT2 : Hid (treeS (d + 1) fs L = layS Li (treeOf E)) := by
     show _ = _
     rw [HTR.out, HFI.out]
    clear hent hE1 hec hlen HX0r
    go_wp2_with fail
    refine HLA.out.mono ?_; rintro e w9 ⟨v9, rfl, hu9, ho9, hv9⟩
    have HU9 := hid hu9; have HO9 := hid ho9; have HV9 := hid hv9
    clear hu9 ho9 hv9 HLA
    go_wp2_with fail
    go_ret
    rw [HT2.out]
    refine ⟨_, rfl, HU9.out, (HOW.out _ HO2.out).trans HO9.out ?_, fun k hk => ?_⟩
    ·rintro k (e | e | e)
     ·exact .inl (.inl e)
     ·exact .inl (.inr (.inl e))
     ·rcases HV.out k e with h | h
      ·exact .inl (.inr (.inr h))
      ·right; have := HX0.out; omega
    ·have hx := HX0.out
     rcases HV9.out k hk with h | h
     ·rcases HV.out k h with h | h
      ·exact .inl h
      ·right; omega
     ·right; omega
end Go.Proofs.YtmpjdoiogbbcoaaGreatDoor
/- Folders laid down: no name is a file and a folder; how many objects there are (plain). -/
namespace Go.Proofs.YtmpjdoiogbbcoaaGreatDoor
open Go.RowKit Book Pap Ojt Sn
set_option linter.unusedVariables false
set_option linter.unusedSimpArgs false

/-- no file's names stand ahead of another one's -/
def Off (x y : List ByteArray) : Prop := ¬ x <+: y ∧ ¬ y <+: x
def AptL (fs : List Fl) : Prop := (∀ f ∈ fs, f.1 ≠ []) ∧ fs.Pairwise (fun f g => Off f.1 g.1)
theorem pw_mem {α : Type} {R : α → α → Prop} (hs : ∀ a b, R a b → R b a) : ∀ {l : List α}, l.Pairwise R → ∀ {a b : α}, a ∈ l → b ∈ l → a ≠ b → R a b
 | [], _, _, _, h, _, _ => by cases h
 | x :: l, hp, a, b, ha, hb, hne => by
  obtain ⟨h1, h2⟩ := List.pairwise_cons.1 hp
  rcases List.mem_cons.1 ha with ea | ha'
  ·rcases List.mem_cons.1 hb with eb | hb'
   ·exact absurd (ea.trans eb.symm) hne
   ·rw [ea]; exact h1 b hb'
  ·rcases List.mem_cons.1 hb with eb | hb'
   ·rw [eb]; exact hs _ _ (h1 a ha')
   ·exact pw_mem hs h2 ha' hb' hne
theorem subOf_some {n : ByteArray} {f g : Fl} (h : subOf n f = some g) : f.1 = n :: g.1 ∧ g.1 ≠ [] ∧ f.2 = g.2 := by
 obtain ⟨l, d⟩ := f
 rcases l with _ | ⟨a, _ | ⟨b, r⟩⟩
 ·simp [subOf] at h
 ·simp [subOf] at h
 ·simp only [subOf] at h
  split at h
  ·rename_i e; subst e; cases h; exact ⟨rfl, by simp, rfl⟩
  ·cases h
theorem mem_sub {n : ByteArray} {fs : List Fl} {g : Fl} (h : g ∈ sub n fs) : ∃ f ∈ fs, f.1 = n :: g.1 ∧ g.1 ≠ [] ∧ f.2 = g.2 := by
 obtain ⟨f, hf, he⟩ := List.mem_filterMap.1 h
 exact ⟨f, hf, subOf_some he⟩
theorem leafs_some : ∀ (fs : List Fl) (n : ByteArray), leafs fs n ≠ none → ∃ f ∈ fs, f.1 = [n] := by
 intro fs n
 unfold leafs
 suffices h : ∀ (l : List Fl) (g : Option ByteArray), l.foldl (fun g f => if f.1 = [n] then some f.2 else g) g ≠ none → g ≠ none ∨ ∃ f ∈ l, f.1 = [n] by
  intro h1
  rcases h fs none h1 with h | h
  ·exact absurd rfl h
  ·exact h
 intro l
 induction l with
 | nil => intro g h; exact .inl h
 | cons f r ih =>
  intro g h
  rw [List.foldl_cons] at h
  rcases ih _ h with h1 | ⟨q, hq, he⟩
  ·by_cases hf : f.1 = [n]
   ·exact .inr ⟨f, List.mem_cons_self .., hf⟩
   ·rw [if_neg hf] at h1; exact .inl h1
  ·exact .inr ⟨q, List.mem_cons_of_mem _ hq, he⟩
theorem AptL.sub {fs : List Fl} (h : AptL fs) (n : ByteArray) : AptL (sub n fs) := by
 refine ⟨fun f hf => ?_, ?_⟩
 ·obtain ⟨g, _, _, h2, _⟩ := mem_sub hf; exact h2
 ·unfold Sn.sub
  refine List.Pairwise.filterMap _ (fun a a' hr b hb b' hb' => ?_) h.2
  obtain ⟨e1, -, -⟩ := subOf_some hb
  obtain ⟨e2, -, -⟩ := subOf_some hb'
  rw [e1, e2] at hr
  exact ⟨fun hp => hr.1 (List.cons_prefix_cons.2 ⟨rfl, hp⟩), fun hp => hr.2 (List.cons_prefix_cons.2 ⟨rfl, hp⟩)⟩
theorem AptL.lone {fs : List Fl} (h : AptL fs) (n : ByteArray) (hl : leafs fs n ≠ none) : Sn.sub n fs = [] := by
 obtain ⟨f, hf, he⟩ := leafs_some fs n hl
 cases hs : Sn.sub n fs with
 | nil => rfl
 | cons g r =>
  obtain ⟨q, hq, h1, h2, _⟩ := mem_sub (n := n) (fs := fs) (g := g) (by rw [hs]; exact List.mem_cons_self ..)
  have hne : f ≠ q := fun e => by
   subst e
   rw [he] at h1
   injection h1 with _ h1
   exact h2 h1.symm
  have := pw_mem (R := fun f g : Fl => Off f.1 g.1) (fun a b h => ⟨h.2, h.1⟩) h.2 hf hq hne
  exact absurd (by rw [he, h1]; exact List.cons_prefix_cons.2 ⟨rfl, List.nil_prefix⟩) this.1
theorem mem_names {fs : List Fl} {n : ByteArray} : n ∈ namesF fs ↔ ∃ f ∈ fs, f.1.head? = some n := by
 unfold namesF
 rw [Sw.setOf_mem, List.mem_filterMap]; rfl
theorem fitD_of : ∀ (d : Nat) (fs : List Fl), AptL fs → (∀ f ∈ fs, ∀ n ∈ f.1, n.size ≤ 9223372036854775807) → FitD d fs
 | 0, _, _, _ => trivial
 | d + 1, fs, h, hz => by
  refine ⟨fun n hl => h.lone n hl, fun n => fitD_of d _ (h.sub n) (fun f hf m hm => ?_), fun n hn => ?_⟩
  ·obtain ⟨g, hg, h1, _⟩ := mem_sub hf
   exact hz g hg m (by rw [h1]; exact List.mem_cons_of_mem _ hm)
  ·obtain ⟨f, hf, he⟩ := mem_names.1 hn
   exact hz f hf n (List.mem_of_mem_head? he)
/-! how many -/
def wt (fs : List Fl) : Nat := (fs.map (fun f => f.1.length)).sum
def wn (n : ByteArray) (fs : List Fl) : Nat := (fs.map (fun f => if f.1.head? = some n then f.1.length else 0)).sum
theorem wt_sub (n : ByteArray) : ∀ fs : List Fl, wt (Sn.sub n fs) + (Sn.sub n fs).length ≤ wn n fs
 | [] => Nat.le_refl _
 | f :: r => by
  have ih := wt_sub n r
  unfold Sn.sub at *
  rw [List.filterMap_cons]
  have e : wn n (f :: r) = (if f.1.head? = some n then f.1.length else 0) + wn n r := rfl
  rw [e]
  cases h : subOf n f with
  | none => simp only; omega
  | some g =>
   obtain ⟨h1, -, -⟩ := subOf_some h
   have h2 : f.1.head? = some n := by rw [h1]; rfl
   rw [if_pos h2, h1]
   have e2 : wt (g :: List.filterMap (subOf n) r) = g.1.length + wt (List.filterMap (subOf n) r) := rfl
   simp only [List.length_cons]
   rw [e2]; omega
theorem wn_pos {n : ByteArray} : ∀ {fs : List Fl}, (∃ f ∈ fs, f.1.head? = some n) → 1 ≤ wn n fs
 | [], h => by obtain ⟨f, hf, _⟩ := h; cases hf
 | f :: r, h => by
  have e : wn n (f :: r) = (if f.1.head? = some n then f.1.length else 0) + wn n r := rfl
  rw [e]
  by_cases hf : f.1.head? = some n
  ·rw [if_pos hf]
   have : f.1 ≠ [] := fun e => by rw [e] at hf; cases hf
   have := List.length_pos_iff.2 this
   omega
  ·obtain ⟨q, hq, he⟩ := h
   rcases List.mem_cons.1 hq with rfl | hq
   ·exact absurd he hf
   ·have := wn_pos (fs := r) ⟨q, hq, he⟩; omega
theorem wn_off {n m : ByteArray} (h : m ≠ n) : ∀ fs : List Fl, wn m fs = wn m (fs.filter fun f => decide (f.1.head? ≠ some n))
 | [] => rfl
 | f :: r => by
  have ih := wn_off h r
  have e : wn m (f :: r) = (if f.1.head? = some m then f.1.length else 0) + wn m r := rfl
  rw [e]
  by_cases hf : f.1.head? = some n
  ·rw [List.filter_cons_of_neg (by simp [hf]), if_neg (by rw [hf]; intro e; cases e; exact h rfl), ih]; omega
  ·rw [List.filter_cons_of_pos (by simp [hf]), ih]; rfl
theorem wn_split (n : ByteArray) : ∀ fs : List Fl, wn n fs + wt (fs.filter fun f => decide (f.1.head? ≠ some n)) = wt fs
 | [] => rfl
 | f :: r => by
  have ih := wn_split n r
  have e : wn n (f :: r) = (if f.1.head? = some n then f.1.length else 0) + wn n r := rfl
  have e2 : wt (f :: r) = f.1.length + wt r := rfl
  rw [e, e2]
  by_cases hf : f.1.head? = some n
  ·rw [List.filter_cons_of_neg (by simp [hf]), if_pos hf]; omega
  ·rw [List.filter_cons_of_pos (by simp [hf]), if_neg hf]
   have e3 : ∀ l : List Fl, wt (f :: l) = f.1.length + wt l := fun _ => rfl
   rw [e3]; omega
theorem sum_wn : ∀ (ns : List ByteArray) (fs : List Fl), ns.Nodup → (ns.map (fun n => wn n fs)).sum ≤ wt fs
 | [], fs, _ => Nat.zero_le _
 | n :: r, fs, h => by
  obtain ⟨h1, h2⟩ := List.nodup_cons.1 h
  have ih := sum_wn r (fs.filter fun f => decide (f.1.head? ≠ some n)) h2
  have e : (r.map (fun m => wn m fs)) = r.map (fun m => wn m (fs.filter fun f => decide (f.1.head? ≠ some n))) := by
   apply List.map_congr_left
   intro m hm
   exact wn_off (n := n) (m := m) (fun e => h1 (e ▸ hm)) fs
  rw [List.map_cons, List.sum_cons, e]
  have := wn_split n fs
  omega
theorem layS_le (L : List ByteArray) (x : Ob) : (layS L x).1.length ≤ L.length + 1 := by
 unfold layS
 simp only
 split
 ·omega
 ·rw [List.length_append]; exact Nat.le_refl _
theorem entsS_cnt {rec : List Fl → List ByteArray → List ByteArray × ByteArray} (hr : ∀ fs L, (rec fs L).1.length ≤ L.length + wt fs + 1) (fs : List Fl) : ∀ (ns : List ByteArray) (L : List ByteArray) (E : List Ent), (∀ n ∈ ns, 1 ≤ wn n fs) → (entsS rec fs ns L E).1.length ≤ L.length + (ns.map (fun n => wn n fs)).sum
 | [], L, E, _ => Nat.le_refl _
 | n :: r, L, E, h => by
  have h1 := h n (List.mem_cons_self ..)
  have ih := entsS_cnt hr fs r (nameS rec fs L n).1 (E ++ [(nameS rec fs L n).2]) (fun m hm => h m (List.mem_cons_of_mem _ hm))
  have h2 : (nameS rec fs L n).1.length ≤ L.length + wn n fs := by
   by_cases hs : Sn.sub n fs = []
   ·rw [nameS_leaf hs]
    have := layS_le L (blobOf ((leafs fs n).getD ByteArray.empty))
    simp only; omega
   ·rw [nameS_dir hs]
    have h3 := hr (Sn.sub n fs) L
    have h4 := wt_sub n fs
    have h5 := List.length_pos_iff.2 hs
    simp only; omega
  show (entsS rec fs r _ _).1.length ≤ _
  rw [List.map_cons, List.sum_cons]; omega
theorem namesF_nodup (fs : List Fl) : (namesF fs).Nodup := by
 unfold namesF
 refine List.Pairwise.imp ?_ (Sw.setOf_rising (fs.filterMap headOf))
 intro a b h e
 subst e
 exact absurd h (by simp [lt_irr])
theorem treeS_cnt : ∀ (d : Nat) (fs : List Fl) (L : List ByteArray), (treeS d fs L).1.length ≤ L.length + wt fs + 1
 | 0, fs, L => by show L.length ≤ _; omega
 | d + 1, fs, L => by
  have h1 := entsS_cnt (treeS_cnt d) fs (namesF fs) L [] (fun n hn => wn_pos (mem_names.1 hn))
  have h2 := sum_wn (namesF fs) fs (namesF_nodup fs)
  have h3 := layS_le (entsS (treeS d) fs (namesF fs) L []).1 (treeOf (entsS (treeS d) fs (namesF fs) L []).2)
  show (layS _ _).1.length ≤ _
  omega
/-! files as a folder's -/
def flOf (f : Fi) : Fl := ((pieces f.path.data.toList).map bz, f.data)
theorem wt_le {k : Nat} : ∀ (fs : List Fl), (∀ f ∈ fs, f.1.length ≤ k) → wt fs ≤ fs.length * k
 | [], _ => Nat.zero_le _
 | f :: r, h => by
  have ih := wt_le r (fun g hg => h g (List.mem_cons_of_mem _ hg))
  have h1 := h f (List.mem_cons_self ..)
  have e : wt (f :: r) = f.1.length + wt r := rfl
  rw [e, List.length_cons, Nat.succ_mul]; omega
end Go.Proofs.YtmpjdoiogbbcoaaGreatDoor
/- What stands at a path: Find. -/
namespace Go.Proofs.YtmpjdoiogbbcoaaGreatDoor
open Go.RowKit Book Pap Ojt Sn
set_option linter.unusedVariables false
set_option linter.unusedSimpArgs false

theorem find1_any (nm : ByteArray) (kd : Int) (yd : ByteArray) (n : ByteArray) (bn : Nat) (w : World) (hc : w.cell? ⟨bn, 0, none⟩ = some (.string n)) : Calls Tryz.prog 72 #[.agg #[.string nm, .int .i64 kd, .string yd], .pointer (some ⟨bn, 0, none⟩)] w fun e w' => e = .returned (.bool (decide (nm = n))) ∧ Below w.heap.size w w' := by
 have hB : Below w.heap.size w (w.alloc (.cells #[.string nm, .int .i64 kd, .string yd] 76)) := (Below.refl _ _).alloc (Nat.le_refl _) _
 have hc1 : (w.alloc (.cells #[.string nm, .int .i64 kd, .string yd] 76)).cell? ⟨bn, 0, none⟩ = some (.string n) := (hB.cell (World.block_lt_of_cell? w _ hc)).trans hc
 have hE : (nm.toList == n.toList) = decide (nm = n) := by
  by_cases h : nm = n
  ·subst h; simp
  ·rw [bstr_ne h]; simp [h]
 have HE := hid hE
 have HB := hid hB
 clear hE hB hc
 go_enter Tryz.func72, Tryz.ntmps72
 go_wp2_with fail
 go_ret
 exact ⟨by rw [← HE.out]; rfl, HB.out⟩
/-- the first entry of a name -/
def idxE (l : List Ent) (n : ByteArray) : Int := if l.findIdx (fun e => decide (e.name = n)) < l.length then (l.findIdx (fun e => decide (e.name = n)) : Int) else -1
theorem idxE_hit {l : List Ent} {n : ByteArray} {k : Nat} (hk : k < l.length) (h : ∀ j, j < k → decide ((l.getD j noEnt).name = n) = false) (hp : decide ((l.getD k noEnt).name = n) = true) : idxE l n = (k : Int) := by
 have hg : ∀ j, (hj : j < l.length) → l.getD j noEnt = l[j] := fun j hj => by rw [List.getD_eq_getElem?_getD, List.getElem?_eq_getElem hj]; rfl
 have hf : l.findIdx (fun e => decide (e.name = n)) = k := by
  rw [List.findIdx_eq hk]
  refine ⟨by have := hp; rw [hg k hk] at this; exact this, fun j hj => ?_⟩
  have := h j hj; rw [hg j (by omega)] at this; exact this
 unfold idxE
 rw [hf, if_pos hk]
theorem idxE_miss {l : List Ent} {n : ByteArray} (h : ∀ j, j < l.length → decide ((l.getD j noEnt).name = n) = false) : idxE l n = -1 := by
 unfold idxE
 rw [if_neg]
 intro ha
 have h1 := List.findIdx_getElem (w := ha)
 have h2 := h _ ha
 have hg : l.getD (l.findIdx (fun e => decide (e.name = n))) noEnt = l[l.findIdx (fun e => decide (e.name = n))] := by rw [List.getD_eq_getElem?_getD, List.getElem?_eq_getElem ha]; rfl
 rw [hg] at h2
 rw [h2] at h1
 cases h1
theorem find_idxE (l : List Ent) (n : ByteArray) : l.find? (fun e => decide (e.name = n)) = if 0 ≤ idxE l n then some (l.getD (idxE l n).toNat noEnt) else none := by
 unfold idxE
 by_cases h : l.findIdx (fun e => decide (e.name = n)) < l.length
 ·rw [if_pos h, if_pos (by omega), Int.toNat_natCast, List.find?_eq_getElem?_findIdx, List.getD_eq_getElem?_getD, List.getElem?_eq_getElem h]; rfl
 ·rw [if_neg h, if_neg (by omega), List.find?_eq_none]
  intro x hx
  have := List.findIdx_eq_length.1 (Nat.le_antisymm List.findIdx_le_length (Nat.le_of_not_lt h)) x hx
  simpa using this
set_option maxRecDepth 100000 in
set_option maxHeartbeats 4000000 in
theorem indexE_any (a : Option Addr) (en c bn : Nat) (l : List Ent) (n : ByteArray) (w : World) (hE : EntsAt w a en l) (hbn : w.cell? ⟨bn, 0, none⟩ = some (.string n)) :
  Calls Tryz.prog 71 #[.slice a en c, .func (.func 72) #[] #[.pointer (some ⟨bn, 0, none⟩)]] w fun e w' => e = .returned (.int .i64 (idxE l n)) ∧ Below w.heap.size w w' := by
 have HE := hid hE
 have HL := hid hE.1
 have hm := hE.2.1
 have HBN : Hid (∀ W, Below w.heap.size w W → W.cell? ⟨bn, 0, none⟩ = some (.string n)) := fun W hW => (hW.cell (World.block_lt_of_cell? w _ hbn)).trans hbn
 have eg : ∀ args W, (callFunc 72 args).run Tryz.prog W = .ok (.enter 72 args) W := enters_of Tryz.func72 (by kernel_rfl) rfl
 clear hE hbn
 go_enter Tryz.func71, Tryz.ntmps71
 go_wp2
 go_loopw [8] (fun i wr => ∃ k : Nat, k ≤ en ∧ i = .int .i64 k ∧ Below w.heap.size w wr ∧ Hid (∀ j, j < k → decide ((l.getD j noEnt).name = n) = false)) (fun i _ => en - (intOf i).toNat)
 case atStart => exact ⟨0, by omega, rfl, Below.refl _ _, fun j hj => absurd hj (Nat.not_lt_zero _)⟩
 case round =>
  obtain ⟨k, hk, rfl, hbel, HK⟩ := hrel
  have HLW := hid hbel
  clear hbel
  by_cases hlt : k < en
  ·obtain ⟨-, -, h3⟩ := HE.out.later HLW.out
   obtain ⟨b, off, rfl, hc⟩ := h3.resolve_left (by omega)
   obtain ⟨q0, q1, q2⟩ := hc k hlt
   have ck : (k : Int) < en := by omega
   obtain ⟨z, hz⟩ : ∃ z, l.getD k ⟨ByteArray.empty, 0, ByteArray.empty⟩ = z := ⟨_, rfl⟩
   rw [hz] at q0 q1 q2
   have HZ : Hid (l.getD k noEnt = z) := hz
   obtain ⟨nm, kd, yd⟩ := z
   simp only at q0 q1 q2
   have CS := hid (find1_any nm kd yd n bn wr (HBN.out wr HLW.out))
   clear hz hc h3
   cases hp : decide (nm = n)
   ·have HP : Hid (decide ((l.getD k noEnt).name = n) = false) := by show _ = _; rw [HZ.out]; exact hp
    rw [hp] at CS
    clear hp
    go_wp2_with (first | (go_at_call 72; refine CS.out.mono ?_; rintro e w1 ⟨rfl, hb1⟩))
    go_roundw
    case rel => exact ⟨k + 1, by omega, by go_num, below_then HLW.out hb1, fun j hj => by rcases Nat.lt_or_eq_of_le (Nat.le_of_lt_succ hj) with h | h; exact HK.out j h; subst h; exact HP.out⟩
    case measure => simp [intOf]; omega
   ·have HR : Hid (idxE l n = (k : Int)) := idxE_hit (by rw [HL.out]; exact hlt) HK.out (by rw [HZ.out]; exact hp)
    rw [hp] at CS
    clear hp
    go_wp2_with (first | (go_at_call 72; refine CS.out.mono ?_; rintro e w1 ⟨rfl, hb1⟩))
    go_ret
    exact ⟨ret_int (by rw [HR.out]), below_then HLW.out hb1⟩
  ·have HR : Hid (idxE l n = -1) := idxE_miss (fun j hj => HK.out j (by rw [HL.out] at hj; omega))
   go_wp2
   go_ret
   exact ⟨ret_int (by rw [HR.out]), HLW.out⟩
theorem find_results (tmps : Array Value) (g : Nat) (er : Int) (y : Ent) (w : World) (h2 : tmps.getD 6 undef = .pointer (some ⟨g, 0, none⟩)) (h3 : tmps.getD 7 undef = .int .i64 er) (H : Blk w g 76 #[.string y.name, .int .i64 y.kind, .string y.id]) : (results Tryz.f28 tmps).run Tryz.prog w = .ok (.tuple #[.agg #[.string y.name, .int .i64 y.kind, .string y.id], .int .i64 er]) w := by
 have c0 : w.cell? ⟨g, 0, none⟩ = some (.string y.name) := Blk.cell H 0
 have c1 : w.cell? ⟨g, 1, none⟩ = some (.int .i64 y.kind) := Blk.cell H 1
 have c2 : w.cell? ⟨g, 2, none⟩ = some (.string y.id) := Blk.cell H 2
 have h2' : tmps[6]?.getD undef = .pointer (some ⟨g, 0, none⟩) := by simpa using h2
 have h3' : tmps[7]?.getD undef = .int .i64 er := by simpa using h3
 simp [results, Tryz.results28, go_sem, h2', h3', c0, c1, c2]
def entCs (y : Ent) : Array Value := #[.string y.name, .int .i64 y.kind, .string y.id]
theorem Tryz.infoEntSz (y : Ent) : (Tryz.prog.info? 76).map (·.size) = some (entCs y).size := by
 show _ = some 3
 kernel_rfl
theorem entcs_one (y : Ent) : (entCs y).all (·.oneCell') = true := by simp [entCs, Value.oneCell']
/-- what Find hands back -/
def FindOut (w : World) (r : Ent × Int) (e : Ending) (w' : World) : Prop :=
 e = .returned (.tuple #[.agg (entCs r.1), .int .i64 r.2]) ∧ Below w.heap.size w w'
theorem findF_kind {G : Sw.Src} {n : ByteArray} {r : List ByteArray} {y : Ent} (h : y.kind ≠ 2) : findF G (n :: r) y = (noEnt, 12) := by
 show (if y.kind ≠ 2 then (noEnt, (12 : Int)) else _) = _; rw [if_pos h]
theorem findF_look {G : Sw.Src} {n : ByteArray} {r : List ByteArray} {y : Ent} {x : Ob} {er : Int} (h : y.kind = 2) (hl : lookK G y.id 2 21 = (x, er)) (he : er ≠ 0) : findF G (n :: r) y = (noEnt, er) := by
 show (if y.kind ≠ 2 then (noEnt, (12 : Int)) else if (lookK G y.id 2 21).2 ≠ 0 then (noEnt, (lookK G y.id 2 21).2) else _) = _
 rw [if_neg (by simp [h]), hl, if_pos he]
theorem findF_ok {G : Sw.Src} {n : ByteArray} {r : List ByteArray} {y : Ent} {x : Ob} (h : y.kind = 2) (hl : lookK G y.id 2 21 = (x, 0)) : findF G (n :: r) y = if 0 ≤ idxE x.ents n then findF G r (x.ents.getD (idxE x.ents n).toNat noEnt) else (noEnt, 12) := by
 show (if y.kind ≠ 2 then (noEnt, (12 : Int)) else if (lookK G y.id 2 21).2 ≠ 0 then (noEnt, (lookK G y.id 2 21).2) else match (lookK G y.id 2 21).1.ents.find? (fun e => decide (e.name = n)) with | none => (noEnt, 12) | some e => findF G r e) = _
 rw [if_neg (by simp [h]), hl, if_neg (by simp), find_idxE]
 by_cases hi : 0 ≤ idxE x.ents n
 ·rw [if_pos hi, if_pos hi]
 ·rw [if_neg hi, if_neg hi]
theorem idxE_lt (l : List Ent) (n : ByteArray) : idxE l n < l.length ∧ -1 ≤ idxE l n := by
 unfold idxE; split <;> omega
/-- the names of a path -/
def pathNames (p : ByteArray) : List ByteArray := if p.size = 0 then [] else (pieces p.data.toList).map bz
theorem findS_eq (G : Sw.Src) (id p : ByteArray) : findS G id p = if p.size ≠ 0 ∧ splitE p.data.toList ≠ 0 then (noEnt, splitE p.data.toList)
 else if (lookK G id 3 12).2 ≠ 0 then (noEnt, (lookK G id 3 12).2)
 else findF G (pathNames p) ⟨ByteArray.empty, 2, (lookK G id 3 12).1.tree⟩ := rfl
theorem ls_back (l : List ByteArray) : (ls l).map bz = l := by
 unfold ls
 rw [List.map_map]
 conv => rhs; rw [← List.map_id l]
 apply List.map_congr_left
 intro x _
 exact ba_ext (by simp [bz])
/-- the part of Find behind the path's names -/
def FindRest (G : Sw.Src) (id : ByteArray) (l : List ByteArray) : Ent × Int := if (lookK G id 3 12).2 ≠ 0 then (noEnt, (lookK G id 3 12).2) else findF G l ⟨ByteArray.empty, 2, (lookK G id 3 12).1.tree⟩
set_option maxRecDepth 100000 in
set_option maxHeartbeats 16000000 in
theorem find_any (t : TypeId) (rv : Value) (G : Sw.Src) (hz : SrcSz G) (id p : ByteArray) (w : World) (hs : SrcAt w t rv G) (hps : p.size < 4294967281) (hm : MaxAt w) : Calls Tryz.prog 28 #[.iface t rv, .string id, .string p] w (FindOut w (findS G id p)) := by
 have HS := hid hs
 have HM := hid hm
 clear hs hm
 have HFE := hid (findS_eq G id p)
 obtain ⟨R, hR⟩ : ∃ R, findS G id p = R := ⟨_, rfl⟩
 rw [hR] at HFE ⊢
 clear hR
 go_enter Tryz.func28, Tryz.ntmps28
 go_upto_if 20 with fail
 obtain ⟨r0, hr0⟩ : ∃ g, w.heap.size = g := ⟨_, rfl⟩
 have HR0 := hid hr0
 have HZ1 : Hid (Blk (w.alloc (.cells #[.string ⟨#[]⟩, .int .i64 0, .string ⟨#[]⟩] 76)) r0 76 (entCs noEnt)) := by
  have := Blk.new w 76 (entCs noEnt); rw [hr0] at this; exact this
 have HB1 : Hid (Below r0 w (w.alloc (.cells #[.string ⟨#[]⟩, .int .i64 0, .string ⟨#[]⟩] 76))) := (Below.refl _ _).alloc (Nat.le_of_eq hr0.symm) _
 rw [hr0]
 clear hr0
 generalize (w.alloc (.cells #[.string ⟨#[]⟩, .int .i64 0, .string ⟨#[]⟩] 76)) = w1 at HZ1 HB1 ⊢
 have hg1 := Blk.lt HZ1.out
 go_cut [8] (fun s8 wx => ∃ na nn nc, s8 = .slice na nn nc ∧ Hid (StrsAt wx na nn (pathNames p) ∧ Blk wx r0 76 (entCs noEnt) ∧ Below r0 w wx ∧ R = FindRest G id (pathNames p)))
 case first =>
  by_cases hp0 : p.size = 0
  ·have hb1 : p.toList = [] := bstr_nil hp0
   have hb5 : (!p.toList.isEmpty) = false := by rw [hb1]; rfl
   rw [hb5]
   clear hb1 hb5
   have HFIN : Hid (StrsAt w1 none 0 (pathNames p) ∧ Blk w1 r0 76 (entCs noEnt) ∧ Below r0 w w1 ∧ R = FindRest G id (pathNames p)) := by
    refine ⟨?_, HZ1.out, HB1.out, ?_⟩
    ·unfold pathNames; rw [if_pos hp0]; exact ⟨rfl, by omega, .inl rfl⟩
    ·rw [HFE.out, if_neg (by simp [hp0])]; rfl
   go_wp2_with fail
   go_meet
   case rel => exact ⟨_, _, _, rfl, HFIN⟩
  ·have hb1 : ¬ p.toList = [] := bstr_some hp0
   have hb5 : (!p.toList.isEmpty) = true := by rw [bstr_isEmpty hp0]; rfl
   rw [hb5]
   clear hb1 hb5
   have HSP := hid (splitC_any p w1 hps (HM.out.later (by rw [HR0.out]; exact HB1.out)))
   obtain ⟨E, hE⟩ : ∃ E, splitE p.data.toList = E := ⟨_, rfl⟩
   have HEE := hid hE
   rw [hE] at HSP
   clear hE
   go_wp2_with fail
   refine HSP.out.mono ?_; rintro e w2 ⟨v, rfl, ⟨na, l, rfl, hst, hl, hv⟩, hb⟩
   have HZ2 : Hid (Blk w2 r0 76 (entCs noEnt)) := (hb.block r0 hg1).trans HZ1.out
   have HB2 : Hid (Below r0 w w2) := HB1.out.trans (hb.mono (Nat.le_of_lt hg1))
   have HST := hid hst; have HL := hid hl
   clear hst hl hv hb HSP HB1 HZ1
   by_cases hE0 : E = 0
   ·subst hE0
    have HFIN : Hid (StrsAt w2 na l.length (pathNames p) ∧ Blk w2 r0 76 (entCs noEnt) ∧ Below r0 w w2 ∧ R = FindRest G id (pathNames p)) := by
     refine ⟨?_, HZ2.out, HB2.out, ?_⟩
     ·have e1 : pathNames p = l := by
       unfold pathNames
       rw [if_neg hp0]
       have h := HL.out
       unfold namesOf at h
       rw [if_pos HEE.out] at h
       rw [← h, ls_back]
      rw [e1]; exact HST.out
     ·rw [HFE.out, if_neg (by rw [HEE.out]; simp)]; rfl
    go_wp2_with fail
    go_meet
    case rel => exact ⟨_, _, _, rfl, HFIN⟩
   ·have q1 : (E != 0) = true := by simpa using hE0
    have q2 : (E == 0) = false := by simpa using hE0
    have HFN : Hid (R = (noEnt, E)) := by
     show _ = _
     rw [HFE.out, if_pos ⟨hp0, by rw [HEE.out]; exact hE0⟩, HEE.out]
    obtain ⟨wz, hwz⟩ : ∃ wz, w2.setRow r0 (entCs noEnt) = wz := ⟨_, rfl⟩
    have HBZ : Hid (Blk wz r0 76 (entCs noEnt)) := by rw [← hwz]; exact setRow_heap _ _ _ _ _ _ HZ2.out
    have HLZ : Hid (Below r0 w wz) := by rw [← hwz]; exact below_setRow HB2.out (Nat.le_refl _) _
    have HWZ := hid hwz
    clear hwz
    go_wp2_with (first
     | (refine wpList_store_row rfl _ (.tmp 6) (.tmp 28) rfl r0 (entCs noEnt) rfl rfl 76 (entCs noEnt) HZ2.out (Tryz.infoEntSz _) rfl (entcs_one _) ?_; rw [HWZ.out]))
    go_wp2_with fail
    refine bodyPost_ret (v := .tuple #[.agg (entCs noEnt), .int .i64 E]) ?hr1 rfl ⟨?_, ?_⟩
    case hr1 => exact find_results _ r0 E noEnt wz rfl rfl HBZ.out
    ·rw [HFN.out]
    ·rw [HR0.out]; exact HLZ.out
 case rest =>
  obtain ⟨na, nn, nc, rfl, HC⟩ := hcut
  obtain ⟨hst, hzc, hbc, hrr⟩ := HC.out
  have HST := hid hst; have HZ2 := hid hzc; have HB2 := hid hbc; have HRR := hid hrr
  have hnn : (pathNames p).length = nn := hst.1
  have hnm := hst.2.1
  have HNN := hid hnn
  obtain ⟨L, hL⟩ : ∃ L, pathNames p = L := ⟨_, rfl⟩
  rw [hL] at HST HRR HNN
  have hgc := Blk.lt hzc
  clear HC hst hzc hbc hrr hnn hL HB1 HZ1 HFE
  obtain ⟨x, er, hlk⟩ : ∃ x er, lookK G id 3 12 = (x, er) := ⟨_, _, rfl⟩
  have HLK := hid (look_any t rv G id 3 12 wc (HS.out.later (by rw [HR0.out]; exact HB2.out)) hz)
  have HR2 : Hid (R = if er ≠ 0 then (noEnt, er) else findF G L ⟨ByteArray.empty, 2, x.tree⟩) := by
   show _ = _
   rw [HRR.out]; unfold FindRest; rw [hlk]
  rw [hlk] at HLK
  clear hlk HRR
  go_wp2_with fail
  refine HLK.out.mono ?_; rintro e w3 ⟨ev, pv, rfl, hO3, hb3, hf3⟩
  simp only at hO3 ⊢
  obtain ⟨ea, en, ec, pa, pn, pc, rfl, -, rfl, -⟩ := hO3
  have HX4 : Hid (Blk (w3.alloc (.cells (obCs x (.slice ea en ec) (.slice pa pn pc)) 98)) w3.heap.size 98 (obCs x (.slice ea en ec) (.slice pa pn pc))) := Blk.new w3 _ _
  have HZ4 : Hid (Blk (w3.alloc (.cells (obCs x (.slice ea en ec) (.slice pa pn pc)) 98)) r0 76 (entCs noEnt)) := Blk.alloc ((hb3.block r0 hgc).trans HZ2.out) _
  have hbw : Below r0 w w3 := HB2.out.trans (hb3.mono (Nat.le_of_lt hgc))
  have hrw3 : r0 ≤ w3.heap.size := Nat.le_trans (Nat.le_of_lt hgc) hb3.size
  have HB4 : Hid (Below r0 w (w3.alloc (.cells (obCs x (.slice ea en ec) (.slice pa pn pc)) 98))) := hbw.alloc hrw3 _
  have HST4 : Hid (StrsAt (w3.alloc (.cells (obCs x (.slice ea en ec) (.slice pa pn pc)) 98)) na nn L) := (HST.out.later hb3).later ((Below.refl _ _).alloc (Nat.le_refl _) _)
  unfold obCs at HX4 HZ4 HB4 HST4
  simp only [obCs]
  clear hb3 hf3 HLK HZ2 HB2 HST hgc hbw hrw3
  go_upto_region 8 with fail
  generalize (w3.alloc (.cells #[.int .i64 x.kind, .string x.data, .slice ea en ec, .string x.tree, .slice pa pn pc, .int .i64 x.height, .string x.note] 98)) = w4 at HX4 HZ4 HB4 HST4 ⊢
  generalize w3.heap.size = g4 at HX4 ⊢
  by_cases he : er = 0
  ·subst he
   have HR3 : Hid (R = findF G L ⟨ByteArray.empty, 2, x.tree⟩) := HR2.out
   have k3 : w4.cell? ⟨g4, 3, none⟩ = some (.string x.tree) := Blk.cell HX4.out 3
   clear HR2
   go_upto_region 11 with fail
   have hy0 : r0 < w4.heap.size := Blk.lt HZ4.out
   have HY5 : Hid (Blk (w4.alloc (.cells (entCs ⟨ByteArray.empty, 2, x.tree⟩) 76)) w4.heap.size 76 (entCs ⟨ByteArray.empty, 2, x.tree⟩)) := Blk.new w4 _ _
   have HO5 : Hid (Only (· = w4.heap.size) w4 (w4.alloc (.cells (entCs ⟨ByteArray.empty, 2, x.tree⟩) 76))) := (Only.refl _ _).alloc _
   obtain ⟨y0, hyy⟩ : ∃ y0, w4.heap.size = y0 := ⟨_, rfl⟩
   have HYY := hid hyy
   rw [hyy] at HY5 HO5 hy0 ⊢
   have hem : (⟨#[]⟩ : ByteArray) = ByteArray.empty := rfl
   unfold entCs at HY5 HO5
   simp only at HY5 HO5
   rw [← hem] at HY5 HO5 HR3
   clear k3 HX4 hyy hem
   generalize (w4.alloc (.cells #[.string ⟨#[]⟩, .int .i64 2, .string x.tree] 76)) = w5 at HY5 HO5 ⊢
   have HFR : Hid (∀ W, Only (· = y0) w4 W → StrsAt W na nn L ∧ Blk W r0 76 (entCs noEnt) ∧ Below r0 w W) := fun W hO =>
    ⟨StrsAt.only (c := nc) HST4.out hO (fun k hk hl e => by have e : k = y0 := e; rw [HYY.out] at hl; omega), HZ4.out.only hO (fun e => by have e : r0 = y0 := e; omega), HB4.out.trans (hO.below (fun i e => by have e : i = y0 := e; omega) (by rw [HYY.out]; omega))⟩
   clear HST4 HZ4 HB4
   go_wp2_with fail
   go_loopw [46] (fun iv wr => ∃ (i : Nat) (y : Ent), i ≤ nn ∧ iv = .int .i64 i ∧ Hid (Blk wr y0 76 (entCs y)) ∧ Hid (Only (· = y0) w4 wr) ∧ Hid (R = findF G (L.drop i) y)) (fun iv _ => nn - (intOf iv).toNat)
   case atStart => exact ⟨0, ⟨⟨#[]⟩, 2, x.tree⟩, Nat.zero_le _, rfl, HY5, HO5, HR3⟩
   case round =>
    obtain ⟨i, y, hi, rfl, HY, HO, HF⟩ := hrel
    clear HY5 HO5 HR3
    obtain ⟨hst, hzr, hbr⟩ := HFR.out wr HO.out
    have HZr := hid hzr; have HBr := hid hbr
    have hyl := Blk.lt HY.out
    clear hzr hbr
    by_cases hlt : i < nn
    ·have ci : (i : Int) < nn := by omega
     have ci0 : (0 : Int) ≤ (i : Int) := by omega
     obtain ⟨-, -, h3⟩ := hst
     obtain ⟨nb, noff, rfl, hcell⟩ := h3.resolve_left (by omega)
     have q0 := hcell i hlt
     have hil : i < L.length := by rw [HNN.out]; exact hlt
     have HT : Hid (L.drop i = L.getD i ByteArray.empty :: L.drop (i + 1)) := by
      show _ = _
      rw [List.drop_eq_getElem_cons hil, List.getD_eq_getElem?_getD, List.getElem?_eq_getElem hil]; rfl
     obtain ⟨ns, hns⟩ : ∃ z, L.getD i ByteArray.empty = z := ⟨_, rfl⟩
     rw [hns] at q0 HT
     have HF1 : Hid (R = findF G (ns :: L.drop (i + 1)) y) := by
      show _ = _
      rw [HF.out, HT.out]
     clear hns HT hcell h3 HF
     go_upto_region 14 with fail
     have HN1 : Hid (Blk (wr.alloc (.cells #[.string ns] 9)) wr.heap.size 9 #[.string ns]) := Blk.new wr _ _
     have HY1 : Hid (Blk (wr.alloc (.cells #[.string ns] 9)) y0 76 (entCs y)) := HY.out.alloc _
     have HO1 : Hid (Only (· = y0) w4 (wr.alloc (.cells #[.string ns] 9))) := HO.out.alloc _
     have hne1 : wr.heap.size ≠ y0 := by omega
     clear q0 HY HO HZr HBr
     generalize (wr.alloc (.cells #[.string ns] 9)) = v1 at HN1 HY1 HO1 ⊢
     generalize wr.heap.size = bn at HN1 hne1 ⊢
     obtain ⟨hst1, hz1, hb1⟩ := HFR.out v1 HO1.out
     have HZ1 := hid hz1; have HB1 := hid hb1
     clear hst1 hz1 hb1
     have k1 : v1.cell? ⟨y0, 1, none⟩ = some (.int .i64 y.kind) := Blk.cell HY1.out 1
     by_cases hk : y.kind = 2
     ·have k1 : v1.cell? ⟨y0, 1, none⟩ = some (.int .i64 2) := by rw [k1, hk]
      have k2 : v1.cell? ⟨y0, 2, none⟩ = some (.string y.id) := Blk.cell HY1.out 2
      obtain ⟨x6, er, hlk⟩ : ∃ x er, lookK G y.id 2 21 = (x, er) := ⟨_, _, rfl⟩
      have HLK := hid (look_any t rv G y.id 2 21 v1 (HS.out.later (by rw [HR0.out]; exact HB1.out)) hz)
      rw [hlk] at HLK
      go_wp2_with fail
      refine HLK.out.mono ?_; rintro e v3 ⟨ev, pv, rfl, hO3, hb3, hf3⟩
      simp only at hO3 ⊢
      have HO3 := hid hO3
      obtain ⟨ea, en, ec, pa, pn, pc, rfl, -, rfl, -⟩ := hO3
      have hyl1 := Blk.lt HY1.out
      have hnl1 := Blk.lt HN1.out
      have HX4 : Hid (Blk (v3.alloc (.cells (obCs x6 (.slice ea en ec) (.slice pa pn pc)) 98)) v3.heap.size 98 (obCs x6 (.slice ea en ec) (.slice pa pn pc))) := Blk.new v3 _ _
      have HE4 : Hid (EntsAt (v3.alloc (.cells (obCs x6 (.slice ea en ec) (.slice pa pn pc)) 98)) ea en x6.ents) := by
       obtain ⟨_, _, _, _, _, _, e1, he, -⟩ := HO3.out
       injection e1 with e2 e3 e4
       rw [e2, e3]
       exact he.later ((Below.refl _ _).alloc (Nat.le_refl _) _)
      have HY4 : Hid (Blk (v3.alloc (.cells (obCs x6 (.slice ea en ec) (.slice pa pn pc)) 98)) y0 76 (entCs y)) := Blk.alloc ((hb3.block y0 hyl1).trans HY1.out) _
      have HN4 : Hid (Blk (v3.alloc (.cells (obCs x6 (.slice ea en ec) (.slice pa pn pc)) 98)) bn 9 #[.string ns]) := Blk.alloc ((hb3.block bn hnl1).trans HN1.out) _
      have HO4 : Hid (Only (· = y0) w4 (v3.alloc (.cells (obCs x6 (.slice ea en ec) (.slice pa pn pc)) 98))) := (HO1.out.then (Only.of_below hb3 _)).alloc _
      have HFE4 : Hid (∀ k, (Value.slice ea en ec).ownBlock = some k → v1.heap.size ≤ k) := fun k hk => hf3 k (.inl hk)
      unfold obCs at HX4 HE4 HY4 HN4 HO4
      simp only [obCs]
      clear hb3 hf3 HLK HO3 HN1 HY1 HO1 HZ1 HB1 k1 k2
      go_upto_region 17 with fail
      generalize (v3.alloc (.cells #[.int .i64 x6.kind, .string x6.data, .slice ea en ec, .string x6.tree, .slice pa pn pc, .int .i64 x6.height, .string x6.note] 98)) = v4 at HX4 HE4 HY4 HN4 HO4 ⊢
      generalize v3.heap.size = g6 at HX4 ⊢
      obtain ⟨hst4, hz4, hb4⟩ := HFR.out v4 HO4.out
      have HZ4 := hid hz4; have HB4 := hid hb4
      clear hst4 hz4 hb4
      by_cases he : er = 0
      ·subst he
       have HF2 := hid (HF1.out.trans (findF_ok hk hlk))
       have k2 : v4.cell? ⟨g6, 2, none⟩ = some (.slice ea en ec) := Blk.cell HX4.out 2
       have kn : v4.cell? ⟨bn, 0, none⟩ = some (.string ns) := Blk.cell HN4.out 0
       have HIX := hid (indexE_any ea en ec bn x6.ents ns v4 HE4.out kn)
       obtain ⟨hix1, hix2⟩ := idxE_lt x6.ents ns
       obtain ⟨ix, hix⟩ : ∃ ix, idxE x6.ents ns = ix := ⟨_, rfl⟩
       rw [hix] at HIX HF2 hix1 hix2
       have hel := HE4.out.1
       clear hix hlk kn
       go_wp2_with fail
       refine HIX.out.mono ?_; rintro e v5 ⟨rfl, hb5⟩
       have HX5 : Hid (Blk v5 g6 98 #[.int .i64 x6.kind, .string x6.data, .slice ea en ec, .string x6.tree, .slice pa pn pc, .int .i64 x6.height, .string x6.note]) := (hb5.block g6 (Blk.lt HX4.out)).trans HX4.out
       have hE5 := HE4.out.later hb5
       have HY5 : Hid (Blk v5 y0 76 (entCs y)) := (hb5.block y0 (Blk.lt HY4.out)).trans HY4.out
       have HO5 : Hid (Only (· = y0) w4 v5) := HO4.out.then (Only.of_below hb5 _)
       obtain ⟨hst5, hz5, hb5'⟩ := HFR.out v5 HO5.out
       have HZ5 := hid hz5; have HB5 := hid hb5'
       clear hst5 hz5 hb5' hb5 k2 HX4 HE4 HY4 HN4 HO4 HZ4 HB4 HIX
       by_cases hneg : ix < 0
       ·have HFN : Hid (R = (noEnt, 12)) := by
         show _ = _
         rw [HF2.out, if_neg (by omega)]
        obtain ⟨wz, hwz⟩ : ∃ wz, v5.setRow r0 (entCs noEnt) = wz := ⟨_, rfl⟩
        have HBZ : Hid (Blk wz r0 76 (entCs noEnt)) := by rw [← hwz]; exact setRow_heap _ _ _ _ _ _ HZ5.out
        have HLZ : Hid (Below r0 w wz) := by rw [← hwz]; exact below_setRow HB5.out (Nat.le_refl _) _
        have HWZ := hid hwz
        clear hwz
        go_wp2_with (first
         | (refine wpList_store_row rfl _ (.tmp 6) (.tmp 71) rfl r0 (entCs noEnt) rfl rfl 76 (entCs noEnt) HZ5.out (Tryz.infoEntSz _) rfl (entcs_one _) ?_; rw [HWZ.out]))
        go_wp2_with fail
        refine bodyPost_ret (v := .tuple #[.agg (entCs noEnt), .int .i64 12]) ?hr5 rfl ⟨?_, ?_⟩
        case hr5 => exact find_results _ r0 12 noEnt wz rfl rfl HBZ.out
        ·rw [HFN.out]
        ·rw [HR0.out]; exact HLZ.out
       ·obtain ⟨m, hm⟩ : ∃ m : Nat, ix = (m : Int) := ⟨ix.toNat, by omega⟩
        subst hm
        have hme : m < en := by omega
        have cm : (m : Int) < en := by omega
        have cm0 : (0 : Int) ≤ (m : Int) := by omega
        obtain ⟨-, -, h3⟩ := hE5
        obtain ⟨eb, eoff, rfl, hcell⟩ := h3.resolve_left (by omega)
        obtain ⟨q0, q1, q2⟩ := hcell m hme
        have HF3 : Hid (R = findF G (L.drop (i + 1)) (x6.ents.getD m noEnt)) := by
         show _ = _
         rw [HF2.out, if_pos (by omega), Int.toNat_natCast]
        obtain ⟨z, hzz⟩ : ∃ z, x6.ents.getD m ⟨ByteArray.empty, 0, ByteArray.empty⟩ = z := ⟨_, rfl⟩
        rw [hzz] at q0 q1 q2
        have hzz2 : x6.ents.getD m noEnt = z := hzz
        rw [hzz2] at HF3
        have k2 : v5.cell? ⟨g6, 2, none⟩ = some (.slice (some ⟨eb, eoff, none⟩) en ec) := Blk.cell HX5.out 2
        clear hzz hzz2 h3 hcell HF1 HF2
        obtain ⟨wz, hwz⟩ : ∃ wz, v5.setRow y0 (entCs z) = wz := ⟨_, rfl⟩
        have HYZ : Hid (Blk wz y0 76 (entCs z)) := by rw [← hwz]; exact setRow_heap _ _ _ _ _ _ HY5.out
        have HOZ : Hid (Only (· = y0) w4 wz) := by
         rw [← hwz]
         exact HO5.out.then ⟨rfl, rfl, rfl, by simp, fun k hk hne => setRow_other v5 y0 k _ hne⟩
        have HWZ := hid hwz
        clear hwz
        go_wp2_with (first
         | (refine wpList_store_row rfl _ (.tmp 13) (.tmp 76) rfl y0 (entCs z) rfl rfl 76 (entCs y) HY5.out (Tryz.infoEntSz _) rfl (entcs_one _) ?_; rw [HWZ.out]))
        go_wp2_with fail
        go_roundw
        case rel => first | exact ⟨i + 1, z, by omega, by go_num, HYZ, HOZ, HF3⟩ | ((repeat apply Exists.intro); exact ⟨⟨i + 1, z, by omega, by go_num, HYZ, HOZ, HF3⟩, rfl⟩)
        case measure => simp [intOf]; omega
      ·have q1 : (er != 0) = true := by simpa using he
       have q2 : (er == 0) = false := by simpa using he
       have HFN := hid (HF1.out.trans (findF_look hk hlk he))
       clear hlk
       obtain ⟨wz, hwz⟩ : ∃ wz, v4.setRow r0 (entCs noEnt) = wz := ⟨_, rfl⟩
       have HBZ : Hid (Blk wz r0 76 (entCs noEnt)) := by rw [← hwz]; exact setRow_heap _ _ _ _ _ _ HZ4.out
       have HLZ : Hid (Below r0 w wz) := by rw [← hwz]; exact below_setRow HB4.out (Nat.le_refl _) _
       have HWZ := hid hwz
       clear hwz
       go_wp2_with (first
        | (refine wpList_store_row rfl _ (.tmp 6) (.tmp 63) rfl r0 (entCs noEnt) rfl rfl 76 (entCs noEnt) HZ4.out (Tryz.infoEntSz _) rfl (entcs_one _) ?_; rw [HWZ.out]))
       go_wp2_with fail
       refine bodyPost_ret (v := .tuple #[.agg (entCs noEnt), .int .i64 er]) ?hr6 rfl ⟨?_, ?_⟩
       case hr6 => exact find_results _ r0 er noEnt wz rfl rfl HBZ.out
       ·rw [HFN.out]
       ·rw [HR0.out]; exact HLZ.out
     ·have q1 : (y.kind != 2) = true := by simp [hk]
      have q2 : (y.kind == 2) = false := by simp [hk]
      have HFN := hid (HF1.out.trans (findF_kind hk))
      obtain ⟨wz, hwz⟩ : ∃ wz, v1.setRow r0 (entCs noEnt) = wz := ⟨_, rfl⟩
      have HBZ : Hid (Blk wz r0 76 (entCs noEnt)) := by rw [← hwz]; exact setRow_heap _ _ _ _ _ _ HZ1.out
      have HLZ : Hid (Below r0 w wz) := by rw [← hwz]; exact below_setRow HB1.out (Nat.le_refl _) _
      have HWZ := hid hwz
      clear hwz
      go_wp2_with (first
       | (refine wpList_store_row rfl _ (.tmp 6) (.tmp 53) rfl r0 (entCs noEnt) rfl rfl 76 (entCs noEnt) HZ1.out (Tryz.infoEntSz _) rfl (entcs_one _) ?_; rw [HWZ.out]))
      go_wp2_with fail
      refine bodyPost_ret (v := .tuple #[.agg (entCs noEnt), .int .i64 12]) ?hr7 rfl ⟨?_, ?_⟩
      case hr7 => exact find_results _ r0 12 noEnt wz rfl rfl HBZ.out
      ·rw [HFN.out]
      ·rw [HR0.out]; exact HLZ.out
    ·obtain rfl : i = nn := by omega
     have HFN : Hid (R = (y, 0)) := by
      show _ = _
      rw [HF.out, List.drop_of_length_le (by rw [HNN.out]; exact Nat.le_refl _)]; rfl
     have k0 : wr.cell? ⟨y0, 0, none⟩ = some (.string y.name) := Blk.cell HY.out 0
     have k1 : wr.cell? ⟨y0, 1, none⟩ = some (.int .i64 y.kind) := Blk.cell HY.out 1
     have k2 : wr.cell? ⟨y0, 2, none⟩ = some (.string y.id) := Blk.cell HY.out 2
     obtain ⟨wz, hwz⟩ : ∃ wz, wr.setRow r0 (entCs y) = wz := ⟨_, rfl⟩
     have HBZ : Hid (Blk wz r0 76 (entCs y)) := by rw [← hwz]; exact setRow_heap _ _ _ _ _ _ HZr.out
     have HLZ : Hid (Below r0 w wz) := by rw [← hwz]; exact below_setRow HBr.out (Nat.le_refl _) _
     have HWZ := hid hwz
     clear hwz
     go_wp2_with (first
      | (refine wpList_store_row rfl _ (.tmp 6) (.tmp 78) rfl r0 (entCs y) rfl rfl 76 (entCs noEnt) HZr.out (Tryz.infoEntSz _) rfl (entcs_one _) ?_; rw [HWZ.out]))
     go_wp2_with fail
     refine bodyPost_ret (v := .tuple #[.agg (entCs y), .int .i64 0]) ?hr8 rfl ⟨?_, ?_⟩
     case hr8 => exact find_results _ r0 0 y wz rfl rfl HBZ.out
     ·rw [HFN.out]
     ·rw [HR0.out]; exact HLZ.out
  ·have q1 : (er != 0) = true := by simpa using he
   have q2 : (er == 0) = false := by simpa using he
   have HFN : Hid (R = (noEnt, er)) := by
    show _ = _
    rw [HR2.out, if_pos he]
   obtain ⟨wz, hwz⟩ : ∃ wz, w4.setRow r0 (entCs noEnt) = wz := ⟨_, rfl⟩
   have HBZ : Hid (Blk wz r0 76 (entCs noEnt)) := by rw [← hwz]; exact setRow_heap _ _ _ _ _ _ HZ4.out
   have HLZ : Hid (Below r0 w wz) := by rw [← hwz]; exact below_setRow HB4.out (Nat.le_refl _) _
   have HWZ := hid hwz
   clear hwz
   go_wp2_with (first
    | (refine wpList_store_row rfl _ (.tmp 6) (.tmp 39) rfl r0 (entCs noEnt) rfl rfl 76 (entCs noEnt) HZ4.out (Tryz.infoEntSz _) rfl (entcs_one _) ?_; rw [HWZ.out]))
   go_wp2_with fail
   refine bodyPost_ret (v := .tuple #[.agg (entCs noEnt), .int .i64 er]) ?hr2 rfl ⟨?_, ?_⟩
   case hr2 => exact find_results _ r0 er noEnt wz rfl rfl HBZ.out
   ·rw [HFN.out]
   ·rw [HR0.out]; exact HLZ.out
end Go.Proofs.YtmpjdoiogbbcoaaGreatDoor
/- Check of the program. -/
namespace Go.Proofs.YtmpjdoiogbbcoaaGreatDoor
open Go.RowKit Pap
set_option linter.unusedVariables false

set_option maxHeartbeats 1000000 in
theorem meets_any (b : Nat) (p q : ByteArray) (w : World) (hp : p.size < 4294967281) (hq : q.size < 4294967281) (hm : MaxAt w) (hb : w.cell? ⟨b, 0, none⟩ = some (.string p)) :
  Calls Tryz.prog 206 (#[.string q] ++ #[.pointer (some ⟨b, 0, none⟩)]) w fun e w' => e = .returned (.bool (meets p.data.toList q.data.toList)) ∧ Below w.heap.size w w' := by
 have HM := hid hm
 have HB := Below.refl w.heap.size w
 have hlt := World.block_lt_of_cell? w _ hb
 have HC := hid (fun W (h : Below w.heap.size w W) => (h.cell (p := ⟨b, 0, none⟩) hlt).trans hb)
 have m0 : meets p.data.toList q.data.toList = (withinR p.data.toList q.data.toList || withinR q.data.toList p.data.toList) := rfl
 clear hm
 cases h1 : withinR p.data.toList q.data.toList
 ·have HR : Hid (meets p.data.toList q.data.toList = withinR q.data.toList p.data.toList) := by unfold Hid; rw [m0, h1]; rfl
  clear m0
  go_enter Tryz.func206, Tryz.ntmps206
  go_wp2_with (go_at_call 207; refine (within_any _ _ _ (by assumption) (by assumption) (HM.out.later HB)).mono ?_; rintro e w1 ⟨rfl, hb1⟩; replace HB := below_then HB hb1; have c1 := HC.out _ HB; clear hb1)
  go_ret
  exact ⟨ret_bool (by rw [HR.out]), HB⟩
 ·have HR : Hid (meets p.data.toList q.data.toList = true) := by unfold Hid; rw [m0, h1]; rfl
  clear m0
  go_enter Tryz.func206, Tryz.ntmps206
  go_wp2_with (go_at_call 207; refine (within_any _ _ _ (by assumption) (by assumption) (HM.out.later HB)).mono ?_; rintro e w1 ⟨rfl, hb1⟩; replace HB := below_then HB hb1; have c1 := HC.out _ HB; clear hb1)
  go_ret
  exact ⟨ret_bool (by rw [HR.out]), HB⟩

theorem strsAt_take {w : World} {a : Option Addr} {n k : Nat} {l : List ByteArray} (h : StrsAt w a n l) (hk : k ≤ n) : StrsAt w a k (l.take k) := by
 obtain ⟨h1, h2, h3⟩ := h
 refine ⟨by rw [List.length_take]; omega, by omega, ?_⟩
 by_cases h0 : k = 0
 ·exact .inl h0
 ·obtain ⟨b, off, ha, hc⟩ := h3.resolve_left (by omega)
  refine .inr ⟨b, off, ha, fun j hj => ?_⟩
  rw [hc j (by omega)]
  simp [List.getD_eq_getElem?_getD, hj]
theorem any_ls (l : List ByteArray) (k : Nat) (f : List UInt8 → Bool) : (l.take k).any (fun x => f x.data.toList) = ((ls l).take k).any f := by
 unfold ls; rw [← List.map_take, List.any_map]; rfl
theorem mem_ls (l : List ByteArray) (k : Nat) (p : ByteArray) : (∃ o ∈ l.take k, o = p) ↔ p.data.toList ∈ (ls l).take k := by
 unfold ls; rw [← List.map_take, List.mem_map]
 constructor
 ·rintro ⟨o, ho, rfl⟩; exact ⟨o, ho, rfl⟩
 ·rintro ⟨o, ho, e⟩; exact ⟨o, ho, ba_ext e⟩
set_option maxRecDepth 100000 in
set_option maxHeartbeats 4000000 in
theorem pcheck_any (a : Option Addr) (n c : Nat) (l : List ByteArray) (w : World) (hS : StrsAt w a n l) (hc : n ≤ c) (hcm : c ≤ maxLen) (hz : ∀ x ∈ l, x.size < 4294967281) (hm : MaxAt w) :
  Calls Tryz.prog 162 #[.slice a n c] w fun e w' => e = .returned (.tuple #[.int .i64 (checkR (ls l)).1, .int .i64 (checkR (ls l)).2]) ∧ Below w.heap.size w w' := by
 have hnl := hS.1
 have hn := hS.2.1
 have xl := ls_length l
 have HM := hid hm; clear hm
 have HZ := hid hz; clear hz
 unfold maxLen at hcm
 have hmem : ∀ k, k < n → l.getD k ByteArray.empty ∈ l := fun k hk => by rw [List.getD_eq_getElem?_getD, List.getElem?_eq_getElem (by omega)]; exact List.getElem_mem _
 have HE := hid hmem; clear hmem
 go_enter Tryz.func162, Tryz.ntmps162
 go_wp2
 go_loopw [14] (fun i wr => ∃ k : Nat, k ≤ n ∧ i = .int .i64 k ∧ Below w.heap.size w wr ∧ Hid (bad1 0 (ls l) = bad1 k ((ls l).drop k))) (fun i _ => n - (intOf i).toNat)
 case atStart => exact ⟨0, by omega, rfl, Below.refl _ _, rfl⟩
 case round =>
  obtain ⟨k, hk, rfl, hbel, HK⟩ := hrel
  by_cases hlt : k < n
  ·have hSr := hS.later hbel
   obtain ⟨b, off, rfl, hcc⟩ := hSr.2.2.resolve_left (by omega)
   have hck := hcc k hlt
   have st := bad1_step (ls l) k (by omega)
   rw [ls_get] at st
   have hzk := HZ.out _ (HE.out k hlt)
   obtain ⟨p, hp⟩ : ∃ p, l.getD k ByteArray.empty = p := ⟨_, rfl⟩
   rw [hp] at hck st hzk
   clear hp hcc
   by_cases h0 : splitE p.data.toList = 0
   ·have HS : Hid (bad1 0 (ls l) = bad1 ((k + 1 : Nat) : Int) ((ls l).drop (k + 1))) := by rw [if_pos h0] at st; exact HK.out.trans st
    have f1 : (splitE p.data.toList != 0) = false := by simp [h0]
    clear st h0
    go_wp2_with (go_at_call 70; refine (split_any _ _ hzk (HM.out.later hbel)).mono ?_; rintro e w1 ⟨v, rfl, hv, hb1⟩; clear hv)
    go_roundw
    case rel => exact ⟨k + 1, by omega, by go_num, below_then hbel hb1, HS⟩
    case measure => simp [intOf]; omega
   ·have HS : Hid (bad1 0 (ls l) = some ((k : Int), splitE p.data.toList)) := by rw [if_neg h0] at st; exact HK.out.trans st
    have f1 : (splitE p.data.toList != 0) = true := by simp [h0]
    clear st h0
    go_wp2_with (go_at_call 70; refine (split_any _ _ hzk (HM.out.later hbel)).mono ?_; rintro e w1 ⟨v, rfl, hv, hb1⟩; clear hv)
    go_ret2
    exact ⟨by unfold checkR; rw [HS.out]; rfl, below_then hbel hb1⟩
  ·have HN : Hid (checkR (ls l) = pass2 [] 0 (ls l)) := by
    have : bad1 0 (ls l) = none := by rw [HK.out, List.drop_eq_nil_of_le (by omega)]; rfl
    unfold Hid checkR; rw [this]
   clear HK
   go_wp2
   go_loopw [31] (fun i wr => ∃ k : Nat, k ≤ n ∧ i = .int .i64 k ∧ Below w.heap.size w wr ∧ Hid (checkR (ls l) = pass2 ((ls l).take k) k ((ls l).drop k))) (fun i _ => n - (intOf i).toNat)
   case atStart => exact ⟨0, by omega, rfl, hbel, HN.out⟩
   case round =>
    clear hlt hk hbel HN
    obtain ⟨k, hk, rfl, hbel, HK⟩ := hrel
    by_cases hlt : k < n
    ·have hSr := hS.later hbel
     obtain ⟨b, off, rfl, hcc⟩ := hSr.2.2.resolve_left (by omega)
     have hck := hcc k hlt
     have st := pass2_step (ls l) k (by omega)
     rw [ls_get] at st
     have hzk := HZ.out _ (HE.out k hlt)
     obtain ⟨p, hp⟩ : ∃ p, l.getD k ByteArray.empty = p := ⟨_, rfl⟩
     rw [hp] at hck st hzk
     clear hp hcc
     have hbA : Below wr.heap.size wr (wr.alloc (.cells #[.string p] 9)) := (Below.refl _ _).alloc (Nat.le_refl _) _
     obtain ⟨B, hB⟩ : ∃ B, wr.heap.size = B := ⟨_, rfl⟩
     have hcB : (wr.alloc (.cells #[.string p] 9)).cell? ⟨B, 0, none⟩ = some (.string p) := by
      subst hB; rw [World.cell?_alloc_mark]; rfl
     have hSA := strsAt_take (hSr.later hbA) hk
     have hMA := HM.out.later (below_then hbel hbA)
     have cN := contains_any (some ⟨b, off, none⟩) k c (l.take k) p _ hSA
     have cF := containsFunc_grows 206 #[.pointer (some ⟨B, 0, none⟩)] (fun args w => rfl) (fun x => meets p.data.toList x.data.toList) (some ⟨b, off, none⟩) k c (l.take k) _ hSA
      (fun W hW x hx => meets_any B p x W hzk (HZ.out x (List.mem_of_mem_take hx)) (hMA.later hW) ((hW.cell (p := ⟨B, 0, none⟩) (World.block_lt_of_cell? _ _ hcB)).trans hcB))
     rw [any_ls] at cF
     have hbB := below_then hbel hbA
     clear hSr hSA hMA hcB hbA
     by_cases d1 : p.data.toList ∈ (ls l).take k
     ·have HS : Hid (checkR (ls l) = ((k : Int), 31)) := by rw [if_pos d1] at st; exact HK.out.trans st
      rw [decide_eq_true ((mem_ls l k p).2 d1)] at cN
      have CN := hid cN; have HBB := hid hbB; clear cN cF st d1 hbB
      subst hB
      go_wp2_with (go_at_call 208; refine CN.out.mono ?_; rintro e w1 ⟨rfl, rfl⟩)
      go_ret2
      exact ⟨by rw [HS.out]; rfl, HBB.out⟩
     ·rw [if_neg d1] at st
      rw [decide_eq_false (fun e => d1 ((mem_ls l k p).1 e))] at cN
      by_cases d2 : ((ls l).take k).any (meets p.data.toList) = true
      ·have HS : Hid (checkR (ls l) = ((k : Int), 32)) := by rw [if_pos d2] at st; exact HK.out.trans st
       rw [d2] at cF
       have CN := hid cN; have CF := hid cF; have HBB := hid hbB; clear cN cF st d1 d2 hbB
       subst hB
       go_wp2_with (first
        | (go_at_call 208; refine CN.out.mono ?_; rintro e w1 ⟨rfl, rfl⟩)
        | (go_at_call 187; refine CF.out.mono ?_; rintro e w1 ⟨rfl, hb1⟩))
       go_ret2
       exact ⟨by rw [HS.out]; rfl, below_then HBB.out hb1⟩
      ·have HS : Hid (checkR (ls l) = pass2 ((ls l).take (k + 1)) ((k + 1 : Nat) : Int) ((ls l).drop (k + 1))) := by rw [if_neg d2] at st; exact HK.out.trans st
       have d3 : ((ls l).take k).any (meets p.data.toList) = false := by simpa using d2
       rw [d3] at cF
       have CN := hid cN; have CF := hid cF; have HBB := hid hbB; clear cN cF st d1 d2 d3 hbB
       subst hB
       go_wp2_with (first
        | (go_at_call 208; refine CN.out.mono ?_; rintro e w1 ⟨rfl, rfl⟩)
        | (go_at_call 187; refine CF.out.mono ?_; rintro e w1 ⟨rfl, hb1⟩))
       go_roundw
       case rel => exact ⟨k + 1, by omega, by go_num, below_then HBB.out hb1, HS⟩
       case measure => simp [intOf]; omega
    ·have HR : Hid (checkR (ls l) = (0, 0)) := by rw [Hid, HK.out, List.drop_eq_nil_of_le (by omega)]; rfl
     go_wp2
     go_ret2
     exact ⟨by rw [HR.out]; rfl, hbel⟩
end Go.Proofs.YtmpjdoiogbbcoaaGreatDoor
/- Whether files can be a snapshot: check. -/
namespace Go.Proofs.YtmpjdoiogbbcoaaGreatDoor
open Go.RowKit Book Pap Ojt Sn
set_option linter.unusedVariables false
set_option linter.unusedSimpArgs false

def checkF (fs : List Fi) : Int := if 256 < fs.length then 6 else if (checkR (ls (fs.map (·.path)))).2 = 0 ∧ (fs.any fun f => decide (65536 < f.data.size)) = true then 5 else (checkR (ls (fs.map (·.path)))).2
theorem own_cap {w : World} {B e s n c : Nat} {a : Option Addr} {xs : List Value} (h : w.ownsRow B e s (.slice a n c) n xs) : c ≤ maxLen := by
 rcases h.2 with ⟨h1, h0⟩ | ⟨g, cap, cur, h1, hb, hg, hn, hc, r⟩
 ·cases h1; exact Nat.zero_le _
 ·cases h1; exact hc
set_option maxRecDepth 100000 in
set_option maxHeartbeats 8000000 in
theorem scheck_any (a : Option Addr) (n c : Nat) (fs : List Fi) (w : World) (h : FisAt w a n fs) (hz : ∀ f ∈ fs, f.path.size < 4294967281 ∧ f.data.size ≤ 9223372036854775807) (hm : MaxAt w) :
  Calls Tryz.prog 98 #[.slice a n c] w fun e w' => e = .returned (.int .i64 (checkF fs)) ∧ Below w.heap.size w w' := by
 obtain ⟨i0, hi0, hz0, hz1, hz2⟩ := info_parts Tryz.infoS
 obtain ⟨h1, h2, h3⟩ := h
 have HL := hid h1
 have HZ := hid hz
 have HM := hid hm
 clear hz hm
 by_cases hbig : 256 < n
 ·have HR : Hid (checkF fs = 6) := by
   show _ = _
   unfold checkF; rw [if_pos (by omega)]
  have ci : (256 : Int) < n := by omega
  rw [HR.out]
  go_enter Tryz.func98, Tryz.ntmps98
  go_wp2_with fail
  go_ret
  exact ⟨rfl, Below.refl _ _⟩
 have HR : Hid (checkF fs = if (checkR (ls (fs.map (·.path)))).2 = 0 ∧ (fs.any fun f => decide (65536 < f.data.size)) = true then 5 else (checkR (ls (fs.map (·.path)))).2) := by
  show _ = _
  unfold checkF; rw [if_neg (by omega)]
 obtain ⟨R, hR⟩ : ∃ R, checkF fs = R := ⟨_, rfl⟩
 rw [hR] at HR ⊢
 clear hR
 have ci : ¬ (256 : Int) < n := by omega
 go_enter Tryz.func98, Tryz.ntmps98
 go_wp2_with fail
 clear ci
 go_loopw [14, 3, 4] (fun iv v lv wr => ∃ (i : Nat) (lg : Bool), i ≤ n ∧ iv = .int .i64 i ∧ lv = .bool lg ∧ Hid (wr.ownsRow w.heap.size 9 1 v i (svals ((fs.take i).map (·.path)))) ∧ Hid (((fs.take i).any fun f => decide (65536 < f.data.size)) = lg) ∧ Hid (Below w.heap.size w wr)) (fun iv _ _ _ => n - (intOf iv).toNat)
 case atStart => exact ⟨0, false, Nat.zero_le _, rfl, rfl, World.ownsRow_nil _ _ _ _, rfl, Below.refl _ _⟩
 case round =>
  obtain ⟨i, lg, hi, rfl, rfl, HO, HG, HB⟩ := hrel
  obtain ⟨va, vc, rfl, hvc⟩ := own_slice' HO.out
  have hsz := HB.out.size
  by_cases hlt : i < n
  ·obtain ⟨b, off, rfl, hc⟩ := h3.resolve_left (by omega)
   have ci : (i : Int) < n := by omega
   have ci0 : (0 : Int) ≤ (i : Int) := by omega
   obtain ⟨k0, k1⟩ := hc i hlt
   have bl : b < w.heap.size := World.block_lt_of_cell? w _ k0
   have q0 := (HB.out.cell (p := ⟨b, off + i * 2, none⟩) bl).trans k0
   have q1 := (HB.out.cell (p := ⟨b, off + i * 2 + 1, none⟩) bl).trans k1
   have hl : i < fs.length := by rw [HL.out]; exact hlt
   have HT : Hid (fs.take (i + 1) = fs.take i ++ [fs.getD i noFi]) := by
    show _ = _
    rw [List.take_succ_eq_append_getElem hl, List.getD_eq_getElem?_getD, List.getElem?_eq_getElem hl]; rfl
   have HMM : fs.getD i noFi ∈ fs := by
    rw [List.getD_eq_getElem?_getD, List.getElem?_eq_getElem hl]; exact List.getElem_mem hl
   obtain ⟨x, hx⟩ : ∃ x, fs.getD i noFi = x := ⟨_, rfl⟩
   rw [hx] at q0 q1 HT HMM
   obtain ⟨p, dd⟩ := x
   have hds : dd.size ≤ 9223372036854775807 := (HZ.out _ HMM).2
   simp only at q0 q1
   clear hx k0 k1 hc hl HMM
   go_upto_region 8 with fail
   have HX1 : Hid (Blk (wr.alloc (.cells #[.string p, .string dd] 71)) wr.heap.size 71 #[.string p, .string dd]) := Blk.new wr _ _
   have HO1 : Hid ((wr.alloc (.cells #[.string p, .string dd] 71)).ownsRow w.heap.size 9 1 (.slice va i vc) i (svals ((fs.take i).map (·.path)))) := HO.out.alloc _
   have HB1 : Hid (Below w.heap.size w (wr.alloc (.cells #[.string p, .string dd] 71))) := HB.out.alloc hsz _
   have hsz1 : w.heap.size ≤ (wr.alloc (.cells #[.string p, .string dd] 71)).heap.size := by simp; omega
   clear q0 q1 HO HB
   generalize (wr.alloc (.cells #[.string p, .string dd] 71)) = w1 at HX1 HO1 HB1 hsz1 ⊢
   generalize wr.heap.size = g1 at HX1 ⊢
   have k0 : w1.cell? ⟨g1, 0, none⟩ = some (.string p) := Blk.cell HX1.out 0
   have him : i ≤ 256 := by omega
   go_upto_region 9 with (first
    | (at_builtin; refine wpList_append_own _ rfl (.tmp 18) (.tmp 21) 40 rfl w.heap.size 9 i0 (.string ⟨#[]⟩) 1 16 Tryz.underlying40 hi0 hz0 hz1 hz2 rfl (by decide) (.slice va i vc) _ _ rfl (HO1.out.alloc _) ⟨w1.heap.size, 0, none⟩ 1 1 [.string p] rfl rfl (cellNew1 _ _ _) (one_bytes rfl) (by unfold maxLen; omega) (by omega) (by rw [World.size_alloc]; omega) ?_; intro v' w5 hown' hg5 _; obtain ⟨va', vc', hvv', hvc'⟩ := own_slice' hown'; subst hvv'; have HOWN := hid hown'; have HG5 := hid hg5; clear hown' hg5))
   have HX5 : Hid (Blk w5 g1 71 #[.string p, .string dd]) := (HX1.out.alloc _).grown HG5.out (fun e => own_blk_ne HO1.out HX1.out (by decide) e.symm)
   have HB5 : Hid (Below w.heap.size w w5) := below_grown1 HB1.out HO1.out _ hsz1 HG5.out
   have HO5 : Hid (w5.ownsRow w.heap.size 9 1 (.slice va' (i + 1) vc') (i + 1) (svals ((fs.take (i + 1)).map (·.path)))) := by
    have h := HOWN.out
    rw [HT.out, List.map_append, svals_append]; exact h
   have HG2 : Hid (((fs.take (i + 1)).any fun f => decide (65536 < f.data.size)) = (lg || decide (65536 < dd.size))) := by
    show _ = _
    rw [HT.out, List.any_append, HG.out]; simp
   have q1 : w5.cell? ⟨g1, 1, none⟩ = some (.string dd) := Blk.cell HX5.out 1
   clear k0 HOWN HG5 HX1 HO1 HB1 HT
   have fin : ∀ r : Bool, (lg || decide (65536 < dd.size)) = r → Hid (((fs.take (i + 1)).any fun f => decide (65536 < f.data.size)) = r) := fun r hr => by rw [← hr]; exact HG2.out
   have meas : n - (intOf (.int .i64 (↑i + 1))).toNat < n - (intOf (.int .i64 ↑i)).toNat := by simp [intOf]; omega
   cases lg
   ·by_cases hd : 65536 < dd.size
    ·have hd1 : (65536 : Int) < (dd.size : Int) := by omega
     have HG3 := fin true (by simp [hd])
     clear fin HG2
     go_wp2_with fail
     exact ⟨⟨i + 1, _, by omega, by go_num, rfl, HO5, HG3, HB5⟩, meas⟩
    ·have hd1 : ¬ (65536 : Int) < (dd.size : Int) := by omega
     have HG3 := fin false (by simp [hd])
     clear fin HG2
     go_wp2_with fail
     exact ⟨⟨i + 1, _, by omega, by go_num, rfl, HO5, HG3, HB5⟩, meas⟩
   ·have HG3 := fin true rfl
    clear fin HG2
    go_wp2_with fail
    exact ⟨⟨i + 1, _, by omega, by go_num, rfl, HO5, HG3, HB5⟩, meas⟩
  ·obtain rfl : i = n := by omega
   have ci : ¬ (i : Int) < i := by omega
   have hall : fs.take i = fs := List.take_of_length_le (by rw [HL.out]; exact Nat.le_refl _)
   have hg := HG.out
   have hrow := HO.out
   rw [hall] at hg hrow
   have hmx := HM.out.later HB.out
   have hst : StrsAt wr va i (fs.map (·.path)) := by
    have hr : wr.ownsRow w.heap.size 9 1 (.slice va i vc) (fs.map (·.path)).length (svals (fs.map (·.path))) := by rw [List.length_map, HL.out]; exact hrow
    obtain ⟨a', c', e, h⟩ := own_strs hr (by rw [List.length_map, HL.out]; omega)
    rw [List.length_map, HL.out] at e h
    cases e; exact h
   have HPC := hid (pcheck_any va i vc (fs.map (·.path)) wr hst hvc (own_cap HO.out) (fun x hx => by
    obtain ⟨f, hf, rfl⟩ := List.mem_map.1 hx
    exact (HZ.out f hf).1) hmx)
   obtain ⟨⟨pk, pe⟩, hpc⟩ : ∃ r, checkR (ls (fs.map (·.path))) = r := ⟨_, rfl⟩
   rw [hpc] at HPC HR
   rw [hg] at HR
   have HR : Hid (R = if pe = 0 ∧ lg = true then 5 else pe) := HR.out
   clear hpc hst hmx hrow hg hall
   go_wp2_with fail
   refine HPC.out.mono ?_; rintro e w6 ⟨rfl, hb6⟩
   have HB6 : Hid (Below w.heap.size w w6) := HB.out.trans (hb6.mono hsz)
   clear hb6 HPC
   by_cases he : pe = 0
   ·subst he
    cases lg
    ·have hr : R = 0 := by rw [HR.out]; simp
     subst hr
     go_wp2_with fail
     go_ret
     exact ⟨rfl, HB6.out⟩
    ·have hr : R = 5 := by rw [HR.out]; simp
     subst hr
     go_wp2_with fail
     go_ret
     exact ⟨rfl, HB6.out⟩
   ·have hr : R = pe := by rw [HR.out]; simp [he]
    subst hr
    go_wp2_with fail
    go_ret
    exact ⟨rfl, HB6.out⟩
end Go.Proofs.YtmpjdoiogbbcoaaGreatDoor
/- Files built: build, Build. -/
namespace Go.Proofs.YtmpjdoiogbbcoaaGreatDoor
open Go.RowKit Book Pap Ojt Sn
set_option linter.unusedVariables false
set_option linter.unusedSimpArgs false

set_option maxRecDepth 100000 in
set_option maxHeartbeats 1000000 in
theorem splitF_any (s : ByteArray) (w : World) (hs : s.size < 4294967281) (hm : MaxAt w) :
  Calls Tryz.prog 70 #[.string s] w fun e w' => ∃ v, e = .returned (.tuple #[v, .int .i64 (splitE s.data.toList)]) ∧ SplitsC s v w' ∧ Below w.heap.size w w' ∧ ∀ k, v.ownBlock = some k → w.heap.size ≤ k := by
 obtain ⟨m, hm⟩ := hm
 have cS := Tryz.strings_Split s slash m w hs hm (by decide)
 have hlen : (Lib.splitB slash 0 (Lib.countB s slash) s).length = Lib.countB s slash + 1 := Lib.splitB_all slash (by decide) 0 _ s rfl
 have hls := splitB_pieces s
 have hcl := Lib.countB_le slash (by decide) s.size s (Nat.le_refl _)
 obtain ⟨l, hl⟩ : ∃ l, Lib.splitB slash 0 (Lib.countB s slash) s = l := ⟨_, rfl⟩
 rw [hl] at cS hlen hls
 obtain ⟨k, hk⟩ : ∃ k, Lib.countB s slash = k := ⟨_, rfl⟩
 rw [hk] at cS hlen hcl
 have hlm : l.length ≤ 9223372036854775807 := by omega
 have hS := strs_alloc w l 9 hlm
 have hbel : Below w.heap.size w (w.alloc (.cells (l.map Value.string).toArray 9)) := (Below.refl _ _).alloc (Nat.le_refl _) _
 rw [← hlen] at cS
 obtain ⟨w1, hw1⟩ : ∃ w1, w.alloc (.cells (l.map Value.string).toArray 9) = w1 := ⟨_, rfl⟩
 rw [hw1] at cS hS hbel
 obtain ⟨q, hq⟩ : ∃ q, w.heap.size = q := ⟨_, rfl⟩
 have hS' := hS
 rw [hq] at cS hS
 have cC := check_any (some ⟨q, 0, none⟩) l.length l.length l w1 hS
 have hE : checkE (ls l) = splitE s.data.toList := by unfold splitE ls; rw [hls]
 rw [hE] at cC
 have HL : Hid (ls l = pieces s.data.toList) := hls
 obtain ⟨E, hEE⟩ : ∃ E, splitE s.data.toList = E := ⟨_, rfl⟩
 rw [hEE] at cC
 have HEE := hid hEE
 have HQ : Hid (w.heap.size = q) := hq
 have CS := hid cS; have CC := hid cC
 clear cS cC hlen hls hl hk hcl hE hEE hw1 hm hS' hq
 by_cases h0 : E = 0
 ·subst h0
  go_enter Tryz.func70, Tryz.ntmps70
  go_wp2_with (first
   | (go_at_call 123; refine CS.out.mono ?_; rintro e w2 ⟨rfl, hw⟩; obtain rfl := hw.symm)
   | (go_at_call 124; refine CC.out.mono ?_; rintro e w2 ⟨rfl, hb2⟩))
  go_ret2
  exact ⟨_, by rw [HEE.out]; rfl, ⟨_, l, rfl, hS.later hb2, by unfold namesOf; rw [if_pos HEE.out]; exact HL.out, fun h => absurd HEE.out h⟩, below_then hbel hb2, fun k hk => by cases hk; exact Nat.le_of_eq HQ.out⟩
 ·have e1 : (E != 0) = true := by simpa using h0
  have e2 : (E == 0) = false := by simpa using h0
  have H0 := hid h0; clear h0
  go_enter Tryz.func70, Tryz.ntmps70
  go_wp2_with (first
   | (go_at_call 123; refine CS.out.mono ?_; rintro e w2 ⟨rfl, hw⟩; obtain rfl := hw.symm)
   | (go_at_call 124; refine CC.out.mono ?_; rintro e w2 ⟨rfl, hb2⟩))
  go_ret2
  exact ⟨_, by rw [HEE.out]; rfl, ⟨none, [], rfl, ⟨rfl, by simp, .inl rfl⟩, by unfold namesOf; rw [if_neg (by rw [HEE.out]; exact H0.out)]; rfl, fun _ => rfl⟩, below_then hbel hb2, fun k hk => by cases hk⟩

theorem bz_bl (s : ByteArray) : bz s.data.toList = s := ba_ext (by simp [bz])
theorem bl_bz (l : List UInt8) : (bz l).data.toList = l := by simp [bz]
theorem map_bz_inj {x y : List (List UInt8)} (h : x.map bz <+: y.map bz) : x <+: y := by
 obtain ⟨t, ht⟩ := h
 have e := congrArg (List.map (fun s : ByteArray => s.data.toList)) ht
 rw [List.map_append, List.map_map, List.map_map] at e
 have e1 : ∀ l : List (List UInt8), l.map ((fun s : ByteArray => s.data.toList) ∘ bz) = l := fun l => by
  conv => rhs; rw [← List.map_id l]
  exact List.map_congr_left (fun z _ => bl_bz z)
 rw [e1, e1] at e
 exact ⟨_, e⟩
theorem off_of {x y : List UInt8} (hx : splitE x = 0) (hy : splitE y = 0) (h : apart x y) : Off ((pieces x).map bz) ((pieces y).map bz) := by
 have key : ∀ {x y : List UInt8}, splitE x = 0 → splitE y = 0 → apart x y → ¬ (pieces x).map bz <+: (pieces y).map bz := by
  intro x y hx hy h hp
  have hp := map_bz_inj hp
  obtain ⟨h1, h2, h3⟩ := apart_off h
  rw [withinR_ok hx hy, decide_eq_false_iff_not] at h2
  have hl := hp.length_le
  have ht := List.prefix_iff_eq_take.1 hp
  by_cases he : (pieces x).length = (pieces y).length
  ·apply h1
   rw [he, List.take_length] at ht
   rw [← join_pieces x, ← join_pieces y, ht]
  ·exact h2 ⟨by omega, ht⟩
 exact ⟨key hx hy h, key hy hx (apart_symm h)⟩
theorem apt_of {fs : List Fi} (h : (checkR (ls (fs.map (·.path)))).2 = 0) : AptL (fs.map flOf) ∧ ∀ f ∈ fs, splitE f.path.data.toList = 0 := by
 obtain ⟨h1, h2⟩ := (checkR_ok _).1 h
 have hs : ∀ f ∈ fs, splitE f.path.data.toList = 0 := fun f hf => h1 _ (List.mem_map.2 ⟨f.path, List.mem_map.2 ⟨f, hf, rfl⟩, rfl⟩)
 refine ⟨⟨fun f hf => ?_, ?_⟩, hs⟩
 ·obtain ⟨g, hg, rfl⟩ := List.mem_map.1 hf
  have := (check_pieces (hs g hg)).1
  intro e
  exact this (List.map_eq_nil_iff.1 e)
 ·unfold ls at h2
  rw [List.map_map] at h2
  rw [List.pairwise_map]
  refine List.Pairwise.imp_of_mem ?_ (List.pairwise_map.1 h2)
  intro a b ha hb hab
  exact off_of (hs a ha) (hs b hb) hab
theorem checkF_ok {fs : List Fi} (h : checkF fs = 0) : fs.length ≤ 256 ∧ (checkR (ls (fs.map (·.path)))).2 = 0 := by
 unfold checkF at h
 split at h
 ·cases h
 ·rename_i h1
  split at h
  ·cases h
  ·exact ⟨by omega, h⟩
theorem piece_size {s : List UInt8} {p : List UInt8} (h : p ∈ pieces s) : p.length ≤ s.length := by
 have e := join_pieces s
 have key : ∀ l : List (List UInt8), p ∈ l → p.length ≤ (joinL l).length := by
  intro l
  induction l with
  | nil => intro h; cases h
  | cons a r ih =>
   intro h
   cases r with
   | nil =>
    rcases List.mem_cons.1 h with rfl | h
    ·exact Nat.le_refl _
    ·cases h
   | cons b t =>
    have e1 : joinL (a :: b :: t) = a ++ 47 :: joinL (b :: t) := rfl
    rw [e1, List.length_append, List.length_cons]
    rcases List.mem_cons.1 h with rfl | h
    ·omega
    ·have := ih h; omega
 have := key _ h
 rw [e] at this; exact this
/-- files built: the objects, the tree's id, the error -/
def buildS (fs : List Fi) : (List ByteArray × ByteArray) × Int := if checkF fs = 0 then (treeS 64 (fs.map flOf) [], 0) else (([], ByteArray.empty), checkF fs)
def BuildOut (w : World) (r : (List ByteArray × ByteArray) × Int) (e : Ending) (w' : World) : Prop :=
 Below w.heap.size w w' ∧ ((r.2 ≠ 0 ∧ e = .returned (.tuple #[.pointer none, .string ⟨#[]⟩, .int .i64 r.2])) ∨ (r.2 = 0 ∧ ∃ b m v, e = .returned (.tuple #[.pointer (some ⟨b, 0, none⟩), .string r.1.2, .int .i64 0]) ∧ BuAt w.heap.size w' b m v r.1.1))
theorem idsF_nil : idsF [] = fun _ => none := by
 funext s
 unfold idsF
 rw [if_neg (by rw [hasN_iff]; intro h; cases h)]
set_option maxRecDepth 100000 in
set_option maxHeartbeats 8000000 in
theorem build_any (a : Option Addr) (n c : Nat) (fs : List Fi) (w : World) (h : FisAt w a n fs) (hz : ∀ f ∈ fs, f.path.size < 4294967281 ∧ f.data.size ≤ 9223372036854775807) (hm : MaxAt w) :
  Calls Tryz.prog 52 #[.slice a n c] w (BuildOut w (buildS fs)) := by
 have HCK := hid (scheck_any a n c fs w h hz hm)
 have H := hid h
 have HL := hid h.1
 have HZ := hid hz
 have HM := hid hm
 clear h hz hm
 obtain ⟨E, hE⟩ : ∃ E, checkF fs = E := ⟨_, rfl⟩
 have HE := hid hE
 rw [hE] at HCK
 clear hE
 have hmk : ∀ (T : TypeId) (W : World), (Instr.makeMap T none).run Tryz.prog W = .ok (.map (some W.heap.size)) (W.alloc (.map #[] 0)) := fun T W => run_makeMap T W
 by_cases h0 : E = 0
 ·subst h0
  obtain ⟨hn, hcr⟩ := checkF_ok HE.out
  obtain ⟨hapt, hsp⟩ := apt_of hcr
  have HAPT := hid hapt
  have HSP := hid hsp
  clear hapt hsp hcr
  have hn : n ≤ 256 := by rw [← HL.out]; exact hn
  have HNF := hid (fun W => newFolder_any 63 W)
  go_enter Tryz.func52, Tryz.ntmps52
  go_wp2_with fail
  refine HCK.out.mono ?_; rintro e w1 ⟨rfl, hb1⟩
  have HB1 := hid hb1
  clear hb1 HCK
  go_wp2_with fail
  refine (HNF.out w1).mono ?_; rintro e w2 ⟨bf, F0, rfl, hfo, hb2, hfr⟩
  have hs1 : w.heap.size ≤ w1.heap.size := HB1.out.size
  have HB2 : Hid (Below w.heap.size w w2) := HB1.out.trans (hb2.mono hs1)
  have HFO := hid hfo
  have HFR : Hid (∀ k, F0 k → w.heap.size ≤ k) := fun k hk => Nat.le_trans hs1 (hfr k hk)
  clear hfo hb2 hfr HNF HB1
  go_wp2_with fail
  go_loopw [20] (fun iv wr => ∃ (i : Nat) (F : Nat → Prop), i ≤ n ∧ iv = .int .i64 i ∧ Hid (FoAt 64 wr F bf ((fs.take i).map flOf)) ∧ Hid (Below w.heap.size w wr) ∧ Hid (∀ k, F k → w.heap.size ≤ k)) (fun iv _ => n - (intOf iv).toNat)
  case atStart => exact ⟨0, F0, Nat.zero_le _, rfl, HFO, HB2, HFR⟩
  case round =>
   obtain ⟨i, F, hi, rfl, HF, HB, HFk⟩ := hrel
   have hsz := HB.out.size
   by_cases hlt : i < n
   ·have ci : (i : Int) < n := by omega
    have ci0 : (0 : Int) ≤ (i : Int) := by omega
    have h3 := (H.out.later HB.out).2.2
    obtain ⟨b, off, rfl, hc⟩ := h3.resolve_left (by omega)
    obtain ⟨q0, q1⟩ := hc i hlt
    have hl : i < fs.length := by rw [HL.out]; exact hlt
    have HT : Hid (fs.take (i + 1) = fs.take i ++ [fs.getD i noFi]) := by
     show _ = _
     rw [List.take_succ_eq_append_getElem hl, List.getD_eq_getElem?_getD, List.getElem?_eq_getElem hl]; rfl
    have HMM : fs.getD i noFi ∈ fs := by
     rw [List.getD_eq_getElem?_getD, List.getElem?_eq_getElem hl]; exact List.getElem_mem hl
    obtain ⟨x, hx⟩ : ∃ x, fs.getD i noFi = x := ⟨_, rfl⟩
    rw [hx] at q0 q1 HT HMM
    obtain ⟨p, dd⟩ := x
    have hps : p.size < 4294967281 := (HZ.out _ HMM).1
    have hsp : splitE p.data.toList = 0 := HSP.out _ HMM
    simp only at q0 q1
    clear hx hc hl HMM h3
    go_upto_region 8 with fail
    have HX1 : Hid (Blk (wr.alloc (.cells #[.string p, .string dd] 71)) wr.heap.size 71 #[.string p, .string dd]) := Blk.new wr _ _
    have HF1 : Hid (FoAt 64 (wr.alloc (.cells #[.string p, .string dd] 71)) F bf ((fs.take i).map flOf)) := HF.out.only ((Only.refl NoF _).alloc _) (fun _ _ e => e)
    have HB1 : Hid (Below w.heap.size w (wr.alloc (.cells #[.string p, .string dd] 71))) := HB.out.alloc hsz _
    have hsz1 : w.heap.size ≤ (wr.alloc (.cells #[.string p, .string dd] 71)).heap.size := by simp; omega
    clear q0 q1 HF HB
    generalize (wr.alloc (.cells #[.string p, .string dd] 71)) = w3 at HX1 HF1 HB1 hsz1 ⊢
    generalize wr.heap.size = g1 at HX1 ⊢
    have k0 : w3.cell? ⟨g1, 0, none⟩ = some (.string p) := Blk.cell HX1.out 0
    have HSF := hid (splitF_any p w3 hps (HM.out.later HB1.out))
    rw [hsp] at HSF
    have HSPE := hid hsp
    clear hsp
    go_wp2_with fail
    refine HSF.out.mono ?_; rintro e w4 ⟨v, rfl, ⟨na, l, rfl, hst, hls, -⟩, hb4, hfr4⟩
    have HX4 : Hid (Blk w4 g1 71 #[.string p, .string dd]) := (hb4.block g1 (Blk.lt HX1.out)).trans HX1.out
    have HF4 : Hid (FoAt 64 w4 F bf ((fs.take i).map flOf)) := HF1.out.only (Only.of_below hb4 NoF) (fun _ _ e => e)
    have HB4 : Hid (Below w.heap.size w w4) := HB1.out.trans (hb4.mono hsz1)
    have hpl : ls l = pieces p.data.toList := by rw [hls]; unfold namesOf; rw [if_pos HSPE.out]
    have hll : l = (pieces p.data.toList).map bz := by rw [← hpl, ls_back]
    have hlen := (check_pieces HSPE.out)
    have hll2 : l.length = (pieces p.data.toList).length := by rw [hll, List.length_map]
    have hl1 : 1 ≤ l.length := by rw [hll2]; exact List.length_pos_iff.2 hlen.1
    have hl64 : l.length ≤ 64 := by rw [hll2]; exact hlen.2.2
    obtain ⟨nb, noff, rfl⟩ : ∃ nb noff, na = some ⟨nb, noff, none⟩ := by
     obtain ⟨nb, noff, e, _⟩ := hst.2.2.resolve_left (by omega)
     exact ⟨nb, noff, e⟩
    have hnF : ¬ F nb := fun e => by
     have h1 := hfr4 nb rfl
     have h2 := HF1.out.lt nb e
     omega
    have HADD := hid (add_any 64 l dd nb noff l.length l.length bf ((fs.take i).map flOf) F w4 HF4.out hst (Nat.le_refl _) (by omega) hl1 hl64 (fun x hx => by
     rw [hll] at hx
     obtain ⟨q, hq, rfl⟩ := List.mem_map.1 hx
     have h1 := piece_size hq
     have h2 : (bz q).size = q.length := by unfold bz; simp [ByteArray.size]
     have h3 := bx_data p
     rw [h2]; omega) (by rw [List.length_map, List.length_take]; omega) hnF)
    have HT2 : Hid ((fs.take (i + 1)).map flOf = (fs.take i).map flOf ++ [(l, dd)]) := by
     show _ = _
     rw [HT.out, List.map_append]
     unfold flOf
     rw [hll]; rfl
    have k1 : w4.cell? ⟨g1, 1, none⟩ = some (.string dd) := Blk.cell HX4.out 1
    have hs4 : w.heap.size ≤ w4.heap.size := HB4.out.size
    clear k0 hst hls hb4 hfr4 hpl hll hlen hll2 hl1 hl64 hnF HSF HX1 HF1 HB1
    go_wp2_with fail
    refine HADD.out.mono ?_; rintro e w5 ⟨rfl, F', hf5, ho5, hk5⟩
    have HF5 : Hid (FoAt 64 w5 F' bf ((fs.take (i + 1)).map flOf)) := by
     show FoAt _ _ _ _ _
     rw [HT2.out]; exact hf5
    have HB5 : Hid (Below w.heap.size w w5) := HB4.out.trans (ho5.below (fun k hk => HFk.out k hk) hs4)
    have HF5k : Hid (∀ k, F' k → w.heap.size ≤ k) := fun k hk => (hk5 k hk).elim (fun e => HFk.out k e) (fun e => Nat.le_trans hs4 e)
    clear hf5 ho5 hk5 HADD
    go_wp2_with fail
    refine ⟨⟨i + 1, F', by omega, by go_num, HF5, HB5, HF5k⟩, ?_⟩
    simp [intOf]; omega
   ·obtain rfl : i = n := by omega
    have ci : ¬ (i : Int) < i := by omega
    have hall : fs.take i = fs := List.take_of_length_le (by rw [HL.out]; exact Nat.le_refl _)
    have HFA : Hid (FoAt 64 wr F bf (fs.map flOf)) := by
     have h := HF.out
     rw [hall] at h; exact h
    clear HF hall
    obtain ⟨z, hz⟩ : ∃ z, wr.heap.size = z := ⟨_, rfl⟩
    have HZW := hid hz
    rw [hz] at hsz
    have HBU : Hid (BuAt w.heap.size ((wr.alloc (.map #[] 0)).alloc (.cells #[.slice none 0 0, .map (some z)] 134)) (z + 1) z (.slice none 0 0) []) := by
     have z1 : (wr.alloc (.map #[] 0)).heap.size = z + 1 := by rw [World.size_alloc, hz]
     refine ⟨?_, World.ownsRow_nil _ _ _ _, ?_, by omega, hsz⟩
     ·have := Blk.new (wr.alloc (.map #[] 0)) 134 #[.slice none 0 0, .map (some z)]
      rw [z1] at this; exact this
     ·have h : StrMap (wr.alloc (.map #[] 0)) wr.heap.size 0 (fun _ => none) := MapFn.made wr
      rw [hz] at h
      rw [idsF_nil]
      exact h.later ((Below.refl _ _).alloc (Nat.le_refl _) _)
    have HZ2 : Hid (((wr.alloc (.map #[] 0)).alloc (.cells #[.slice none 0 0, .map (some z)] 134)).heap.size = z + 2) := by
     show _ = _
     rw [World.size_alloc, World.size_alloc, hz]
    have HB2' : Hid (Below w.heap.size w ((wr.alloc (.map #[] 0)).alloc (.cells #[.slice none 0 0, .map (some z)] 134))) :=
     (HB.out.alloc (by rw [hz]; exact hsz) _).alloc (by rw [World.size_alloc, hz]; omega) _
    have HFA2 : Hid (FoAt 64 ((wr.alloc (.map #[] 0)).alloc (.cells #[.slice none 0 0, .map (some z)] 134)) F bf (fs.map flOf)) := HFA.out.only (((Only.refl NoF _).alloc _).alloc _) (fun _ _ e => e)
    have hfb : ∀ k, F k → k < z := fun k hk => by have := HFA.out.lt k hk; omega
    have hlen : ∀ f ∈ fs.map flOf, f.1.length ≤ 64 ∧ ∀ m ∈ f.1, m.size ≤ 9223372036854775807 := fun f hf => by
     obtain ⟨g, hg, rfl⟩ := List.mem_map.1 hf
     have h1 := check_pieces (HSP.out g hg)
     refine ⟨by unfold flOf; rw [List.length_map]; exact h1.2.2, fun m hm => ?_⟩
     obtain ⟨q, hq, rfl⟩ := List.mem_map.1 hm
     have h1 := piece_size hq
     have h2 : (bz q).size = q.length := by unfold bz; simp [ByteArray.size]
     have h3 := bx_data g.path
     have h4 := (HZ.out g hg).1
     rw [h2]; omega
    have hfl : (fs.map flOf).length ≤ 256 := by rw [List.length_map, HL.out]; omega
    have hfit : FitD 64 (fs.map flOf) := fitD_of 64 _ HAPT.out (fun f hf m hm => (hlen f hf).2 m hm)
    have hcnt : (treeS 64 (fs.map flOf) []).1.length ≤ 100000 := by
     have h1 := treeS_cnt 64 (fs.map flOf) []
     have h2 := wt_le (k := 64) (fs.map flOf) (fun f hf => (hlen f hf).1)
     simp only [List.length_nil, Nat.zero_add] at h1
     have h3 : (fs.map flOf).length * 64 ≤ 256 * 64 := Nat.mul_le_mul_right _ hfl
     omega
    have HTR := hid (tree_any w.heap.size (z + 1) z 64 (fs.map flOf) F bf [] (.slice none 0 0) ((wr.alloc (.map #[] 0)).alloc (.cells #[.slice none 0 0, .map (some z)] 134)) HFA2.out hfit (by omega) HBU.out (fun k hk e => by
     have h := hfb k hk
     rcases e with e | e | e
     ·omega
     ·omega
     ·cases e) (by rw [HZ2.out]; omega) hcnt)
    have HRS : Hid (buildS fs = (treeS 64 (fs.map flOf) [], 0)) := by
     show _ = _
     unfold buildS; rw [if_pos HE.out]
    clear hlen hfl hfit hcnt hfb
    go_wp2_with fail
    refine HTR.out.mono ?_; rintro e w9 ⟨v9, rfl, hu9, ho9, -⟩
    have HU9 := hid hu9
    have HB9 : Hid (Below w.heap.size w w9) := HB2'.out.trans (ho9.below (fun k hk => by
     rcases hk with e | e | e
     ·omega
     ·omega
     ·cases e) (by rw [HZ2.out]; omega))
    clear hu9 ho9 HTR
    go_wp2_with fail
    go_ret3
    rw [HRS.out]
    exact ⟨HB9.out, .inr ⟨rfl, _, _, _, rfl, HU9.out⟩⟩
 ·have HRS : Hid (buildS fs = (([], ByteArray.empty), E)) := by
   show _ = _
   unfold buildS
   rw [HE.out, if_neg h0]
  go_enter Tryz.func52, Tryz.ntmps52
  go_wp2_with fail
  refine HCK.out.mono ?_; rintro e w1 ⟨rfl, hb1⟩
  go_wp2_with fail
  go_ret3
  rw [HRS.out]
  exact ⟨hb1, .inl ⟨h0, rfl⟩⟩
/-- files built, handed back: the objects, the tree's id, the error -/
def BuildOutL (w : World) (r : (List ByteArray × ByteArray) × Int) (e : Ending) (w' : World) : Prop :=
 Below w.heap.size w w' ∧ ∃ v, e = .returned (.tuple #[v, .string r.1.2, .int .i64 r.2]) ∧ w'.ownsRow w.heap.size 9 1 v r.1.1.length (svals r.1.1)
theorem buildS_err {fs : List Fi} (h : (buildS fs).2 ≠ 0) : buildS fs = (([], ByteArray.empty), (buildS fs).2) := by
 unfold buildS at *
 split
 ·rename_i h1; rw [if_pos h1] at h; exact absurd rfl h
 ·rfl
end Go.Proofs.YtmpjdoiogbbcoaaGreatDoor
/- slices.Sorted of slices.Values: texts sorted, in own memory. -/
namespace Go.Proofs.YtmpjdoiogbbcoaaGreatDoor
open Go.RowKit Go.Shelf Pap
attribute [local go_sem] Oper.semAt_some
set_option linter.unusedVariables false
set_option linter.unusedSimpArgs false

theorem take_snoc_get (zs : List ByteArray) {k : Nat} (hk : k < zs.length) : zs.take (k + 1) = zs.take k ++ [zs.getD k ByteArray.empty] := by
 rw [List.take_succ_eq_append_getElem hk, List.getD_eq_getElem?_getD, List.getElem?_eq_getElem hk]; rfl
set_option maxRecDepth 100000 in
set_option maxHeartbeats 2000000 in
theorem vals1_in (F : Fence) (n : Nat) (h7 : F.fn 103) (hro : F.round = none) (hn : 1 ≤ n) (l Bs n₀ : Nat) (a : Option Addr) (len cap : Nat) (zs : List ByteArray) (hl : zs.length = len) (hl2 : len ≤ 100000)
  (J Jx : List ByteArray → World → Prop)
  (hY : ∀ pre x W, J pre W → pre.length < len → YieldAt F (n - 1) Tryz.prog l #[.string x] W fun e W' =>
   (e = .returned (.bool true) ∧ J (pre ++ [x]) W' ∧ Below n₀ W W') ∨ (e = .returned (.bool false) ∧ Jx (pre ++ [x]) W'))
  (W : World) (hBs : W.cell? ⟨Bs, 0, none⟩ = some (.slice a len cap)) (hc : len = 0 ∨ ∃ b off, a = some ⟨b, off, none⟩ ∧ b < n₀ ∧ ∀ j, j < len → W.cell? ⟨b, off + j, none⟩ = some (.string (zs.getD j ByteArray.empty))) (h0 : J [] W) :
  CallsIn F n Tryz.prog 103 #[.func (.yield l) #[] #[], .pointer (some ⟨Bs, 0, none⟩)] W fun e W' => (∃ v, e = .returned v) ∧
   ((∃ ys, ys = zs ∧ J ys W') ∨ (∃ pre, pre <+: zs ∧ Jx pre W')) := by
 refine callsIn_of_wp Tryz.func103 rfl h7 ?_ hro
 simp only [Tryz.ntmps103, List.size_toArray, List.length_cons, List.length_nil, Nat.reduceAdd, Nat.reduceSub, Array.replicate_succ, Array.replicate_zero, List.push_toArray, List.append_toArray, List.nil_append, List.cons_append]
 gi_wp2
 gi_loopw [7] (fun i wr => ∃ k : Nat, k ≤ len ∧ i = .int .i64 k ∧ J (zs.take k) wr ∧ Below n₀ W wr)
  (fun i _ => len - (intOf i).toNat)
 case atStart => exact ⟨0, Nat.zero_le _, rfl, h0, Below.refl _ _⟩
 case round =>
  obtain ⟨k, hk, rfl, hJs, hnx⟩ := hrel
  by_cases hlt : k < len
  ·obtain ⟨b, off, rfl, hb, hcs⟩ := hc.resolve_left (by omega)
   have hcx' := (hnx.cell (p := ⟨b, off + k, none⟩) hb).trans (hcs k hlt)
   have hsn := take_snoc_get zs (k := k) (by omega)
   obtain ⟨x, hx⟩ : ∃ x, zs.getD k ByteArray.empty = x := ⟨_, rfl⟩
   rw [hx] at hcx' hsn
   clear hx
   obtain ⟨fn, tmps, assign, body, hy, hR⟩ := hY _ x wr hJs (by rw [List.length_take]; omega)
   have ci : (k : Int) < len := by omega
   have ci0 : (0 : Int) ≤ (k : Int) := by omega
   gi_wp2
   refine hR.mono ?_
   rintro e W3 (⟨rfl, hJ3, hk3⟩ | ⟨rfl, hJx3⟩)
   ·gi_wp2
    go_roundw
    case rel => exact ⟨k + 1, by omega, by simp, by rw [hsn]; exact hJ3, hnx.trans hk3⟩
    case measure => simp [intOf]; omega
   ·gi_wp2
    refine bodyPost_ret (results_none rfl _ _ _) rfl ?_
    exact ⟨⟨_, rfl⟩, .inr ⟨_, by rw [← hsn]; exact List.take_prefix _ _, hJx3⟩⟩
  ·obtain rfl : k = len := by omega
   gi_wp2
   go_end0
   exact ⟨⟨_, rfl⟩, .inl ⟨_, List.take_of_length_le (by omega), hJs⟩⟩
set_option maxHeartbeats 1000000 in
theorem vals_in (F : Fence) (n : Nat) (h5 : F.fn 55) (hro : F.round = none) (a : Option Addr) (len cap : Nat) (w : World) :
  CallsIn F n Tryz.prog 55 #[.slice a len cap] w fun e w' => e = .returned (.func (.func 103) #[] #[.pointer (some ⟨w.heap.size, 0, none⟩)]) ∧ w' = w.alloc (.cells #[.slice a len cap] 40) := by
 refine callsIn_of_wp Tryz.func55 rfl h5 ?_ hro
 simp only [Tryz.ntmps55, List.size_toArray, List.length_cons, List.length_nil, Nat.reduceAdd, Nat.reduceSub, Array.replicate_succ, Array.replicate_zero, List.push_toArray, List.append_toArray, List.nil_append, List.cons_append]
 gi_wp2
 go_ret
 exact ⟨rfl, rfl⟩
theorem vals_stops (F : Fence) (n : Nat) (h7 : F.fn 103) (hro : F.round = none) (hn : 1 ≤ n) (Bs : Nat) (a : Option Addr) (len cap : Nat) (zs : List ByteArray) (hl2 : len ≤ 100000) (n₀ : Nat) (w : World) (hn₀ : n₀ ≤ w.heap.size) (hBs : Bs < w.heap.size)
  (hc : w.cell? ⟨Bs, 0, none⟩ = some (.slice a len cap)) (hA : StrsAt w a len zs) (hAb : len = 0 ∨ ∀ b off, a = some ⟨b, off, none⟩ → b < n₀) :
  SeqStopsK F n Tryz.prog 103 #[.pointer (some ⟨Bs, 0, none⟩)] (fun x : ByteArray => #[Value.string x]) (Below n₀) (fun ys => ys = zs) (fun pre => pre <+: zs) zs.length w := fun l J Jx W hW _ _ hY h0 => by
 obtain ⟨h1, h2, h3⟩ := hA
 refine vals1_in F n h7 hro hn l Bs n₀ a len cap zs h1 hl2 J Jx (by rw [← h1]; exact hY) W ((hW.cell (p := ⟨Bs, 0, none⟩) hBs).trans hc) ?_ h0
 by_cases h0 : len = 0
 ·exact .inl h0
 ·obtain ⟨b, off, rfl, hcs⟩ := h3.resolve_left h0
  exact .inr ⟨b, off, rfl, hAb.resolve_left h0 b off rfl, fun j hj => (hW.cell (p := ⟨b, off + j, none⟩) (World.block_lt_of_cell? w _ (hcs j hj))).trans (hcs j hj)⟩
set_option maxRecDepth 100000 in
set_option maxHeartbeats 2000000 in
theorem appseq_in (F : Fence) (n : Nat) (h3 : F.fn 164) (h5 : F.fn 103) (hro : F.round = none) (hn : 3 ≤ n) (Bs : Nat) (a : Option Addr) (len cap : Nat) (zs : List ByteArray) (hl2 : len ≤ 100000) (w : World) (hBs : Bs < w.heap.size)
  (hc : w.cell? ⟨Bs, 0, none⟩ = some (.slice a len cap)) (hA : StrsAt w a len zs) :
  CallsIn F n Tryz.prog 164 #[.slice none 0 0, .func (.func 103) #[] #[.pointer (some ⟨Bs, 0, none⟩)]] w fun e W' => ∃ v, e = .returned v ∧ W'.ownsRow w.heap.size 9 1 v zs.length (svals zs) ∧ Below w.heap.size w W' := by
 have h1 : 1 ≤ n := by omega
 have hzl := hA.1
 obtain ⟨i0, hi, hz0, hz1, hz2⟩ := info_parts Tryz.infoS
 refine callsIn_of_wp_marks Tryz.func164 rfl h3 ?_ hro
 simp only [Tryz.ntmps164, List.size_toArray, List.length_cons, List.length_nil, Nat.reduceAdd, Nat.reduceSub, Array.replicate_succ, Array.replicate_zero, List.push_toArray, List.append_toArray, List.nil_append, List.cons_append]
 gi_wp2
 have bO := Boxed.new w 40 (.slice none 0 0)
 have hB0 : Below w.heap.size w (w.alloc (.cells #[.slice none 0 0] 40)) := (Below.refl _ w).alloc (Nat.le_refl _) _
 have hA1 : StrsAt (w.alloc (.cells #[.slice none 0 0] 40)) a len zs := hA.later hB0
 have hAb : len = 0 ∨ ∀ b off, a = some ⟨b, off, none⟩ → b < w.heap.size := by
  by_cases h0 : len = 0
  ·exact .inl h0
  ·obtain ⟨b, off, rfl, hcs⟩ := hA.2.2.resolve_left h0
   refine .inr fun b' off' e => ?_
   cases e
   exact World.block_lt_of_cell? w _ (hcs 0 (by omega))
 refine wpIn_rangeFunc_ownG hro h1 (gf := 103) (lb := #[.pointer (some ⟨Bs, 0, none⟩)]) rfl h5 (enters_of Tryz.func103 (by kernel_rfl) rfl)
  (vals_stops F (n - 1) h5 hro (by omega) Bs a len cap zs hl2 w.heap.size _ (by simp) (by simp; omega) ((hB0.cell (p := ⟨Bs, 0, none⟩) hBs).trans hc) hA1 hAb) belowK_t (belowK_b (by simp)) (Below.refl _ _) (fun _ => rfl)
  (fun pre W => (∃ v, Boxed W w.heap.size 40 v ∧ W.ownsRow w.heap.size 9 1 v pre.length (svals pre) ∧ True) ∧ Below w.heap.size w W)
  (fun _ _ _ => False)
  (OwnFrom.and (Own.from (holdsRow_own w.heap.size w.heap.size 40 9 1 (fun pre : List ByteArray => pre.length) (fun pre => svals pre) (fun pre v => True)) _) (ownFrom_below (Nat.le_refl _) (by simp)))
  (fun _ _ _ _ _ hs _ _ => hs)
  ⟨⟨_, bO, World.ownsRow_nil _ _ _ _, trivial⟩, hB0⟩
  (fun x => { tmps := #[.slice none 0 0, .func (.func 103) #[] #[.pointer (some ⟨Bs, 0, none⟩)], .pointer (some ⟨w.heap.size, 0, none⟩), undef, .slice none 0 0, .string x, .func (.func 103) #[] #[.pointer (some ⟨Bs, 0, none⟩)], .string x, undef, undef, undef, undef, undef], defers := [] }) ?assign ?body ?done ?stop
 case assign =>
  intro l x W K hK
  gi_wp2
  exact hK
 case body =>
  rintro l pre x W ⟨⟨v, hv, hrow, -⟩, hB⟩ hlt
  have hc := hv.cell
  have hsz := hB.size
  gi_wp2_with (gi_at_builtin; refine wpListIn_append_own _ rfl _ _ 40 rfl w.heap.size 9 i0 (.string ⟨#[]⟩) 1 16 Tryz.underlying40 hi hz0 hz1 hz2 rfl (by decide) _ _ _ rfl (hrow.alloc _) ⟨W.heap.size, 0, none⟩ 1 1 [.string x] rfl rfl (cell_one_new _ _ _) (by simp [Value.oneCell']) (by unfold maxLen; omega) (by omega) (by simp; omega) ?_; intro v' w1 hown' hgrow _; obtain ⟨g', cap', rfl⟩ := ownsRow_succ hown'; obtain ⟨hv1, hv2, hr2, hk2, hb2⟩ := hv.appended (by decide) hrow hB.size (Nat.le_refl _) hown' hgrow; have hc1 := hv1.cell; have hf1 := hv1.frozen)
  refine ⟨hk2.from _, hb2, ⟨_, hv2, ?_, trivial⟩, hB.trans hb2⟩
  rw [svals_append, List.length_append]; exact hr2
 case done =>
  rintro D ys W hD rfl ⟨⟨v, hv, hrow, -⟩, hB⟩ hK
  have hc := hv.cell
  gi_wp2
  refine ⟨by simp, .inl ⟨_, _, rfl, run_takeDeferred hK, ?_⟩⟩
  exact ⟨_, results_tmp rfl _ _ _, v, rfl, ownsRow_putObj hrow _ hK rfl, hB.trans (belowK_b (w := w) (Nat.le_refl _) W D _ _ (by simp at hD; omega) hK rfl rfl)⟩
 case stop =>
  rintro D c pre W _ _ h _
  exact h.elim
set_option maxHeartbeats 1000000 in
theorem collect_in (F : Fence) (n : Nat) (h8 : F.fn 102) (h3 : F.fn 164) (h5 : F.fn 103) (hro : F.round = none) (hn : 4 ≤ n) (Bs : Nat) (a : Option Addr) (len cap : Nat) (zs : List ByteArray) (hl2 : len ≤ 100000) (w : World) (hBs : Bs < w.heap.size)
  (hc : w.cell? ⟨Bs, 0, none⟩ = some (.slice a len cap)) (hA : StrsAt w a len zs) :
  CallsIn F n Tryz.prog 102 #[.func (.func 103) #[] #[.pointer (some ⟨Bs, 0, none⟩)]] w fun e W' => ∃ v, e = .returned v ∧ W'.ownsRow w.heap.size 9 1 v zs.length (svals zs) ∧ Below w.heap.size w W' := by
 have h1 : 1 ≤ n := by omega
 refine callsIn_of_wp Tryz.func102 rfl h8 ?_ hro
 simp only [Tryz.ntmps102, List.size_toArray, List.length_cons, List.length_nil, Nat.reduceAdd, Nat.reduceSub, Array.replicate_succ, Array.replicate_zero, List.push_toArray, List.append_toArray, List.nil_append, List.cons_append]
 gi_wp2_with (gi_at_call 164; refine (appseq_in F (n - 1) h3 h5 hro (by omega) Bs a len cap zs hl2 w hBs hc hA).mono ?_; rintro e w' ⟨v, rfl, hrow, hb⟩)
 go_ret
 exact ⟨v, rfl, hrow, hb⟩
theorem collect_any (Bs : Nat) (a : Option Addr) (len cap : Nat) (zs : List ByteArray) (hl2 : len ≤ 100000) (w : World) (hBs : Bs < w.heap.size) (hc : w.cell? ⟨Bs, 0, none⟩ = some (.slice a len cap)) (hA : StrsAt w a len zs) :
  Calls Tryz.prog 102 #[.func (.func 103) #[] #[.pointer (some ⟨Bs, 0, none⟩)]] w fun e W' => ∃ v, e = .returned v ∧ W'.ownsRow w.heap.size 9 1 v zs.length (svals zs) ∧ Below w.heap.size w W' :=
 callsIn_wide.1 (collect_in Fence.wide 4 trivial trivial trivial rfl (by omega) Bs a len cap zs hl2 w hBs hc hA)
/-- slices.Values, plain -/
theorem vals_any (a : Option Addr) (len cap : Nat) (w : World) :
  Calls Tryz.prog 55 #[.slice a len cap] w fun e w' => e = .returned (.func (.func 103) #[] #[.pointer (some ⟨w.heap.size, 0, none⟩)]) ∧ w' = w.alloc (.cells #[.slice a len cap] 40) :=
 callsIn_wide.1 (vals_in Fence.wide 1 trivial rfl a len cap w)
set_option maxHeartbeats 1000000 in
theorem sorted_any (Bs : Nat) (a : Option Addr) (len cap : Nat) (zs : List ByteArray) (hl2 : len ≤ 100000) (w : World) (hBs : Bs < w.heap.size) (hc : w.cell? ⟨Bs, 0, none⟩ = some (.slice a len cap)) (hA : StrsAt w a len zs) :
  Calls Tryz.prog 54 #[.func (.func 103) #[] #[.pointer (some ⟨Bs, 0, none⟩)]] w fun e W' => ∃ v, e = .returned v ∧ W'.ownsRow w.heap.size 9 1 v zs.length (svals (sortB zs)) ∧ Below w.heap.size w W' := by
 have HC := hid (collect_any Bs a len cap zs hl2 w hBs hc hA)
 have HL := hid hA.1
 clear hc hA
 go_enter Tryz.func54, Tryz.ntmps54
 go_wp2_with fail
 refine HC.out.mono ?_; rintro e w1 ⟨v, rfl, ho, hb⟩
 have HB := hid hb
 have HO := hid ho
 have HS := hid (sort_own ho (by have := HL.out; omega))
 clear ho hb
 go_wp2_with fail
 refine HS.out.mono ?_; rintro e w2 ⟨rfl, ho2, hg2⟩
 have HO2 := hid ho2
 have HB2 : Hid (Below w.heap.size w w2) := HB.out.grown hg2 HB.out.size (fun j hj => (HO.out.lt j hj).1)
 clear ho2 hg2
 go_wp2_with fail
 go_ret
 exact ⟨_, rfl, HO2.out, HB2.out⟩
end Go.Proofs.YtmpjdoiogbbcoaaGreatDoor
