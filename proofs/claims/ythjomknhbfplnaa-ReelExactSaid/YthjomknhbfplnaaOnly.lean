/- Words on memory: what a call leaves alone; a block that is known whole; a row of cells that is written. No program. -/
import Derived.Below
import Derived.Laws.OwnMore
import Derived.Laws.IdiomCopy
import Derived.Laws.Rows
import Derived.Deep.Draws
import Derived.Test.YthjomknhbfplnaaBase
namespace Go.Proofs.Ythjomknhbfplnaa
open Go.RowKit
set_option linter.unusedVariables false

/-- w' is w, but for what lies in F, and what is new -/
structure Only (F : Nat → Prop) (w w' : World) : Prop where
  os : w'.os = w.os
  tape : w'.tape = w.tape
  output : w'.output = w.output
  size : w.heap.size ≤ w'.heap.size
  block : ∀ k, k < w.heap.size → ¬ F k → w'.heap[k]? = w.heap[k]?
def NoF : Nat → Prop := fun _ => False
section
variable {F G : Nat → Prop} {a b c w w' : World}
theorem Only.refl (F : Nat → Prop) (w : World) : Only F w w := ⟨rfl, rfl, rfl, Nat.le_refl _, fun _ _ _ => rfl⟩
theorem Only.trans (h : Only F a b) (k : Only G b c) (hG : ∀ i, G i → F i ∨ a.heap.size ≤ i) : Only F a c :=
  ⟨k.os.trans h.os, k.tape.trans h.tape, k.output.trans h.output, Nat.le_trans h.size k.size, fun i hi hf =>
    (k.block i (Nat.lt_of_lt_of_le hi h.size) (fun e => (hG i e).elim hf (fun e => by omega))).trans (h.block i hi hf)⟩
theorem Only.then (h : Only F a b) (k : Only F b c) : Only F a c := h.trans k (fun _ => .inl)
theorem Only.mono (h : Only F a b) (hFG : ∀ i, F i → G i) : Only G a b := ⟨h.os, h.tape, h.output, h.size, fun i hi hg => h.block i hi (fun e => hg (hFG i e))⟩
theorem Only.of_below (h : Below a.heap.size a b) (F : Nat → Prop) : Only F a b := ⟨h.os, h.tape, h.output, h.size, fun i hi _ => h.block i hi⟩
theorem Only.below {B : Nat} (h : Only F a b) (hF : ∀ i, F i → B ≤ i) (hB : B ≤ a.heap.size) : Below B a b :=
  ⟨h.os, h.tape, h.output, h.size, fun i hi => h.block i (by omega) (fun e => by have := hF i e; omega)⟩
theorem Only.below0 (h : Only NoF a b) : Below a.heap.size a b := h.below (fun _ e => e.elim) (Nat.le_refl _)
theorem Only.alloc (h : Only F a w) (o : Obj) : Only F a (w.alloc o) :=
  h.trans (G := NoF) ⟨rfl, rfl, rfl, by simp, fun k hk _ => Below.heap_alloc _ _ _ hk⟩ (fun _ e => e.elim)
theorem Only.setCell (h : Only F a w) {p : Addr} (hp : F p.block ∨ a.heap.size ≤ p.block) (u : Value) : Only F a (w.setCell p u) :=
  h.trans (G := (· = p.block)) ⟨rfl, rfl, rfl, by simp [World.setCell], fun k hk hn => Below.heap_setCell _ _ _ _ hn⟩ (fun i e => by subst e; exact hp)
theorem Only.drew (h : Only F a w) : Only F a w.drew := ⟨h.os, h.tape, h.output, h.size, h.block⟩
theorem Only.drewN (h : Only F a w) (q : Nat) : Only F a (w.drewN q) := ⟨h.os, h.tape, h.output, h.size, h.block⟩
theorem Only.grown {row : Option Nat} (h : Only F a w) (hg : w.grownBy w' row) (hr : ∀ k, row = some k → F k ∨ a.heap.size ≤ k) : Only F a w' :=
  h.trans (G := fun k => some k = row) ⟨hg.os, hg.tape, hg.output, hg.size, fun k hk hn => hg.block k hk hn⟩ (fun i e => hr i e.symm)
theorem Only.cell (h : Only F w w') {p : Addr} {v : Value} (hc : w.cell? p = some v) (hf : ¬ F p.block) : w'.cell? p = some v :=
  (World.cell?_of_block (h.block p.block (World.block_lt_of_cell? w p hc) hf)).trans hc
theorem grownBy_of_only {row : Option Nat} (h : Only (fun k => row = some k) a b) : a.grownBy b row := ⟨h.os, h.tape, h.output, h.size, fun k hk hn => h.block k hk (fun e => hn e.symm)⟩
end

/-- block g is just these cells -/
def Blk (w : World) (g : Nat) (t : TypeId) (cs : Array Value) : Prop := w.heap[g]? = some (.cells cs t (0, 0))
section
variable {F : Nat → Prop} {w w' : World} {g : Nat} {t : TypeId} {cs : Array Value}
theorem Blk.lt (h : Blk w g t cs) : g < w.heap.size := by
  rcases Nat.lt_or_ge g w.heap.size with hlt | hge
  · exact hlt
  · unfold Blk at h; rw [Array.getElem?_eq_none hge] at h; cases h
theorem Blk.cell (h : Blk w g t cs) (i : Nat) : w.cell? ⟨g, i, none⟩ = cs[i]? := cell_of_row w g i cs t (0, 0) h
theorem Blk.frozen (h : Blk w g t cs) (i : Nat) : w.frozen? ⟨g, i, none⟩ = false := by
  unfold Blk at h
  simp [World.frozen?, h]
theorem Blk.new (w : World) (t : TypeId) (cs : Array Value) : Blk (w.alloc (.cells cs t)) w.heap.size t cs := heap_alloc_new w _
theorem Blk.drew (h : Blk w g t cs) : Blk w.drew g t cs := h
theorem Blk.drewN (h : Blk w g t cs) (n : Nat) : Blk (w.drewN n) g t cs := h
theorem Blk.alloc (h : Blk w g t cs) (o : Obj) : Blk (w.alloc o) g t cs := (Below.heap_alloc w o g h.lt).trans h
theorem Blk.set (h : Blk w g t cs) (i : Nat) (u : Value) : Blk (w.setCell ⟨g, i, none⟩ u) g t (cs.setIfInBounds i u) := by
  unfold Blk at h ⊢
  simp [World.setCell, Array.getElem?_modify, h]
theorem Blk.far (h : Blk w g t cs) {p : Addr} (hp : g ≠ p.block) (u : Value) : Blk (w.setCell p u) g t cs := (Below.heap_setCell w p u g hp).trans h
theorem Blk.only (h : Blk w g t cs) (ho : Only F w w') (hg : ¬ F g) : Blk w' g t cs := (ho.block g h.lt hg).trans h
theorem Blk.grown {row : Option Nat} (h : Blk w g t cs) (hb : w.grownBy w' row) (hg : some g ≠ row) : Blk w' g t cs := (hb.block g h.lt hg).trans h
theorem Blk.ne {g' : Nat} {t' : TypeId} {cs' : Array Value} (h : Blk w g t cs) (h' : Blk w g' t' cs') (hne : t ≠ t') : g ≠ g' := by
  rintro rfl
  unfold Blk at h h'
  rw [h] at h'
  injection h' with h'
  injection h' with _ ht
  exact hne ht
theorem Blk.same {g' : Nat} {cs' : Array Value} (h : Blk w g t cs) (h' : Blk w g t cs') : cs = cs' := by
  unfold Blk at h h'
  rw [h] at h'
  injection h' with h'
  injection h' with h'
theorem own_blk_ne {base : Nat} {e : TypeId} {size n : Nat} {v : Value} {xs : List Value} (h : w.ownsRow base e size v n xs) (hg : Blk w g t cs) (hne : e ≠ t) : v.ownBlock ≠ some g := by
  rcases h.2 with ⟨rfl, _⟩ | ⟨g', cap, cur, rfl, _, hh, _⟩
  · simp [Value.ownBlock]
  · intro he
    have : g' = g := by simpa [Value.ownBlock] using he
    subst this
    exact Blk.ne (t := e) hh hg hne rfl
theorem own_only {base : Nat} {e : TypeId} {size n : Nat} {v : Value} {xs : List Value} (h : w.ownsRow base e size v n xs) (ho : Only F w w') (hf : ∀ k, v.ownBlock = some k → ¬ F k) : w'.ownsRow base e size v n xs := by
  refine ⟨h.1, h.2.imp id ?_⟩
  rintro ⟨g', cap, cur, rfl, hb, hg, r⟩
  exact ⟨g', cap, cur, rfl, hb, (ho.block g' (Array.getElem?_eq_some_iff.1 hg).1 (hf g' rfl)).trans hg, r⟩
theorem own_lt {base : Nat} {e : TypeId} {size n : Nat} {v : Value} {xs : List Value} (h : w.ownsRow base e size v n xs) {k : Nat} (hk : v.ownBlock = some k) : k < w.heap.size := (h.lt k hk).2
theorem own_ne {base : Nat} {e e' : TypeId} {size size' n n' : Nat} {v v' : Value} {xs xs' : List Value} (h : w.ownsRow base e size v n xs) (h' : w.ownsRow base e' size' v' n' xs') (hne : e ≠ e') {k : Nat} (hk : v.ownBlock = some k) : v'.ownBlock ≠ some k := by
  rcases h.2 with ⟨rfl, _⟩ | ⟨g', cap, cur, rfl, _, hh, _⟩
  · simp [Value.ownBlock] at hk
  · have : g' = k := by simpa [Value.ownBlock] using hk
    subst this
    exact own_blk_ne h' (cs := cur) (t := e) hh (fun e => hne e.symm)
/-- a beginning of a row is one -/
theorem own_take {base : Nat} {e : TypeId} {n c k : Nat} {a : Option Addr} {xs : List Value} (h : w.ownsRow base e 1 (.slice a n c) n xs) (hk : k ≤ n) : w.ownsRow base e 1 (.slice a k c) k (xs.take k) := by
  obtain ⟨h1, h2⟩ := h
  refine ⟨by rw [List.length_take, h1]; omega, ?_⟩
  rcases h2 with ⟨h2, rfl⟩ | ⟨g', cap, cur, h2, hb, hg, hn, hc, hs, ht⟩
  · injection h2 with h3 h4 h5
    subst h3 h5
    obtain rfl : k = 0 := by omega
    exact .inl ⟨rfl, rfl⟩
  · injection h2 with h3 h4 h5
    subst h3 h5
    refine .inr ⟨g', c, cur, rfl, hb, hg, by omega, hc, hs, ?_⟩
    rw [← ht, List.take_take, Nat.mul_one, Nat.mul_one, Nat.min_eq_left (by omega)]
end

/-! cells that are written one by one -/
def wr (cur : Array Value) : Nat → List Value → Array Value
  | _, [] => cur
  | o, v :: r => wr (cur.setIfInBounds o v) (o + 1) r
theorem wr_size : ∀ (vs : List Value) (cur : Array Value) (o : Nat), (wr cur o vs).size = cur.size
  | [], _, _ => rfl
  | v :: r, cur, o => by rw [wr, wr_size r]; simp
theorem wr_toList : ∀ (vs : List Value) (cur : Array Value) (o : Nat), o + vs.length ≤ cur.size → (wr cur o vs).toList = cur.toList.take o ++ vs ++ cur.toList.drop (o + vs.length)
  | [], cur, o, _ => by simp [wr]
  | v :: r, cur, o, h => by
    simp only [List.length_cons] at h
    rw [wr, wr_toList r _ (o + 1) (by simp; omega)]
    simp only [Array.toList_setIfInBounds, List.length_cons]
    have hl : o < cur.toList.length := by simp; omega
    rw [List.take_set, List.drop_set_of_lt (by omega), show o + 1 + r.length = o + (r.length + 1) by omega]
    congr 1
    rw [show v :: r = [v] ++ r from rfl, ← List.append_assoc]
    congr 1
    rw [List.take_succ_eq_append_getElem hl, List.set_append_right _ _ (by simp; omega)]
    simp
    rw [Nat.min_eq_left (by omega)]; simp
theorem heap_setCells {g : Nat} {e : TypeId} {fz : Nat × Nat} : ∀ (vs : List Value) (o : Nat) (w : World) (cur : Array Value), w.heap[g]? = some (.cells cur e fz) → (w.setCells g o vs).heap[g]? = some (.cells (wr cur o vs) e fz)
  | [], _, _, _, h => h
  | v :: r, o, w, cur, h => by
    rw [World.setCells, wr]
    refine heap_setCells r (o + 1) _ _ ?_
    simp [World.setCell, Array.getElem?_modify, h]
theorem only_setCells {F : Nat → Prop} {a : World} {g : Nat} (hg : F g ∨ a.heap.size ≤ g) : ∀ (vs : List Value) (o : Nat) (w : World), Only F a w → Only F a (w.setCells g o vs)
  | [], _, _, h => h
  | v :: r, o, w, h => by rw [World.setCells]; exact only_setCells hg r (o + 1) _ (h.setCell hg v)
end Go.Proofs.Ythjomknhbfplnaa
