/- Texts in a row: Base, Mem, Builder, Only, Bytes, Shelf, Strs, Sorted, Search, BldStr, BkPlain, BkRead, BkCrc, Oct, OctB, CrcW, CrcM, ReelPlain. -/
import Derived.Below
import Derived.Laws.Strings
import Derived.Test.YtnhgfhbicaiilaaGreatChecked
import Derived.WalkKit
import Derived.BigQuiet
import Derived.Deep.QuietTactic
import Derived.Lib.Builder
import Derived.Lib.Slices
import Derived.Laws.Externs
import Derived.Laws.OwnMore
import Derived.Laws.IdiomCopy
import Derived.Laws.Rows
import Derived.Deep.Draws
import Derived.Deep.AppendSrc
import Derived.Shelf.Strings.Builder1
import Derived.Shelf.Strings.BuilderF
import Derived.Shelf.Strings.BuilderK
import Derived.Shelf.Strings.BuilderCap
import Derived.Ground.Names2Prog
import Derived.Shelf.Slices.ReverseS
import Derived.Shelf.Slices.Clone
import Derived.Shelf.Slices.Delete
import Derived.Shelf.Slices.Cells
import Derived.Shelf.Slices.Empties
import Derived.Ground.SlgnProg
import Derived.Shelf.SlicesE.Clone
import Derived.Test.YtnhgfhbicaiilaaGreatProg
import Derived.WalkLawsBesides
import Derived.Laws.BitsAllLaws
import Derived.Laws.Tables
import Derived.Laws.CopyOwn
/- Small words that every text of this seat uses. -/
namespace Go.Proofs.YtnhgfhbicaiilaaGreat
open Go.RowKit
theorem hid {p : Prop} (h : p) : Hid p := h
theorem ret_int {k : IntKind} {a b : Int} (h : a = b) : Ending.returned (.int k a) = .returned (.int k b) := by rw [h]
theorem ret_bool {a b : Bool} (h : a = b) : Ending.returned (.bool a) = .returned (.bool b) := by rw [h]
theorem ret_string {a b : ByteArray} (h : a = b) : Ending.returned (.string a) = .returned (.string b) := by rw [h]
theorem below_then {a b c : World} (h : Below a.heap.size a b) (k : Below b.heap.size b c) : Below a.heap.size a c := h.trans (k.mono h.size)
theorem ba_toList (x : ByteArray) : x.toList = x.data.toList := ByteArray.toList_eq x
theorem ba_ext {x y : ByteArray} (h : x.data.toList = y.data.toList) : x = y := by
  cases x; cases y; simp at h; rw [h]
theorem bstr_ne {x y : ByteArray} (h : x ≠ y) : (x.toList == y.toList) = false := by
  rw [beq_eq_false_iff_ne, ba_toList, ba_toList]; exact fun e => h (ba_ext e)
theorem bstr_nil {x : ByteArray} (h : x.size = 0) : x.toList = [] := by
  rw [ba_toList]; apply List.length_eq_zero_iff.1; simpa using h
theorem bstr_some {x : ByteArray} (h : x.size ≠ 0) : ¬ x.toList = [] := by
  rw [ba_toList]; intro e; apply h; have := congrArg List.length e; simpa using this
theorem bstr_isEmpty {x : ByteArray} (h : x.size ≠ 0) : x.toList.isEmpty = false := by
  have := bstr_some h; cases hx : x.toList <;> simp_all
end Go.Proofs.YtnhgfhbicaiilaaGreat
/- Words on memory that this seat's walks use: a slice of bytes of the call's own, and its text. -/
namespace Go.Proofs.YtnhgfhbicaiilaaGreat
open Go.RowKit
set_option linter.unusedVariables false

theorem Tryz.infoB : (Tryz.prog.info? 5).map (fun i => (i.zero, i.size, i.bytes)) = some (some (.int .u8 0), 1, 1) := by kernel_rfl
def bvals (l : List UInt8) : List Value := l.map fun c => Value.int .u8 (c.toNat : Int)
theorem bvals_append (l r : List UInt8) : bvals (l ++ r) = bvals l ++ bvals r := by simp [bvals]
theorem bvals_length (l : List UInt8) : (bvals l).length = l.length := by simp [bvals]
theorem below_grown1 {B : Nat} {a w w' : World} {v : Value} {n : Nat} {xs : List Value} {e : TypeId} {s : Nat} (h : Below B a w) (ho : w.ownsRow B e s v n xs) (o : Obj) (hB : B ≤ w.heap.size) (hg : (w.alloc o).grownBy w' v.ownBlock) : Below B a w' :=
  (h.alloc hB o).grown hg (by simp; omega) (fun k hk => (ho.lt k hk).1)
theorem cellNew1 (w : World) (x : Value) (t : TypeId) : ∀ j u, [x][j]? = some u → (w.alloc (.cells #[x] t)).cell? ((⟨w.heap.size, 0, none⟩ : Addr).add j) = some u := by
  intro j u h
  cases j with
  | zero =>
    simp at h; subst h
    simp [Addr.add]
  | succ j => simp at h
theorem conv_own {w : World} {B : Nat} {v : Value} {l : List UInt8} (h : w.ownsRow B 5 1 v l.length (bvals l)) :
    (convert 77 9 v).run Tryz.prog w = .ok (.string ⟨l.toArray⟩) w := by
  have h' := h
  rcases h.2 with ⟨rfl, h0⟩ | ⟨g, cap, cur, rfl, hb, hg, hn, hc, hsz, htk⟩
  · obtain rfl : l = [] := List.length_eq_zero_iff.1 h0
    exact run_convert_bytes_nil _ _ _ Tryz.underlying77 Tryz.underlying5 _ _ _ Tryz.underlying9
  · refine run_convert_bytes_back w _ _ _ _ cap l Tryz.underlying77 Tryz.underlying5 Tryz.underlying9 ?_
    intro j hj
    have h1 := h'.cellAt j (by omega)
    have h2 : (⟨g, 0, none⟩ : Addr).add j = ⟨g, j, none⟩ := by
      unfold Addr.add; split
      · subst_vars; rfl
      · simp
    rw [h2, h1]; simp [bvals, List.getElem?_eq_getElem hj]
theorem own_drewN {w : World} {B e s n : Nat} {v : Value} {xs : List Value} (h : w.ownsRow B e s v n xs) (q : Nat) : (w.drewN q).ownsRow B e s v n xs := h
theorem own_below {w w' : World} {B e s n : Nat} {v : Value} {xs : List Value} (h : w.ownsRow B e s v n xs) (hb : Below w.heap.size w w') : w'.ownsRow B e s v n xs :=
  h.kept (row := none) ⟨hb.os, hb.tape, hb.output, hb.size, fun k hk _ => hb.block k hk⟩ (by cases hv : v.ownBlock <;> simp)
theorem below_drewN {B : Nat} {a w : World} (h : Below B a w) (q : Nat) : Below B a (w.drewN q) := ⟨h.os, h.tape, h.output, h.size, h.block⟩
/-- a world behind w: whatever lay, lies. THE CLASS for a region that draws its order and whose callees make memory. -/
structure After (w : World) where
  val : World
  below : Below w.heap.size w val
instance afterNonempty (w : World) : Nonempty (After w) := ⟨⟨w, Below.refl _ _⟩⟩
theorem wp_region_after {P : Program} {id : Nat} {Q : Exit → Act → World → Prop} {a : Act} {w : World} {l : List Oper} (hm : P.follows .mixedOrders = true) (hB : Region.lexB .any l.toArray = true)
    (h : wpQuiet P l.toArray (fun w' => ∃ x : After w, w' = x.val) (fun a' => ∀ w', (∃ x : After w, w' = x.val) → Q .normal a' w') l a) : (Code.region id l.toArray true).wp P Q a w :=
  wp_region_quiet (C := fun w' => ∃ x : After w, w' = x.val) hm hB ⟨⟨_, (Below.refl _ _).drew⟩, rfl⟩ (by simpa using h)
theorem calls_after {P : Program} {f : FuncId} {args : Array Value} {w : World} {x : After w} {v : Value}
    (h : Calls P f args x.val fun e w' => e = .returned v ∧ Below x.val.heap.size x.val w') : Calls P f args x.val fun e w'' => e = .returned v ∧ ∃ y : After w, w'' = y.val :=
  h.mono fun _ w' ⟨he, hb⟩ => ⟨he, ⟨w', below_then x.below hb⟩, rfl⟩
theorem calls_after_same {P : Program} {f : FuncId} {args : Array Value} {w : World} {x : After w} {v : Value}
    (h : Calls P f args x.val fun e w' => e = .returned v ∧ x.val = w') : Calls P f args x.val fun e w'' => e = .returned v ∧ ∃ y : After w, w'' = y.val :=
  h.mono fun _ _ ⟨he, hb⟩ => ⟨he, x, hb.symm⟩
theorem one_bytes {P : Value → Prop} {v : Value} (h : P v) : ∀ u ∈ [v], P u := by
  intro u hu; rw [List.mem_singleton] at hu; subst hu; exact h
theorem own_snoc {w : World} {B e s : Nat} {v : Value} {l : List UInt8} {c : UInt8} (h : w.ownsRow B e s v (l.length + 1) (bvals l ++ [.int .u8 (c.toNat : Int)])) : w.ownsRow B e s v (l ++ [c]).length (bvals (l ++ [c])) := by
  rw [bvals_append, List.length_append]; exact h
end Go.Proofs.YtnhgfhbicaiilaaGreat
/- A strings.Builder that the call has made itself: its first look (copyCheck). -/
namespace Go.Proofs.YtnhgfhbicaiilaaGreat
open Go.RowKit
set_option linter.unusedVariables false

theorem bldSize : (Tryz.prog.info? 127).map (·.size) = some 2 := by kernel_rfl
theorem bldLies : liesAt Tryz.prog Tryz.prog.depth 127 (2 / Tryz.prog.cellsOf 127) 0 127 1 = true := by kernel_rfl
abbrev BAt := Lib.BuilderAt 127 5
abbrev BIs := Lib.IsBuilder 127 5

set_option maxRecDepth 100000 in
set_option maxHeartbeats 1000000 in
theorem check_fresh (b : Nat) (w : World) (h0 : w.cell? ⟨b, 0, none⟩ = some (.pointer none)) (hsh : w.shape? b = some (127, 2)) (hfz : w.frozen? ⟨b, 0, none⟩ = false) :
    Calls Tryz.prog 124 #[.pointer (some ⟨b, 0, none⟩)] w fun e w' => e = .returned (.tuple #[]) ∧ w' = w.setCell ⟨b, 0, none⟩ (.pointer (some ⟨b, 0, none⟩)) := by
  obtain ⟨j, hj, hjs⟩ := Option.map_eq_some_iff.1 bldSize
  go_enter Tryz.func124, Tryz.ntmps124
  go_wp2
  rw [Lib.run_to_unsafe w ⟨b, 0, none⟩ Tryz.underlying125 Tryz.underlying144 hj (by rw [hjs]; decide) hsh (Nat.zero_lt_succ 1)]
  simp only [Result.andThen]
  rw [Oper.upon_value]
  go_wp2
  rw [run_callFunc_extern Tryz.func129 (by kernel_rfl) (by kernel_rfl) (by kernel_rfl) (e := Extern.AbiNoEscape.same) (by kernel_rfl)]
  rw [Lib.run_noEscape]
  simp only [Result.andThen]
  rw [Oper.upon_value]
  go_wp2
  rw [Lib.run_from_unsafe w ⟨b, 0, none⟩ Tryz.underlying144 Tryz.underlying125 hj hsh bldLies]
  simp only [Result.andThen]
  rw [Oper.upon_value]
  go_wp2
  go_end0
  exact ⟨rfl, rfl⟩

set_option maxRecDepth 100000 in
set_option maxHeartbeats 1000000 in
theorem check_used (b : Nat) (w : World) (h0 : w.cell? ⟨b, 0, none⟩ = some (.pointer (some ⟨b, 0, none⟩))) :
    Calls Tryz.prog 124 #[.pointer (some ⟨b, 0, none⟩)] w fun e w' => e = .returned (.tuple #[]) ∧ w' = w := by
  obtain ⟨j, hj, _⟩ := Option.map_eq_some_iff.1 bldSize
  have hne := Lib.run_neq_ptr_same (P := Tryz.prog) w ⟨b, 0, none⟩ Tryz.underlying125 hj
  go_enter Tryz.func124, Tryz.ntmps124
  go_wp2
  go_end0
  exact ⟨rfl, rfl⟩

theorem copyCheck_own (B b : Nat) (bs : List Value) (w : World) (h : BIs B b bs w) :
    Calls Tryz.prog 124 #[.pointer (some ⟨b, 0, none⟩)] w fun e w' => e = .returned (.tuple #[]) ∧ (BAt B b (.pointer (some ⟨b, 0, none⟩)) bs w' ∧ Below B w w') := by
  rcases h with h | h
  · refine (check_fresh b w h.cell0 h.shape h.frozen0).mono ?_
    rintro e w' ⟨rfl, rfl⟩
    exact ⟨rfl, h.used _, (Below.refl B w).setCell (p := ⟨b, 0, none⟩) h.1 _⟩
  · refine (check_used b w h.cell0).mono ?_
    rintro e w' ⟨rfl, rfl⟩
    exact ⟨rfl, h, Below.refl B _⟩

end Go.Proofs.YtnhgfhbicaiilaaGreat
/- Words on memory: what a call leaves alone; a block that is known whole; a row of cells that is written. No program. -/
namespace Go.Proofs.YtnhgfhbicaiilaaGreat
open Go.RowKit
set_option linter.unusedVariables false

/-- w' is w, but for what lies in F, and what is new -/
structure Only (F : Nat → Prop) (w w' : World) : Prop where
  os : w'.os = w.os
  tape : w'.tape = w.tape
  output : w'.output = w.output
  size : w.heap.size ≤ w'.heap.size
  block : ∀ k, k < w.heap.size → ¬ F k → w'.heap[k]? = w.heap[k]?
def NoF : Nat → Prop := fun _ => False
section
variable {F G : Nat → Prop} {a b c w w' : World}
theorem Only.refl (F : Nat → Prop) (w : World) : Only F w w := ⟨rfl, rfl, rfl, Nat.le_refl _, fun _ _ _ => rfl⟩
theorem Only.trans (h : Only F a b) (k : Only G b c) (hG : ∀ i, G i → F i ∨ a.heap.size ≤ i) : Only F a c :=
  ⟨k.os.trans h.os, k.tape.trans h.tape, k.output.trans h.output, Nat.le_trans h.size k.size, fun i hi hf =>
    (k.block i (Nat.lt_of_lt_of_le hi h.size) (fun e => (hG i e).elim hf (fun e => by omega))).trans (h.block i hi hf)⟩
theorem Only.then (h : Only F a b) (k : Only F b c) : Only F a c := h.trans k (fun _ => .inl)
theorem Only.mono (h : Only F a b) (hFG : ∀ i, F i → G i) : Only G a b := ⟨h.os, h.tape, h.output, h.size, fun i hi hg => h.block i hi (fun e => hg (hFG i e))⟩
theorem Only.of_below (h : Below a.heap.size a b) (F : Nat → Prop) : Only F a b := ⟨h.os, h.tape, h.output, h.size, fun i hi _ => h.block i hi⟩
theorem Only.below {B : Nat} (h : Only F a b) (hF : ∀ i, F i → B ≤ i) (hB : B ≤ a.heap.size) : Below B a b :=
  ⟨h.os, h.tape, h.output, h.size, fun i hi => h.block i (by omega) (fun e => by have := hF i e; omega)⟩
theorem Only.below0 (h : Only NoF a b) : Below a.heap.size a b := h.below (fun _ e => e.elim) (Nat.le_refl _)
theorem Only.alloc (h : Only F a w) (o : Obj) : Only F a (w.alloc o) :=
  h.trans (G := NoF) ⟨rfl, rfl, rfl, by simp, fun k hk _ => Below.heap_alloc _ _ _ hk⟩ (fun _ e => e.elim)
theorem Only.setCell (h : Only F a w) {p : Addr} (hp : F p.block ∨ a.heap.size ≤ p.block) (u : Value) : Only F a (w.setCell p u) :=
  h.trans (G := (· = p.block)) ⟨rfl, rfl, rfl, by simp [World.setCell], fun k hk hn => Below.heap_setCell _ _ _ _ hn⟩ (fun i e => by subst e; exact hp)
theorem Only.drew (h : Only F a w) : Only F a w.drew := ⟨h.os, h.tape, h.output, h.size, h.block⟩
theorem Only.drewN (h : Only F a w) (q : Nat) : Only F a (w.drewN q) := ⟨h.os, h.tape, h.output, h.size, h.block⟩
theorem Only.grown {row : Option Nat} (h : Only F a w) (hg : w.grownBy w' row) (hr : ∀ k, row = some k → F k ∨ a.heap.size ≤ k) : Only F a w' :=
  h.trans (G := fun k => some k = row) ⟨hg.os, hg.tape, hg.output, hg.size, fun k hk hn => hg.block k hk hn⟩ (fun i e => hr i e.symm)
theorem Only.cell (h : Only F w w') {p : Addr} {v : Value} (hc : w.cell? p = some v) (hf : ¬ F p.block) : w'.cell? p = some v :=
  (World.cell?_of_block (h.block p.block (World.block_lt_of_cell? w p hc) hf)).trans hc
theorem grownBy_of_only {row : Option Nat} (h : Only (fun k => row = some k) a b) : a.grownBy b row := ⟨h.os, h.tape, h.output, h.size, fun k hk hn => h.block k hk (fun e => hn e.symm)⟩
end

/-- block g is just these cells -/
def Blk (w : World) (g : Nat) (t : TypeId) (cs : Array Value) : Prop := w.heap[g]? = some (.cells cs t (0, 0))
section
variable {F : Nat → Prop} {w w' : World} {g : Nat} {t : TypeId} {cs : Array Value}
theorem Blk.lt (h : Blk w g t cs) : g < w.heap.size := by
  rcases Nat.lt_or_ge g w.heap.size with hlt | hge
  · exact hlt
  · unfold Blk at h; rw [Array.getElem?_eq_none hge] at h; cases h
theorem Blk.cell (h : Blk w g t cs) (i : Nat) : w.cell? ⟨g, i, none⟩ = cs[i]? := cell_of_row w g i cs t (0, 0) h
theorem Blk.frozen (h : Blk w g t cs) (i : Nat) : w.frozen? ⟨g, i, none⟩ = false := by
  unfold Blk at h
  simp [World.frozen?, h]
theorem Blk.new (w : World) (t : TypeId) (cs : Array Value) : Blk (w.alloc (.cells cs t)) w.heap.size t cs := heap_alloc_new w _
theorem Blk.drew (h : Blk w g t cs) : Blk w.drew g t cs := h
theorem Blk.drewN (h : Blk w g t cs) (n : Nat) : Blk (w.drewN n) g t cs := h
theorem Blk.alloc (h : Blk w g t cs) (o : Obj) : Blk (w.alloc o) g t cs := (Below.heap_alloc w o g h.lt).trans h
theorem Blk.set (h : Blk w g t cs) (i : Nat) (u : Value) : Blk (w.setCell ⟨g, i, none⟩ u) g t (cs.setIfInBounds i u) := by
  unfold Blk at h ⊢
  simp [World.setCell, Array.getElem?_modify, h]
theorem Blk.far (h : Blk w g t cs) {p : Addr} (hp : g ≠ p.block) (u : Value) : Blk (w.setCell p u) g t cs := (Below.heap_setCell w p u g hp).trans h
theorem Blk.only (h : Blk w g t cs) (ho : Only F w w') (hg : ¬ F g) : Blk w' g t cs := (ho.block g h.lt hg).trans h
theorem Blk.grown {row : Option Nat} (h : Blk w g t cs) (hb : w.grownBy w' row) (hg : some g ≠ row) : Blk w' g t cs := (hb.block g h.lt hg).trans h
theorem Blk.ne {g' : Nat} {t' : TypeId} {cs' : Array Value} (h : Blk w g t cs) (h' : Blk w g' t' cs') (hne : t ≠ t') : g ≠ g' := by
  rintro rfl
  unfold Blk at h h'
  rw [h] at h'
  injection h' with h'
  injection h' with _ ht
  exact hne ht
theorem Blk.same {g' : Nat} {cs' : Array Value} (h : Blk w g t cs) (h' : Blk w g t cs') : cs = cs' := by
  unfold Blk at h h'
  rw [h] at h'
  injection h' with h'
  injection h' with h'
theorem own_blk_ne {base : Nat} {e : TypeId} {size n : Nat} {v : Value} {xs : List Value} (h : w.ownsRow base e size v n xs) (hg : Blk w g t cs) (hne : e ≠ t) : v.ownBlock ≠ some g := by
  rcases h.2 with ⟨rfl, _⟩ | ⟨g', cap, cur, rfl, _, hh, _⟩
  · simp [Value.ownBlock]
  · intro he
    have : g' = g := by simpa [Value.ownBlock] using he
    subst this
    exact Blk.ne (t := e) hh hg hne rfl
theorem own_only {base : Nat} {e : TypeId} {size n : Nat} {v : Value} {xs : List Value} (h : w.ownsRow base e size v n xs) (ho : Only F w w') (hf : ∀ k, v.ownBlock = some k → ¬ F k) : w'.ownsRow base e size v n xs := by
  refine ⟨h.1, h.2.imp id ?_⟩
  rintro ⟨g', cap, cur, rfl, hb, hg, r⟩
  exact ⟨g', cap, cur, rfl, hb, (ho.block g' (Array.getElem?_eq_some_iff.1 hg).1 (hf g' rfl)).trans hg, r⟩
theorem own_lt {base : Nat} {e : TypeId} {size n : Nat} {v : Value} {xs : List Value} (h : w.ownsRow base e size v n xs) {k : Nat} (hk : v.ownBlock = some k) : k < w.heap.size := (h.lt k hk).2
theorem own_ne {base : Nat} {e e' : TypeId} {size size' n n' : Nat} {v v' : Value} {xs xs' : List Value} (h : w.ownsRow base e size v n xs) (h' : w.ownsRow base e' size' v' n' xs') (hne : e ≠ e') {k : Nat} (hk : v.ownBlock = some k) : v'.ownBlock ≠ some k := by
  rcases h.2 with ⟨rfl, _⟩ | ⟨g', cap, cur, rfl, _, hh, _⟩
  · simp [Value.ownBlock] at hk
  · have : g' = k := by simpa [Value.ownBlock] using hk
    subst this
    exact own_blk_ne h' (cs := cur) (t := e) hh (fun e => hne e.symm)
/-- a beginning of a row is one -/
theorem own_take {base : Nat} {e : TypeId} {n c k : Nat} {a : Option Addr} {xs : List Value} (h : w.ownsRow base e 1 (.slice a n c) n xs) (hk : k ≤ n) : w.ownsRow base e 1 (.slice a k c) k (xs.take k) := by
  obtain ⟨h1, h2⟩ := h
  refine ⟨by rw [List.length_take, h1]; omega, ?_⟩
  rcases h2 with ⟨h2, rfl⟩ | ⟨g', cap, cur, h2, hb, hg, hn, hc, hs, ht⟩
  · injection h2 with h3 h4 h5
    subst h3 h5
    obtain rfl : k = 0 := by omega
    exact .inl ⟨rfl, rfl⟩
  · injection h2 with h3 h4 h5
    subst h3 h5
    refine .inr ⟨g', c, cur, rfl, hb, hg, by omega, hc, hs, ?_⟩
    rw [← ht, List.take_take, Nat.mul_one, Nat.mul_one, Nat.min_eq_left (by omega)]
end

/-! cells that are written one by one -/
def wr (cur : Array Value) : Nat → List Value → Array Value
  | _, [] => cur
  | o, v :: r => wr (cur.setIfInBounds o v) (o + 1) r
theorem wr_size : ∀ (vs : List Value) (cur : Array Value) (o : Nat), (wr cur o vs).size = cur.size
  | [], _, _ => rfl
  | v :: r, cur, o => by rw [wr, wr_size r]; simp
theorem wr_toList : ∀ (vs : List Value) (cur : Array Value) (o : Nat), o + vs.length ≤ cur.size → (wr cur o vs).toList = cur.toList.take o ++ vs ++ cur.toList.drop (o + vs.length)
  | [], cur, o, _ => by simp [wr]
  | v :: r, cur, o, h => by
    simp only [List.length_cons] at h
    rw [wr, wr_toList r _ (o + 1) (by simp; omega)]
    simp only [Array.toList_setIfInBounds, List.length_cons]
    have hl : o < cur.toList.length := by simp; omega
    rw [List.take_set, List.drop_set_of_lt (by omega), show o + 1 + r.length = o + (r.length + 1) by omega]
    congr 1
    rw [show v :: r = [v] ++ r from rfl, ← List.append_assoc]
    congr 1
    rw [List.take_succ_eq_append_getElem hl, List.set_append_right _ _ (by simp; omega)]
    simp
    rw [Nat.min_eq_left (by omega)]; simp
theorem heap_setCells {g : Nat} {e : TypeId} {fz : Nat × Nat} : ∀ (vs : List Value) (o : Nat) (w : World) (cur : Array Value), w.heap[g]? = some (.cells cur e fz) → (w.setCells g o vs).heap[g]? = some (.cells (wr cur o vs) e fz)
  | [], _, _, _, h => h
  | v :: r, o, w, cur, h => by
    rw [World.setCells, wr]
    refine heap_setCells r (o + 1) _ _ ?_
    simp [World.setCell, Array.getElem?_modify, h]
theorem only_setCells {F : Nat → Prop} {a : World} {g : Nat} (hg : F g ∨ a.heap.size ≤ g) : ∀ (vs : List Value) (o : Nat) (w : World), Only F a w → Only F a (w.setCells g o vs)
  | [], _, _, h => h
  | v :: r, o, w, h => by rw [World.setCells]; exact only_setCells hg r (o + 1) _ (h.setCell hg v)
end Go.Proofs.YtnhgfhbicaiilaaGreat
/- A text wound on a row of bytes of the program's own. -/
namespace Go.Proofs.YtnhgfhbicaiilaaGreat
open Go.RowKit
set_option linter.unusedVariables false

theorem byteCells_bvals (s : ByteArray) : byteCells s = bvals s.data.toList := rfl
theorem run_append_str (w : World) (v : Value) (l : List UInt8) (s : ByteArray) (hown : w.ownsRow 0 5 1 v l.length (bvals l)) (hb : l.length + s.size ≤ 140737488355328) (ty : TypeId) :
    ∃ v' w', (Builtin.append_ #[77, 9] ty #[v, .string s]).run Tryz.prog w = .ok v' w' ∧ w'.ownsRow 0 5 1 v' (l ++ s.data.toList).length (bvals (l ++ s.data.toList)) ∧ w.grownBy w' v.ownBlock ∧ (v'.ownBlock = v.ownBlock ∨ v'.ownBlock = some w.heap.size) := by
  obtain ⟨i, hi, hz, hz1, hz2⟩ := info_parts Tryz.infoB
  have hu := Tryz.underlying77
  have hsl : s.data.toList.length = s.size := Array.length_toList
  have hll : (l ++ s.data.toList).length = l.length + s.size := by rw [List.length_append, hsl]
  have hsrc : Src Tryz.prog i.size 9 (.string s) s.size (byteCells s) w := by rw [hz1]; exact Src.ofString w Tryz.underlying9 s
  have grow : ∀ (base : Option Addr) (c : Nat), (Builtin.firstCells i.size l.length (.slice base l.length c)).run Tryz.prog w.drew = .ok (bvals l).toArray w.drew → c < l.length + s.size →
      ∃ v' w', (Builtin.append_ #[77, 9] ty #[.slice base l.length c, .string s]).run Tryz.prog w = .ok v' w' ∧ w'.ownsRow 0 5 1 v' (l ++ s.data.toList).length (bvals (l ++ s.data.toList)) ∧ w.grownBy w' (Value.slice base l.length c).ownBlock ∧ v'.ownBlock = some w.heap.size := by
    intro base c hold hg
    have hr := run_append_grow_src w 77 9 ty 5 i _ hu hi hz base l.length c (bvals l) hold (.string s) s.size (byteCells s) hsrc hg (by omega) (by rw [hz2]; exact growslice_fits hg (by omega))
    refine ⟨_, _, hr, ⟨by rw [bvals_length, Nat.mul_one], .inr ⟨w.heap.size, _, _, by rw [hll], Nat.zero_le _, heap_alloc_new w.drew _, ?_, ?_, ?_, ?_⟩⟩, ⟨rfl, rfl, rfl, by simp, fun k hk _ => Below.heap_alloc w.drew _ k hk⟩, rfl⟩
    · rw [hll]; exact grownCap_ge w _ _ _
    · exact grownCap_le_maxLen w _ _ _ (by unfold maxLen; omega)
    · have := grownCap_ge w (l.length + s.size) c 5
      simp [Builtin.zeroCells, Value.cells, byteCells_bvals, bvals_length, hsl]
      omega
    · rw [byteCells_bvals, ← bvals_append, Array.toList_append, Nat.mul_one, List.take_append_of_le_length (by simp [bvals_length])]
      rw [List.take_of_length_le (by simp [bvals_length])]
  rcases hown.2 with ⟨rfl, h0⟩ | ⟨g, cap, cur, rfl, hbg, hg, hnc, hcm, hsz, htk⟩
  · by_cases hs0 : s.size = 0
    · have e1 : s.data.toList = [] := List.length_eq_zero_iff.1 (by omega)
      refine ⟨.slice none 0 0, w, ?_, ?_, ⟨rfl, rfl, rfl, Nat.le_refl _, fun _ _ _ => rfl⟩, .inl rfl⟩
      · simp [Builtin.append_, run_underlying hu, run_underlying Tryz.underlying9, sizeOf, typeInfo, hi, Builtin.lenOf, hs0, Builtin.firstCells]
      · rw [e1, List.append_nil]; exact hown
    · obtain ⟨v', w', h1, h2, h3, h4⟩ := grow none 0 (by
        have : l = [] := List.length_eq_zero_iff.1 h0
        subst this
        exact run_firstCells_none w.drew i.size 0 0 0) (by omega)
      rw [h0] at h1
      exact ⟨v', w', h1, h2, h3, .inr h4⟩
  · rw [Nat.mul_one] at hsz htk
    have hcur : Blk w g 5 cur := hg
    by_cases hr : l.length + s.size ≤ cap
    · have h := run_append_room_src w 77 9 ty 5 i hu hi g 0 l.length cap (.string s) s.size (byteCells s) hsrc hr
        (fun j hj => by rw [hcur.cell, Array.getElem?_eq_getElem (by rw [byteCells_bvals, bvals_length, hsl] at hj; rw [hz1]; omega)]; rfl) (fun j hj => hcur.frozen _)
      rw [hz1, Nat.mul_one, Nat.zero_add] at h
      refine ⟨_, _, h, ⟨by rw [bvals_length, Nat.mul_one], .inr ⟨g, cap, _, by rw [hll], Nat.zero_le _, heap_setCells _ _ _ _ hg, by omega, hcm, by rw [wr_size, Nat.mul_one, hsz], ?_⟩⟩, grownBy_of_only (only_setCells (F := fun k => some g = some k) (.inl rfl) _ _ _ (Only.refl _ w)), .inl rfl⟩
      rw [byteCells_bvals, wr_toList _ _ _ (by rw [bvals_length, hsl]; omega), htk, ← bvals_append, Nat.mul_one, List.take_append_of_le_length (by simp [bvals_length]), List.take_of_length_le (by simp [bvals_length])]
    · obtain ⟨v', w', h1, h2, h3, h4⟩ := grow (some ⟨g, 0, none⟩) cap (by
        rw [hz1]
        exact run_firstCells_some w.drew 1 l.length ⟨g, 0, none⟩ l.length cap (bvals l) (by rw [bvals_length, Nat.mul_one]) (fun j u hj => hown.cells (g := g) rfl j u hj)) (by omega)
      exact ⟨v', w', h1, h2, h3, .inr h4⟩
theorem wpList_append_str {ops : Array Oper} {rest : List Oper} {o : Oper} {a : Act} {w : World} {Q : Exit → Act → World → Prop} (hgd : o.guard = none) (sx x : Operand)
    (ho : o.op = .call { callee := .builtin .append, args := #[sx, x], argTypes := #[77, 9] }) (v : Value) (l : List UInt8) (s : ByteArray) (hs : a.eval sx = v) (hx : a.eval x = .string s)
    (hown : w.ownsRow 0 5 1 v l.length (bvals l)) (hb : l.length + s.size ≤ 140737488355328)
    (h : ∀ v' w', w'.ownsRow 0 5 1 v' (l ++ s.data.toList).length (bvals (l ++ s.data.toList)) → w.grownBy w' v.ownBlock → (v'.ownBlock = v.ownBlock ∨ v'.ownBlock = some w.heap.size) → wpList Tryz.prog ops Q rest (a.put o.dst v') w') :
    wpList Tryz.prog ops Q (o :: rest) a w := by
  refine wpList_plain hgd fun K hK => ?_
  obtain ⟨v', w', hr, h2, h3, h4⟩ := run_append_str w v l s hown hb o.type
  unfold Oper.wp execOp
  simp only [ho, resolve, invoke, builtin, Sem.run_bind, Sem.run_pure, Result.andThen_ok, List.map_toArray, List.map_cons, List.map_nil, hs, hx, hr]
  exact hK _ _ (h v' w' h2 h3 h4)
end Go.Proofs.YtnhgfhbicaiilaaGreat
/-
  DERIVED: THE SHELF's CONTRACTS AT THIS DUMP, IN PLAIN WORDS (tools/lay-plain.mjs out of 'TryzShelf.lean', which tools/lay-shelf.mjs wrote): THE SAME DECLARATIONS UNDER THE SAME NAMES: 'import', 'namespace', 'open', 'def', 'theorem' AND NOTHING ELSE: no command of the shelf's: FOR A HAND-IN. Each laying: the table of numbers ('.._ren') and one theorem, a field a fact of the dump's own or the kernel's comparison; each contract: ONE APPLICATION.
-/
namespace Go.Proofs
open Go.Shelf
def Tryz.lays170_ren : Go.Shelf.Ren := ⟨fun | 170 => 113 | n => n, fun | 70 => 125 | 3 => 3 | 0 => 0 | 72 => 127 | 37 => 77 | 5 => 5 | n => n, fun | n => n⟩
theorem Tryz.lays170 : Go.Proofs.Lays.n170 Tryz.prog Tryz.lays170_ren := {
  mixed := by kernel_rfl
  f170 := Tryz.func113.trans (congrArg some (by kernel_rfl))
  t0 := Tryz.underlying0
  a0 := Tryz.isAgg0
  z0 := Tryz.sizeOf0
  v0 := Tryz.zeroValue0
  t3 := Tryz.underlying3
  a3 := Tryz.isAgg3
  z3 := Tryz.sizeOf3
  v3 := Tryz.zeroValue3
  t37 := Tryz.underlying77
  a37 := Tryz.isAgg77
  z37 := Tryz.sizeOf77
  v37 := Tryz.zeroValue77
  t70 := Tryz.underlying125
  a70 := Tryz.isAgg125
  z70 := Tryz.sizeOf125
  v70 := Tryz.zeroValue125
  t72 := Tryz.underlying127
  a72 := Tryz.isAgg127
  z72 := Tryz.sizeOf127
  v72 := Tryz.zeroValue127 }
open Go.RowKit in
/-- (*strings.Builder).Len: "Len returns the number of accumulated bytes; b.Len() == len(b.String()).": the world is as it was. (LAID: no walk: one application.) -/
theorem Tryz.Builder_Len (B b : Nat) (bs : List Value) (w : World) (h : Lib.IsBuilder 127 5 B b bs w) :
    Calls Tryz.prog 113 #[.pointer (some ⟨b, 0, none⟩)] w fun e w' => e = .returned (.int .i64 bs.length) ∧ w' = w := Any.Builder_Len Tryz.lays170 B b bs w h
def Tryz.lays169_ren : Go.Shelf.Ren := ⟨fun | 169 => 114 | n => n, fun | 70 => 125 | 9 => 9 | 0 => 0 | 72 => 127 | 37 => 77 | 127 => 142 | 3 => 3 | 5 => 5 | n => n, fun | n => n⟩
theorem Tryz.lays169 : Go.Proofs.Lays.n169 Tryz.prog Tryz.lays169_ren := {
  mixed := by kernel_rfl
  f169 := Tryz.func114.trans (congrArg some (by kernel_rfl))
  t0 := Tryz.underlying0
  a0 := Tryz.isAgg0
  z0 := Tryz.sizeOf0
  v0 := Tryz.zeroValue0
  t3 := Tryz.underlying3
  a3 := Tryz.isAgg3
  z3 := Tryz.sizeOf3
  v3 := Tryz.zeroValue3
  t9 := Tryz.underlying9
  a9 := Tryz.isAgg9
  z9 := Tryz.sizeOf9
  v9 := Tryz.zeroValue9
  t37 := Tryz.underlying77
  a37 := Tryz.isAgg77
  z37 := Tryz.sizeOf77
  v37 := Tryz.zeroValue77
  t70 := Tryz.underlying125
  a70 := Tryz.isAgg125
  z70 := Tryz.sizeOf125
  v70 := Tryz.zeroValue125
  t72 := Tryz.underlying127
  a72 := Tryz.isAgg127
  z72 := Tryz.sizeOf127
  v72 := Tryz.zeroValue127
  t127 := Tryz.underlying142
  a127 := Tryz.isAgg142
  z127 := Tryz.sizeOf142
  v127 := Tryz.zeroValue142 }
theorem Tryz.Builder_Extra_169 : Builder.Extra Tryz.prog Tryz.lays169_ren := {
  sizeBuilder := by kernel_rfl
  liesBuilder := by kernel_rfl
  t5 := Tryz.underlying5
  a5 := Tryz.isAgg5
  z5 := Tryz.sizeOf5
  v5 := Tryz.zeroValue5
  infoByte := by kernel_rfl
  cellsByte := by kernel_rfl
  sizeByte := by kernel_rfl
  neB5 := by decide }
open Go.RowKit in
/-- (*strings.Builder).String: "String returns the accumulated string.": OF A BUILDER THAT HOLDS AT LEAST ONE BYTE. ✋ THE MODEL FREEZES THOSE BYTES IN THE BUFFER (unsafe.String): a later write INTO them ends the model's run without an answer; a later append BEHIND them goes on. The statement's order of evaluation is drawn: one draw. (LAID: no walk: one application.) -/
theorem Tryz.Builder_String (B b : Nat) (l : List UInt8) (w : World) (h : Lib.IsBuilder 127 5 B b (Lib.byteCells l) w) (h0 : l ≠ []) :
    Calls Tryz.prog 114 #[.pointer (some ⟨b, 0, none⟩)] w fun e w' => e = .returned (.string ⟨l.toArray⟩) ∧ Below B w w' := Any.Builder_String Tryz.lays169 Tryz.Builder_Extra_169 B b l w h h0
open Go.RowKit in
/-- (*strings.Builder).String OF A BUILDER THAT HOLDS NO BYTE: the empty string. (Its buffer is nil, or a row of which it has taken nothing yet; where that row has NO capacity the model lays one new block for unsafe.SliceData's 'some address'.) One draw. (LAID: no walk: one application.) -/
theorem Tryz.Builder_String_empty (B b : Nat) (w : World) (h : Lib.IsBuilder 127 5 B b [] w) (hBw : B ≤ w.heap.size) :
    Calls Tryz.prog 114 #[.pointer (some ⟨b, 0, none⟩)] w fun e w' => e = .returned (.string ⟨#[]⟩) ∧ Below B w w' := Any.Builder_String_empty Tryz.lays169 Tryz.Builder_Extra_169 B b w h hBw
open Go.RowKit in
/-- (*strings.Builder).String: "String returns the accumulated string.": WHATEVER THE BUILDER HOLDS. (LAID: no walk: one application.) -/
theorem Tryz.Builder_String_any (B b : Nat) (l : List UInt8) (w : World) (h : Lib.IsBuilder 127 5 B b (Lib.byteCells l) w) (hBw : B ≤ w.heap.size) :
    Calls Tryz.prog 114 #[.pointer (some ⟨b, 0, none⟩)] w fun e w' => e = .returned (.string ⟨l.toArray⟩) ∧ Below B w w' := Any.Builder_String_any Tryz.lays169 Tryz.Builder_Extra_169 B b l w h hBw
open Go.RowKit in
/-- (*strings.Builder).Len: "Len returns the number of accumulated bytes; b.Len() == len(b.String()).": the world is as it was. (THE FORM '_f': 'Lib.IsBuilderF'.) (LAID: no walk: one application.) -/
theorem Tryz.Builder_Len_f (B b : Nat) (bs : List Value) (w : World) (h : Lib.IsBuilderF 127 5 B b bs w) :
    Calls Tryz.prog 113 #[.pointer (some ⟨b, 0, none⟩)] w fun e w' => e = .returned (.int .i64 bs.length) ∧ w' = w := Any.Builder_Len_f Tryz.lays170 B b bs w h
open Go.RowKit in
/-- (*strings.Builder).String: "String returns the accumulated string.": OF A BUILDER THAT HOLDS AT LEAST ONE BYTE. ✋ THE MODEL FREEZES THOSE BYTES IN THE BUFFER (unsafe.String): a later write INTO them ends the model's run without an answer; a later append BEHIND them goes on. The statement's order of evaluation is drawn: one draw. THE FORM '_f': IT SAYS BESIDES THAT THE BUILDER IS A BUILDER STILL ('Lib.IsBuilderF', the same bytes): SO IT CAN BE WRITTEN ON: 'b.WriteString(b.String()[:k])'. (LAID: no walk: one application.) -/
theorem Tryz.Builder_String_f (B b : Nat) (l : List UInt8) (w : World) (h : Lib.IsBuilderF 127 5 B b (Lib.byteCells l) w) (h0 : l ≠ []) :
    Calls Tryz.prog 114 #[.pointer (some ⟨b, 0, none⟩)] w fun e w' => e = .returned (.string ⟨l.toArray⟩) ∧ (Lib.IsBuilderF 127 5 B b (Lib.byteCells l) w' ∧ Below B w w') := Any.Builder_String_f Tryz.lays169 Tryz.Builder_Extra_169 B b l w h h0
open Go.RowKit in
/-- (*strings.Builder).String OF A BUILDER THAT HOLDS NO BYTE: the empty string; THE FORM '_f': a builder still. (LAID: no walk: one application.) -/
theorem Tryz.Builder_String_empty_f (B b : Nat) (w : World) (h : Lib.IsBuilderF 127 5 B b [] w) (hBw : B ≤ w.heap.size) :
    Calls Tryz.prog 114 #[.pointer (some ⟨b, 0, none⟩)] w fun e w' => e = .returned (.string ⟨#[]⟩) ∧ (Lib.IsBuilderF 127 5 B b [] w' ∧ Below B w w') := Any.Builder_String_empty_f Tryz.lays169 Tryz.Builder_Extra_169 B b w h hBw
open Go.RowKit in
/-- (*strings.Builder).String: "String returns the accumulated string.": WHATEVER THE BUILDER HOLDS; THE FORM '_f': OF A BUILDER THAT MAY HAVE BEEN READ BEFORE; AND IT IS A BUILDER STILL, holding the same bytes: it can be written on. (LAID: no walk: one application.) -/
theorem Tryz.Builder_String_any_f (B b : Nat) (l : List UInt8) (w : World) (h : Lib.IsBuilderF 127 5 B b (Lib.byteCells l) w) (hBw : B ≤ w.heap.size) :
    Calls Tryz.prog 114 #[.pointer (some ⟨b, 0, none⟩)] w fun e w' => e = .returned (.string ⟨l.toArray⟩) ∧ (Lib.IsBuilderF 127 5 B b (Lib.byteCells l) w' ∧ Below B w w') := Any.Builder_String_any_f Tryz.lays169 Tryz.Builder_Extra_169 B b l w h hBw
open Go.RowKit in
/-- (*strings.Builder).String: "String returns the accumulated string.": OF A BUILDER THAT HOLDS AT LEAST ONE BYTE. ✋ THE MODEL FREEZES THOSE BYTES IN THE BUFFER (unsafe.String): a later write INTO them ends the model's run without an answer; a later append BEHIND them goes on. The statement's order of evaluation is drawn: one draw. THE FORM '_k': OVER 'Lib.IsBuilderF' (a builder that 'String()' may have read), AND WITH THE FRAME THAT REACHES ABOVE THE BUILDER: 'Lib.OthersKept': every block that is not b and is no row of uint8's stands as it stood: the iterator of a range among them. (LAID: no walk: one application.) -/
theorem Tryz.Builder_String_k (B b : Nat) (l : List UInt8) (w : World) (h : Lib.IsBuilderF 127 5 B b (Lib.byteCells l) w) (h0 : l ≠ []) :
    Calls Tryz.prog 114 #[.pointer (some ⟨b, 0, none⟩)] w fun e w' => e = .returned (.string ⟨l.toArray⟩) ∧ (Lib.IsBuilderF 127 5 B b (Lib.byteCells l) w' ∧ Below B w w' ∧ Lib.OthersKept 5 (some b) w w') := Any.Builder_String_k Tryz.lays169 Tryz.Builder_Extra_169 B b l w h h0
open Go.RowKit in
/-- (*strings.Builder).String OF A BUILDER THAT HOLDS NO BYTE: the empty string; THE FORM '_k': OVER 'Lib.IsBuilderF' (a builder that 'String()' may have read), AND WITH THE FRAME THAT REACHES ABOVE THE BUILDER: 'Lib.OthersKept': every block that is not b and is no row of uint8's stands as it stood: the iterator of a range among them. (LAID: no walk: one application.) -/
theorem Tryz.Builder_String_empty_k (B b : Nat) (w : World) (h : Lib.IsBuilderF 127 5 B b [] w) (hBw : B ≤ w.heap.size) :
    Calls Tryz.prog 114 #[.pointer (some ⟨b, 0, none⟩)] w fun e w' => e = .returned (.string ⟨#[]⟩) ∧ (Lib.IsBuilderF 127 5 B b [] w' ∧ Below B w w' ∧ Lib.OthersKept 5 (some b) w w') := Any.Builder_String_empty_k Tryz.lays169 Tryz.Builder_Extra_169 B b w h hBw
open Go.RowKit in
/-- (*strings.Builder).String: "String returns the accumulated string.": WHATEVER THE BUILDER HOLDS; THE FORM '_k': OVER 'Lib.IsBuilderF' (a builder that 'String()' may have read), AND WITH THE FRAME THAT REACHES ABOVE THE BUILDER: 'Lib.OthersKept': every block that is not b and is no row of uint8's stands as it stood: the iterator of a range among them. (LAID: no walk: one application.) -/
theorem Tryz.Builder_String_any_k (B b : Nat) (l : List UInt8) (w : World) (h : Lib.IsBuilderF 127 5 B b (Lib.byteCells l) w) (hBw : B ≤ w.heap.size) :
    Calls Tryz.prog 114 #[.pointer (some ⟨b, 0, none⟩)] w fun e w' => e = .returned (.string ⟨l.toArray⟩) ∧ (Lib.IsBuilderF 127 5 B b (Lib.byteCells l) w' ∧ Below B w w' ∧ Lib.OthersKept 5 (some b) w w') := Any.Builder_String_any_k Tryz.lays169 Tryz.Builder_Extra_169 B b l w h hBw
def Tryz.laysNm217_ren : Go.Shelf.Ren := ⟨fun | 17 => 131 | n => n, fun | 24 => 36 | 9 => 9 | 3 => 3 | 4 => 4 | 0 => 0 | n => n, fun | n => n⟩
theorem Tryz.laysNm217 : Go.Proofs.Lays2.n17 Tryz.prog Tryz.laysNm217_ren := {
  mixed := by kernel_rfl
  f17 := Tryz.func131.trans (congrArg some (by kernel_rfl))
  t0 := Tryz.underlying0
  a0 := Tryz.isAgg0
  z0 := Tryz.sizeOf0
  v0 := Tryz.zeroValue0
  t3 := Tryz.underlying3
  a3 := Tryz.isAgg3
  z3 := Tryz.sizeOf3
  v3 := Tryz.zeroValue3
  t4 := Tryz.underlying4
  a4 := Tryz.isAgg4
  z4 := Tryz.sizeOf4
  v4 := Tryz.zeroValue4
  t9 := Tryz.underlying9
  a9 := Tryz.isAgg9
  z9 := Tryz.sizeOf9
  v9 := Tryz.zeroValue9
  t24 := Tryz.underlying36
  a24 := Tryz.isAgg36
  z24 := Tryz.sizeOf36
  v24 := Tryz.zeroValue36 }
open Go.RowKit Go.Lib Go.Sort in
/-- slices.Reverse at []string, over an array: Go's loop from the two ends inward is walked; it makes 'Sort.reverseLoop 0 (len - 1)', which is 'Array.reverse' (Derived/Lib/SlicesMore.lean). (LAID: no walk: one application.) -/
theorem Tryz.slices_Reverse_string_arr (blk off cap : Nat) (d : Array (List UInt8)) (w : World) (hH : Holds encStr w blk off d) (hsz : d.size ≤ 9223372036854775807) :
    Calls Tryz.prog 131 #[.slice (some ⟨blk, off, none⟩) d.size cap] w fun e w' => e = .returned (.tuple #[]) ∧ ∃ n, w' = putRow encStr (Sort.ahead w n) blk off d.reverse := Any.slices_Reverse_string_arr Tryz.laysNm217 blk off cap d w hH hsz
open Go.RowKit Go.Lib Go.Sort in
/-- slices.Reverse at []string: "Reverse reverses the elements of the slice in place.": THE SLICE's CELLS HOLD 'zs.reverse' BEHIND THE CALL; all else is as it was, but for the count of draws (the exchange 's[i], s[j] = s[j], s[i]' draws its order, once a round). IN THE WORDS OF slices.Sort's CONTRACT: 'Holds': the cells hold zs and none is frozen; 'putRow': the world with those cells holding another array. A slice of length 0 that is not nil is among them ('zs = []'); nil: '.._nil'. (LAID: no walk: one application.) -/
theorem Tryz.slices_Reverse_string (blk off cap : Nat) (zs : List (List UInt8)) (w : World) (hH : Holds encStr w blk off zs.toArray) (hsz : zs.length ≤ 9223372036854775807) :
    Calls Tryz.prog 131 #[.slice (some ⟨blk, off, none⟩) zs.length cap] w fun e w' => e = .returned (.tuple #[]) ∧ ∃ n, w' = putRow encStr (Sort.ahead w n) blk off zs.reverse.toArray := Any.slices_Reverse_string Tryz.laysNm217 blk off cap zs w hH hsz
open Go.RowKit Go.Lib Go.Sort in
/-- The same at a slice of length 0, a nil one too: nothing is read, nothing written, nothing drawn. (LAID: no walk: one application.) -/
theorem Tryz.slices_Reverse_string_empty (a : Option Addr) (cap : Nat) (w : World) :
    Calls Tryz.prog 131 #[.slice a 0 cap] w fun e w' => e = .returned (.tuple #[]) ∧ w' = w := Any.slices_Reverse_string_empty Tryz.laysNm217 a cap w
def Tryz.laysNm216_ren : Go.Shelf.Ren := ⟨fun | 16 => 116 | n => n, fun | 24 => 36 | 9 => 9 | 4 => 4 | n => n, fun | n => n⟩
theorem Tryz.laysNm216 : Go.Proofs.Lays2.n16 Tryz.prog Tryz.laysNm216_ren := {
  mixed := by kernel_rfl
  f16 := Tryz.func116.trans (congrArg some (by kernel_rfl))
  t4 := Tryz.underlying4
  a4 := Tryz.isAgg4
  z4 := Tryz.sizeOf4
  v4 := Tryz.zeroValue4
  t9 := Tryz.underlying9
  a9 := Tryz.isAgg9
  z9 := Tryz.sizeOf9
  v9 := Tryz.zeroValue9
  t24 := Tryz.underlying36
  a24 := Tryz.isAgg36
  z24 := Tryz.sizeOf36
  v24 := Tryz.zeroValue36
  i9 := by kernel_rfl }
open Go.RowKit Go.Lib in
/-- slices.Clone at []string: "Clone returns a copy of the slice. The elements are copied using assignment, so this is a shallow clone. The result may have additional unused capacity. The result preserves the nilness of s.": OF A SLICE THAT IS NOT nil IT RETURNS A SLICE THAT IS NOT nil, OF THE SAME ELEMENTS, IN MEMORY OF THE CALL's OWN: in the how-to's words (6f): 'w'.ownsRow B e 1 v' n cells': v' begins at the head of a row among the blocks from B on (B: the heap's size at the call), not frozen, whose first cells are the elements · 'Below B w w'': below B all is as it was. The capacity is whatever the run-time gives. 'zs': what the cells behind the slice's address hold; 'zs.take n': its elements. (LAID: no walk: one application.) -/
theorem Tryz.slices_Clone_string (b off n c : Nat) (zs : List ByteArray) (w : World) (hz : n ≤ zs.length) (hbig : n * 16 ≤ 140737488355328) (hc : ∀ j, j < zs.length → w.cell? ⟨b, off + j, none⟩ = some (.string (zs.getD j ByteArray.empty))) :
    Calls Tryz.prog 116 #[.slice (some ⟨b, off, none⟩) n c] w fun e w' => ∃ v', e = .returned v' ∧ w'.ownsRow w.heap.size 9 1 v' n ((zs.take n).map (Value.string)) ∧ v' ≠ .slice none 0 0 ∧ Below w.heap.size w w' := Any.slices_Clone_string Tryz.laysNm216 b off n c zs w hz hbig hc
open Go.RowKit Go.Lib in
/-- The same at nil: nil comes back; the world is as it was. (LAID: no walk: one application.) -/
theorem Tryz.slices_Clone_string_nil (n c : Nat) (w : World) :
    Calls Tryz.prog 116 #[.slice none n c] w fun e w' => e = .returned (.slice none 0 0) ∧ w' = w := Any.slices_Clone_string_nil Tryz.laysNm216 n c w
open Go.RowKit Go.Lib in
/-- The same at a slice of length 0 that is not nil, WHATEVER ITS ADDRESS (no cell is asked for): a slice that is not nil and owns nothing comes back. (LAID: no walk: one application.) -/
theorem Tryz.slices_Clone_string_zero (a : Addr) (c : Nat) (w : World) :
    Calls Tryz.prog 116 #[.slice (some a) 0 c] w fun e w' => ∃ v', e = .returned v' ∧ w'.ownsRow w.heap.size 9 1 v' 0 [] ∧ v' ≠ .slice none 0 0 ∧ Below w.heap.size w w' := Any.slices_Clone_string_zero Tryz.laysNm216 a c w
def Tryz.laysNm224_ren : Go.Shelf.Ren := ⟨fun | 24 => 101 | n => n, fun | 24 => 36 | 9 => 9 | 3 => 3 | 4 => 4 | 0 => 0 | n => n, fun | n => n⟩
theorem Tryz.laysNm224 : Go.Proofs.Lays2.n24 Tryz.prog Tryz.laysNm224_ren := {
  mixed := by kernel_rfl
  f24 := Tryz.func101.trans (congrArg some (by kernel_rfl))
  t0 := Tryz.underlying0
  a0 := Tryz.isAgg0
  z0 := Tryz.sizeOf0
  v0 := Tryz.zeroValue0
  t3 := Tryz.underlying3
  a3 := Tryz.isAgg3
  z3 := Tryz.sizeOf3
  v3 := Tryz.zeroValue3
  t4 := Tryz.underlying4
  a4 := Tryz.isAgg4
  z4 := Tryz.sizeOf4
  v4 := Tryz.zeroValue4
  t9 := Tryz.underlying9
  a9 := Tryz.isAgg9
  z9 := Tryz.sizeOf9
  v9 := Tryz.zeroValue9
  t24 := Tryz.underlying36
  a24 := Tryz.isAgg36
  z24 := Tryz.sizeOf36
  v24 := Tryz.zeroValue36
  i9 := by kernel_rfl }
open Go.RowKit Go.Lib Go.Sort in
/-- slices.Delete at []string, over an array. (LAID: no walk: one application.) -/
theorem Tryz.slices_Delete_string_arr (blk off cap i j : Nat) (d : Array (List UInt8)) (w : World) (hH : Holds encStr w blk off d) (hcap : d.size ≤ cap) (hm : cap ≤ 9223372036854775807) (hij : i ≤ j) (hj : j ≤ d.size) :
    Calls Tryz.prog 101 #[.slice (some ⟨blk, off, none⟩) d.size cap, .int .i64 i, .int .i64 j] w fun e w' => e = .returned (.slice (some ⟨blk, off, none⟩) (d.size - (j - i)) cap) ∧ ∃ q, w' = putRow encStr (Sort.ahead w q) blk off (d.toList.take i ++ d.toList.drop j ++ List.replicate (j - i) []).toArray := Any.slices_Delete_string_arr Tryz.laysNm224 blk off cap i j d w hH hcap hm hij hj
open Go.RowKit Go.Lib Go.Sort in
/-- slices.Delete at []string: "Delete modifies s in place by removing the elements s[i:j], and returns the modified slice. Delete panics if j > len(s) or s[i:j] is not a valid slice of s. Delete is O(len(s)-i), so if many items must be deleted, it is better to make a single call deleting them all together than to delete one at a time. Delete zeroes the elements s[len(s)-(j-i):len(s)]. If the result is empty, it has the same nilness as s.": FOR i ≤ j ≤ len(s) IT RETURNS THE SLICE CUT TO len(s) - (j - i) ELEMENTS; ITS CELLS HOLD what stood ahead of i, what stood from j on, then j - i zero values; all else is as it was, but for the count of draws. IN THE WORDS OF slices.Sort's CONTRACT ('Holds', 'putRow'). It asks 'zs.length ≤ cap ≤ 2^63 - 1' (every slice's). (Outside i ≤ j ≤ len(s) it panics: no contract here.) (LAID: no walk: one application.) -/
theorem Tryz.slices_Delete_string (blk off cap i j : Nat) (zs : List (List UInt8)) (w : World) (hH : Holds encStr w blk off zs.toArray) (hcap : zs.length ≤ cap) (hm : cap ≤ 9223372036854775807) (hij : i ≤ j) (hj : j ≤ zs.length) :
    Calls Tryz.prog 101 #[.slice (some ⟨blk, off, none⟩) zs.length cap, .int .i64 i, .int .i64 j] w fun e w' => e = .returned (.slice (some ⟨blk, off, none⟩) (zs.length - (j - i)) cap) ∧ ∃ q, w' = putRow encStr (Sort.ahead w q) blk off (zs.take i ++ zs.drop j ++ List.replicate (j - i) []).toArray := Any.slices_Delete_string Tryz.laysNm224 blk off cap i j zs w hH hcap hm hij hj
open Go.RowKit Go.Lib Go.Sort in
/-- slices.Reverse at []string, of an argument. (LAID: no walk: one application.) -/
theorem Tryz.slices_Reverse_string_cells (b off n c : Nat) (Sx : Nat → ByteArray) (w : World) (hbig : n ≤ 9223372036854775807) (hc : ∀ i, i < n → w.cell? ⟨b, off + i, none⟩ = some (.string (Sx i))) (hf : ∀ j, j < n → w.frozen? ⟨b, off + j, none⟩ = false) :
    Calls Tryz.prog 131 #[.slice (some ⟨b, off, none⟩) n c] w fun e w' => e = .returned (.tuple #[]) ∧ ∃ q, w' = (w.drewN q).setCells b off ((Lib.strsOf Sx n).reverse.map encStr) := Any.slices_Reverse_string_cells Tryz.laysNm217 b off n c Sx w hbig hc hf
open Go.RowKit Go.Lib Go.Sort in
/-- slices.Delete at []string, of an argument, for i ≤ j ≤ n. (LAID: no walk: one application.) -/
theorem Tryz.slices_Delete_string_cells (b off n c i j : Nat) (Sx : Nat → ByteArray) (w : World) (hcap : n ≤ c) (hm : c ≤ 9223372036854775807) (hij : i ≤ j) (hj : j ≤ n) (hc : ∀ i, i < n → w.cell? ⟨b, off + i, none⟩ = some (.string (Sx i))) (hf : ∀ j, j < n → w.frozen? ⟨b, off + j, none⟩ = false) :
    Calls Tryz.prog 101 #[.slice (some ⟨b, off, none⟩) n c, .int .i64 i, .int .i64 j] w fun e w' => e = .returned (.slice (some ⟨b, off, none⟩) (n - (j - i)) c) ∧ ∃ q, w' = (w.drewN q).setCells b off (((Lib.strsOf Sx n).take i ++ (Lib.strsOf Sx n).drop j ++ List.replicate (j - i) []).map encStr) := Any.slices_Delete_string_cells Tryz.laysNm224 b off n c i j Sx w hcap hm hij hj hc hf
open Go.RowKit Go.Lib in
/-- slices.Delete at []string of no element ('Delete(s, 0, 0)'): s comes back; the world is as it was. (LAID: no walk: one application.) -/
theorem Tryz.slices_Delete_string_empty (a : Option Addr) (c : Nat) (w : World) :
    Calls Tryz.prog 101 #[.slice a 0 c, .int .i64 0, .int .i64 0] w fun e w' => e = .returned (.slice a 0 c) ∧ w' = w := Any.slices_Delete_string_empty Tryz.laysNm224 a c w
def Tryz.laysSlE041_f116_ren : Go.Shelf.Ren := ⟨fun | 41 => 116 | n => n, fun | 22 => 36 | 23 => 9 | 4 => 4 | n => n, fun | n => n⟩
theorem Tryz.laysSlE041_f116 : Go.Proofs.SlLaysE0.n41 Tryz.prog Tryz.laysSlE041_f116_ren := {
  mixed := by kernel_rfl
  f41 := ⟨Tryz.f116.name, by decide, Tryz.func116.trans (congrArg some (by kernel_rfl))⟩
  t4 := Tryz.underlying4
  a4 := Tryz.isAgg4
  z4 := Tryz.sizeOf4
  v4 := Tryz.zeroValue4
  t22 := Tryz.underlying36
  a22 := Tryz.isAgg36
  z22 := Tryz.sizeOf36
  v22 := Tryz.zeroValue36 }
open Go.RowKit Go.Lib in
/-- slices.Clone: "Clone returns a copy of the slice. The elements are copied using assignment, so this is a shallow clone. The result may have additional unused capacity. The result preserves the nilness of s.": OF A SLICE THAT IS NOT nil IT RETURNS A SLICE THAT IS NOT nil, OF THE SAME CELLS, IN MEMORY OF THE CALL's OWN ('ownsRow': the how-to's 6f); below the heap's size at the call all is as it was. (LAID AT THE INSTANCE 'slices.Clone[[]string,string]': no walk: one application.) -/
theorem Tryz.slices_Clone (i0 : TypeInfo) (z : Value) (size bytes : Nat) (hi : Tryz.prog.info? 9 = some i0) (hz0 : i0.zero = some z) (hz1 : i0.size = size) (hz2 : i0.bytes = bytes) (hzs : z.cells.size = size) (hsz : 0 < size) (z23 : ∀ w, (Go.sizeOf 9).run Tryz.prog w = .ok size w) (b off n c : Nat) (news : List Value) (w : World) (hl : news.length = n * size) (hn : n ≤ maxLen) (hbig : n * bytes ≤ 140737488355328) (hc : ∀ j u, news[j]? = some u → w.cell? ⟨b, off + j, none⟩ = some u) (h1 : ∀ u ∈ news, u.oneCell' = true) :
    Calls Tryz.prog 116 #[.slice (some ⟨b, off, none⟩) n c] w fun e w' => ∃ v', e = .returned v' ∧ w'.ownsRow w.heap.size 9 size v' n news ∧ v' ≠ .slice none 0 0 ∧ Below w.heap.size w w' := AnyE.slices_Clone Tryz.laysSlE041_f116 i0 z size bytes hi hz0 hz1 hz2 hzs hsz z23 b off n c news w hl hn hbig hc h1
open Go.RowKit Go.Lib in
/-- The same at nil: nil comes back; the world is as it was; nothing is asked of the element's type. (LAID AT THE INSTANCE 'slices.Clone[[]string,string]': no walk: one application.) -/
theorem Tryz.slices_Clone_nil (n c : Nat) (w : World) :
    Calls Tryz.prog 116 #[.slice none n c] w fun e w' => e = .returned (.slice none 0 0) ∧ w' = w := AnyE.slices_Clone_nil Tryz.laysSlE041_f116 n c w
end Go.Proofs
/- A slice of strings in memory; slices.Contains over it; a slice of strings of the call's own. -/
namespace Go.Proofs.YtnhgfhbicaiilaaGreat
open Go.RowKit
set_option linter.unusedVariables false

/-- the slice with the base a and n places reads as the list l -/
def StrsAt (w : World) (a : Option Addr) (n : Nat) (l : List ByteArray) : Prop :=
  l.length = n ∧ n ≤ 9223372036854775807 ∧ (n = 0 ∨ ∃ b off, a = some ⟨b, off, none⟩ ∧ ∀ j, j < n → w.cell? ⟨b, off + j, none⟩ = some (.string (l.getD j ByteArray.empty)))
theorem StrsAt.later {w w' : World} {a : Option Addr} {n : Nat} {l : List ByteArray} (h : StrsAt w a n l) (hb : Below w.heap.size w w') : StrsAt w' a n l := by
  obtain ⟨h1, h2, h3⟩ := h
  refine ⟨h1, h2, h3.imp id ?_⟩
  rintro ⟨b, off, ha, hc⟩
  refine ⟨b, off, ha, fun j hj => ?_⟩
  have h4 := hc j hj
  rw [hb.cell (p := ⟨b, off + j, none⟩) (World.block_lt_of_cell? w _ h4)]
  exact h4
theorem strsAt_of {w : World} {x : Addr} {l c : Nat} {ss : List ByteArray} (hl : l ≤ c) (hm : c ≤ maxLen) (hz : ss.length = c) (hcell : ∀ i, i < ss.length → w.cell? (x.add i) = some (.string (ss.getD i ByteArray.empty))) : StrsAt w (some x) l (ss.take l) := by
  unfold maxLen at hm
  refine ⟨by rw [List.length_take]; omega, by omega, ?_⟩
  by_cases h0 : l = 0
  · exact .inl h0
  · refine .inr ?_
    obtain ⟨b, off, spot⟩ := x
    have hc := hcell 0 (by omega)
    have hspot : spot = none := by simpa [Addr.add] using World.cell?_spot hc
    subst hspot
    refine ⟨b, off, rfl, fun j hj => ?_⟩
    have h1 := hcell j (by omega)
    have h2 : (⟨b, off, none⟩ : Addr).add j = ⟨b, off + j, none⟩ := by
      unfold Addr.add; split
      · subst_vars; rfl
      · rfl
    rw [h2] at h1
    rw [h1]; simp only [List.getD_eq_getElem?_getD]
    rw [List.getElem?_take, if_pos hj]
def svals (l : List ByteArray) : List Value := l.map Value.string
theorem svals_append (l r : List ByteArray) : svals (l ++ r) = svals l ++ svals r := by simp [svals]
theorem own_strs {w : World} {B : Nat} {v : Value} {l : List ByteArray} (h : w.ownsRow B 9 1 v l.length (svals l)) (hm : l.length ≤ 9223372036854775807) :
    ∃ a c, v = .slice a l.length c ∧ StrsAt w a l.length l := by
  have h' := h
  rcases h.2 with ⟨rfl, h0⟩ | ⟨g, cap, cur, rfl, hb, hg, hn, hc, hsz, htk⟩
  · exact ⟨none, 0, by rw [h0], rfl, by omega, .inl h0⟩
  · refine ⟨_, _, rfl, rfl, hm, .inr ⟨g, 0, rfl, fun j hj => ?_⟩⟩
    have h1 := h'.cellAt j (by omega)
    rw [Nat.zero_add, h1]
    simp [svals, List.getElem?_eq_getElem hj]
theorem own_string_snoc {w : World} {B e s : Nat} {v : Value} {l : List ByteArray} {c : ByteArray} (h : w.ownsRow B e s v (l.length + 1) (svals l ++ [.string c])) : w.ownsRow B e s v (l ++ [c]).length (svals (l ++ [c])) := by
  rw [svals_append, List.length_append]; exact h
theorem Tryz.infoS : (Tryz.prog.info? 9).map (fun i => (i.zero, i.size, i.bytes)) = some (some (.string ⟨#[]⟩), 1, 16) := by kernel_rfl

end Go.Proofs.YtnhgfhbicaiilaaGreat
/- Texts in rising order: where one stands. No program. -/
namespace Go.Proofs.YtnhgfhbicaiilaaGreat
open Go.RowKit
set_option linter.unusedVariables false

def lt' (a b : ByteArray) : Bool := Op.bytesLess a.toList b.toList
theorem bl_irr : ∀ a : List UInt8, Op.bytesLess a a = false
  | [] => rfl
  | c :: a => by unfold Op.bytesLess; simp [bl_irr a]
theorem bl_trans : ∀ a b c : List UInt8, Op.bytesLess a b = true → Op.bytesLess b c = true → Op.bytesLess a c = true
  | [], [], _, h, _ => by simp [Op.bytesLess] at h
  | _ :: _, [], _, h, _ => by simp [Op.bytesLess] at h
  | _, _ :: _, [], _, h => by simp [Op.bytesLess] at h
  | [], _ :: _, _ :: _, _, _ => by simp [Op.bytesLess]
  | x :: a, y :: b, z :: c, h1, h2 => by
    unfold Op.bytesLess at h1 h2 ⊢
    simp only [Bool.or_eq_true, decide_eq_true_eq, Bool.and_eq_true, beq_iff_eq] at h1 h2 ⊢
    rcases h1 with h1 | ⟨rfl, h1⟩
    · rcases h2 with h2 | ⟨rfl, h2⟩
      · exact .inl (UInt8.lt_trans h1 h2)
      · exact .inl h1
    · rcases h2 with h2 | ⟨rfl, h2⟩
      · exact .inl h2
      · exact .inr ⟨rfl, bl_trans a b c h1 h2⟩
theorem bl_tri : ∀ a b : List UInt8, Op.bytesLess a b = false → Op.bytesLess b a = false → a = b
  | [], [], _, _ => rfl
  | [], _ :: _, h, _ => by simp [Op.bytesLess] at h
  | _ :: _, [], _, h => by simp [Op.bytesLess] at h
  | x :: a, y :: b, h1, h2 => by
    unfold Op.bytesLess at h1 h2
    simp only [Bool.or_eq_false_iff, decide_eq_false_iff_not, Bool.and_eq_false_iff, beq_eq_false_iff_ne] at h1 h2
    have e : x = y := by
      apply UInt8.toNat_inj.1
      have := h1.1; have := h2.1
      rw [UInt8.lt_iff_toNat_lt] at *
      omega
    subst e
    rw [bl_tri a b (h1.2.resolve_left (fun h => h rfl)) (h2.2.resolve_left (fun h => h rfl))]
theorem lt_irr (a : ByteArray) : lt' a a = false := bl_irr _
theorem lt_trans {a b c : ByteArray} (h1 : lt' a b = true) (h2 : lt' b c = true) : lt' a c = true := bl_trans _ _ _ h1 h2
theorem lt_tri {a b : ByteArray} (h1 : lt' a b = false) (h2 : lt' b a = false) : a = b := by
  have := bl_tri _ _ h1 h2
  rw [ba_toList, ba_toList] at this
  exact ba_ext this
theorem lt_asymm {a b : ByteArray} (h : lt' a b = true) : lt' b a = false := by
  cases h2 : lt' b a
  · rfl
  · have := lt_trans h h2; rw [lt_irr] at this; cases this

/-- in rising order, each once -/
def Rising (l : List ByteArray) : Prop := l.Pairwise (fun a b => lt' a b = true)
def posOf : List ByteArray → ByteArray → Nat
  | [], _ => 0
  | y :: r, x => if lt' y x = true then posOf r x + 1 else 0
theorem posOf_le : ∀ (l : List ByteArray) (x : ByteArray), posOf l x ≤ l.length
  | [], _ => Nat.le_refl _
  | y :: r, x => by unfold posOf; split <;> simp [posOf_le r x]
theorem posOf_at : ∀ {l : List ByteArray}, Rising l → ∀ (x : ByteArray) (t : Nat), t < l.length → lt' (l.getD t ByteArray.empty) x = decide (t < posOf l x)
  | [], _, _, t, h => absurd h (Nat.not_lt_zero _)
  | y :: r, hr, x, t, h => by
    obtain ⟨h1, h2⟩ := List.pairwise_cons.1 hr
    unfold posOf
    by_cases hy : lt' y x = true
    · rw [if_pos hy]
      cases t with
      | zero => simpa using hy
      | succ t => simp only [List.getD_cons_succ, posOf_at h2 x t (by simpa using h)]; simp
    · rw [if_neg hy]
      have hy' : lt' y x = false := by simpa using hy
      cases t with
      | zero => simpa using hy'
      | succ t =>
        simp only [List.getD_cons_succ, Nat.not_lt_zero, decide_false]
        cases h3 : lt' (r.getD t ByteArray.empty) x
        · rfl
        · have hm : r.getD t ByteArray.empty ∈ r := by
            rw [List.getD_eq_getElem?_getD, List.getElem?_eq_getElem (by simpa using h)]; exact List.getElem_mem _
          have := lt_trans (h1 _ hm) h3
          rw [this] at hy'; cases hy'
theorem posOf_mem : ∀ {l : List ByteArray}, Rising l → ∀ x : ByteArray, (posOf l x < l.length ∧ l.getD (posOf l x) ByteArray.empty = x) ↔ x ∈ l
  | [], _, _ => by simp [posOf]
  | y :: r, hr, x => by
    obtain ⟨h1, h2⟩ := List.pairwise_cons.1 hr
    have ih := posOf_mem h2 x
    unfold posOf
    by_cases hy : lt' y x = true
    · rw [if_pos hy]
      simp only [List.length_cons, Nat.add_lt_add_iff_right, List.getD_cons_succ, ih, List.mem_cons]
      constructor
      · exact .inr
      · rintro (rfl | h)
        · rw [lt_irr] at hy; cases hy
        · exact h
    · rw [if_neg hy]
      have hy' : lt' y x = false := by simpa using hy
      simp only [List.length_cons, Nat.zero_lt_succ, List.getD_cons_zero, true_and, List.mem_cons]
      constructor
      · intro e; exact .inl e.symm
      · rintro (e | h)
        · exact e.symm
        · have := h1 x h; rw [this] at hy'; cases hy'
def hasN (l : List ByteArray) (x : ByteArray) : Bool := decide (∃ o ∈ l, o = x)
theorem hasN_iff {l : List ByteArray} {x : ByteArray} : hasN l x = true ↔ x ∈ l := by unfold hasN; rw [decide_eq_true_eq]; simp
theorem hasN_no {l : List ByteArray} {x : ByteArray} : hasN l x = false ↔ x ∉ l := by rw [← hasN_iff]; simp
def putN (l : List ByteArray) (x : ByteArray) : List ByteArray := if hasN l x = true then l else l.take (posOf l x) ++ x :: l.drop (posOf l x)
def delN (l : List ByteArray) (x : ByteArray) : List ByteArray := if hasN l x = true then l.take (posOf l x) ++ l.drop (posOf l x + 1) else l
theorem take_lt {l : List ByteArray} (hr : Rising l) (x : ByteArray) : ∀ y ∈ l.take (posOf l x), lt' y x = true := by
  intro y hy
  obtain ⟨j, hj, rfl⟩ := List.getElem_of_mem hy
  rw [List.length_take] at hj
  have := posOf_at hr x j (by omega)
  rw [List.getD_eq_getElem?_getD, List.getElem?_eq_getElem (by omega)] at this
  simp only [Option.getD_some] at this
  rw [List.getElem_take, this]; exact decide_eq_true (by omega)
theorem drop_gt {l : List ByteArray} (hr : Rising l) {x : ByteArray} (hx : x ∉ l) : ∀ y ∈ l.drop (posOf l x), lt' x y = true := by
  intro y hy
  obtain ⟨j, hj, rfl⟩ := List.getElem_of_mem hy
  rw [List.length_drop] at hj
  have := posOf_at hr x (posOf l x + j) (by omega)
  rw [List.getD_eq_getElem?_getD, List.getElem?_eq_getElem (by omega)] at this
  simp only [Option.getD_some] at this
  rw [List.getElem_drop]
  cases h : lt' x l[posOf l x + j]
  · have e := lt_tri h (this.trans (decide_eq_false (by omega)))
    exact absurd (e ▸ List.getElem_mem _) hx
  · rfl
theorem putN_rising {l : List ByteArray} (hr : Rising l) (x : ByteArray) : Rising (putN l x) := by
  unfold putN
  split
  · exact hr
  · rename_i hx
    rw [hasN_iff] at hx
    have h0 : (l.take (posOf l x) ++ l.drop (posOf l x)).Pairwise (fun a b => lt' a b = true) := by rw [List.take_append_drop]; exact hr
    obtain ⟨h1, h2, h3⟩ := List.pairwise_append.1 h0
    refine List.pairwise_append.2 ⟨h1, List.pairwise_cons.2 ⟨drop_gt hr hx, h2⟩, ?_⟩
    intro a ha b hb
    rcases List.mem_cons.1 hb with rfl | hb
    · exact take_lt hr _ a ha
    · exact h3 a ha b hb
theorem delN_rising {l : List ByteArray} (hr : Rising l) (x : ByteArray) : Rising (delN l x) := by
  unfold delN
  split
  · have h0 : (l.take (posOf l x) ++ l.drop (posOf l x)).Pairwise (fun a b => lt' a b = true) := by rw [List.take_append_drop]; exact hr
    obtain ⟨h1, h2, h3⟩ := List.pairwise_append.1 h0
    have hs : (l.drop (posOf l x + 1)).Sublist (l.drop (posOf l x)) := by
      rw [← List.drop_drop]; exact List.drop_sublist _ _
    exact List.pairwise_append.2 ⟨h1, h2.sublist hs, fun a ha b hb => h3 a ha b (hs.subset hb)⟩
  · exact hr
theorem pos_bool {l : List ByteArray} (hr : Rising l) (x : ByteArray) : decide (posOf l x < l.length ∧ l.getD (posOf l x) ByteArray.empty = x) = hasN l x := by
  rw [Bool.eq_iff_iff, decide_eq_true_eq, hasN_iff]; exact posOf_mem hr x
end Go.Proofs.YtnhgfhbicaiilaaGreat
/- cmp.Less and slices.BinarySearch over texts; what stands in rising order. -/
namespace Go.Proofs.YtnhgfhbicaiilaaGreat
open Go.RowKit
set_option linter.unusedVariables false

/-- x stands, or would, at k -/
def PosAt (l : List ByteArray) (x : ByteArray) (k : Nat) : Prop := k ≤ l.length ∧ ∀ t, t < l.length → lt' (l.getD t ByteArray.empty) x = decide (t < k)

theorem sisNaN_any (s : ByteArray) (w : World) : Calls Tryz.prog 126 #[.string s] w fun e w' => e = .returned (.bool false) ∧ w = w' := by
  go_enter Tryz.func126, Tryz.ntmps126
  go_wp2
  go_ret
  exact ⟨ret_bool (by simp), rfl⟩
theorem cisNaN_any (s : ByteArray) (w : World) : Calls Tryz.prog 130 #[.string s] w fun e w' => e = .returned (.bool false) ∧ w = w' := by
  go_enter Tryz.func130, Tryz.ntmps130
  go_wp2
  go_ret
  exact ⟨ret_bool (by simp), rfl⟩
theorem less_any (x y : ByteArray) (w : World) : Calls Tryz.prog 125 #[.string x, .string y] w fun e w' => e = .returned (.bool (lt' x y)) ∧ w = w' := by
  unfold lt'
  cases h : Op.bytesLess x.toList y.toList
  · go_enter Tryz.func125, Tryz.ntmps125
    go_wp2_with (go_at_call 130; refine (cisNaN_any _ _).mono ?_; rintro e w' ⟨rfl, rfl⟩)
    go_ret
    exact ⟨rfl, rfl⟩
  · go_enter Tryz.func125, Tryz.ntmps125
    go_wp2_with (go_at_call 130; refine (cisNaN_any _ _).mono ?_; rintro e w' ⟨rfl, rfl⟩)
    go_ret
    exact ⟨rfl, rfl⟩

set_option maxHeartbeats 1000000 in
theorem bs_any (a : Option Addr) (n c : Nat) (l : List ByteArray) (x : ByteArray) (k : Nat) (w : World) (hS : StrsAt w a n l) (hbig : n ≤ 1048576) (hk : PosAt l x k) :
    Calls Tryz.prog 117 #[.slice a n c, .string x] w fun e w' => e = .returned (.tuple #[.int .i64 k, .bool (decide (k < n ∧ l.getD k ByteArray.empty = x))]) ∧ w = w' := by
  obtain ⟨h1, h2, h3⟩ := hS
  obtain ⟨k1, k2⟩ := hk
  have K2 := hid k2; clear k2
  have H1 := hid h1
  have hkn : k ≤ n := by omega
  obtain ⟨r, hr⟩ : ∃ r, decide (k < n ∧ l.getD k ByteArray.empty = x) = r := ⟨_, rfl⟩
  rw [hr]
  have HR := hid hr
  clear h1 k1 hr
  go_enter Tryz.func117, Tryz.ntmps117
  go_wp2
  go_loop [7, 8] (fun s7 s8 => ∃ lo hi : Nat, s7 = .int .i64 lo ∧ s8 = .int .i64 hi ∧ lo ≤ k ∧ k ≤ hi ∧ hi ≤ n) (fun s7 s8 => (intOf s8 - intOf s7).toNat)
  case atStart => exact ⟨0, n, rfl, rfl, Nat.zero_le _, hkn, Nat.le_refl _⟩
  case round =>
    obtain ⟨lo, hi, rfl, rfl, g1, g2, g3⟩ := hrel
    by_cases hlt : lo < hi
    · obtain ⟨b, off, rfl, hc⟩ := h3.resolve_left (by omega)
      have cm := hc ((lo + hi) / 2) (by omega)
      have ky := K2.out ((lo + hi) / 2) (by rw [H1.out]; omega)
      obtain ⟨y, hy⟩ : ∃ y, l.getD ((lo + hi) / 2) ByteArray.empty = y := ⟨_, rfl⟩
      rw [hy] at cm ky
      clear hc hy
      by_cases hm : (lo + hi) / 2 < k
      · have hL : lt' y x = true := by rw [ky]; exact decide_eq_true hm
        clear ky
        go_wp2_with (go_at_call 125; refine (less_any _ _ _).mono ?_; rw [hL]; rintro e w' ⟨rfl, rfl⟩)
        go_round
        case rel => exact ⟨(lo + hi) / 2 + 1, hi, by rw [show ((lo : Int) + (hi : Int)) / 2 + 1 = (((lo + hi) / 2 + 1 : Nat) : Int) by omega], rfl, by omega, by omega, g3⟩
        case measure => simp [intOf]; omega
      · have hL : lt' y x = false := by rw [ky]; exact decide_eq_false hm
        clear ky
        go_wp2_with (go_at_call 125; refine (less_any _ _ _).mono ?_; rw [hL]; rintro e w' ⟨rfl, rfl⟩)
        go_round
        case rel => exact ⟨lo, (lo + hi) / 2, rfl, by rw [show ((lo : Int) + (hi : Int)) / 2 = (((lo + hi) / 2 : Nat) : Int) by omega], g1, by omega, by omega⟩
        case measure => simp [intOf]; omega
    · obtain rfl : lo = k := by omega
      by_cases hn : lo < n
      · obtain ⟨b, off, rfl, hc⟩ := h3.resolve_left (by omega)
        have cl := hc lo hn
        obtain ⟨y, hy⟩ : ∃ y, l.getD lo ByteArray.empty = y := ⟨_, rfl⟩
        rw [hy] at cl
        have HY := hid hy
        clear hc hy
        by_cases hyx : y = x
        · subst hyx
          obtain rfl : r = true := HR.out.symm.trans (decide_eq_true ⟨hn, HY.out⟩)
          go_wp2_with (go_at_call 126; refine (sisNaN_any _ _).mono ?_; rintro e w' ⟨rfl, rfl⟩)
          go_ret2
          exact ⟨rfl, rfl⟩
        · obtain rfl : r = false := HR.out.symm.trans (decide_eq_false (fun e => hyx (HY.out.symm.trans e.2)))
          have hne := bstr_ne hyx
          have hne2 : ¬ y.toList = x.toList := by simpa using hne
          clear hyx
          go_wp2_with (go_at_call 126; refine (sisNaN_any _ _).mono ?_; rintro e w' ⟨rfl, rfl⟩)
          go_ret2
          exact ⟨rfl, rfl⟩
      · obtain rfl : r = false := HR.out.symm.trans (decide_eq_false (fun e => hn e.1))
        go_wp2
        go_ret2
        exact ⟨rfl, rfl⟩
theorem bs_names (a : Option Addr) (n c : Nat) (l : List ByteArray) (x : ByteArray) (w : World) (hS : StrsAt w a n l) (hbig : n ≤ 1048576) (hr : Rising l) :
    Calls Tryz.prog 117 #[.slice a n c, .string x] w fun e w' => e = .returned (.tuple #[.int .i64 (posOf l x : Nat), .bool (hasN l x)]) ∧ w = w' := by
  have := bs_any a n c l x (posOf l x) w hS hbig ⟨posOf_le l x, posOf_at hr x⟩
  rw [← hS.1, pos_bool hr] at this
  rw [← hS.1]; exact this
def MapF (m : Nat) (ks vs : Value) : Nat → Prop := fun k => k = m ∨ ks.ownBlock = some k ∨ vs.ownBlock = some k
theorem own_slice {w : World} {B e s n : Nat} {v : Value} {xs : List Value} (h : w.ownsRow B e s v n xs) : ∃ a c, v = .slice a n c ∧ n ≤ c := by
  rcases h.2 with ⟨rfl, h0⟩ | ⟨g, cap, cur, rfl, hb, hg, hn, r⟩
  · exact ⟨none, 0, by rw [h0], by omega⟩
  · exact ⟨_, _, rfl, hn⟩
theorem svals_one (l : List ByteArray) : ∀ u ∈ svals l, u.oneCell' = true := by
  intro u hu; unfold svals at hu; obtain ⟨x, _, rfl⟩ := List.mem_map.1 hu; rfl
end Go.Proofs.YtnhgfhbicaiilaaGreat
/- A text written to a strings.Builder that the call has made itself. -/
namespace Go.Proofs.YtnhgfhbicaiilaaGreat
open Go.RowKit
set_option linter.unusedVariables false

theorem bvals_cells (l : List UInt8) : Lib.byteCells l = bvals l := rfl
theorem own_low {w : World} {B B' : Nat} {e : TypeId} {s n : Nat} {v : Value} {xs : List Value} (h : w.ownsRow B e s v n xs) (hB : ∀ k, v.ownBlock = some k → B' ≤ k) : w.ownsRow B' e s v n xs := by
  refine ⟨h.1, h.2.imp id ?_⟩
  rintro ⟨g, cap, cur, rfl, hb, r⟩
  exact ⟨g, cap, cur, rfl, hB g rfl, r⟩
set_option maxHeartbeats 1000000 in
theorem writeString_own (B b : Nat) (l : List UInt8) (s : ByteArray) (w : World) (h : BIs B b (bvals l) w) (hlen : l.length + s.size ≤ 140737488355328) (hBw : B ≤ w.heap.size) :
    Calls Tryz.prog 110 #[.pointer (some ⟨b, 0, none⟩), .string s] w fun e w' => e = .returned (.tuple #[.int .i64 s.size, .nilIface]) ∧ (BAt B b (.pointer (some ⟨b, 0, none⟩)) (bvals (l ++ s.data.toList)) w' ∧ Below B w w') := by
  go_enter Tryz.func110, Tryz.ntmps110
  go_wp2_with (go_at_call 124; refine (copyCheck_own B b (bvals l) _ h).mono ?_)
  rintro e w1 ⟨rfl, h1, hb1⟩
  obtain ⟨hB, v, hbk, hown, hne⟩ := h1
  have hsz := hb1.size
  have c0 : w1.cell? ⟨b, 0, none⟩ = some (.pointer (some ⟨b, 0, none⟩)) := by rw [Lib.cell_of_heap hbk]; rfl
  have c1 : w1.cell? ⟨b, 1, none⟩ = some v := by rw [Lib.cell_of_heap hbk]; rfl
  have hbk1 := hid hbk
  rw [bvals_length] at hown
  have hlt : b < w1.heap.size := by
    rcases Nat.lt_or_ge b w1.heap.size with h' | h'
    · exact h'
    · simp [Array.getElem?_eq_none h'] at hbk
  have HB1 := hid hb1
  have hvB : ∀ k, v.ownBlock = some k → B ≤ k := fun k hk => (hown.lt k hk).1
  have hown0 : w1.ownsRow 0 5 1 v l.length (bvals l) := own_low hown (fun _ _ => Nat.zero_le _)
  have HVB := hid hvB
  clear hbk hb1 hvB h hown
  go_wp2_with (refine wpList_append_str rfl (.tmp 12) (.tmp 13) rfl v l s (by rfl) (by rfl) hown0 hlen ?_)
  intro v' w2 hown' hgrow hat
  have hb2 : w2.heap[b]? = some (.cells #[.pointer (some ⟨b, 0, none⟩), v] 127 (0, 0)) := by
    rw [hgrow.block b hlt (fun e => hne e.symm)]; exact hbk1.out
  have d0 : w2.cell? ⟨b, 0, none⟩ = some (.pointer (some ⟨b, 0, none⟩)) := by rw [Lib.cell_of_heap hb2]; rfl
  have d1 : w2.cell? ⟨b, 1, none⟩ = some v := by rw [Lib.cell_of_heap hb2]; rfl
  have f1 : w2.frozen? ⟨b, 1, none⟩ = false := Lib.frozen_of_heap hb2 1
  have hownB : w2.ownsRow B 5 1 v' (l.length + s.size) (bvals (l ++ s.data.toList)) := own_low hown' (fun k hk => by
    rcases hat with e | e
    · exact HVB.out k (by rw [← e]; exact hk)
    · rw [hk] at e; cases e; omega)
  obtain ⟨va, vc, rfl, -⟩ := own_slice hownB
  have HFIN : Hid (BAt B b (.pointer (some ⟨b, 0, none⟩)) (bvals (l ++ s.data.toList)) (w2.setCell ⟨b, 1, none⟩ (.slice va (l.length + s.size) vc)) ∧ Below B w (w2.setCell ⟨b, 1, none⟩ (.slice va (l.length + s.size) vc))) := by
    refine ⟨Lib.BuilderAt.put (T := 127) (e := 5) hB hb2 (bs' := bvals (l ++ s.data.toList)) (by rw [bvals_length, List.length_append, Array.length_toList]; exact hownB) (by decide), ?_⟩
    exact ((HB1.out.grown hgrow (by omega) (fun k hk => HVB.out k hk)).setCell (p := ⟨b, 1, none⟩) hB _)
  clear hown' hownB hgrow hat hb2
  go_wp2
  go_ret2
  exact ⟨rfl, HFIN.out⟩
end Go.Proofs.YtnhgfhbicaiilaaGreat
/- The book's bytes: numbers, texts, readers, transactions: plain Lean. -/
namespace Go.Proofs.YtnhgfhbicaiilaaGreat.Book
open Go.RowKit
set_option linter.unusedVariables false

/-! numbers -/
def numL (n : Nat) : List UInt8 := [UInt8.ofNat n, UInt8.ofNat (n / 256), UInt8.ofNat (n / 65536), UInt8.ofNat (n / 16777216)]
def numV : List UInt8 → Nat
  | a :: b :: c :: d :: _ => a.toNat + 256 * b.toNat + 65536 * c.toNat + 16777216 * d.toNat
  | _ => 0
theorem numL_len (n : Nat) : (numL n).length = 4 := rfl
theorem numV_numL (n : Nat) (h : n < 4294967296) (r : List UInt8) : numV (numL n ++ r) = n := by
  show (UInt8.ofNat n).toNat + 256 * (UInt8.ofNat (n / 256)).toNat + 65536 * (UInt8.ofNat (n / 65536)).toNat + 16777216 * (UInt8.ofNat (n / 16777216)).toNat = n
  simp only [UInt8.toNat_ofNat']
  omega
theorem numV_lt (l : List UInt8) : numV l < 4294967296 := by
  unfold numV
  split
  · rename_i a b c d _
    have := a.toNat_lt; have := b.toNat_lt; have := c.toNat_lt; have := d.toNat_lt
    omega
  · omega
theorem numV_take {l : List UInt8} (r : List UInt8) (h : l.length = 4) : numV (l ++ r) = numV l := by
  match l, h with
  | [a, b, c, d], _ => rfl
theorem numL_numV {l : List UInt8} (h : l.length = 4) : numL (numV l) = l := by
  match l, h with
  | [a, b, c, d], _ =>
    have ha := a.toNat_lt; have hb := b.toNat_lt; have hc := c.toNat_lt; have hd := d.toNat_lt
    show [UInt8.ofNat (a.toNat + 256 * b.toNat + 65536 * c.toNat + 16777216 * d.toNat), UInt8.ofNat ((a.toNat + 256 * b.toNat + 65536 * c.toNat + 16777216 * d.toNat) / 256), UInt8.ofNat ((a.toNat + 256 * b.toNat + 65536 * c.toNat + 16777216 * d.toNat) / 65536), UInt8.ofNat ((a.toNat + 256 * b.toNat + 65536 * c.toNat + 16777216 * d.toNat) / 16777216)] = [a, b, c, d]
    have key : ∀ (x : UInt8) (m : Nat), m % 256 = x.toNat → UInt8.ofNat m = x := fun x m hm => by
      apply UInt8.toNat_inj.1; rw [UInt8.toNat_ofNat']; exact hm
    rw [key a _ (by omega), key b _ (by omega), key c _ (by omega), key d _ (by omega)]
/-! readers -/
structure Rd where
  rest : List UInt8
  bad : Bool
def newR (s : List UInt8) : Rd := ⟨s, false⟩
def takeR (r : Rd) (n : Nat) : List UInt8 × Rd := if r.bad = true ∨ r.rest.length < n then ([], ⟨[], true⟩) else (r.rest.take n, ⟨r.rest.drop n, false⟩)
def numR (r : Rd) : Nat × Rd := (numV (takeR r 4).1, (takeR r 4).2)
def textR (r : Rd) (most : Nat) : List UInt8 × Rd := takeR (if most < (numR r).1 then ⟨[], true⟩ else (numR r).2) (numR r).1
def wholeR (r : Rd) : Bool := !r.bad && r.rest.isEmpty
theorem takeR_app (a b : List UInt8) : takeR ⟨a ++ b, false⟩ a.length = (a, ⟨b, false⟩) := by
  unfold takeR
  rw [if_neg (by simp)]
  simp
theorem numR_app (n : Nat) (h : n < 4294967296) (b : List UInt8) : numR ⟨numL n ++ b, false⟩ = (n, ⟨b, false⟩) := by
  unfold numR
  have := takeR_app (numL n) b
  rw [numL_len] at this
  rw [this]
  have h2 := numV_numL n h []
  rw [List.append_nil] at h2
  simp [h2]
def textL (s : List UInt8) : List UInt8 := numL s.length ++ s
theorem textR_app (s b : List UInt8) (most : Nat) (h : s.length ≤ most) (h32 : s.length < 4294967296) : textR ⟨textL s ++ b, false⟩ most = (s, ⟨b, false⟩) := by
  unfold textR textL
  rw [List.append_assoc, numR_app _ h32]
  simp only
  rw [if_neg (by omega)]
  exact takeR_app s b
theorem takeR_bad (r : Rd) (n : Nat) (h : r.bad = true) : takeR r n = ([], ⟨[], true⟩) := by unfold takeR; rw [if_pos (.inl h)]
theorem takeR_short (r : Rd) (n : Nat) (h : r.rest.length < n) : takeR r n = ([], ⟨[], true⟩) := by unfold takeR; rw [if_pos (.inr h)]
theorem takeR_len (r : Rd) (n : Nat) (h : (takeR r n).2.bad = false) : (takeR r n).1.length = n ∧ r.rest = (takeR r n).1 ++ (takeR r n).2.rest ∧ r.bad = false := by
  unfold takeR at h ⊢
  split at h
  · cases h
  · rename_i hc
    rw [if_neg hc]
    simp only [not_or] at hc
    refine ⟨by simp; omega, by simp, by simpa using hc.1⟩

/-! transactions -/
def bodyL (rs : List (List UInt8)) : List UInt8 := numL rs.length ++ rs.flatMap textL
section
variable (crc : List UInt8 → Nat)
def frameL (b : List UInt8) : List UInt8 := numL b.length ++ numL (crc b) ++ b
def deedL (rs : List (List UInt8)) : List UInt8 := frameL crc (bodyL rs)
def deedsL (l : List (List (List UInt8))) : List UInt8 := l.flatMap (deedL crc)
/-- so many texts -/
def textsR : Nat → Rd → List (List UInt8) × Rd
  | 0, r => ([], r)
  | n + 1, r => ((textR r 262144).1 :: (textsR n (textR r 262144).2).1, (textsR n (textR r 262144).2).2)
/-- the records of a body -/
def recordsR (s : List UInt8) : Option (List (List UInt8)) :=
  if 1048576 < s.length ∨ (numR (newR s)).1 < 1 ∨ 64 < (numR (newR s)).1 then none
  else if wholeR (textsR (numR (newR s)).1 (numR (newR s)).2).2 = true then some (textsR (numR (newR s)).1 (numR (newR s)).2).1 else none
/-- the transaction that stands first, and how many bytes its body has -/
def stepR (s : List UInt8) : Option (List (List UInt8) × Nat) :=
  let n := numR (newR s)
  let c := numR n.2
  let b := takeR c.2 n.1
  if b.2.bad = true ∨ crc b.1 ≠ c.1 then none else (recordsR b.1).map (fun l => (l, n.1))
/-- what counts -/
def readF : Nat → List UInt8 → List (List (List UInt8)) × Nat
  | 0, _ => ([], 0)
  | f + 1, s => match stepR crc s with
    | none => ([], 0)
    | some (l, n) => (l :: (readF f (s.drop (8 + n))).1, 8 + n + (readF f (s.drop (8 + n))).2)
def readR (s : List UInt8) : List (List (List UInt8)) × Nat := readF crc s.length s
end
end Go.Proofs.YtnhgfhbicaiilaaGreat.Book
/- What is read of a book's bytes: plain Lean. -/
namespace Go.Proofs.YtnhgfhbicaiilaaGreat.Book
open Go.RowKit
set_option linter.unusedVariables false

def Valid (rs : List (List UInt8)) : Prop := 1 ≤ rs.length ∧ rs.length ≤ 64 ∧ (∀ x ∈ rs, x.length ≤ 262144) ∧ (bodyL rs).length ≤ 1048576
/-- what is asked of the check -/
structure CrcOk (crc : List UInt8 → Nat) : Prop where
  lt : ∀ s, crc s < 4294967296
  one : ∀ A x y B, x ≠ y → crc (A ++ x :: B) ≠ crc (A ++ y :: B)
theorem textsR_app : ∀ (rs : List (List UInt8)) (b : List UInt8), (∀ x ∈ rs, x.length ≤ 262144) → textsR rs.length ⟨rs.flatMap textL ++ b, false⟩ = (rs, ⟨b, false⟩)
  | [], b, _ => rfl
  | x :: r, b, h => by
    have hx := h x (List.mem_cons_self ..)
    have e : textR ⟨(x :: r).flatMap textL ++ b, false⟩ 262144 = (x, ⟨r.flatMap textL ++ b, false⟩) := by
      rw [List.flatMap_cons, List.append_assoc]
      exact textR_app x _ 262144 hx (by omega)
    show ((textR _ 262144).1 :: (textsR r.length (textR _ 262144).2).1, (textsR r.length (textR _ 262144).2).2) = _
    rw [e]
    simp only
    rw [textsR_app r b (fun y hy => h y (List.mem_cons_of_mem _ hy))]
theorem recordsR_body (rs : List (List UInt8)) (h : Valid rs) : recordsR (bodyL rs) = some rs := by
  obtain ⟨h1, h2, h3, h4⟩ := h
  have e : numR (newR (bodyL rs)) = (rs.length, ⟨rs.flatMap textL, false⟩) := numR_app rs.length (by omega) _
  have e2 := textsR_app rs [] h3
  rw [List.append_nil] at e2
  unfold recordsR
  rw [if_neg (by rw [e]; simp only; omega), e]
  simp only
  rw [e2]
  rfl
section
variable {crc : List UInt8 → Nat} (hc : CrcOk crc)
theorem frame_len (b : List UInt8) : (frameL crc b).length = 8 + b.length := by unfold frameL; simp [numL]; omega
include hc in
theorem stepR_frame (b rest : List UInt8) (hb : b.length < 4294967296) : stepR crc (frameL crc b ++ rest) = (recordsR b).map (fun l => (l, b.length)) := by
  have e1 : numR (newR (frameL crc b ++ rest)) = (b.length, ⟨numL (crc b) ++ (b ++ rest), false⟩) := by
    unfold frameL newR
    rw [List.append_assoc, List.append_assoc]
    exact numR_app b.length hb _
  have e2 : numR ⟨numL (crc b) ++ (b ++ rest), false⟩ = (crc b, ⟨b ++ rest, false⟩) := numR_app _ (hc.lt b) _
  unfold stepR
  simp only [e1, e2, takeR_app]
  rw [if_neg (by simp)]
include hc in
theorem stepR_deed (rs : List (List UInt8)) (h : Valid rs) (rest : List UInt8) : stepR crc (deedL crc rs ++ rest) = some (rs, (bodyL rs).length) := by
  unfold deedL
  rw [stepR_frame hc _ _ (by have := h.2.2.2; omega), recordsR_body rs h]; rfl
theorem deed_len (rs : List (List UInt8)) : (deedL crc rs).length = 8 + (bodyL rs).length := frame_len _
include hc in
theorem readF_deeds : ∀ (l : List (List (List UInt8))) (G : List UInt8) (f : Nat), (∀ rs ∈ l, Valid rs) → stepR crc G = none → l.length < f → readF crc f (deedsL crc l ++ G) = (l, (deedsL crc l).length)
  | [], G, f, _, hG, hf => by
    obtain ⟨f, rfl⟩ : ∃ g, f = g + 1 := ⟨f - 1, by simp at hf; omega⟩
    show readF crc (f + 1) G = _
    unfold readF; rw [hG]; rfl
  | rs :: l, G, f, hv, hG, hf => by
    obtain ⟨f, rfl⟩ : ∃ g, f = g + 1 := ⟨f - 1, by simp at hf; omega⟩
    have hrs := hv rs (List.mem_cons_self ..)
    have e : deedsL crc (rs :: l) ++ G = deedL crc rs ++ (deedsL crc l ++ G) := by unfold deedsL; rw [List.flatMap_cons, List.append_assoc]
    have hd : (deedL crc rs ++ (deedsL crc l ++ G)).drop (8 + (bodyL rs).length) = deedsL crc l ++ G := by
      rw [← deed_len (crc := crc) rs, List.drop_left]
    have ih := readF_deeds l G f (fun r hr => hv r (List.mem_cons_of_mem _ hr)) hG (by simp at hf; omega)
    rw [e]
    unfold readF
    rw [stepR_deed hc rs hrs]
    simp only
    rw [hd, ih]
    simp only [Prod.mk.injEq, true_and]
    have : (deedsL crc (rs :: l)).length = (deedL crc rs).length + (deedsL crc l).length := by unfold deedsL; rw [List.flatMap_cons, List.length_append]
    rw [this, deed_len]
theorem deeds_long : ∀ (l : List (List (List UInt8))), l.length ≤ (deedsL crc l).length
  | [] => Nat.zero_le _
  | rs :: l => by
    have := deeds_long l
    have e : (deedsL crc (rs :: l)).length = (deedL crc rs).length + (deedsL crc l).length := by unfold deedsL; rw [List.flatMap_cons, List.length_append]
    rw [e, deed_len, List.length_cons]; omega
theorem stepR_short (G : List UInt8) (h : G.length < 8) : stepR crc G = none := by
  unfold stepR
  have hb : (takeR (numR (numR (newR G)).2).2 (numR (newR G)).1).2.bad = true := by
    by_cases h4 : G.length < 4
    · have e : takeR (newR G) 4 = ([], ⟨[], true⟩) := takeR_short _ _ h4
      have e1 : (numR (newR G)).2 = ⟨[], true⟩ := by unfold numR; rw [e]
      have e2 : (numR ⟨[], true⟩).2 = ⟨[], true⟩ := by unfold numR; rw [takeR_bad _ _ rfl]
      rw [e1, e2, takeR_bad _ _ rfl]
    · have e : takeR (newR G) 4 = (G.take 4, ⟨G.drop 4, false⟩) := by unfold takeR newR; rw [if_neg (by simp; omega)]
      have e1 : (numR (newR G)).2 = ⟨G.drop 4, false⟩ := by unfold numR; rw [e]
      have e2 : (numR ⟨G.drop 4, false⟩).2 = ⟨[], true⟩ := by unfold numR; rw [takeR_short _ _ (by simp; omega)]
      rw [e1, e2, takeR_bad _ _ rfl]
  simp only
  rw [if_pos (.inl hb)]
theorem readF_none (f : Nat) (G : List UInt8) (h : stepR crc G = none) : readF crc f G = ([], 0) := by
  cases f with
  | zero => rfl
  | succ f => unfold readF; rw [h]
include hc in
theorem readR_deeds (l : List (List (List UInt8))) (G : List UInt8) (hv : ∀ rs ∈ l, Valid rs) (hG : stepR crc G = none) : readR crc (deedsL crc l ++ G) = (l, (deedsL crc l).length) := by
  unfold readR
  by_cases h0 : (deedsL crc l ++ G).length = 0
  · have hl := deeds_long (crc := crc) l
    rw [List.length_append] at h0
    have : l = [] := List.length_eq_zero_iff.1 (by omega)
    subst this
    have hg : G = [] := List.length_eq_zero_iff.1 (by omega)
    subst hg
    rfl
  · cases l with
    | nil => exact readF_none _ _ hG
    | cons rs r =>
      refine readF_deeds hc _ G _ hv hG ?_
      have := deeds_long (crc := crc) r
      have e : (deedsL crc (rs :: r)).length = (deedL crc rs).length + (deedsL crc r).length := by unfold deedsL; rw [List.flatMap_cons, List.length_append]
      rw [List.length_append, e, deed_len, List.length_cons]; omega
/-- the head of bytes that begin as a frame -/
theorem numR_head (G : List UInt8) (h : 8 ≤ G.length) : numR (newR G) = (numV (G.take 4), ⟨G.drop 4, false⟩) ∧ numR ⟨G.drop 4, false⟩ = (numV ((G.drop 4).take 4), ⟨G.drop 8, false⟩) := by
  constructor
  · unfold numR takeR newR; rw [if_neg (by simp; omega)]
  · unfold numR takeR; rw [if_neg (by simp; omega)]; simp
/-- a beginning of a frame, the last byte of which may be another one -/
theorem stepR_torn (hc : CrcOk crc) (b G : List UInt8) (hb1 : 1 ≤ b.length) (hb : b.length < 4294967296) (hle : G.length ≤ (frameL crc b).length) (ht : G.take (G.length - 1) = (frameL crc b).take (G.length - 1)) (hne : G ≠ frameL crc b) : stepR crc G = none := by
  have hfl := frame_len (crc := crc) b
  by_cases h8 : G.length < 8
  · exact stepR_short G h8
  obtain ⟨e1, e2⟩ := numR_head G (by omega)
  have h4 : ∀ j, j ≤ 7 → G.take j = (frameL crc b).take j := fun j hj => by
    have := congrArg (List.take j) ht
    rwa [List.take_take, List.take_take, Nat.min_eq_left (by omega)] at this
  have hn : numV (G.take 4) = b.length := by
    rw [h4 4 (by omega)]
    unfold frameL
    rw [List.append_assoc, List.take_left' (numL_len _)]
    have := numV_numL b.length hb []
    rwa [List.append_nil] at this
  by_cases hfull : G.length = (frameL crc b).length
  · -- the last byte is another one
    have hGs : G = G.take (G.length - 1) ++ [G[G.length - 1]'(by omega)] := by
      conv => lhs; rw [← List.take_append_drop (G.length - 1) G]
      rw [List.drop_eq_getElem_cons (by omega), List.drop_of_length_le (by omega)]
    have hbs : b = b.take (b.length - 1) ++ [b[b.length - 1]'(by omega)] := by
      conv => lhs; rw [← List.take_append_drop (b.length - 1) b]
      rw [List.drop_eq_getElem_cons (by omega), List.drop_of_length_le (by omega)]
    have hfs : frameL crc b = numL b.length ++ numL (crc b) ++ b.take (b.length - 1) ++ [b[b.length - 1]'(by omega)] := by
      have : frameL crc b = numL b.length ++ numL (crc b) ++ b := rfl
      rw [this, List.append_assoc _ _ [_], ← hbs]
    have htk : (frameL crc b).take (G.length - 1) = numL b.length ++ numL (crc b) ++ b.take (b.length - 1) := by
      have hl : (numL b.length ++ numL (crc b) ++ b.take (b.length - 1)).length = G.length - 1 := by simp [numL]; omega
      rw [hfs, ← hl, List.take_left]
    rw [ht, htk] at hGs
    obtain ⟨x, hx⟩ : ∃ x, G[G.length - 1]'(by omega) = x := ⟨_, rfl⟩
    rw [hx] at hGs
    have hxne : x ≠ b[b.length - 1]'(by omega) := fun e => hne (by rw [hGs, hfs, e])
    have e3 : takeR ⟨G.drop 8, false⟩ b.length = (b.take (b.length - 1) ++ [x], ⟨[], false⟩) := by
      have hd : G.drop 8 = (b.take (b.length - 1) ++ [x]) ++ [] := by
        rw [hGs, List.append_nil, List.append_assoc]
        have : (numL b.length ++ numL (crc b)).length = 8 := rfl
        rw [← this, List.drop_left]
      have hlen : (b.take (b.length - 1) ++ [x]).length = b.length := by simp; omega
      rw [hd]
      have := takeR_app (b.take (b.length - 1) ++ [x]) []
      rw [hlen] at this; exact this
    have e4 : numV ((G.drop 4).take 4) = crc b := by
      have hd : (G.drop 4).take 4 = numL (crc b) := by
        rw [hGs, List.append_assoc, List.append_assoc]
        have : (numL b.length).length = 4 := rfl
        rw [← this, List.drop_left, this]
        exact List.take_left' (numL_len _)
      rw [hd]
      have := numV_numL (crc b) (hc.lt b) []
      rwa [List.append_nil] at this
    unfold stepR
    simp only [e1, e2, hn, e3, e4]
    rw [if_pos]
    right
    conv => rhs; rw [hbs]
    exact hc.one _ _ _ _ hxne
  · -- bytes are missing
    have e3 : takeR ⟨G.drop 8, false⟩ b.length = ([], ⟨[], true⟩) := takeR_short _ _ (by simp; omega)
    unfold stepR
    simp only [e1, e2, hn, e3]
    rw [if_pos (.inl trivial)]
/-- a byte of the check or of the body is another one -/
theorem stepR_spoilt (hc : CrcOk crc) (b G : List UInt8) (hb : b.length < 4294967296) (k : Nat) (x : UInt8) (hk4 : 4 ≤ k) (hk : k < (frameL crc b).length) (hx : x ≠ (frameL crc b)[k]) (hG : G = (frameL crc b).set k x) : stepR crc G = none := by
  have hfl := frame_len (crc := crc) b
  have hGl : G.length = 8 + b.length := by rw [hG, List.length_set, hfl]
  obtain ⟨e1, e2⟩ := numR_head G (by omega)
  have hn : numV (G.take 4) = b.length := by
    rw [hG, List.take_set, List.set_eq_of_length_le (by simp; omega)]
    unfold frameL
    rw [List.append_assoc, List.take_left' (numL_len _)]
    have := numV_numL b.length hb []
    rwa [List.append_nil] at this
  by_cases hk8 : k < 8
  · -- the check
    have hd8 : G.drop 8 = b := by
      rw [hG, List.drop_set_of_lt hk8]
      have : (numL b.length ++ numL (crc b)).length = 8 := rfl
      show (numL b.length ++ numL (crc b) ++ b).drop 8 = b
      rw [← this, List.drop_left]
    have hd4 : (G.drop 4).take 4 = (numL (crc b)).set (k - 4) x := by
      rw [hG, List.drop_set, if_neg (by omega)]
      have h1 : (frameL crc b).drop 4 = numL (crc b) ++ b := by
        show (numL b.length ++ numL (crc b) ++ b).drop 4 = _
        rw [List.append_assoc]
        have : (numL b.length).length = 4 := rfl
        rw [← this, List.drop_left]
      rw [h1, List.set_append_left _ _ (by rw [numL_len]; omega), List.take_left' (by rw [List.length_set, numL_len])]
    have hne : numV ((numL (crc b)).set (k - 4) x) ≠ crc b := by
      intro e
      have h2 := numL_numV (l := (numL (crc b)).set (k - 4) x) (by rw [List.length_set, numL_len])
      rw [e] at h2
      have h3 : (numL (crc b))[k - 4]'(by rw [numL_len]; omega) = ((numL (crc b)).set (k - 4) x)[k - 4]'(by rw [List.length_set, numL_len]; omega) := by simp only [← h2]
      rw [List.getElem_set_self] at h3
      apply hx
      have hq : (frameL crc b)[k]? = some ((numL (crc b))[k - 4]'(by rw [numL_len]; omega)) := by
        unfold frameL
        rw [List.getElem?_append_left (by simp [numL]; omega), List.getElem?_append_right (by rw [numL_len]; omega), numL_len, List.getElem?_eq_getElem]
      rw [List.getElem?_eq_getElem hk] at hq
      injection hq with hq
      rw [hq, h3]
    have e3 : takeR ⟨b, false⟩ b.length = (b, ⟨[], false⟩) := by
      have := takeR_app b []; rwa [List.append_nil] at this
    unfold stepR
    simp only [e1, e2, hn, hd8, e3, hd4]
    rw [if_pos]
    right
    exact fun e => hne e.symm
  · -- the body
    have hd8 : G.drop 8 = b.set (k - 8) x := by
      rw [hG, List.drop_set, if_neg (by omega)]
      have : (numL b.length ++ numL (crc b)).length = 8 := rfl
      show ((numL b.length ++ numL (crc b) ++ b).drop 8).set (k - 8) x = _
      rw [← this, List.drop_left]
    have hd4 : (G.drop 4).take 4 = numL (crc b) := by
      rw [hG, List.drop_set, if_neg (by omega)]
      have h1 : (frameL crc b).drop 4 = numL (crc b) ++ b := by
        show (numL b.length ++ numL (crc b) ++ b).drop 4 = _
        rw [List.append_assoc]
        have : (numL b.length).length = 4 := rfl
        rw [← this, List.drop_left]
      rw [h1, List.set_append_right _ _ (by rw [numL_len]; omega)]
      exact List.take_left' (numL_len _)
    have e3 : takeR ⟨b.set (k - 8) x, false⟩ b.length = (b.set (k - 8) x, ⟨[], false⟩) := by
      have := takeR_app (b.set (k - 8) x) []
      rwa [List.append_nil, List.length_set] at this
    have e4 : numV (numL (crc b)) = crc b := by
      have := numV_numL (crc b) (hc.lt b) []
      rwa [List.append_nil] at this
    have hkb : k - 8 < b.length := by omega
    have hxb : x ≠ b[k - 8] := by
      intro e
      apply hx
      have hq : (frameL crc b)[k]? = some b[k - 8] := by
        unfold frameL
        have : (numL b.length ++ numL (crc b)).length = 8 := rfl
        rw [List.getElem?_append_right (by rw [this]; omega), this, List.getElem?_eq_getElem]
      rw [List.getElem?_eq_getElem hk] at hq
      injection hq with hq
      rw [hq, e]
    unfold stepR
    simp only [e1, e2, hn, hd8, e3, hd4, e4]
    rw [if_pos]
    right
    have h1 : b.set (k - 8) x = b.take (k - 8) ++ x :: b.drop (k - 8 + 1) := by rw [List.set_eq_take_append_cons_drop, if_pos hkb]
    have h2 : b = b.take (k - 8) ++ b[k - 8] :: b.drop (k - 8 + 1) := by
      conv => lhs; rw [← List.take_append_drop (k - 8) b, List.drop_eq_getElem_cons hkb]
    rw [h1]
    conv => rhs; rw [h2]
    exact hc.one _ _ _ _ hxb
end
end Go.Proofs.YtnhgfhbicaiilaaGreat.Book
/- The check of bytes: plain Lean. -/
namespace Go.Proofs.YtnhgfhbicaiilaaGreat.Book
open Go.RowKit
set_option linter.unusedVariables false

def poly : Nat := 2197175160
/-- one bit -/
def bit1 (x : Nat) : Nat := x / 2 ^^^ (if x % 2 = 1 then poly else 0)
def bit4 (x : Nat) : Nat := bit1 (bit1 (bit1 (bit1 x)))
/-- the table's entries -/
def tab (i : Nat) : Nat := bit4 i
/-- half a byte -/
def half (x : Nat) : Nat := x / 16 ^^^ tab (x &&& 15)
def crcStep (c : Nat) (b : UInt8) : Nat := half (half (c ^^^ b.toNat))
def not32 (x : Nat) : Nat := 4294967295 ^^^ x
def crcMore (sum : Nat) (l : List UInt8) : Nat := not32 (l.foldl crcStep (not32 sum))
def crcP (l : List UInt8) : Nat := crcMore 0 l
theorem xor_lt {a b : Nat} (n : Nat) (ha : a < 2 ^ n) (hb : b < 2 ^ n) : a ^^^ b < 2 ^ n := Nat.xor_lt_two_pow ha hb
theorem bit1_lt {x : Nat} (h : x < 4294967296) : bit1 x < 4294967296 := by
  unfold bit1
  have h1 : x / 2 < 2 ^ 32 := by omega
  split
  · exact xor_lt 32 h1 (by unfold poly; decide)
  · exact xor_lt 32 h1 (by decide)
theorem bit4_lt {x : Nat} (h : x < 4294967296) : bit4 x < 4294967296 := bit1_lt (bit1_lt (bit1_lt (bit1_lt h)))
theorem and15 (x : Nat) : x &&& 15 = x % 16 := Nat.and_two_pow_sub_one_eq_mod x 4
theorem half_lt {x : Nat} (h : x < 4294967296) : half x < 4294967296 := by
  unfold half tab
  have h1 : x / 16 < 2 ^ 32 := by omega
  exact xor_lt 32 h1 (bit4_lt (by rw [and15]; omega))
theorem crcStep_lt {c : Nat} (b : UInt8) (h : c < 4294967296) : crcStep c b < 4294967296 := by
  have := b.toNat_lt
  exact half_lt (half_lt (xor_lt 32 h (by omega)))
theorem fold_lt : ∀ (l : List UInt8) (c : Nat), c < 4294967296 → l.foldl crcStep c < 4294967296
  | [], _, h => h
  | b :: l, c, h => by rw [List.foldl_cons]; exact fold_lt l _ (crcStep_lt b h)
theorem not32_lt {x : Nat} (h : x < 4294967296) : not32 x < 4294967296 := xor_lt 32 (by decide) h
/-! a step can be gone back -/
theorem xor_cancel {a b c : Nat} (h : a ^^^ c = b ^^^ c) : a = b := by
  have := congrArg (· ^^^ c) h
  simpa [Nat.xor_assoc] using this
theorem div_xor (a b n : Nat) : (a ^^^ b) / 2 ^ n = a / 2 ^ n ^^^ b / 2 ^ n := by
  rw [← Nat.shiftRight_eq_div_pow, ← Nat.shiftRight_eq_div_pow, ← Nat.shiftRight_eq_div_pow, Nat.shiftRight_xor_distrib]
theorem tab_top : ∀ i, i < 16 → ∀ j, j < 16 → tab i / 2 ^ 28 = tab j / 2 ^ 28 → i = j := by decide +kernel
theorem half_inj {x y : Nat} (hx : x < 4294967296) (hy : y < 4294967296) (h : half x = half y) : x = y := by
  have h1 := congrArg (· / 2 ^ 28) h
  simp only [half] at h1
  rw [div_xor, div_xor] at h1
  have hx0 : x / 16 / 2 ^ 28 = 0 := by omega
  have hy0 : y / 16 / 2 ^ 28 = 0 := by omega
  rw [hx0, hy0, Nat.zero_xor, Nat.zero_xor] at h1
  have hm := tab_top _ (by rw [and15]; omega) _ (by rw [and15]; omega) h1
  unfold half at h
  rw [hm] at h
  have hq := xor_cancel h
  rw [and15, and15] at hm
  omega
theorem step_injc {c d : Nat} {b : UInt8} (hc : c < 4294967296) (hd : d < 4294967296) (h : crcStep c b = crcStep d b) : c = d := by
  have hb := b.toNat_lt
  have h1 : ∀ z, z < 4294967296 → z ^^^ b.toNat < 4294967296 := fun z hz => xor_lt 32 hz (by omega)
  exact xor_cancel (half_inj (h1 c hc) (h1 d hd) (half_inj (half_lt (h1 c hc)) (half_lt (h1 d hd)) h))
theorem step_injb {c : Nat} {a b : UInt8} (hc : c < 4294967296) (h : crcStep c a = crcStep c b) : a = b := by
  have ha := a.toNat_lt; have hb := b.toNat_lt
  have h1 : ∀ z, z < 256 → c ^^^ z < 4294967296 := fun z hz => xor_lt 32 hc (by omega)
  have h2 := half_inj (h1 _ (by omega)) (h1 _ (by omega)) (half_inj (half_lt (h1 _ (by omega))) (half_lt (h1 _ (by omega))) h)
  rw [Nat.xor_comm c, Nat.xor_comm c] at h2
  exact UInt8.toNat_inj.1 (xor_cancel h2)
theorem fold_inj : ∀ (l : List UInt8) {c d : Nat}, c < 4294967296 → d < 4294967296 → l.foldl crcStep c = l.foldl crcStep d → c = d
  | [], _, _, _, _, h => h
  | b :: l, c, d, hc, hd, h => step_injc hc hd (fold_inj l (crcStep_lt b hc) (crcStep_lt b hd) h)
theorem not32_inj {x y : Nat} (h : not32 x = not32 y) : x = y := by
  unfold not32 at h
  rw [Nat.xor_comm _ x, Nat.xor_comm _ y] at h
  exact xor_cancel h
theorem crcMore_lt (sum : Nat) (l : List UInt8) (h : sum < 4294967296) : crcMore sum l < 4294967296 := not32_lt (fold_lt l _ (not32_lt h))
theorem crcP_ok : CrcOk crcP := by
  refine ⟨fun s => crcMore_lt 0 s (by omega), fun A x y B hne h => hne ?_⟩
  have h0 : not32 0 < 4294967296 := not32_lt (by omega)
  have hA := fold_lt A (not32 0) h0
  have h1 : ∀ z, (A ++ z :: B).foldl crcStep (not32 0) = B.foldl crcStep (crcStep (A.foldl crcStep (not32 0)) z) := fun z => by rw [List.foldl_append, List.foldl_cons]
  have h2 := not32_inj h
  rw [h1, h1] at h2
  exact step_injb hA (fold_inj B (crcStep_lt x hA) (crcStep_lt y hA) h2)
/-! bit by bit is the same -/
theorem bit1_xor (x y : Nat) : bit1 (x ^^^ y) = bit1 x ^^^ bit1 y := by
  unfold bit1
  have hd : (x ^^^ y) / 2 = x / 2 ^^^ y / 2 := by have := div_xor x y 1; simpa using this
  have hm : (x ^^^ y) % 2 = (x % 2 + y % 2) % 2 := by
    have key : ∀ a : Nat, a % 2 = if Nat.testBit a 0 = true then 1 else 0 := fun a => by
      rw [Nat.testBit_zero]
      rcases Nat.mod_two_eq_zero_or_one a with h | h <;> rw [h] <;> rfl
    rw [key (x ^^^ y), key x, key y, Nat.testBit_xor]
    cases Nat.testBit x 0 <;> cases Nat.testBit y 0 <;> rfl
  rw [hd]
  rcases Nat.mod_two_eq_zero_or_one x with hx | hx <;> rcases Nat.mod_two_eq_zero_or_one y with hy | hy <;> rw [hm, hx, hy]
  · simp
  · simp [Nat.xor_assoc]
  · simp; rw [Nat.xor_assoc, Nat.xor_comm (y / 2), ← Nat.xor_assoc]
  · simp
    have e : x / 2 ^^^ poly ^^^ (y / 2 ^^^ poly) = x / 2 ^^^ y / 2 ^^^ (poly ^^^ poly) := by
      rw [Nat.xor_assoc, Nat.xor_assoc, ← Nat.xor_assoc poly, Nat.xor_comm poly (y / 2), Nat.xor_assoc (y / 2)]
    rw [e, Nat.xor_self, Nat.xor_zero]
theorem bit4_xor (x y : Nat) : bit4 (x ^^^ y) = bit4 x ^^^ bit4 y := by unfold bit4; rw [bit1_xor, bit1_xor, bit1_xor, bit1_xor]
theorem bit1_even (q : Nat) : bit1 (2 * q) = q := by
  unfold bit1
  rw [if_neg (by omega), Nat.xor_zero]; omega
theorem bit4_high (q : Nat) : bit4 (16 * q) = q := by
  unfold bit4
  rw [show 16 * q = 2 * (2 * (2 * (2 * q))) by omega, bit1_even, bit1_even, bit1_even, bit1_even]
theorem half_bit4 (x : Nat) : half x = bit4 x := by
  have hx : x = 16 * (x / 16) ^^^ (x &&& 15) := by
    rw [and15]
    have h1 : 16 * (x / 16) ^^^ x % 16 = 16 * (x / 16) + x % 16 := by
      have := Nat.two_pow_add_eq_or_of_lt (i := 4) (b := x % 16) (by omega) (x / 16)
      have h2 : (2 ^ 4 * (x / 16)) &&& (x % 16) = 0 := by
        apply Nat.eq_of_testBit_eq
        intro j
        rw [Nat.testBit_and, Nat.zero_testBit, Nat.testBit_two_pow_mul]
        by_cases hj : 4 ≤ j
        · have h16 : x % 16 < 2 ^ j := Nat.lt_of_lt_of_le (by omega : x % 16 < 2 ^ 4) (Nat.pow_le_pow_right (by omega) hj)
          rw [Nat.testBit_lt_two_pow h16]; simp
        · simp [hj]
      apply Nat.eq_of_testBit_eq
      intro j
      have e16 : (16 : Nat) = 2 ^ 4 := rfl
      rw [e16] at *
      rw [this, Nat.testBit_xor, Nat.testBit_or]
      have h3 := congrArg (fun z => Nat.testBit z j) h2
      simp only [Nat.testBit_and, Nat.zero_testBit] at h3
      cases ha : Nat.testBit (2 ^ 4 * (x / 2 ^ 4)) j <;> cases hb : Nat.testBit (x % 2 ^ 4) j <;> simp_all
    omega
  have : bit4 x = bit4 (16 * (x / 16) ^^^ (x &&& 15)) := congrArg bit4 hx
  rw [this, bit4_xor, bit4_high]
  rfl
end Go.Proofs.YtnhgfhbicaiilaaGreat.Book
/- The reader of bytes (layer 1), and numbers and texts as bytes. -/
namespace Go.Proofs.YtnhgfhbicaiilaaGreat
open Go.RowKit Book
set_option linter.unusedVariables false

def bx (l : List UInt8) : ByteArray := ⟨l.toArray⟩
theorem bx_size (l : List UInt8) : (bx l).size = l.length := by unfold bx; simp [ByteArray.size]
theorem bx_list (l : List UInt8) : (bx l).data.toList = l := by unfold bx; simp
theorem bx_back (s : ByteArray) : bx s.data.toList = s := ba_ext (bx_list _)
theorem bx_take (l : List UInt8) (n : Nat) (h : n ≤ l.length) : (bx l).extract 0 n = bx (l.take n) := by
  apply ba_ext
  rw [bx_list, ByteArray.data_extract, Array.toList_extract]
  unfold bx; simp
theorem bx_drop (l : List UInt8) (n : Nat) : (bx l).extract n (bx l).size = bx (l.drop n) := by
  apply ba_ext
  rw [bx_list, ByteArray.data_extract, Array.toList_extract, bx_size]
  unfold bx; simp [List.extract]
  exact List.take_of_length_le (by simp)
theorem bx_append (a b : List UInt8) : bx a ++ bx b = bx (a ++ b) := by
  apply ba_ext
  rw [bx_list, ByteArray.data_append, Array.toList_append]; unfold bx; simp
/-- a reader in memory -/
def RdAt (w : World) (b : Nat) (r : Rd) : Prop := Blk w b 122 #[.string (bx r.rest), .bool r.bad]
section
variable {w : World} {b : Nat} {r : Rd}
theorem RdAt.cells (h : RdAt w b r) : w.cell? ⟨b, 0, none⟩ = some (.string (bx r.rest)) ∧ w.cell? ⟨b, 1, none⟩ = some (.bool r.bad) := ⟨Blk.cell h 0, Blk.cell h 1⟩
theorem onew_any (s : ByteArray) (w : World) : Calls Tryz.prog 78 #[.string s] w fun e w' => e = .returned (.pointer (some ⟨w.heap.size, 0, none⟩)) ∧ RdAt w' w.heap.size (newR s.data.toList) ∧ Below w.heap.size w w' := by
  go_enter Tryz.func78, Tryz.ntmps78
  go_wp2
  go_ret
  refine ⟨rfl, ?_, (Below.refl _ _).alloc (Nat.le_refl _) _⟩
  have := Blk.new w 122 #[.string s, .bool false]
  unfold RdAt newR; rw [bx_back]; exact this
theorem obad_any (h : RdAt w b r) : Calls Tryz.prog 82 #[.pointer (some ⟨b, 0, none⟩)] w fun e w' => e = .returned (.bool r.bad) ∧ w = w' := by
  obtain ⟨-, c1⟩ := h.cells
  clear h
  go_enter Tryz.func82, Tryz.ntmps82
  go_wp2
  go_ret
  exact ⟨rfl, rfl⟩
theorem ospoil_any (h : RdAt w b r) : Calls Tryz.prog 103 #[.pointer (some ⟨b, 0, none⟩)] w fun e w' => e = .returned (.tuple #[]) ∧ RdAt w' b ⟨[], true⟩ ∧ Only (· = b) w w' := by
  obtain ⟨c0, c1⟩ := h.cells
  have f0 := Blk.frozen h 0
  have f1 := Blk.frozen h 1
  have HFIN : Hid (RdAt ((w.setCell ⟨b, 1, none⟩ (.bool true)).setCell ⟨b, 0, none⟩ (.string ⟨#[]⟩)) b ⟨[], true⟩ ∧ Only (· = b) w ((w.setCell ⟨b, 1, none⟩ (.bool true)).setCell ⟨b, 0, none⟩ (.string ⟨#[]⟩))) := by
    refine ⟨?_, ((Only.refl (· = b) w).setCell (p := ⟨b, 1, none⟩) (.inl rfl) _).setCell (p := ⟨b, 0, none⟩) (.inl rfl) _⟩
    have := (Blk.set h 1 (.bool true)).set 0 (.string ⟨#[]⟩)
    show Blk _ _ _ #[.string ⟨#[]⟩, .bool true]; simpa using this
  clear h
  go_enter Tryz.func103, Tryz.ntmps103
  go_wp2
  go_end0
  exact ⟨rfl, HFIN.out⟩
theorem oleft_any (h : RdAt w b r) : Calls Tryz.prog 122 #[.pointer (some ⟨b, 0, none⟩)] w fun e w' => e = .returned (.int .i64 r.rest.length) ∧ w = w' := by
  obtain ⟨c0, -⟩ := h.cells
  have e : (r.rest.length : Int) = ((bx r.rest).size : Int) := by rw [bx_size]
  rw [e]
  clear h e
  go_enter Tryz.func122, Tryz.ntmps122
  go_wp2
  go_ret
  exact ⟨rfl, rfl⟩
theorem owhole_any (h : RdAt w b r) : Calls Tryz.prog 105 #[.pointer (some ⟨b, 0, none⟩)] w fun e w' => e = .returned (.bool (wholeR r)) ∧ w = w' := by
  have HB := hid (obad_any h)
  have HL := hid (oleft_any h)
  obtain ⟨rest, bad⟩ := r
  cases bad
  · cases rest with
    | nil =>
      clear h
      go_enter Tryz.func105, Tryz.ntmps105
      go_wp2_with (first
        | (go_at_call 82; refine HB.out.mono ?_; rintro e w' ⟨rfl, rfl⟩)
        | (go_at_call 122; refine HL.out.mono ?_; rintro e w' ⟨rfl, rfl⟩))
      go_ret
      exact ⟨rfl, rfl⟩
    | cons x l =>
      have g : (((x :: l).length : Int) == 0) = false := by rw [beq_eq_false_iff_ne]; simp; omega
      obtain ⟨m, hm⟩ : ∃ m : Int, ((x :: l).length : Int) = m := ⟨_, rfl⟩
      simp only at HL
      rw [hm] at HL g
      clear h hm
      go_enter Tryz.func105, Tryz.ntmps105
      go_wp2_with (first
        | (go_at_call 82; refine HB.out.mono ?_; rintro e w' ⟨rfl, rfl⟩)
        | (go_at_call 122; refine HL.out.mono ?_; rintro e w' ⟨rfl, rfl⟩))
      go_ret
      exact ⟨rfl, rfl⟩
  · clear h
    go_enter Tryz.func105, Tryz.ntmps105
    go_wp2_with (go_at_call 82; refine HB.out.mono ?_; rintro e w' ⟨rfl, rfl⟩)
    go_ret
    exact ⟨rfl, rfl⟩
theorem otake_any (n : Nat) (h : RdAt w b r) (hr : r.rest.length ≤ 9223372036854775807) (hn : n ≤ 9223372036854775807) : Calls Tryz.prog 80 #[.pointer (some ⟨b, 0, none⟩), .int .i64 n] w fun e w' => e = .returned (.string (bx (takeR r n).1)) ∧ RdAt w' b (takeR r n).2 ∧ Only (· = b) w w' := by
  have HB := hid (obad_any h)
  have HS := hid (ospoil_any h)
  obtain ⟨c0, -⟩ := h.cells
  obtain ⟨rest, bad⟩ := r
  obtain ⟨y, hy⟩ : ∃ y, bx rest = y := ⟨_, rfl⟩
  have hyl : rest.length = y.size := by rw [← hy, bx_size]
  simp only [hy] at c0 hr
  rw [hyl] at hr
  by_cases hb : bad = true ∨ rest.length < n
  · have e : takeR ⟨rest, bad⟩ n = ([], ⟨[], true⟩) := by unfold takeR; exact if_pos hb
    rw [e]
    show Calls _ _ _ _ fun e w' => e = .returned (.string ⟨#[]⟩) ∧ _
    have hn0 : ¬ ((n : Int) < 0) := by omega
    cases bad
    · have hb' : (y.size : Int) < n := by rcases hb with h | h; cases h; omega
      clear h hb e hy hyl
      go_enter Tryz.func80, Tryz.ntmps80
      go_wp2_with (first
        | (go_at_call 82; refine HB.out.mono ?_; rintro e w' ⟨rfl, rfl⟩)
        | (go_at_call 103; refine HS.out.mono ?_; rintro e w' ⟨rfl, hs⟩; have HF := hid hs; clear hs))
      go_ret
      exact ⟨rfl, HF.out⟩
    · clear h hb e hy hyl
      go_enter Tryz.func80, Tryz.ntmps80
      go_wp2_with (first
        | (go_at_call 82; refine HB.out.mono ?_; rintro e w' ⟨rfl, rfl⟩)
        | (go_at_call 103; refine HS.out.mono ?_; rintro e w' ⟨rfl, hs⟩; have HF := hid hs; clear hs))
      go_ret
      exact ⟨rfl, HF.out⟩
  · have e : takeR ⟨rest, bad⟩ n = (rest.take n, ⟨rest.drop n, false⟩) := by unfold takeR; exact if_neg hb
    rw [e]
    have hb0 : bad = false := by cases bad; rfl; exact absurd (.inl rfl) hb
    subst hb0
    have hnl : n ≤ rest.length := by have : ¬ rest.length < n := fun h => hb (.inr h); omega
    have e1 : bx (rest.take n) = y.extract 0 n := by rw [← hy, bx_take _ _ hnl]
    have e2 : bx (rest.drop n) = y.extract n y.size := by rw [← hy, bx_drop]
    have f0 := Blk.frozen h 0
    have HFIN : Hid (RdAt (w.setCell ⟨b, 0, none⟩ (.string (y.extract n y.size))) b ⟨rest.drop n, false⟩ ∧ Only (· = b) w (w.setCell ⟨b, 0, none⟩ (.string (y.extract n y.size)))) := by
      refine ⟨?_, (Only.refl (· = b) w).setCell (p := ⟨b, 0, none⟩) (.inl rfl) _⟩
      have := Blk.set h 0 (.string (y.extract n y.size))
      unfold RdAt; rw [e2]; simpa using this
    rw [e1]
    have hn0 : ¬ ((n : Int) < 0) := by omega
    have hn1 : ¬ ((y.size : Int) < n) := by omega
    have hn2 : (n : Int) ≤ y.size := by omega
    have hn3 : (0 : Int) ≤ n := by omega
    clear h hb e hy hyl e1 e2 hnl
    go_enter Tryz.func80, Tryz.ntmps80
    go_wp2_with (first
      | (go_at_call 82; refine HB.out.mono ?_; rintro e w' ⟨rfl, rfl⟩))
    go_ret
    exact ⟨rfl, HFIN.out⟩
theorem takeR_four (r : Rd) : (takeR r 4).1 = [] ∨ ∃ a b c d, (takeR r 4).1 = [a, b, c, d] := by
  unfold takeR
  split
  · exact .inl rfl
  · rename_i h
    right
    have hl : (r.rest.take 4).length = 4 := by rw [List.length_take]; simp only [not_or] at h; omega
    match hq : r.rest.take 4, hl with
    | [a, b, c, d], _ => exact ⟨a, b, c, d, rfl⟩
/-- a text turned to bytes, as it lies -/
theorem bytesRow_cell (w : World) (y : ByteArray) (cap : Nat) (e : TypeId) (fz : Nat × Nat) (j : Nat) (hj : j < y.size) : ((w.alloc (.cells (bytesRow y cap) e fz)).drew).cell? ⟨w.heap.size, j, none⟩ = some (.int .u8 ((y.data.toList.getD j 0).toNat : Int)) := by
  have hj' : j < y.data.size := hj
  have h1 : ((w.alloc (.cells (bytesRow y cap) e fz)).drew).heap[w.heap.size]? = some (.cells (bytesRow y cap) e fz) := heap_alloc_new w _
  rw [cell_of_row _ _ j _ e fz h1, bytesRow_at y cap j hj']
  rw [List.getD_eq_getElem?_getD, List.getElem?_eq_getElem (by simpa using hj')]
  simp
theorem or_add (a b i m : Nat) (hm : 2 ^ i = m) (ha : a < m) (ht : a + m * b < 4294967296) : bits .or .u32 (a : Int) ((b : Int) * (m : Int)) = ((a + m * b : Nat) : Int) := by
  subst hm
  have e : ((b : Int) * ((2 ^ i : Nat) : Int)) = ((b * 2 ^ i : Nat) : Int) := (Int.natCast_mul _ _).symm
  rw [e, u32_or_nat a _ (by omega) (by rw [Nat.mul_comm]; omega), Nat.or_comm, Nat.mul_comm b, ← Nat.two_pow_add_eq_or_of_lt ha, Nat.add_comm]
def pre4 (a b c d : UInt8) (k : Nat) : Nat := if k = 0 then 0 else if k = 1 then a.toNat else if k = 2 then a.toNat + 256 * b.toNat else if k = 3 then a.toNat + 256 * b.toNat + 65536 * c.toNat else a.toNat + 256 * b.toNat + 65536 * c.toNat + 16777216 * d.toNat
set_option maxRecDepth 100000 in
set_option maxHeartbeats 4000000 in
theorem onum_any (h : RdAt w b r) (hr : r.rest.length ≤ 9223372036854775807) : Calls Tryz.prog 79 #[.pointer (some ⟨b, 0, none⟩)] w fun e w' => e = .returned (.int .u32 (numR r).1) ∧ RdAt w' b (numR r).2 ∧ Only (fun k => k = b) w w' := by
  have HT := hid (otake_any 4 h hr (by omega))
  unfold numR
  obtain ⟨r2, hr2⟩ : ∃ r2, (takeR r 4).2 = r2 := ⟨_, rfl⟩
  have hcv := fun w s => run_bytes_of_string (P := Tryz.prog) w 9 77 5 s Tryz.underlying9 Tryz.underlying77 Tryz.underlying5
  rcases takeR_four r with e | ⟨x0, x1, x2, x3, e⟩
  · rw [e, hr2] at HT
    rw [e, hr2]
    show Calls _ _ _ _ fun e w' => e = .returned (.int .u32 0) ∧ _
    obtain ⟨y, hy⟩ : ∃ y, bx [] = y := ⟨_, rfl⟩
    have hys : y.size = 0 := by rw [← hy]; rfl
    rw [hy] at HT
    clear h hr hr2 e hy
    go_enter Tryz.func79, Tryz.ntmps79
    go_wp2_with (go_at_call 80; refine HT.out.mono ?_; rintro e w' ⟨rfl, hs⟩; have HF := hid hs; clear hs)
    generalize grownCap w' 0 0 5 = cap
    have HW : Hid (RdAt ((w'.alloc (.cells (bytesRow y cap) 5 ((bytesRow y cap).size, (bytesRow y cap).size + 1))).drew) b r2 ∧ Only (fun k => k = b) w ((w'.alloc (.cells (bytesRow y cap) 5 ((bytesRow y cap).size, (bytesRow y cap).size + 1))).drew)) := ⟨Blk.drew (Blk.alloc HF.out.1 _), (HF.out.2.alloc _).drew⟩
    generalize ((w'.alloc (.cells (bytesRow y cap) 5 ((bytesRow y cap).size, (bytesRow y cap).size + 1))).drew) = w2 at HW ⊢
    go_loop [10, 3] (fun kv nv => kv = .int .i64 0 ∧ nv = .int .u32 0) (fun _ _ => 0)
    case atStart => exact ⟨rfl, rfl⟩
    case round =>
      obtain ⟨rfl, rfl⟩ := hrel
      go_wp2
      go_ret
      exact ⟨rfl, HW.out⟩
  · rw [e, hr2] at HT
    rw [e, hr2]
    obtain ⟨y, hy⟩ : ∃ y, bx [x0, x1, x2, x3] = y := ⟨_, rfl⟩
    have hys : y.size = 4 := by rw [← hy]; rfl
    have hyl : y.data.toList = [x0, x1, x2, x3] := by rw [← hy, bx_list]
    have HYL := hid hyl
    rw [hy] at HT
    clear h hr hr2 e hy hyl
    go_enter Tryz.func79, Tryz.ntmps79
    go_wp2_with (go_at_call 80; refine HT.out.mono ?_; rintro e w' ⟨rfl, hs⟩; have HF := hid hs; clear hs)
    generalize grownCap w' 4 0 5 = cap
    have hb : ∀ j, j < 4 → ((w'.alloc (.cells (bytesRow y cap) 5 ((bytesRow y cap).size, (bytesRow y cap).size + 1))).drew).cell? ⟨w'.heap.size, j, none⟩ = some (.int .u8 ((y.data.toList.getD j 0).toNat : Int)) := fun j hj => bytesRow_cell w' y cap _ _ j (by rw [hys]; exact hj)
    rw [HYL.out] at hb
    have c0 := hb 0 (by omega)
    have c1 := hb 1 (by omega)
    have c2 := hb 2 (by omega)
    have c3 := hb 3 (by omega)
    simp only [List.getD_cons_zero, List.getD_cons_succ] at c0 c1 c2 c3
    have HW : Hid (RdAt ((w'.alloc (.cells (bytesRow y cap) 5 ((bytesRow y cap).size, (bytesRow y cap).size + 1))).drew) b r2 ∧ Only (fun k => k = b) w ((w'.alloc (.cells (bytesRow y cap) 5 ((bytesRow y cap).size, (bytesRow y cap).size + 1))).drew)) := ⟨Blk.drew (Blk.alloc HF.out.1 _), (HF.out.2.alloc _).drew⟩
    clear hb
    generalize ((w'.alloc (.cells (bytesRow y cap) 5 ((bytesRow y cap).size, (bytesRow y cap).size + 1))).drew) = w2 at c0 c1 c2 c3 HW ⊢
    have t0 := x0.toNat_lt; have t1 := x1.toNat_lt; have t2 := x2.toNat_lt; have t3 := x3.toNat_lt
    go_loop [10, 3] (fun kv nv => ∃ k : Nat, k ≤ 4 ∧ kv = .int .i64 k ∧ nv = .int .u32 (pre4 x0 x1 x2 x3 k)) (fun kv _ => 4 - (intOf kv).toNat)
    case atStart => exact ⟨0, by omega, rfl, rfl⟩
    case round =>
      obtain ⟨k, hk, rfl, rfl⟩ := hrel
      obtain rfl | rfl | rfl | rfl | rfl : k = 0 ∨ k = 1 ∨ k = 2 ∨ k = 3 ∨ k = 4 := by omega
      · go_wp2
        go_roundw
        case rel => exact ⟨1, by omega, rfl, congrArg (Value.int .u32) ((u32_or_nat 0 x0.toNat (by omega) (by omega)).trans (congrArg Nat.cast (Nat.zero_or _)))⟩
        case measure => simp [intOf]
      · go_wp2
        go_roundw
        case rel => exact ⟨2, by omega, rfl, congrArg (Value.int .u32) (or_add x0.toNat x1.toNat 8 256 rfl (by omega) (by omega))⟩
        case measure => simp [intOf]
      · go_wp2
        go_roundw
        case rel => exact ⟨3, by omega, rfl, congrArg (Value.int .u32) (or_add (x0.toNat + 256 * x1.toNat) x2.toNat 16 65536 rfl (by omega) (by omega))⟩
        case measure => simp [intOf]
      · go_wp2
        go_roundw
        case rel => exact ⟨4, by omega, rfl, congrArg (Value.int .u32) (or_add (x0.toNat + 256 * x1.toNat + 65536 * x2.toNat) x3.toNat 24 16777216 rfl (by omega) (by omega))⟩
        case measure => simp [intOf]
      · go_wp2
        go_ret
        exact ⟨rfl, HW.out⟩
end
end Go.Proofs.YtnhgfhbicaiilaaGreat
/- Texts read; numbers and texts as bytes. -/
namespace Go.Proofs.YtnhgfhbicaiilaaGreat
open Go.RowKit Book
set_option linter.unusedVariables false

section
variable {w : World} {b : Nat} {r : Rd}
theorem takeR_rest (r : Rd) (n : Nat) : (takeR r n).2.rest.length ≤ r.rest.length := by unfold takeR; split <;> simp
theorem otext_any (most : Nat) (hm : most ≤ 1000000) (h : RdAt w b r) (hr : r.rest.length ≤ 9223372036854775807) : Calls Tryz.prog 104 #[.pointer (some ⟨b, 0, none⟩), .int .i64 most] w fun e w' => e = .returned (.string (bx (textR r most).1)) ∧ RdAt w' b (textR r most).2 ∧ Only (fun k => k = b) w w' := by
  have HN := hid (onum_any h hr)
  have hn32 : (numR r).1 < 4294967296 := numV_lt _
  have hrl : (numR r).2.rest.length ≤ 9223372036854775807 := Nat.le_trans (takeR_rest r 4) hr
  unfold textR
  obtain ⟨n, hn⟩ : ∃ n, (numR r).1 = n := ⟨_, rfl⟩
  obtain ⟨r2, hr2⟩ : ∃ r2, (numR r).2 = r2 := ⟨_, rfl⟩
  rw [hn, hr2] at HN
  rw [hn, hr2]
  rw [hn] at hn32; rw [hr2] at hrl
  have ew : IntKind.i64.wrap (n : Int) = n := by rw [IntKind.wrap_i64]; omega
  by_cases hgt : most < n
  · rw [if_pos hgt]
    have g : (most : Int) < n := by omega
    have HT : Hid (∀ w', RdAt w' b ⟨[], true⟩ → Calls Tryz.prog 80 #[.pointer (some ⟨b, 0, none⟩), .int .i64 n] w' fun e w'' => e = .returned (.string (bx (takeR ⟨[], true⟩ n).1)) ∧ RdAt w'' b (takeR ⟨[], true⟩ n).2 ∧ Only (· = b) w' w'') := fun w' h' => otake_any n h' (by simp) (by omega)
    clear h hr hn hr2 hgt
    go_enter Tryz.func104, Tryz.ntmps104
    go_wp2_with (first
      | (go_at_call 79; refine HN.out.mono ?_; rintro e w1 ⟨rfl, hs⟩; have H1 := hid hs; clear hs)
      | (go_at_call 103; refine (ospoil_any H1.out.1).mono ?_; rintro e w2 ⟨rfl, hs⟩; have H2 := hid hs; clear hs)
      | (go_at_call 80; refine (HT.out _ H2.out.1).mono ?_; rintro e w3 ⟨rfl, hs⟩; have H3 := hid hs; clear hs))
    go_ret
    exact ⟨rfl, H3.out.1, H1.out.2.then (H2.out.2.then H3.out.2)⟩
  · rw [if_neg hgt]
    have g : ¬ (most : Int) < n := by omega
    have HT : Hid (∀ w', RdAt w' b r2 → Calls Tryz.prog 80 #[.pointer (some ⟨b, 0, none⟩), .int .i64 n] w' fun e w'' => e = .returned (.string (bx (takeR r2 n).1)) ∧ RdAt w'' b (takeR r2 n).2 ∧ Only (· = b) w' w'') := fun w' h' => otake_any n h' hrl (by omega)
    clear h hr hn hr2 hgt hrl
    go_enter Tryz.func104, Tryz.ntmps104
    go_wp2_with (first
      | (go_at_call 79; refine HN.out.mono ?_; rintro e w1 ⟨rfl, hs⟩; have H1 := hid hs; clear hs)
      | (go_at_call 80; refine (HT.out _ H1.out.1).mono ?_; rintro e w3 ⟨rfl, hs⟩; have H3 := hid hs; clear hs))
    go_ret
    exact ⟨rfl, H3.out.1, H1.out.2.then H3.out.2⟩
def arr4 (n k : Nat) : Array Value := #[.int .u8 (if 0 < k then (n : Int) % 256 else 0), .int .u8 (if 1 < k then (n : Int) / 256 % 256 else 0), .int .u8 (if 2 < k then (n : Int) / 65536 % 256 else 0), .int .u8 (if 3 < k then (n : Int) / 16777216 else 0)]
set_option maxRecDepth 100000 in
set_option maxHeartbeats 4000000 in
theorem onumw_any (n : Nat) (hn : n < 4294967296) (w : World) : Calls Tryz.prog 111 #[.int .u32 n] w fun e w' => e = .returned (.string (bx (numL n))) ∧ Below w.heap.size w w' := by
  go_enter Tryz.func111, Tryz.ntmps111
  go_wp2
  go_loopw [5] (fun kv wr => ∃ k : Nat, k ≤ 4 ∧ kv = .int .i64 k ∧ wr = w.alloc (.cells (arr4 n k) 141)) (fun kv _ => 4 - (intOf kv).toNat)
  case atStart => exact ⟨0, by omega, rfl, rfl⟩
  case round =>
    obtain ⟨k, hk, rfl, rfl⟩ := hrel
    obtain rfl | rfl | rfl | rfl | rfl : k = 0 ∨ k = 1 ∨ k = 2 ∨ k = 3 ∨ k = 4 := by omega
    · simp only [arr4]
      go_wp2
      go_roundw
      case rel => exact ⟨1, by omega, rfl, rfl⟩
      case measure => simp [intOf]
    · simp only [arr4]
      go_wp2
      go_roundw
      case rel => exact ⟨2, by omega, rfl, rfl⟩
      case measure => simp [intOf]
    · simp only [arr4]
      go_wp2
      go_roundw
      case rel => exact ⟨3, by omega, rfl, rfl⟩
      case measure => simp [intOf]
    · simp only [arr4]
      go_wp2
      go_roundw
      case rel => exact ⟨4, by omega, rfl, rfl⟩
      case measure => simp [intOf]
    · have hconv : (convert 77 9 (.slice (some ⟨w.heap.size, 0, none⟩) 4 4)).run Tryz.prog (w.alloc (.cells #[.int .u8 ((n : Int) % 256), .int .u8 ((n : Int) / 256 % 256), .int .u8 ((n : Int) / 65536 % 256), .int .u8 ((n : Int) / 16777216)] 141)) = .ok (.string (bx (numL n))) (w.alloc (.cells #[.int .u8 ((n : Int) % 256), .int .u8 ((n : Int) / 256 % 256), .int .u8 ((n : Int) / 65536 % 256), .int .u8 ((n : Int) / 16777216)] 141)) := by
        have hb := Blk.new w 141 #[.int .u8 ((n : Int) % 256), .int .u8 ((n : Int) / 256 % 256), .int .u8 ((n : Int) / 65536 % 256), .int .u8 ((n : Int) / 16777216)]
        refine run_convert_bytes_back _ _ _ _ _ 4 (numL n) Tryz.underlying77 Tryz.underlying5 Tryz.underlying9 ?_
        intro j hj
        have hj4 : j < 4 := hj
        have ha : (⟨w.heap.size, 0, none⟩ : Addr).add j = ⟨w.heap.size, j, none⟩ := by unfold Addr.add; split <;> simp_all
        rw [ha, hb.cell]
        obtain rfl | rfl | rfl | rfl : j = 0 ∨ j = 1 ∨ j = 2 ∨ j = 3 := by omega
        · show some (Value.int .u8 ((n : Int) % 256)) = some (.int .u8 (((UInt8.ofNat n).toNat : Nat) : Int)); rw [UInt8.toNat_ofNat']; rfl
        · show some (Value.int .u8 ((n : Int) / 256 % 256)) = some (.int .u8 (((UInt8.ofNat (n / 256)).toNat : Nat) : Int)); rw [UInt8.toNat_ofNat']; rfl
        · show some (Value.int .u8 ((n : Int) / 65536 % 256)) = some (.int .u8 (((UInt8.ofNat (n / 65536)).toNat : Nat) : Int)); rw [UInt8.toNat_ofNat']; rfl
        · show some (Value.int .u8 ((n : Int) / 16777216)) = some (.int .u8 (((UInt8.ofNat (n / 16777216)).toNat : Nat) : Int)); rw [UInt8.toNat_ofNat', Nat.mod_eq_of_lt (by omega)]; rfl
      simp only [arr4]
      go_wp2
      go_ret
      exact ⟨rfl, (Below.refl _ _).alloc (Nat.le_refl _) _⟩
theorem otextw_any (s : ByteArray) (hs : s.size ≤ 2147483648) (w : World) : Calls Tryz.prog 112 #[.string s] w fun e w' => e = .returned (.string (bx (textL s.data.toList))) ∧ Below w.heap.size w w' := by
  have HN := hid (onumw_any s.size (by omega) w)
  have hl : s.data.toList.length = s.size := by rw [Array.length_toList]; rfl
  have HR : Hid (bx (numL s.size) ++ s = bx (textL s.data.toList)) := by
    show bx (numL s.size) ++ s = bx (textL s.data.toList)
    conv => lhs; rw [← bx_back s, bx_append]
    unfold textL; rw [hl, bx_back]
  have ew : IntKind.u32.wrap (s.size : Int) = s.size := by rw [IntKind.wrap_u32]; omega
  obtain ⟨y, hy⟩ : ∃ y, bx (numL s.size) = y := ⟨_, rfl⟩
  have hys : y.size ≤ 4 := by rw [← hy]; exact Nat.le_of_eq (bx_size _)
  rw [hy] at HN HR
  have hcat : ¬ 9223372036854775807 < y.size + s.size := by omega
  rw [← HR.out]
  clear hl hy
  go_enter Tryz.func112, Tryz.ntmps112
  go_wp2_with (go_at_call 111; refine HN.out.mono ?_; rintro e w1 ⟨rfl, hs⟩; have H1 := hid hs; clear hs)
  go_ret
  exact ⟨rfl, H1.out⟩
end
end Go.Proofs.YtnhgfhbicaiilaaGreat
/- The check's table and the check, walked. -/
namespace Go.Proofs.YtnhgfhbicaiilaaGreat
open Go.RowKit Book
set_option linter.unusedVariables false

def tarr (k : Nat) : Array Value := ((List.range 16).map fun j => Value.int .u32 (if j < k then (tab j : Int) else 0)).toArray
theorem tarr_size (k : Nat) : (tarr k).size = 16 := by simp [tarr]
theorem tarr_get (k j : Nat) (hj : j < 16) : (tarr k)[j]? = some (.int .u32 (if j < k then (tab j : Int) else 0)) := by
  unfold tarr
  rw [List.getElem?_toArray, List.getElem?_map, List.getElem?_range hj]; rfl
theorem tarr_set (k : Nat) (hk : k < 16) : (tarr k).setIfInBounds k (.int .u32 (tab k : Int)) = tarr (k + 1) := by
  apply Array.ext_getElem?
  intro j
  rw [Array.getElem?_setIfInBounds]
  by_cases hj : j < 16
  · rw [tarr_get (k + 1) j hj]
    by_cases e : k = j
    · subst e; rw [if_pos rfl, if_pos (by rw [tarr_size]; exact hk), if_pos (by omega)]
    · rw [if_neg e, tarr_get k j hj]
      congr 2
      by_cases h1 : j < k
      · rw [if_pos h1, if_pos (by omega)]
      · rw [if_neg h1, if_neg (by omega)]
  · rw [if_neg (by omega), Array.getElem?_eq_none (by rw [tarr_size]; omega), Array.getElem?_eq_none (by rw [tarr_size]; omega)]
theorem tarr_one (k : Nat) : (tarr k).all (·.oneCell') = true := by
  rw [Array.all_eq_true_iff_forall_mem]
  intro x hx
  unfold tarr at hx
  simp only [List.mem_toArray, List.mem_map] at hx
  obtain ⟨j, -, rfl⟩ := hx
  rfl
def bitN : Nat → Nat → Nat
  | 0, x => x
  | n + 1, x => bit1 (bitN n x)
theorem bitN_lt : ∀ (n x : Nat), x < 4294967296 → bitN n x < 4294967296
  | 0, _, h => h
  | n + 1, x, h => bit1_lt (bitN_lt n x h)
theorem bit1_go (c : Nat) (hc : c < 4294967296) : bits .xor .u32 ((c : Int) / 2) (2197175160 * bits .and .u32 (c : Int) 1 % 4294967296) = (bit1 c : Int) := by
  have h1 : bits .and .u32 (c : Int) 1 = ((c &&& 1 : Nat) : Int) := u32_and_nat c 1 hc (by omega)
  have h2 : c &&& 1 = c % 2 := Nat.and_one_is_mod c
  rw [h1, h2]
  unfold bit1
  have h3 : ((c : Int) / 2) = ((c / 2 : Nat) : Int) := rfl
  rcases Nat.mod_two_eq_zero_or_one c with h | h
  · rw [h, if_neg (by omega)]
    have : (2197175160 * ((0 : Nat) : Int)) % 4294967296 = ((0 : Nat) : Int) := by decide
    rw [this, h3, u32_xor_nat _ _ (by omega) (by omega)]
  · rw [h, if_pos rfl]
    have : (2197175160 * ((1 : Nat) : Int)) % 4294967296 = ((poly : Nat) : Int) := by decide
    rw [this, h3, u32_xor_nat _ _ (by omega) (by unfold poly; omega)]
set_option maxRecDepth 100000 in
set_option maxHeartbeats 4000000 in
theorem crctable_any (w : World) : Calls Tryz.prog 123 #[] w fun e w' => e = .returned (.agg (tarr 16)) ∧ Below w.heap.size w w' := by
  have hz : tarr 0 = #[.int .u32 0, .int .u32 0, .int .u32 0, .int .u32 0, .int .u32 0, .int .u32 0, .int .u32 0, .int .u32 0, .int .u32 0, .int .u32 0, .int .u32 0, .int .u32 0, .int .u32 0, .int .u32 0, .int .u32 0, .int .u32 0] := rfl
  have HZ := hid hz
  clear hz
  obtain ⟨g, hg⟩ : ∃ g, w.heap.size = g := ⟨_, rfl⟩
  have HG := hid hg
  rw [hg]; clear hg
  go_enter Tryz.func123, Tryz.ntmps123
  go_wp2
  rw [HG.out]
  go_loopw [3] (fun iv wr => ∃ i : Nat, i ≤ 16 ∧ iv = .int .i64 i ∧ Hid (Blk wr g 139 (tarr i)) ∧ Hid (Below g w wr)) (fun iv _ => 16 - (intOf iv).toNat)
  case atStart =>
    refine ⟨0, by omega, rfl, ?_, (Below.refl _ _).alloc (Nat.le_of_eq HG.out.symm) _⟩
    have := Blk.new w 139 (tarr 0)
    rw [HG.out, HZ.out] at this
    show Blk _ _ _ (tarr 0)
    rw [HZ.out]; exact this
  case round =>
    obtain ⟨i, hi, rfl, HB, HL⟩ := hrel
    by_cases hlt : i < 16
    · have ci : (i : Int) < 16 := by omega
      have ci0 : (0 : Int) ≤ (i : Int) := by omega
      have ew : IntKind.u32.wrap (i : Int) = i := by rw [IntKind.wrap_u32]; omega
      have fz : wr.frozen? ⟨g, i, none⟩ = false := Blk.frozen HB.out i
      have cc : wr.cell? ⟨g, i, none⟩ = some (.int .u32 0) := by
        have := Blk.cell HB.out i
        rw [tarr_get i i hlt, if_neg (by omega)] at this; exact this
      go_wp2
      go_loop [8, 2] (fun jv cv => ∃ j : Nat, j ≤ 4 ∧ jv = .int .i64 j ∧ cv = .int .u32 (bitN j i)) (fun jv _ => 4 - (intOf jv).toNat)
      case atStart => exact ⟨0, by omega, rfl, rfl⟩
      case round =>
        obtain ⟨j, hj, rfl, rfl⟩ := hrel
        have hc := bitN_lt j i (by omega)
        by_cases hjlt : j < 4
        · have cj : (j : Int) < 4 := by omega
          have HE : Hid (bit1 (bitN j i) = bitN (j + 1) i) := rfl
          have hb := bit1_go (bitN j i) hc
          obtain ⟨c, hcc⟩ : ∃ c, bitN j i = c := ⟨_, rfl⟩
          rw [hcc] at hc HE hb ⊢
          have HBB := hid hb
          clear hcc hb
          go_wp2
          go_round
          case rel => exact ⟨j + 1, by omega, by go_num, congrArg (Value.int .u32) (HBB.out.trans (congrArg Nat.cast HE.out))⟩
          case measure => simp [intOf]; omega
        · obtain rfl : j = 4 := by omega
          have HE : Hid (bitN 4 i = tab i) := rfl
          rw [HE.out]
          obtain ⟨tv, htv⟩ : ∃ tv, tab i = tv := ⟨_, rfl⟩
          have HTV := hid htv
          rw [htv]
          clear htv hc
          go_wp2
          go_roundw
          case rel =>
            refine ⟨i + 1, by omega, by go_num, ?_, HL.out.setCell (p := ⟨g, i, none⟩) (Nat.le_refl _) _⟩
            have := Blk.set HB.out i (.int .u32 (tv : Int))
            rw [← HTV.out, tarr_set i hlt, HTV.out] at this
            exact this
          case measure => simp [intOf]; omega
    · obtain rfl : i = 16 := by omega
      have hi0 : (Tryz.prog.info? 139).map (·.size) = some (tarr 16).size := by rw [tarr_size]; kernel_rfl
      have hbl : wr.heap[g]? = some (.cells (tarr 16) 139 (0, 0)) := HB.out
      have hself : wr.setRow g (tarr 16) = wr := setRow_self wr g _ _ _ hbl
      have hrun := run_loadVar_row (P := Tryz.prog) wr g 139 139 (tarr 16) (0, 0) _ hbl Tryz.underlying139 rfl hi0
      have HI := hid hi0; have HBL := hid hbl; have HSF := hid hself; have HRUN := hid hrun
      clear hi0 hbl hself hrun
      go_wp2_with (first
        | (refine wpList_load_row rfl _ (.tmp 0) rfl g rfl _ _ _ _ HBL.out Tryz.underlying139 rfl HI.out ?_)
        | (refine wpList_store_row rfl _ (.tmp 0) (.tmp 21) rfl g (tarr 16) rfl rfl _ _ HBL.out HI.out rfl (tarr_one 16) ?_; rw [HSF.out]))
      have c0 : wr.cell? ⟨g, 0, none⟩ = some (.int .u32 (tab 0 : Int)) := (Blk.cell HB.out 0).trans rfl
      have c1 : wr.cell? ⟨g, 1, none⟩ = some (.int .u32 (tab 1 : Int)) := (Blk.cell HB.out 1).trans rfl
      have c2 : wr.cell? ⟨g, 2, none⟩ = some (.int .u32 (tab 2 : Int)) := (Blk.cell HB.out 2).trans rfl
      have c3 : wr.cell? ⟨g, 3, none⟩ = some (.int .u32 (tab 3 : Int)) := (Blk.cell HB.out 3).trans rfl
      have c4 : wr.cell? ⟨g, 4, none⟩ = some (.int .u32 (tab 4 : Int)) := (Blk.cell HB.out 4).trans rfl
      have c5 : wr.cell? ⟨g, 5, none⟩ = some (.int .u32 (tab 5 : Int)) := (Blk.cell HB.out 5).trans rfl
      have c6 : wr.cell? ⟨g, 6, none⟩ = some (.int .u32 (tab 6 : Int)) := (Blk.cell HB.out 6).trans rfl
      have c7 : wr.cell? ⟨g, 7, none⟩ = some (.int .u32 (tab 7 : Int)) := (Blk.cell HB.out 7).trans rfl
      have c8 : wr.cell? ⟨g, 8, none⟩ = some (.int .u32 (tab 8 : Int)) := (Blk.cell HB.out 8).trans rfl
      have c9 : wr.cell? ⟨g, 9, none⟩ = some (.int .u32 (tab 9 : Int)) := (Blk.cell HB.out 9).trans rfl
      have c10 : wr.cell? ⟨g, 10, none⟩ = some (.int .u32 (tab 10 : Int)) := (Blk.cell HB.out 10).trans rfl
      have c11 : wr.cell? ⟨g, 11, none⟩ = some (.int .u32 (tab 11 : Int)) := (Blk.cell HB.out 11).trans rfl
      have c12 : wr.cell? ⟨g, 12, none⟩ = some (.int .u32 (tab 12 : Int)) := (Blk.cell HB.out 12).trans rfl
      have c13 : wr.cell? ⟨g, 13, none⟩ = some (.int .u32 (tab 13 : Int)) := (Blk.cell HB.out 13).trans rfl
      have c14 : wr.cell? ⟨g, 14, none⟩ = some (.int .u32 (tab 14 : Int)) := (Blk.cell HB.out 14).trans rfl
      have c15 : wr.cell? ⟨g, 15, none⟩ = some (.int .u32 (tab 15 : Int)) := (Blk.cell HB.out 15).trans rfl
      rw [show tarr 16 = #[.int .u32 (tab 0 : Int), .int .u32 (tab 1 : Int), .int .u32 (tab 2 : Int), .int .u32 (tab 3 : Int), .int .u32 (tab 4 : Int), .int .u32 (tab 5 : Int), .int .u32 (tab 6 : Int), .int .u32 (tab 7 : Int), .int .u32 (tab 8 : Int), .int .u32 (tab 9 : Int), .int .u32 (tab 10 : Int), .int .u32 (tab 11 : Int), .int .u32 (tab 12 : Int), .int .u32 (tab 13 : Int), .int .u32 (tab 14 : Int), .int .u32 (tab 15 : Int)] from rfl]
      exact bodyPost_ret (v := .agg #[.int .u32 (tab 0 : Int), .int .u32 (tab 1 : Int), .int .u32 (tab 2 : Int), .int .u32 (tab 3 : Int), .int .u32 (tab 4 : Int), .int .u32 (tab 5 : Int), .int .u32 (tab 6 : Int), .int .u32 (tab 7 : Int), .int .u32 (tab 8 : Int), .int .u32 (tab 9 : Int), .int .u32 (tab 10 : Int), .int .u32 (tab 11 : Int), .int .u32 (tab 12 : Int), .int .u32 (tab 13 : Int), .int .u32 (tab 14 : Int), .int .u32 (tab 15 : Int)]) (by simp [results, Tryz.results123, go_sem, c0, c1, c2, c3, c4, c5, c6, c7, c8, c9, c10, c11, c12, c13, c14, c15]) rfl ⟨rfl, HL.out⟩
end Go.Proofs.YtnhgfhbicaiilaaGreat
/- The check of bytes, walked. -/
namespace Go.Proofs.YtnhgfhbicaiilaaGreat
open Go.RowKit Book
set_option linter.unusedVariables false

theorem half_go (d : Nat) (hd : d < 4294967296) : bits .and .u32 (d : Int) 15 = ((d &&& 15 : Nat) : Int) ∧ bits .xor .u32 ((d : Int) / 16) (tab (d &&& 15) : Int) = (half d : Int) := by
  refine ⟨u32_and_nat d 15 hd (by omega), ?_⟩
  have h3 : ((d : Int) / 16) = ((d / 16 : Nat) : Int) := rfl
  have ht : tab (d &&& 15) < 4294967296 := bit4_lt (by rw [and15]; omega)
  rw [h3, u32_xor_nat _ _ (by omega) ht]
  rfl
set_option maxRecDepth 100000 in
set_option maxHeartbeats 4000000 in
theorem crcmore_any (sum : Nat) (s : ByteArray) (w : World) (hsum : sum < 4294967296) (hs : s.size ≤ 9223372036854775807) : Calls Tryz.prog 106 #[.int .u32 sum, .string s] w fun e w' => e = .returned (.int .u32 (crcMore sum s.data.toList)) ∧ Below w.heap.size w w' := by
  have hcv := fun w s => run_bytes_of_string (P := Tryz.prog) w 9 77 5 s Tryz.underlying9 Tryz.underlying77 Tryz.underlying5
  have HI : Hid ((Tryz.prog.info? 139).map (·.size) = some (tarr 16).size) := by show _ = _; rw [tarr_size]; kernel_rfl
  have hn : bits .xor .u32 IntKind.u32.max (sum : Int) = ((not32 sum : Nat) : Int) := u32_xor_nat 4294967295 sum (by omega) hsum
  have HN := hid hn
  have hc0 := not32_lt hsum
  obtain ⟨c0, hcc⟩ : ∃ c0, not32 sum = c0 := ⟨_, rfl⟩
  rw [hcc] at hn hc0
  have HCC := hid hcc
  clear hcc
  go_enter Tryz.func106, Tryz.ntmps106
  go_wp2_with (first
    | (go_at_call 123; refine (crctable_any _).mono ?_; rintro e w1 ⟨rfl, hb⟩; have HB1 := hid hb; clear hb)
    | (refine wpList_store_row rfl _ (.tmp 5) (.tmp 9) rfl w1.heap.size (tarr 16) rfl rfl _ _ (heap_alloc_new w1 _) HI.out rfl (tarr_one 16) ?_))
  generalize hW2 : World.setRow _ _ (tarr 16) = w2
  have HBT : Hid (Blk w2 w1.heap.size 139 (tarr 16)) := by rw [← hW2]; exact setRow_heap _ _ _ _ _ _ (heap_alloc_new w1 _)
  have HBL : Hid (Below w1.heap.size w1 w2) := by rw [← hW2]; exact below_setRow ((Below.refl _ _).alloc (Nat.le_refl _) _) (Nat.le_refl _) _
  have hsz : w1.heap.size + 1 = w2.heap.size := by rw [← hW2]; simp
  have HSZ := hid hsz
  generalize grownCap w2 s.size 0 5 = cap
  have hb : ∀ j, j < s.size → ((w2.alloc (.cells (bytesRow s cap) 5 ((bytesRow s cap).size, (bytesRow s cap).size + 1))).drew).cell? ⟨w2.heap.size, j, none⟩ = some (.int .u8 ((s.data.toList.getD j 0).toNat : Int)) := fun j hj => bytesRow_cell w2 s cap _ _ j hj
  have HBX : Hid (Blk ((w2.alloc (.cells (bytesRow s cap) 5 ((bytesRow s cap).size, (bytesRow s cap).size + 1))).drew) w1.heap.size 139 (tarr 16)) := Blk.drew (Blk.alloc HBT.out _)
  have HBEL : Hid (Below w.heap.size w ((w2.alloc (.cells (bytesRow s cap) 5 ((bytesRow s cap).size, (bytesRow s cap).size + 1))).drew)) := ((HB1.out.trans (HBL.out.mono HB1.out.size)).alloc (Nat.le_trans HB1.out.size HBL.out.size) _).drew
  rw [hsz] at *
  generalize ((w2.alloc (.cells (bytesRow s cap) 5 ((bytesRow s cap).size, (bytesRow s cap).size + 1))).drew) = w3 at hb HBX HBEL ⊢
  have HB := hid hb
  clear hb hW2
  have hlen : s.data.toList.length = s.size := by rw [Array.length_toList]; rfl
  have HLEN := hid hlen
  clear hlen
  go_loop [15, 6] (fun kv cv => ∃ k : Nat, k ≤ s.size ∧ kv = .int .i64 k ∧ cv = .int .u32 (((s.data.toList.take k).foldl crcStep c0 : Nat) : Int)) (fun kv _ => s.size - (intOf kv).toNat)
  case atStart => exact ⟨0, by omega, rfl, rfl⟩
  case round =>
    obtain ⟨k, hk, rfl, rfl⟩ := hrel
    by_cases hlt : k < s.size
    · have ck : (k : Int) < s.size := by omega
      have ck0 : (0 : Int) ≤ (k : Int) := by omega
      have hbc := HB.out k hlt
      obtain ⟨b, hbb⟩ : ∃ b, s.data.toList.getD k 0 = b := ⟨_, rfl⟩
      rw [hbb] at hbc
      have HE : Hid ((s.data.toList.take (k + 1)).foldl crcStep c0 = crcStep ((s.data.toList.take k).foldl crcStep c0) b) := by
        show _ = _
        have hkl : k < s.data.toList.length := by rw [HLEN.out]; exact hlt
        rw [List.take_succ_eq_append_getElem hkl, List.foldl_append]
        have : s.data.toList[k] = b := by rw [← hbb, List.getD_eq_getElem?_getD, List.getElem?_eq_getElem hkl]; rfl
        rw [this]; rfl
      have hc := fold_lt (s.data.toList.take k) c0 hc0
      obtain ⟨c, hcd⟩ : ∃ c, (s.data.toList.take k).foldl crcStep c0 = c := ⟨_, rfl⟩
      rw [hcd] at hc HE ⊢
      have hbl := b.toNat_lt
      have hd : c ^^^ b.toNat < 4294967296 := xor_lt 32 hc (by omega)
      have e1 : bits .xor .u32 (c : Int) (b.toNat : Int) = ((c ^^^ b.toNat : Nat) : Int) := u32_xor_nat c b.toNat hc (by omega)
      obtain ⟨e2, e3⟩ := half_go (c ^^^ b.toNat) hd
      have hh := half_lt hd
      obtain ⟨e4, e5⟩ := half_go (half (c ^^^ b.toNat)) hh
      have hq1 : (c ^^^ b.toNat) &&& 15 < 16 := by rw [and15]; omega
      have hq2 : half (c ^^^ b.toNat) &&& 15 < 16 := by rw [and15]; omega
      have t1 : w3.cell? ⟨w1.heap.size, (c ^^^ b.toNat) &&& 15, none⟩ = some (.int .u32 (tab ((c ^^^ b.toNat) &&& 15) : Int)) := by
        have := Blk.cell HBX.out ((c ^^^ b.toNat) &&& 15)
        rw [tarr_get 16 _ hq1, if_pos hq1] at this; exact this
      have t2 : w3.cell? ⟨w1.heap.size, half (c ^^^ b.toNat) &&& 15, none⟩ = some (.int .u32 (tab (half (c ^^^ b.toNat) &&& 15) : Int)) := by
        have := Blk.cell HBX.out (half (c ^^^ b.toNat) &&& 15)
        rw [tarr_get 16 _ hq2, if_pos hq2] at this; exact this
      have hF : half (half (c ^^^ b.toNat)) = crcStep c b := rfl
      obtain ⟨d, hdd⟩ : ∃ d, c ^^^ b.toNat = d := ⟨_, rfl⟩
      rw [hdd] at hd e1 e2 e3 hh e4 e5 hq1 hq2 t1 t2 hF
      obtain ⟨h, hhh⟩ : ∃ h, half d = h := ⟨_, rfl⟩
      rw [hhh] at e3 hh e4 e5 hq2 t2 hF
      obtain ⟨r, hrr⟩ : ∃ r, half h = r := ⟨_, rfl⟩
      rw [hrr] at e5 hF
      obtain ⟨q1, hqq1⟩ : ∃ q, d &&& 15 = q := ⟨_, rfl⟩
      obtain ⟨q2, hqq2⟩ : ∃ q, h &&& 15 = q := ⟨_, rfl⟩
      rw [hqq1] at e2 e3 hq1 t1
      rw [hqq2] at e4 e5 hq2 t2
      obtain ⟨T1, hT1⟩ : ∃ T, tab q1 = T := ⟨_, rfl⟩
      obtain ⟨T2, hT2⟩ : ∃ T, tab q2 = T := ⟨_, rfl⟩
      rw [hT1] at e3 t1
      rw [hT2] at e5 t2
      have HF := hid hF
      have b1 : (0 : Int) ≤ (q1 : Int) := by omega
      have b2 : (q1 : Int) < 16 := by omega
      have b3 : (0 : Int) ≤ (q2 : Int) := by omega
      have b4 : (q2 : Int) < 16 := by omega
      clear hF hdd hhh hrr hqq1 hqq2 hT1 hT2 hcd hbb
      go_wp2_with fail
      go_round
      case rel => exact ⟨k + 1, by omega, by go_num, by rw [HE.out, ← HF.out]⟩
      case measure => simp [intOf]; omega
    · obtain rfl : k = s.size := by omega
      have hall : s.data.toList.take s.size = s.data.toList := List.take_of_length_le (by rw [HLEN.out]; exact Nat.le_refl _)
      rw [hall]
      have hc := fold_lt s.data.toList c0 hc0
      have hn2 : bits .xor .u32 IntKind.u32.max ((s.data.toList.foldl crcStep c0 : Nat) : Int) = ((not32 (s.data.toList.foldl crcStep c0) : Nat) : Int) := u32_xor_nat 4294967295 _ (by omega) hc
      have HF : Hid (not32 (s.data.toList.foldl crcStep c0) = crcMore sum s.data.toList) := by
        show _ = _
        unfold crcMore; rw [HCC.out]
      obtain ⟨c, hcd⟩ : ∃ c, s.data.toList.foldl crcStep c0 = c := ⟨_, rfl⟩
      rw [hcd] at hc hn2 HF ⊢
      clear hcd hall
      go_wp2_with fail
      go_ret
      exact ⟨ret_int (by rw [HF.out]), HBEL.out⟩
theorem crcsum_any (s : ByteArray) (w : World) (hs : s.size ≤ 9223372036854775807) : Calls Tryz.prog 83 #[.string s] w fun e w' => e = .returned (.int .u32 (crcP s.data.toList)) ∧ Below w.heap.size w w' := by
  have HM := hid (crcmore_any 0 s w (by omega) hs)
  obtain ⟨c, hc⟩ : ∃ c, crcMore 0 s.data.toList = c := ⟨_, rfl⟩
  rw [hc] at HM
  have HC : Hid (c = crcP s.data.toList) := hc.symm
  clear hc
  go_enter Tryz.func83, Tryz.ntmps83
  go_wp2_with (go_at_call 106; refine HM.out.mono ?_; rintro e w1 ⟨rfl, hb⟩; have H1 := hid hb; clear hb)
  go_ret
  exact ⟨ret_int (by rw [HC.out]), H1.out⟩
end Go.Proofs.YtnhgfhbicaiilaaGreat
/- The reel's states and what each call makes of them: plain Lean. -/
namespace Go.Proofs.YtnhgfhbicaiilaaGreat.Reel
open Go.RowKit

structure Spool where
  bytes : List UInt8
  safe : Nat
structure St where
  l : List ByteArray
  ts : List Spool
  used : Nat
  room : Nat
  down : Bool
  acts : Nat
  armed : Nat
  life : Nat
def roomOf (n : Int) : Nat := if n < 0 then 0 else if 67108864 < n then 67108864 else n.toNat
def new (n : Int) : St := ⟨[], [], 0, roomOf n, false, 0, 0, 0⟩
def isName (s : ByteArray) : Bool := decide (1 ≤ s.size ∧ s.size ≤ 32)
def size (ts : List Spool) : Nat := (ts.map fun t => t.bytes.length).sum
/-- what all states are -/
structure St.Ok (S : St) : Prop where
  len : S.ts.length = S.l.length
  rising : Rising S.l
  few : S.l.length ≤ 64
  used : S.used = size S.ts
  most : S.used ≤ 67108864
  room : S.room ≤ 67108864
  each : ∀ t ∈ S.ts, t.bytes.length ≤ 4194304 ∧ t.safe ≤ t.bytes.length
  names : ∀ x ∈ S.l, isName x = true
def offS (S : St) : St := if S.down = true then S else { S with down := true, armed := 0, life := S.life + 1 }
def actS (S : St) : St × Int :=
  if S.armed = 0 then ({ S with acts := S.acts + 1 }, 0)
  else if S.armed = 1 then ({ S with acts := S.acts + 1, down := true, armed := 0, life := S.life + 1 }, 10)
  else ({ S with acts := S.acts + 1, armed := S.armed - 1 }, 0)
/-- the tape under a name -/
def at_ (S : St) (x : ByteArray) : Option Spool := if hasN S.l x = true then S.ts[posOf S.l x]? else none
def putT (S : St) (x : ByteArray) (t : Spool) : St :=
  { S with l := putN S.l x, ts := if hasN S.l x = true then S.ts.set (posOf S.l x) t else S.ts.take (posOf S.l x) ++ t :: S.ts.drop (posOf S.l x) }
def delT (S : St) (x : ByteArray) : St :=
  { S with l := delN S.l x, ts := if hasN S.l x = true then S.ts.take (posOf S.l x) ++ S.ts.drop (posOf S.l x + 1) else S.ts }
def appendS (S : St) (x s : ByteArray) : St × Int :=
  if S.down = true then (S, 10)
  else if isName x = false then (S, 1)
  else if S.room < S.used + s.size then (S, 11)
  else match at_ S x with
    | some t => if 4194304 < t.bytes.length + s.size then (S, 11) else actS { putT S x { t with bytes := t.bytes ++ s.data.toList } with used := S.used + s.size }
    | none => if 4194304 < s.size ∨ 64 ≤ S.l.length then (S, 11) else actS { putT S x ⟨s.data.toList, 0⟩ with used := S.used + s.size }
def syncS (S : St) (x : ByteArray) : St × Int :=
  if S.down = true then (S, 10)
  else match at_ S x with
    | none => (S, 12)
    | some t => if (actS S).2 = 0 then (putT (actS S).1 x { t with safe := t.bytes.length }, 0) else actS S
def cutT (t : Spool) (n : Nat) : Spool := ⟨t.bytes.take n, min t.safe n⟩
def cutS (S : St) (x : ByteArray) (n : Int) : St × Int :=
  if S.down = true then (S, 10)
  else match at_ S x with
    | none => (S, 12)
    | some t => if n < 0 ∨ (t.bytes.length : Int) < n then (S, 1)
      else if (actS S).2 = 0 then ({ putT (actS S).1 x (cutT t n.toNat) with used := S.used - (t.bytes.length - n.toNat) }, 0) else actS S
def lenAt (S : St) (x : ByteArray) : Nat := match at_ S x with
  | some t => t.bytes.length
  | none => 0
def swapS (S : St) (x yt : ByteArray) : St × Int :=
  if S.down = true then (S, 10)
  else match at_ S x with
    | none => (S, 12)
    | some t => if isName yt = false then (S, 1)
      else if (actS S).2 = 0 then (if x = yt then ((actS S).1, 0) else (putT { delT (actS S).1 x with used := S.used - lenAt S yt } yt t, 0)) else actS S
def dropS (S : St) (x : ByteArray) : St × Int :=
  if S.down = true then (S, 10)
  else match at_ S x with
    | none => (S, 12)
    | some t => if (actS S).2 = 0 then ({ delT (actS S).1 x with used := S.used - t.bytes.length }, 0) else actS S
def readS (S : St) (x : ByteArray) : List UInt8 × Int :=
  if S.down = true then ([], 10)
  else match at_ S x with
    | none => ([], 12)
    | some t => (t.bytes, 0)
def sizeS (S : St) (x : ByteArray) : Int := match at_ S x with
  | none => -1
  | some t => t.bytes.length
/-- how many of so many bytes a fate keeps, and whether the last is torn -/
def kept (f : Int) (k : Nat) : Nat × Bool := if 0 ≤ f then (min f.toNat k, false) else if f ≤ -(k : Int) then (k, true) else ((-f).toNat, true)
def tear (l : List UInt8) : List UInt8 := match l.reverse with
  | [] => []
  | c :: r => (( c ^^^ 0x55) :: r).reverse
def left (t : Spool) (f : Int) : Spool :=
  let n := (kept f (t.bytes.length - t.safe)).1
  let b := t.bytes.take (t.safe + n)
  let b := if (kept f (t.bytes.length - t.safe)).2 = true ∧ 0 < n then tear b else b
  ⟨b, b.length⟩
/-- tapes behind a loss of power; i: how many fates were drawn -/
def onT (fs : List Int) : Nat → List Spool → List Spool
  | _, [] => []
  | i, t :: r => if t.bytes.length = t.safe then t :: onT fs i r else left t (if fs = [] then 0 else fs.getD (i % fs.length) 0) :: onT fs (if fs = [] then i else i + 1) r
def onS (S : St) (fs : List Int) : St := if S.down = false then S else { S with down := false, ts := onT fs 0 S.ts, used := size (onT fs 0 S.ts) }
def armS (S : St) (n : Int) : St := { S with armed := n.toNat }
def roomS (S : St) (n : Int) : St := { S with room := roomOf n }

end Go.Proofs.YtnhgfhbicaiilaaGreat.Reel
