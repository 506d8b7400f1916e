/- Words on memory that this seat's walks use: a slice of bytes of the call's own, and its text. -/
import Derived.Test.YtfgglckpfnnaoaaDoorChecked
import Derived.Test.YtfgglckpfnnaoaaDoorBase
import Derived.WalkKit
import Derived.BigQuiet
import Derived.Deep.QuietTactic
namespace Go.Proofs.YtfgglckpfnnaoaaDoor
open Go.RowKit
set_option linter.unusedVariables false

theorem Tryd.infoB : (Tryd.prog.info? 5).map (fun i => (i.zero, i.size, i.bytes)) = some (some (.int .u8 0), 1, 1) := by kernel_rfl
def bvals (l : List UInt8) : List Value := l.map fun c => Value.int .u8 (c.toNat : Int)
theorem bvals_append (l r : List UInt8) : bvals (l ++ r) = bvals l ++ bvals r := by simp [bvals]
theorem bvals_length (l : List UInt8) : (bvals l).length = l.length := by simp [bvals]
theorem below_grown1 {B : Nat} {a w w' : World} {v : Value} {n : Nat} {xs : List Value} {e : TypeId} {s : Nat} (h : Below B a w) (ho : w.ownsRow B e s v n xs) (o : Obj) (hB : B ≤ w.heap.size) (hg : (w.alloc o).grownBy w' v.ownBlock) : Below B a w' :=
  (h.alloc hB o).grown hg (by simp; omega) (fun k hk => (ho.lt k hk).1)
theorem cellNew1 (w : World) (x : Value) (t : TypeId) : ∀ j u, [x][j]? = some u → (w.alloc (.cells #[x] t)).cell? ((⟨w.heap.size, 0, none⟩ : Addr).add j) = some u := by
  intro j u h
  cases j with
  | zero =>
    simp at h; subst h
    simp [Addr.add]
  | succ j => simp at h
theorem conv_own {w : World} {B : Nat} {v : Value} {l : List UInt8} (h : w.ownsRow B 5 1 v l.length (bvals l)) :
    (convert 48 9 v).run Tryd.prog w = .ok (.string ⟨l.toArray⟩) w := by
  have h' := h
  rcases h.2 with ⟨rfl, h0⟩ | ⟨g, cap, cur, rfl, hb, hg, hn, hc, hsz, htk⟩
  · obtain rfl : l = [] := List.length_eq_zero_iff.1 h0
    exact run_convert_bytes_nil _ _ _ Tryd.underlying48 Tryd.underlying5 _ _ _ Tryd.underlying9
  · refine run_convert_bytes_back w _ _ _ _ cap l Tryd.underlying48 Tryd.underlying5 Tryd.underlying9 ?_
    intro j hj
    have h1 := h'.cellAt j (by omega)
    have h2 : (⟨g, 0, none⟩ : Addr).add j = ⟨g, j, none⟩ := by
      unfold Addr.add; split
      · subst_vars; rfl
      · simp
    rw [h2, h1]; simp [bvals, List.getElem?_eq_getElem hj]
theorem own_drewN {w : World} {B e s n : Nat} {v : Value} {xs : List Value} (h : w.ownsRow B e s v n xs) (q : Nat) : (w.drewN q).ownsRow B e s v n xs := h
theorem own_below {w w' : World} {B e s n : Nat} {v : Value} {xs : List Value} (h : w.ownsRow B e s v n xs) (hb : Below w.heap.size w w') : w'.ownsRow B e s v n xs :=
  h.kept (row := none) ⟨hb.os, hb.tape, hb.output, hb.size, fun k hk _ => hb.block k hk⟩ (by cases hv : v.ownBlock <;> simp)
theorem below_drewN {B : Nat} {a w : World} (h : Below B a w) (q : Nat) : Below B a (w.drewN q) := ⟨h.os, h.tape, h.output, h.size, h.block⟩
/-- a world behind w: whatever lay, lies. THE CLASS for a region that draws its order and whose callees make memory. -/
structure After (w : World) where
  val : World
  below : Below w.heap.size w val
instance afterNonempty (w : World) : Nonempty (After w) := ⟨⟨w, Below.refl _ _⟩⟩
theorem wp_region_after {P : Program} {id : Nat} {Q : Exit → Act → World → Prop} {a : Act} {w : World} {l : List Oper} (hm : P.follows .mixedOrders = true) (hB : Region.lexB .any l.toArray = true)
    (h : wpQuiet P l.toArray (fun w' => ∃ x : After w, w' = x.val) (fun a' => ∀ w', (∃ x : After w, w' = x.val) → Q .normal a' w') l a) : (Code.region id l.toArray true).wp P Q a w :=
  wp_region_quiet (C := fun w' => ∃ x : After w, w' = x.val) hm hB ⟨⟨_, (Below.refl _ _).drew⟩, rfl⟩ (by simpa using h)
theorem calls_after {P : Program} {f : FuncId} {args : Array Value} {w : World} {x : After w} {v : Value}
    (h : Calls P f args x.val fun e w' => e = .returned v ∧ Below x.val.heap.size x.val w') : Calls P f args x.val fun e w'' => e = .returned v ∧ ∃ y : After w, w'' = y.val :=
  h.mono fun _ w' ⟨he, hb⟩ => ⟨he, ⟨w', below_then x.below hb⟩, rfl⟩
theorem calls_after_same {P : Program} {f : FuncId} {args : Array Value} {w : World} {x : After w} {v : Value}
    (h : Calls P f args x.val fun e w' => e = .returned v ∧ x.val = w') : Calls P f args x.val fun e w'' => e = .returned v ∧ ∃ y : After w, w'' = y.val :=
  h.mono fun _ _ ⟨he, hb⟩ => ⟨he, x, hb.symm⟩
theorem one_bytes {P : Value → Prop} {v : Value} (h : P v) : ∀ u ∈ [v], P u := by
  intro u hu; rw [List.mem_singleton] at hu; subst hu; exact h
theorem own_snoc {w : World} {B e s : Nat} {v : Value} {l : List UInt8} {c : UInt8} (h : w.ownsRow B e s v (l.length + 1) (bvals l ++ [.int .u8 (c.toNat : Int)])) : w.ownsRow B e s v (l ++ [c]).length (bvals (l ++ [c])) := by
  rw [bvals_append, List.length_append]; exact h
end Go.Proofs.YtfgglckpfnnaoaaDoor
