/- A text wound on a row of bytes of the program's own. -/
import Derived.Test.YthjomknhbfplnaaMem
import Derived.Test.YthjomknhbfplnaaOnly
import Derived.Deep.AppendSrc
namespace Go.Proofs.Ythjomknhbfplnaa
open Go.RowKit
set_option linter.unusedVariables false

theorem byteCells_bvals (s : ByteArray) : byteCells s = bvals s.data.toList := rfl
theorem run_append_str (w : World) (v : Value) (l : List UInt8) (s : ByteArray) (hown : w.ownsRow 0 5 1 v l.length (bvals l)) (hb : l.length + s.size ≤ 140737488355328) (ty : TypeId) :
    ∃ v' w', (Builtin.append_ #[61, 9] ty #[v, .string s]).run Try.prog w = .ok v' w' ∧ w'.ownsRow 0 5 1 v' (l ++ s.data.toList).length (bvals (l ++ s.data.toList)) ∧ w.grownBy w' v.ownBlock ∧ (v'.ownBlock = v.ownBlock ∨ v'.ownBlock = some w.heap.size) := by
  obtain ⟨i, hi, hz, hz1, hz2⟩ := info_parts Try.infoB
  have hu := Try.underlying61
  have hsl : s.data.toList.length = s.size := Array.length_toList
  have hll : (l ++ s.data.toList).length = l.length + s.size := by rw [List.length_append, hsl]
  have hsrc : Src Try.prog i.size 9 (.string s) s.size (byteCells s) w := by rw [hz1]; exact Src.ofString w Try.underlying9 s
  have grow : ∀ (base : Option Addr) (c : Nat), (Builtin.firstCells i.size l.length (.slice base l.length c)).run Try.prog w.drew = .ok (bvals l).toArray w.drew → c < l.length + s.size →
      ∃ v' w', (Builtin.append_ #[61, 9] ty #[.slice base l.length c, .string s]).run Try.prog w = .ok v' w' ∧ w'.ownsRow 0 5 1 v' (l ++ s.data.toList).length (bvals (l ++ s.data.toList)) ∧ w.grownBy w' (Value.slice base l.length c).ownBlock ∧ v'.ownBlock = some w.heap.size := by
    intro base c hold hg
    have hr := run_append_grow_src w 61 9 ty 5 i _ hu hi hz base l.length c (bvals l) hold (.string s) s.size (byteCells s) hsrc hg (by omega) (by rw [hz2]; exact growslice_fits hg (by omega))
    refine ⟨_, _, hr, ⟨by rw [bvals_length, Nat.mul_one], .inr ⟨w.heap.size, _, _, by rw [hll], Nat.zero_le _, heap_alloc_new w.drew _, ?_, ?_, ?_, ?_⟩⟩, ⟨rfl, rfl, rfl, by simp, fun k hk _ => Below.heap_alloc w.drew _ k hk⟩, rfl⟩
    · rw [hll]; exact grownCap_ge w _ _ _
    · exact grownCap_le_maxLen w _ _ _ (by unfold maxLen; omega)
    · have := grownCap_ge w (l.length + s.size) c 5
      simp [Builtin.zeroCells, Value.cells, byteCells_bvals, bvals_length, hsl]
      omega
    · rw [byteCells_bvals, ← bvals_append, Array.toList_append, Nat.mul_one, List.take_append_of_le_length (by simp [bvals_length])]
      rw [List.take_of_length_le (by simp [bvals_length])]
  rcases hown.2 with ⟨rfl, h0⟩ | ⟨g, cap, cur, rfl, hbg, hg, hnc, hcm, hsz, htk⟩
  · by_cases hs0 : s.size = 0
    · have e1 : s.data.toList = [] := List.length_eq_zero_iff.1 (by omega)
      refine ⟨.slice none 0 0, w, ?_, ?_, ⟨rfl, rfl, rfl, Nat.le_refl _, fun _ _ _ => rfl⟩, .inl rfl⟩
      · simp [Builtin.append_, run_underlying hu, run_underlying Try.underlying9, sizeOf, typeInfo, hi, Builtin.lenOf, hs0, Builtin.firstCells]
      · rw [e1, List.append_nil]; exact hown
    · obtain ⟨v', w', h1, h2, h3, h4⟩ := grow none 0 (by
        have : l = [] := List.length_eq_zero_iff.1 h0
        subst this
        exact run_firstCells_none w.drew i.size 0 0 0) (by omega)
      rw [h0] at h1
      exact ⟨v', w', h1, h2, h3, .inr h4⟩
  · rw [Nat.mul_one] at hsz htk
    have hcur : Blk w g 5 cur := hg
    by_cases hr : l.length + s.size ≤ cap
    · have h := run_append_room_src w 61 9 ty 5 i hu hi g 0 l.length cap (.string s) s.size (byteCells s) hsrc hr
        (fun j hj => by rw [hcur.cell, Array.getElem?_eq_getElem (by rw [byteCells_bvals, bvals_length, hsl] at hj; rw [hz1]; omega)]; rfl) (fun j hj => hcur.frozen _)
      rw [hz1, Nat.mul_one, Nat.zero_add] at h
      refine ⟨_, _, h, ⟨by rw [bvals_length, Nat.mul_one], .inr ⟨g, cap, _, by rw [hll], Nat.zero_le _, heap_setCells _ _ _ _ hg, by omega, hcm, by rw [wr_size, Nat.mul_one, hsz], ?_⟩⟩, grownBy_of_only (only_setCells (F := fun k => some g = some k) (.inl rfl) _ _ _ (Only.refl _ w)), .inl rfl⟩
      rw [byteCells_bvals, wr_toList _ _ _ (by rw [bvals_length, hsl]; omega), htk, ← bvals_append, Nat.mul_one, List.take_append_of_le_length (by simp [bvals_length]), List.take_of_length_le (by simp [bvals_length])]
    · obtain ⟨v', w', h1, h2, h3, h4⟩ := grow (some ⟨g, 0, none⟩) cap (by
        rw [hz1]
        exact run_firstCells_some w.drew 1 l.length ⟨g, 0, none⟩ l.length cap (bvals l) (by rw [bvals_length, Nat.mul_one]) (fun j u hj => hown.cells (g := g) rfl j u hj)) (by omega)
      exact ⟨v', w', h1, h2, h3, .inr h4⟩
theorem wpList_append_str {ops : Array Oper} {rest : List Oper} {o : Oper} {a : Act} {w : World} {Q : Exit → Act → World → Prop} (hgd : o.guard = none) (sx x : Operand)
    (ho : o.op = .call { callee := .builtin .append, args := #[sx, x], argTypes := #[61, 9] }) (v : Value) (l : List UInt8) (s : ByteArray) (hs : a.eval sx = v) (hx : a.eval x = .string s)
    (hown : w.ownsRow 0 5 1 v l.length (bvals l)) (hb : l.length + s.size ≤ 140737488355328)
    (h : ∀ v' w', w'.ownsRow 0 5 1 v' (l ++ s.data.toList).length (bvals (l ++ s.data.toList)) → w.grownBy w' v.ownBlock → (v'.ownBlock = v.ownBlock ∨ v'.ownBlock = some w.heap.size) → wpList Try.prog ops Q rest (a.put o.dst v') w') :
    wpList Try.prog ops Q (o :: rest) a w := by
  refine wpList_plain hgd fun K hK => ?_
  obtain ⟨v', w', hr, h2, h3, h4⟩ := run_append_str w v l s hown hb o.type
  unfold Oper.wp execOp
  simp only [ho, resolve, invoke, builtin, Sem.run_bind, Sem.run_pure, Result.andThen_ok, List.map_toArray, List.map_cons, List.map_nil, hs, hx, hr]
  exact hK _ _ (h v' w' h2 h3 h4)
end Go.Proofs.Ythjomknhbfplnaa
