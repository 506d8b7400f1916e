/- slices.Delete of one thing, slices.Clone, over a slice of the program's own: Ptr. -/
import Derived.Test.YthjomknhbfplnaaInsPtr
import Derived.Lib.SliceRun
import Derived.Lib.LazyBuf
namespace Go.Proofs.Ythjomknhbfplnaa
open Go.RowKit
set_option linter.unusedVariables false
set_option linter.unusedSimpArgs false

theorem del_listPtr {cur : Array Value} {xs : List Value} {n i : Nat} (z : List Value) (hz : z.length = 1) (hsz : n ≤ cur.size) (ht : cur.toList.take n = xs) (hi : i < n) : (wr (wr cur i (xs.drop (i + 1))) (n - 1) z).toList.take (n - 1) = xs.take i ++ xs.drop (i + 1) := by
  have hl : xs.length = n := by rw [← ht, List.length_take]; simp; omega
  have hd : (xs.drop (i + 1)).length = n - 1 - i := by rw [List.length_drop, hl]; omega
  have e4 : (xs.take i).length = i := by rw [List.length_take]; omega
  have e0 : cur.toList.take i = xs.take i := by rw [← ht, List.take_take, Nat.min_eq_left (by omega)]
  rw [wr_toList _ _ _ (by rw [wr_size, hz]; omega), wr_toList _ _ _ (by rw [hd]; omega), e0]
  have e6 : (xs.take i ++ xs.drop (i + 1)).length = n - 1 := by rw [List.length_append, e4, hd]; omega
  have e7 : (xs.take i ++ xs.drop (i + 1) ++ cur.toList.drop (i + (xs.drop (i + 1)).length)).take (n - 1) = xs.take i ++ xs.drop (i + 1) := by
    rw [List.take_append_of_le_length (by omega), List.take_of_length_le (by omega)]
  rw [e7, List.append_assoc, List.take_append_of_le_length (by omega), List.take_of_length_le (by omega)]

set_option maxHeartbeats 4000000 in
set_option maxRecDepth 100000 in
/-- one thing less -/
theorem delPtr (v : Value) (n i : Nat) (xs : List Value) (w : World) (hown : w.ownsRow 0 55 1 v n xs) (h1 : ∀ u ∈ xs, u.oneCell' = true) (hi : i < n) (hn : n ≤ 1048576) :
    Calls Try.prog 67 #[v, .int .i64 i, .int .i64 ((i : Int) + 1)] w fun e w' => ∃ v', e = .returned v' ∧ w'.ownsRow 0 55 1 v' (n - 1) (xs.take i ++ xs.drop (i + 1)) ∧ w.grownBy w' v.ownBlock ∧ v'.ownBlock = v.ownBlock := by
  obtain ⟨i0, hi0, hz0, hz1, hz2⟩ := info_parts Try.infoPtr
  have hxl : xs.length = n := by have := hown.1; omega
  rcases hown.2 with ⟨rfl, rfl⟩ | ⟨g, cap, cur, rfl, hb, hg, hnc, hcm, hsz, htk⟩
  · omega
  · unfold maxLen at hcm
    rw [Nat.mul_one] at hsz htk
    have hcur : Blk w g 55 cur := hg
    obtain ⟨W1, hW1⟩ : ∃ W1, W1 = w.drew.setCells g (0 + i * 1) (xs.drop (i + 1)) := ⟨_, rfl⟩
    have hB1 : Blk W1 g 55 (wr cur i (xs.drop (i + 1))) := by rw [hW1, Nat.mul_one, Nat.zero_add]; exact heap_setCells _ _ w.drew _ hg
    have hcl : ∀ ty, (Builtin.clear_ #[83] ty #[.slice (some ⟨g, i + (n - (i + 1)), none⟩) (n - (i + (n - (i + 1)))) (cap - (i + (n - (i + 1))))]).run Try.prog W1 = .ok (.tuple #[]) (W1.setCells g (i + (n - (i + 1))) (List.replicate (n - (i + (n - (i + 1)))) (.pointer none))) :=
      fun ty => Lib.run_clear_slice W1 _ _ ty _ Try.underlying83 (Try.zeroValue55) rfl rfl g _ _ _ (by omega) (fun t ht => by rw [hB1.cell, Array.getElem?_eq_getElem (by rw [wr_size]; omega)]; rfl) (fun t ht => hB1.frozen _)
    have hfin : ∃ v', (Value.slice (some ⟨g, 0, none⟩) (i + (n - (i + 1))) cap) = v' ∧ (W1.setCells g (i + (n - (i + 1))) (List.replicate (n - (i + (n - (i + 1)))) (.pointer none))).ownsRow 0 55 1 v' (n - 1) (xs.take i ++ xs.drop (i + 1)) ∧ w.grownBy (W1.setCells g (i + (n - (i + 1))) (List.replicate (n - (i + (n - (i + 1)))) (.pointer none))) (some g) ∧ v'.ownBlock = some g := by
      have e1 : i + (n - (i + 1)) = n - 1 := by omega
      have e2 : n - (n - 1) = 1 := by omega
      rw [e1, e2]
      refine ⟨_, rfl, ⟨by simp; omega, .inr ⟨g, cap, _, rfl, Nat.zero_le _, heap_setCells _ _ _ _ hB1, by omega, by unfold maxLen; omega, by rw [wr_size, wr_size, hsz]; simp, ?_⟩⟩, ?_, rfl⟩
      · rw [Nat.mul_one]; exact del_listPtr _ rfl (by omega) htk hi
      · rw [hW1]
        exact grownBy_of_only (only_setCells (F := fun k => some g = some k) (.inl rfl) _ _ _ (only_setCells (F := fun k => some g = some k) (.inl rfl) _ _ _ (Only.refl _ w).drew))
    have s1 : Hid ((xs.drop (i + 1)).length = (n - (i + 1)) * 1) := by unfold Hid; rw [List.length_drop]; omega
    have s2 : Hid (∀ u ∈ xs.drop (i + 1), u.oneCell' = true) := fun u hu => h1 u (List.mem_of_mem_drop hu)
    have s3 : Hid (∀ t, t < (xs.drop (i + 1)).length → (w.drew.cell? ⟨g, 0 + i * 1 + t, none⟩).isSome = true ∧ w.drew.frozen? ⟨g, 0 + i * 1 + t, none⟩ = false) := fun t ht => by
      rw [List.length_drop] at ht
      exact ⟨by rw [hcur.drew.cell, Array.getElem?_eq_getElem (by omega)]; rfl, hcur.drew.frozen _⟩
    have hsrc : Hid (∀ j u, (xs.drop (i + 1))[j]? = some u → w.drew.cell? ((⟨g, i + 1, none⟩ : Addr).add j) = some u) := fun j u hj => by
      rw [Addr.add_lit, hcur.drew.cell]
      rw [List.getElem?_drop] at hj
      rw [← hj, ← htk, List.getElem?_take, if_pos (by have := (List.getElem?_eq_some_iff.1 hj).1; omega)]; simp
    have hic : i ≤ cap := by omega
    have hjc : i + 1 ≤ cap := by omega
    have HFIN := hid hfin
    have HW := hid hW1
    have hii : ((i : Int) == (i : Int) + 1) = false := by rw [beq_eq_false_iff_ne]; omega
    have f1 : (0 : Int) ≤ (i : Int) + 1 := by omega
    have f2 : ((i : Int) + 1).toNat = i + 1 := by omega
    have f4 : (i : Int) ≤ (i : Int) + 1 := by omega
    have mixed : Try.prog.follows .mixedOrders = true := by kernel_rfl
    by_cases hce : cap = i + 1
    · have hn1 : n = i + 1 := by omega
      have hnil : Hid (∀ j u, (xs.drop (i + 1))[j]? = some u → w.drew.cell? ((⟨g, 0, none⟩ : Addr).add j) = some u) := fun j u hj => by
        rw [List.drop_eq_nil_of_le (by omega)] at hj; simp at hj
      subst hce
      subst hn1
      have z1 : i + (i + 1 - (i + 1)) = i := by omega
      have z2 : i + 1 - i = 1 := by omega
      rw [z1, z2] at hcl hfin
      have HFIN := hid hfin
      clear z1 z2
      clear hW1 hB1 hfin hown h1 hg hcur htk hsz hsrc
      go_enter Try.func67, Try.ntmps67
      go_wp2_with fail
      go_region_law (refine step_append_room rfl (.tmp 22) (.tmp 25) 83 rfl 55 i0 1 Try.underlying83 hi0 hz1 g 0 i (i + 1) (by simp [Act.eval, Act.put]) ⟨g, 0, none⟩ 0 0 (xs.drop (i + 1)) (by simp [Act.eval, Act.put]) (by have := s1.out; simpa using this) hnil.out s2.out (by omega) s3.out ?_; rw [← HW.out])
      go_wp2
      go_ret
      obtain ⟨v', h1, h2⟩ := HFIN.out
      exact ⟨v', congrArg Ending.returned h1, h2⟩
    · have f3 : (i : Int) + 1 ≤ (n : Int) := by omega
      clear hW1 hB1 hfin hown h1 hg hcur htk hsz
      go_enter Try.func67, Try.ntmps67
      go_wp2_with fail
      go_region_law (refine step_append_room rfl (.tmp 22) (.tmp 25) 83 rfl 55 i0 1 Try.underlying83 hi0 hz1 g 0 i cap (by simp [Act.eval, Act.put]) ⟨g, i + 1, none⟩ (n - (i + 1)) (cap - (i + 1)) (xs.drop (i + 1)) (by simp [Act.eval, Act.put]) s1.out hsrc.out s2.out (by omega) s3.out ?_; rw [← HW.out])
      go_wp2
      go_ret
      obtain ⟨v', h1, h2⟩ := HFIN.out
      exact ⟨v', congrArg Ending.returned h1, h2⟩

theorem own_nonePtr (w : World) : (w.alloc (.cells #[] 55)).ownsRow w.heap.size 55 1 (.slice (some ⟨w.heap.size, 0, none⟩) 0 0) 0 [] :=
  ⟨rfl, .inr ⟨w.heap.size, 0, #[], rfl, Nat.le_refl _, by show (w.heap.push _)[w.heap.size]? = _; simp, Nat.le_refl _, by unfold maxLen; omega, rfl, rfl⟩⟩
set_option maxHeartbeats 4000000 in
set_option maxRecDepth 100000 in
/-- a copy -/
theorem clonePtr (v : Value) (n : Nat) (xs : List Value) (w : World) (hown : w.ownsRow 0 55 1 v n xs) (h1 : ∀ u ∈ xs, u.oneCell' = true) (hn : n ≤ 1048576) :
    Calls Try.prog 65 #[v] w fun e w' => ∃ v', e = .returned v' ∧ w'.ownsRow w.heap.size 55 1 v' n xs ∧ Below w.heap.size w w' := by
  obtain ⟨i0, hi0, hz0, hz1, hz2⟩ := info_parts Try.infoPtr
  have hxl : xs.length = n := by have := hown.1; omega
  rcases hown.2 with ⟨rfl, rfl⟩ | ⟨g, cap, cur, rfl, hb, hg, hnc, hcm, hsz, htk⟩
  · obtain rfl : xs = [] := List.length_eq_zero_iff.1 hxl
    clear hown h1 hxl
    have hq : ∀ W : World, (binOp .eql 83 (.slice none 0 0) (.slice none 0 0)).run Try.prog W = .ok (.bool true) W := fun W => Go.run_eql_slice_nil W 83 55 none 0 0 Try.underlying83
    go_enter Try.func65, Try.ntmps65
    go_wp2
    go_ret
    exact ⟨_, rfl, World.ownsRow_nil _ _ _ _, Below.refl _ _⟩
  · unfold maxLen at hcm
    have hcells := hown.cells (g := g) rfl
    have hgl := (Array.getElem?_eq_some_iff.1 hg).1
    have HC : Hid (∀ j u, xs[j]? = some u → (w.alloc (.cells #[] 55)).cell? ((⟨g, 0, none⟩ : Addr).add j) = some u) := fun j u hu => by
      rw [World.cell?_alloc_lt w _ _ (by rw [Addr.add_lit]; exact hgl)]
      exact hcells j u hu
    have H1 := hid h1
    have HO := own_nonePtr w
    have HXL : Hid (xs.length = n * 1) := by unfold Hid; omega
    have HN : Hid (0 + n = n) := by unfold Hid; omega
    clear hown h1 hxl hb hg hsz htk hcells
    have hq : ∀ W : World, (binOp .eql 83 (.slice (some ⟨g, 0, none⟩) n cap) (.slice none 0 0)).run Try.prog W = .ok (.bool false) W := fun W => Go.run_eql_slice_nil W 83 55 (some ⟨g, 0, none⟩) n cap Try.underlying83
    go_enter Try.func65, Try.ntmps65
    go_wp2_with (at_builtin; refine wpList_append_own_at _ rfl (.tmp 5) (.tmp 6) 83 rfl w.heap.size 55 i0 (.pointer none) 1 8 Try.underlying83 hi0 hz0 hz1 hz2 rfl (by decide) _ _ _ rfl HO _ n cap xs rfl HXL.out HC.out H1.out (by unfold maxLen; omega) (by omega) (by simp) ?_; intro v' w3 hown' hgrow _ hbk)
    go_ret
    refine ⟨_, rfl, ?_, ?_⟩
    · rw [HN.out] at hown'; exact hown'
    · exact ((Below.refl _ w).alloc (Nat.le_refl _) _).grown hgrow (by simp) (fun k hk => by cases hk; exact Nat.le_refl _)
end Go.Proofs.Ythjomknhbfplnaa
