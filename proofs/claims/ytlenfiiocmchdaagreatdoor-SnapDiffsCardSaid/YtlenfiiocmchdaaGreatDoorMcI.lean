/- Texts in a row: InsStr, DelStr, Round, AllF, SnW, FactR, CmpX, SortK, LayS, OrdC. -/
import Derived.Test.YtlenfiiocmchdaaGreatDoorMcH
import Derived.Test.YtlenfiiocmchdaaGreatDoorChecked
import Derived.WalkKit
import Derived.RegionTactic
import Derived.Shelf.RegionOpenPlain
import Derived.Lib.Walk
import Derived.Lib.SliceRun
import Derived.Lib.JoinLaws
import Derived.Lib.AppendZeros
import Derived.Lib.AppendZerosOnto
import Derived.Lib.Overlaps
import Derived.Laws.Externs
import Derived.Laws.IdiomCopy
import Derived.Laws.NewBlocks
import Derived.Deep.RegionLaw
import Derived.Maps.AppendAt
import Derived.Lib.LazyBuf
import Derived.Deep.Quiet
import Derived.StillTail
import Derived.OrdersIn
import Derived.OwnWalkIn
import Derived.RangeFuncCalls
import Derived.ControlIn
import Derived.RangeFuncNested
import Derived.RangeFuncBound
import Derived.RangeFuncLeaves
import Derived.Shelf.Abstract
import Derived.Shelf.RegionOpen
import Derived.TacticsInMore
import Derived.LoopNIn
import Derived.LoopIn
import Derived.Deep.AppendLies
import Derived.Deep.Upon
import Derived.RangeFuncBox
import Derived.Sort.Grow
import Derived.Shelf.SlSortCmp.NoneTotal
import Derived.Shelf.SlGeneric
import Derived.Test.YtlenfiiocmchdaaGreatDoorProg
/- slices.Insert of one thing, over a slice of the program's own: Str. -/
namespace Go.Proofs.YtlenfiiocmchdaaGreatDoor
open Go.RowKit
set_option linter.unusedVariables false
set_option linter.unusedSimpArgs false

theorem Tryz.infoStr : (Tryz.prog.info? 9).map (fun i => (i.zero, i.size, i.bytes)) = some (some (.string ⟨#[]⟩), 1, 16) := by kernel_rfl

/-- a copy whose run is known -/
theorem wp_copy_isStr {P : Program} (w : World) {o : Oper} {a : Act} {K : Act → World → Prop} {Q : Exit → Act → World → Prop} (d s : Operand) (t t' : TypeId)
    (ho : o.op = .call { callee := .builtin .copy, args := #[d, s], argTypes := #[t, t'] }) (v u : Value) (hd : a.eval d = v) (hs : a.eval s = u) {v' : Value} {w' : World}
    (hr : (Builtin.copy_ #[t, t'] o.type #[v, u]).run P w = .ok v' w') (h : K (a.put o.dst v') w') : o.wp P a w K Q := by
  unfold Oper.wp execOp
  simp only [ho, resolve, invoke, builtin, Sem.run_bind, Sem.run_pure, Result.andThen_ok, List.map_toArray, List.map_cons, List.map_nil, hd, hs, hr]
  exact h
theorem wpList_copy_isStr {P : Program} (w : World) {ops : Array Oper} {rest : List Oper} {o : Oper} {a : Act} {Q : Exit → Act → World → Prop} (hgd : o.guard = none) (d s : Operand) (t t' : TypeId)
    (ho : o.op = .call { callee := .builtin .copy, args := #[d, s], argTypes := #[t, t'] }) (v u : Value) (hd : a.eval d = v) (hs : a.eval s = u) {v' : Value} {w' : World}
    (hr : (Builtin.copy_ #[t, t'] o.type #[v, u]).run P w = .ok v' w') (h : wpList P ops Q rest (a.put o.dst v') w') : wpList P ops Q (o :: rest) a w :=
  wpList_plain hgd fun _ hK => wp_copy_isStr w d s t t' ho v u hd hs hr (hK _ _ h)
theorem step_copy_isStr {P : Program} {ops : Array Oper} {o : Oper} {a : Act} {w : World} {K : Act → World → Prop} {Q : Exit → Act → World → Prop} {E : Prop}
    (hg : o.guard = none) (d x : Operand) (dT sT : TypeId) (hop : o.op = Op.call { callee := Callee.builtin Builtin.copy, args := #[d, x], argTypes := #[dT, sT] })
    (v u : Value) (hd : a.eval d = v) (hx : a.eval x = u) {v' : Value} {w' : World} (hr : (Builtin.copy_ #[dT, sT] o.type #[v, u]).run P w = .ok v' w') (hK : K (a.put o.dst v') w') :
    if Region.wanted o (yielded ops a.tmps) = true then Oper.wp P o a w K Q else E := by
  have hw : Region.wanted o (yielded ops a.tmps) = true := by simp [Region.wanted, hg]
  rw [if_pos hw]
  exact wp_copy_isStr w d x dT sT hop v u hd hx hr hK

theorem ins_listStr {cur : Array Value} {xs : List Value} {n i : Nat} (x : Value) (hsz : n + 1 ≤ cur.size) (ht : cur.toList.take n = xs) (hi : i < n) : (wr (wr cur (i + 1) (xs.drop i)) i [x]).toList.take (n + 1) = xs.take i ++ x :: xs.drop i := by
  have hl : xs.length = n := by rw [← ht, List.length_take]; simp; omega
  have hd : (xs.drop i).length = n - i := by rw [List.length_drop, hl]
  rw [wr_toList _ _ _ (by rw [wr_size]; simp; omega), wr_toList _ _ _ (by rw [hd]; omega), hd]
  have e1 : cur.toList.take (i + 1) = (cur.toList.take (i + 1)).take i ++ (cur.toList.take (i + 1)).drop i := (List.take_append_drop _ _).symm
  have hc : (cur.toList.take (i + 1)).length = i + 1 := by rw [List.length_take]; simp; omega
  have e2 : (cur.toList.take (i + 1) ++ xs.drop i ++ cur.toList.drop (i + 1 + (n - i))).take i = xs.take i := by
    rw [List.append_assoc, List.take_append_of_le_length (by omega), List.take_take, ← ht, List.take_take, Nat.min_eq_left (by omega), Nat.min_eq_left (by omega)]
  have e3 : (cur.toList.take (i + 1) ++ xs.drop i ++ cur.toList.drop (i + 1 + (n - i))).drop (i + [x].length) = xs.drop i ++ cur.toList.drop (i + 1 + (n - i)) := by
    rw [List.append_assoc, show i + [x].length = (cur.toList.take (i + 1)).length from hc.symm, List.drop_left]
  rw [e2, e3]
  have e4 : (xs.take i).length = i := by rw [List.length_take]; omega
  rw [show xs.take i ++ [x] ++ (xs.drop i ++ cur.toList.drop (i + 1 + (n - i))) = (xs.take i ++ x :: xs.drop i) ++ cur.toList.drop (i + 1 + (n - i)) by simp]
  rw [List.take_append_of_le_length (by rw [List.length_append, List.length_cons, hd, e4]; omega), List.take_of_length_le (by rw [List.length_append, List.length_cons, hd, e4]; omega)]
theorem ins_list2Str {cur : Array Value} {xs : List Value} {n i : Nat} (x : Value) (hsz : n + 1 ≤ cur.size) (hl : xs.length = n) (ht : cur.toList.take i = xs.take i) (hi : i < n) : (wr (wr cur i [x]) (i + 1) (xs.drop i)).toList.take (n + 1) = xs.take i ++ x :: xs.drop i := by
  have hd : (xs.drop i).length = n - i := by rw [List.length_drop, hl]
  have e4 : (xs.take i).length = i := by rw [List.length_take]; omega
  have e5 : (xs.take i ++ [x] ++ cur.toList.drop (i + [x].length)).take (i + 1) = xs.take i ++ [x] := by
    rw [List.take_append_of_le_length (by rw [List.length_append, e4]; exact Nat.le_refl _), List.take_of_length_le (by rw [List.length_append, e4]; exact Nat.le_refl _)]
  rw [wr_toList _ _ _ (by rw [wr_size, hd]; omega), wr_toList [x] _ _ (by simp; omega), ht, e5]
  have e6 : (xs.take i ++ [x] ++ xs.drop i).length = n + 1 := by rw [List.length_append, List.length_append, e4, hd, List.length_singleton]; omega
  rw [List.take_append_of_le_length (by omega), List.take_of_length_le (by omega)]
  simp

set_option maxRecDepth 100000 in
set_option maxHeartbeats 4000000 in
/-- at the end -/
theorem insEndStr (v : Value) (n : Nat) (xs : List Value) (x : Value) (vb : Nat) (w : World) (hown : w.ownsRow 0 9 1 v n xs) (hx1 : x.oneCell' = true) (hn : n ≤ 1048576) (hblk : Blk w vb 9 #[x]) :
    Calls Tryz.prog 79 #[v, .int .i64 n, .slice (some ⟨vb, 0, none⟩) 1 1] w fun e w' => ∃ v', e = .returned v' ∧ w'.ownsRow 0 9 1 v' (n + 1) (xs ++ [x]) ∧ w.grownBy w' v.ownBlock ∧ (v'.ownBlock = v.ownBlock ∨ v'.ownBlock = some w.heap.size) := by
  obtain ⟨i0, hi0, hz0, hz1, hz2⟩ := info_parts Tryz.infoStr
  have HC := hid (show ∀ j u, [x][j]? = some u → w.cell? ((⟨vb, 0, none⟩ : Addr).add j) = some u from fun j u hu => by
    cases j with
    | zero => simp at hu; subst hu; simpa [Addr.add] using hblk.cell 0
    | succ j => simp at hu)
  have HX : Hid (∀ u ∈ [x], u.oneCell' = true) := fun u hu => by rw [List.mem_singleton] at hu; subst hu; exact hx1
  have hown0 := hown
  rcases hown.2 with ⟨rfl, rfl⟩ | ⟨g, cap, cur, rfl, hb, hg, hnc, hcm, hsz, htk⟩
  · clear hown hx1 hblk
    go_enter Tryz.func79, Tryz.ntmps79
    go_wp2_with (at_builtin; refine wpList_append_own_at _ rfl (.tmp 23) (.tmp 24) 56 rfl 0 9 i0 (.string ⟨#[]⟩) 1 16 Tryz.underlying56 hi0 hz0 hz1 hz2 rfl (by decide) _ _ _ rfl hown0 _ 1 1 [x] rfl rfl HC.out HX.out (by unfold maxLen; omega) (by omega) (Nat.zero_le _) ?_; intro v' w3 hown' hgrow _ hbk)
    go_ret
    exact ⟨_, rfl, hown', hgrow, hbk⟩
  · have HT := hid htk
    have HS := hid hsz
    have HG := hid hg
    unfold maxLen at hcm
    clear hown hx1 hblk htk hsz hg hb
    have hd : decide (n ≤ cap) = true := decide_eq_true hnc
    go_enter Tryz.func79, Tryz.ntmps79
    go_wp2_with (at_builtin; refine wpList_append_own_at _ rfl (.tmp 23) (.tmp 24) 56 rfl 0 9 i0 (.string ⟨#[]⟩) 1 16 Tryz.underlying56 hi0 hz0 hz1 hz2 rfl (by decide) _ _ _ rfl hown0 _ 1 1 [x] rfl rfl HC.out HX.out (by unfold maxLen; omega) (by omega) (Nat.zero_le _) ?_; intro v' w3 hown' hgrow _ hbk)
    all_goals (go_ret; exact ⟨_, rfl, hown', hgrow, hbk⟩)

set_option maxHeartbeats 4000000 in
set_option maxRecDepth 100000 in
/-- ahead of the end, where there is room -/
theorem insRoomStr (g n c i vb : Nat) (cs : List Value) (x : Value) (w : World) (hi : i < n) (hroom : n + 1 ≤ c) (hc63 : c ≤ 9223372036854775807) (hn : n ≤ 1048576) (hvb : vb ≠ g)
    (cur : Array Value) (hcur : Blk w g 9 cur) (hsz : cur.size = c) (htk : cur.toList.take n = cs) (h1c : ∀ v ∈ cs, v.oneCell' = true) (hx1 : x.oneCell' = true) (hblk : Blk w vb 9 #[x]) :
    Calls Tryz.prog 79 #[.slice (some ⟨g, 0, none⟩) n c, .int .i64 i, .slice (some ⟨vb, 0, none⟩) 1 1] w fun e w' =>
      e = .returned (.slice (some ⟨g, 0, none⟩) (n + 1) c) ∧ w' = (w.drew.setCells g (i + 1) (cs.drop i)).setCells g i [x] := by
  have hcl : cs.length = n := by rw [← htk, List.length_take]; simp; omega
  have hcs : ∀ j v, cs[j]? = some v → w.cell? ⟨g, j, none⟩ = some v := fun j v hj => by
    rw [hcur.cell j, ← hj, ← htk, List.getElem?_take, if_pos (by have := (List.getElem?_eq_some_iff.1 hj).1; omega)]; simp
  have hsp : ∀ j, j < n + 1 → (w.cell? ⟨g, j, none⟩).isSome = true := fun j hj => by rw [hcur.cell j, Array.getElem?_eq_getElem (by omega)]; rfl
  have hfz : ∀ j, w.frozen? ⟨g, j, none⟩ = false := fun j => hcur.frozen j
  have hu := Tryz.underlying56
  have hsize : (Tryz.prog.info? 9).map (·.size) = some 1 := by
    obtain ⟨i0, hi0, h0, h1, h2⟩ := info_parts Tryz.infoStr
    rw [hi0]; simp [h1]
  have hz1 : ∀ w : World, (Go.sizeOf 9).run Tryz.prog w = .ok 1 w := fun w => by
    obtain ⟨i0, hi0, h0, h1, h2⟩ := info_parts Tryz.infoStr
    simp [Go.sizeOf, typeInfo, hi0, h1]
  have hsa : w.shape? vb = some (9, 1) := by have := hblk; unfold Blk at this; simp [World.shape?, this]
  have hsb : w.shape? g = some (9, c) := by have := hcur; unfold Blk at this; simp [World.shape?, this, hsz]
  have hov : ∀ lb cb, (callFunc 127 #[.slice (some ⟨vb, 0, none⟩) 1 1, .slice (some ⟨g, i + 1, none⟩) lb cb]).run Tryz.prog w = .ok (.value (.bool false)) w := fun lb cb => by
    rw [run_callFunc_extern Tryz.func127 (by kernel_rfl) (by kernel_rfl) (by kernel_rfl) (e := Extern.SlicesOverlaps.overlaps #[56, 56] #[4]) (by kernel_rfl),
      Lib.run_overlaps_apart w 56 4 9 hu 1 hz1 ⟨vb, 0, none⟩ ⟨g, i + 1, none⟩ 1 1 lb cb hvb 9 9 1 c hsa hsb (by omega) (hblk.frozen 0) (hblk.frozen 1)]
    rfl
  have hdl : (cs.drop i).length = n - i := by rw [List.length_drop, hcl]
  have hw1 : IntKind.i64.wrap ((i : Int) + 1) = (i : Int) + 1 := by rw [IntKind.wrap_i64]; omega
  have hb1 : (0 : Int) ≤ (i : Int) + 1 := by omega
  have hin : i ≤ n := by omega
  have htn : ((i : Int) + 1).toNat = i + 1 := by omega
  have hb2 : ¬ (c = i + 1) := by omega
  have hb3 : (i : Int) ≤ (n : Int) + 1 := by omega
  have hb4 : ¬ (c = i) := by omega
  have hz2 : ¬ ((i : Int) = (n : Int)) := by omega
  have hcp1 : ∀ ty dc sc, (Builtin.copy_ #[56, 56] ty #[.slice (some ⟨g, i + 1, none⟩) (n - i) dc, .slice (some ⟨g, i, none⟩) (n + 1 - i) sc]).run Tryz.prog w.drew = .ok (goInt (cs.drop i).length) (w.drew.setCells g (i + 1) (cs.drop i)) := fun ty dc sc =>
    run_copy_cells w.drew _ _ ty 9 g (i + 1) (n - i) dc ⟨g, i, none⟩ (n + 1 - i) sc (cs.drop i) hu hsize (by rw [hdl]; simp only [Nat.min_def]; split <;> omega)
      (fun j v hj => by rw [Addr.add_lit]; exact hcs (i + j) v (by rwa [List.getElem?_drop] at hj))
      (fun j hj => hsp _ (by omega)) (fun j hj => hfz _) (fun v hv => h1c v (List.mem_of_mem_drop hv))
  obtain ⟨W1, hW1⟩ : ∃ W1, W1 = w.drew.setCells g (i + 1) (cs.drop i) := ⟨_, rfl⟩
  have hB1 : Blk W1 g 9 (wr cur (i + 1) (cs.drop i)) := by rw [hW1]; exact heap_setCells _ _ _ _ hcur
  have hX1 : Blk W1 vb 9 #[x] := by rw [hW1]; exact hblk.only (only_setCells (F := (· = g)) (.inl rfl) (cs.drop i) (i + 1) w.drew (Only.refl (· = g) w).drew) hvb
  have hcp2 : ∀ (W : World), (∀ x, W.cell? x = W1.cell? x) → (∀ x, W.frozen? x = W1.frozen? x) → ∀ ty dc, (Builtin.copy_ #[56, 56] ty #[.slice (some ⟨g, i, none⟩) (n + 1 - i) dc, .slice (some ⟨vb, 0, none⟩) 1 1]).run Tryz.prog W = .ok (goInt 1) (W.setCells g i [x]) := fun W hWc hWf ty dc =>
    run_copy_cells W _ _ ty 9 g i (n + 1 - i) dc ⟨vb, 0, none⟩ 1 1 [x] hu hsize (by simp only [Nat.min_def, List.length_singleton]; split <;> omega)
      (fun j v hj => by
        cases j with
        | zero => simp at hj; subst hj; rw [Addr.add_lit, hWc]; exact hX1.cell 0
        | succ j => simp at hj)
      (fun j hj => by rw [hWc, hB1.cell, Array.getElem?_eq_getElem (by rw [wr_size]; simp at hj; omega)]; rfl) (fun j hj => by rw [hWf]; exact hB1.frozen _) (fun u hu => by rw [List.mem_singleton] at hu; subst hu; exact hx1)
  rw [← hW1] at hcp1
  clear hcs hsp hfz hsa hsb hcur hblk htk h1c hx1 hB1 hX1 hsz hcl hz1 hsize
  have HCP2 := hid hcp2
  clear hcp2
  have HDL := hid hdl; clear hdl
  have HW1 := hid hW1; clear hW1
  have mixed : Tryz.prog.follows .mixedOrders = true := by kernel_rfl
  go_enter Tryz.func79, Tryz.ntmps79
  go_wp2_with (simp only [hov])
  go_region_law (refine step_copy_isStr rfl _ _ 56 56 rfl _ _ (by simp [Act.eval, Act.put]) (by simp [Act.eval, Act.put]) (hcp1 _ _ _) ?_)
  go_wp2_with (refine wpList_copy_isStr _ rfl (.tmp 80) (.tmp 81) 56 56 rfl _ _ rfl rfl (HCP2.out _ (fun _ => rfl) (fun _ => rfl) _ _) ?_)
  go_ret
  exact ⟨rfl, by rw [HW1.out]⟩

set_option maxHeartbeats 4000000 in
set_option maxRecDepth 100000 in
/-- ahead of the end, where there is no room -/
theorem insGrowStr (g n c i vb : Nat) (cs : List Value) (x : Value) (w : World) (hi : i < n) (hnc : n ≤ c) (hroom : c < n + 1) (hn : n ≤ 1048576)
    (cur : Array Value) (hcur : Blk w g 9 cur) (hsz : cur.size = c) (htk : cur.toList.take n = cs) (h1c : ∀ v ∈ cs, v.oneCell' = true) (hx1 : x.oneCell' = true) (hblk : Blk w vb 9 #[x]) :
    Calls Tryz.prog 79 #[.slice (some ⟨g, 0, none⟩) n c, .int .i64 i, .slice (some ⟨vb, 0, none⟩) 1 1] w fun e w' =>
      ∃ v', e = .returned v' ∧ w'.ownsRow 0 9 1 v' (n + 1) (cs.take i ++ x :: cs.drop i) ∧ Below w.heap.size w w' ∧ v'.ownBlock = some w.heap.size := by
  have hcl : cs.length = n := by rw [← htk, List.length_take]; simp; omega
  have hcs : ∀ j v, cs[j]? = some v → w.cell? ⟨g, j, none⟩ = some v := fun j v hj => by
    rw [hcur.cell j, ← hj, ← htk, List.getElem?_take, if_pos (by have := (List.getElem?_eq_some_iff.1 hj).1; omega)]; simp
  have hu := Tryz.underlying56
  obtain ⟨i0, hi0, hz0, hzs, hzb⟩ := info_parts Tryz.infoStr
  have hsize : (Tryz.prog.info? 9).map (·.size) = some 1 := by rw [hi0]; simp [hzs]
  have hdl : (cs.drop i).length = n - i := by rw [List.length_drop, hcl]
  have hold : (Builtin.firstCells i0.size i (.slice (some ⟨g, 0, none⟩) i c)).run Tryz.prog w.drew = .ok (cs.take i).toArray w.drew := by
    rw [hzs]
    exact run_firstCells_some w.drew 1 i ⟨g, 0, none⟩ i c (cs.take i) (by rw [List.length_take]; omega) (fun j v hj => by
      rw [Addr.add_lit, Nat.zero_add]
      rw [List.getElem?_take] at hj
      split at hj
      · exact hcs j v hj
      · cases hj)
  obtain ⟨G, hG⟩ : ∃ G, G = grownCap w (n + 1) c 9 := ⟨_, rfl⟩
  obtain ⟨ROW, hROW⟩ : ∃ ROW : Array Value, ROW = (cs.take i).toArray ++ Builtin.zeroCells (Value.cells (.string ⟨#[]⟩)) (n + 1 - i) ++ Builtin.zeroCells (Value.cells (.string ⟨#[]⟩)) (G - (n + 1)) := ⟨_, rfl⟩
  have hkk : (n : Int) + 1 - (i : Int) = ((n + 1 - i : Nat) : Int) := by omega
  have hik : i + (n + 1 - i) = n + 1 := by omega
  have hrz : ∀ ty, (Builtin.append_ #[56, 3] ty #[.slice (some ⟨g, 0, none⟩) i c, .int .i64 ((n : Int) + 1 - (i : Int))]).run Tryz.prog w =
      .ok (.slice (some ⟨w.heap.size, 0, none⟩) (n + 1) G) (w.drew.alloc (.cells ROW 9)) := fun ty => by
    have h := Lib.run_append_grow_zeros w 56 3 ty 9 i0 _ .i64 .i64 hu Tryz.underlying3 hi0 hz0 (some ⟨g, 0, none⟩) i c (cs.take i) hold (n + 1 - i) (by omega) (by omega) (by omega) (by omega) (by rw [hzb]; omega) (by rw [hzb, hik]; exact growslice_fits hroom (by omega))
    rw [hik] at h
    rw [hkk, hROW, hG]
    exact h
  have hGn : n + 1 ≤ G := by rw [hG]; exact grownCap_ge w _ _ _
  have hG63 : G ≤ 9223372036854775807 := by
    have := grownCap_le_maxLen w (n + 1) c 9 (by unfold maxLen; omega)
    rw [← hG] at this
    unfold maxLen at this
    omega
  have hRs : ROW.size = G := by
    rw [hROW]
    simp [Builtin.zeroCells, Value.cells]
    omega
  have hRt : ROW.toList.take i = cs.take i := by
    rw [hROW, Array.toList_append, Array.toList_append, List.append_assoc, List.take_append_of_le_length (by simp; omega)]
    show List.take i (cs.take i) = _
    rw [List.take_take, Nat.min_self]
  have hgl := hcur.lt
  have hvl := hblk.lt
  obtain ⟨W1, hW1⟩ : ∃ W1, W1 = w.drew.alloc (.cells ROW 9) := ⟨_, rfl⟩
  have hN1 : Blk W1 w.heap.size 9 ROW := by rw [hW1]; exact Blk.new w.drew _ _
  have hC1 : Blk W1 g 9 cur := by rw [hW1]; exact hcur.drew.alloc _
  have hV1 : Blk W1 vb 9 #[x] := by rw [hW1]; exact hblk.drew.alloc _
  have hb1 : Below w.heap.size w W1 := by rw [hW1]; exact (Below.refl _ _).drew.alloc (Nat.le_refl _) _
  have hcpA : ∀ (W : World), (∀ x, W.cell? x = W1.cell? x) → (∀ x, W.frozen? x = W1.frozen? x) → ∀ ty dc, (Builtin.copy_ #[56, 56] ty #[.slice (some ⟨w.heap.size, i, none⟩) (n + 1 - i) dc, .slice (some ⟨vb, 0, none⟩) 1 1]).run Tryz.prog W = .ok (goInt 1) (W.setCells w.heap.size i [x]) := fun W hWc hWf ty dc =>
    run_copy_cells W _ _ ty 9 w.heap.size i (n + 1 - i) dc ⟨vb, 0, none⟩ 1 1 [x] hu hsize (by simp only [Nat.min_def, List.length_singleton]; split <;> omega)
      (fun j v hj => by
        cases j with
        | zero => simp at hj; subst hj; rw [Addr.add_lit, hWc]; exact hV1.cell 0
        | succ j => simp at hj)
      (fun j hj => by rw [hWc, hN1.cell, Array.getElem?_eq_getElem (by simp at hj; omega)]; rfl) (fun j hj => by rw [hWf]; exact hN1.frozen _) (fun u hu => by rw [List.mem_singleton] at hu; subst hu; exact hx1)
  have hN2 : Blk (W1.setCells w.heap.size i [x]) w.heap.size 9 (wr ROW i [x]) := heap_setCells _ _ _ _ hN1
  have hO2 : Only (· = w.heap.size) W1 (W1.setCells w.heap.size i [x]) := only_setCells (F := (· = w.heap.size)) (.inl rfl) _ _ _ (Only.refl _ _)
  have hC2 : Blk (W1.setCells w.heap.size i [x]) g 9 cur := hC1.only hO2 (by omega)
  have hcpB : ∀ (W : World), (∀ y, W.cell? y = (W1.setCells w.heap.size i [x]).cell? y) → (∀ y, W.frozen? y = (W1.setCells w.heap.size i [x]).frozen? y) → ∀ ty dc sc, (Builtin.copy_ #[56, 56] ty #[.slice (some ⟨w.heap.size, i + 1, none⟩) (n - i) dc, .slice (some ⟨g, i, none⟩) (n - i) sc]).run Tryz.prog W = .ok (goInt (cs.drop i).length) (W.setCells w.heap.size (i + 1) (cs.drop i)) := fun W hWc hWf ty dc sc =>
    run_copy_cells W _ _ ty 9 w.heap.size (i + 1) (n - i) dc ⟨g, i, none⟩ (n - i) sc (cs.drop i) hu hsize (by rw [hdl]; simp only [Nat.min_def]; split <;> omega)
      (fun j v hj => by
        rw [Addr.add_lit, hWc, hC2.cell]
        rw [List.getElem?_drop] at hj
        rw [← hj, ← htk, List.getElem?_take, if_pos (by have := (List.getElem?_eq_some_iff.1 hj).1; omega)]; simp)
      (fun j hj => by rw [hWc, hN2.cell, Array.getElem?_eq_getElem (by rw [wr_size]; omega)]; rfl)
      (fun j hj => by rw [hWf]; exact hN2.frozen _) (fun v hv => h1c v (List.mem_of_mem_drop hv))
  have hGi : ¬ (G = i) := by omega
  have hGim : ¬ (G = i + 1) := by omega
  have hci : ¬ (c = i) := by omega
  have hw1 : IntKind.i64.wrap ((i : Int) + 1) = (i : Int) + 1 := by rw [IntKind.wrap_i64]; omega
  have hb1' : (0 : Int) ≤ (i : Int) + 1 := by omega
  have hin : i ≤ n := by omega
  have htn : ((i : Int) + 1).toNat = i + 1 := by omega
  have hb3 : (i : Int) ≤ (n : Int) := by omega
  have hz2 : ¬ ((i : Int) = (n : Int)) := by omega
  have hz3 : (c : Int) < (n : Int) + 1 := by omega
  have hfin : (∃ v', (Value.slice (some ⟨w.heap.size, 0, none⟩) (n + 1) G) = v' ∧ ((((w.alloc (.cells ROW 9)).drew.setCells w.heap.size i [x]).drew).setCells w.heap.size (i + 1) (cs.drop i)).ownsRow 0 9 1 v' (n + 1) (cs.take i ++ x :: cs.drop i) ∧ Below w.heap.size w ((((w.alloc (.cells ROW 9)).drew.setCells w.heap.size i [x]).drew).setCells w.heap.size (i + 1) (cs.drop i)) ∧ v'.ownBlock = some w.heap.size) := by
    have a1 : Blk ((w.alloc (.cells ROW 9)).drew) w.heap.size 9 ROW := Blk.new w _ _
    have a2 : Blk (((w.alloc (.cells ROW 9)).drew.setCells w.heap.size i [x]).drew) w.heap.size 9 (wr ROW i [x]) := heap_setCells _ _ _ _ a1
    have a3 : Blk ((((w.alloc (.cells ROW 9)).drew.setCells w.heap.size i [x]).drew).setCells w.heap.size (i + 1) (cs.drop i)) w.heap.size 9 (wr (wr ROW i [x]) (i + 1) (cs.drop i)) := heap_setCells _ _ _ _ a2
    have o1 : Only NoF w ((w.alloc (.cells ROW 9)).drew) := ((Only.refl NoF w).alloc _).drew
    have o2 : Only NoF w ((((w.alloc (.cells ROW 9)).drew.setCells w.heap.size i [x]).drew).setCells w.heap.size (i + 1) (cs.drop i)) :=
      only_setCells (.inr (Nat.le_refl _)) _ _ _ (only_setCells (.inr (Nat.le_refl _)) _ _ _ o1).drew
    refine ⟨_, rfl, ⟨by simp; omega, .inr ⟨w.heap.size, G, _, rfl, Nat.zero_le _, a3, hGn, by unfold maxLen; omega, by rw [wr_size, wr_size, hRs]; simp, ?_⟩⟩, o2.below0, rfl⟩
    rw [Nat.mul_one]
    exact ins_list2Str x (by omega) hcl hRt hi
  have HFIN := hid hfin
  have HA := hid hcpA; have HB := hid hcpB; have HE := hid hW1
  have hE1 : Hid (∀ x, ((w.alloc (.cells ROW 9)).drew).cell? x = W1.cell? x) := fun x => by rw [hW1]; rfl
  have hE2 : Hid (∀ x, ((w.alloc (.cells ROW 9)).drew).frozen? x = W1.frozen? x) := fun x => by rw [hW1]; rfl
  have hF1 : Hid (∀ y, (((w.alloc (.cells ROW 9)).drew.setCells w.heap.size i [x]).drew).cell? y = (W1.setCells w.heap.size i [x]).cell? y) := fun y => by rw [hW1]; rfl
  have hF2 : Hid (∀ y, (((w.alloc (.cells ROW 9)).drew.setCells w.heap.size i [x]).drew).frozen? y = (W1.setCells w.heap.size i [x]).frozen? y) := fun y => by rw [hW1]; rfl
  have HZ := hid hrz
  clear hfin hcpA hcpB hrz hW1 hN1 hC1 hV1 hb1 hN2 hO2 hC2 hRt hRs hROW hG hold hcs hcur htk h1c hx1 hblk hsz hcl hkk hik hi0 hz0 hzs hzb hsize hdl
  have mixed : Tryz.prog.follows .mixedOrders = true := by kernel_rfl
  go_enter Tryz.func79, Tryz.ntmps79
  go_wp2_with (first
    | (at_builtin; refine Lib.wpList_append_run _ rfl _ _ _ _ rfl _ _ rfl rfl _ _ (HZ.out _) ?_)
    | (refine wpList_copy_isStr _ rfl (.tmp 43) (.tmp 44) 56 56 rfl _ _ rfl rfl (HA.out _ hE1.out hE2.out _ _) ?_))
  go_region_law (refine step_copy_isStr rfl _ _ 56 56 rfl (.slice (some ⟨w.heap.size, i + 1, none⟩) (n - i) (G - (i + 1))) (.slice (some ⟨g, i, none⟩) (n - i) (c - i)) (by simp [Act.eval, Act.put]) (by simp [Act.eval, Act.put]) (HB.out _ hF1.out hF2.out _ _ _) ?_)
  go_wp2
  go_ret
  obtain ⟨v', h1, h2⟩ := HFIN.out
  exact ⟨v', congrArg Ending.returned h1, h2⟩

/-- one thing more at a place -/
theorem insStr (v : Value) (n i : Nat) (xs : List Value) (x : Value) (vb : Nat) (w : World) (hown : w.ownsRow 0 9 1 v n xs) (h1 : ∀ u ∈ xs, u.oneCell' = true) (hx1 : x.oneCell' = true) (hi : i ≤ n) (hn : n ≤ 1048576) (hblk : Blk w vb 9 #[x]) (hne : v.ownBlock ≠ some vb) :
    Calls Tryz.prog 79 #[v, .int .i64 i, .slice (some ⟨vb, 0, none⟩) 1 1] w fun e w' => ∃ v', e = .returned v' ∧ w'.ownsRow 0 9 1 v' (n + 1) (xs.take i ++ x :: xs.drop i) ∧ w.grownBy w' v.ownBlock ∧ (v'.ownBlock = v.ownBlock ∨ v'.ownBlock = some w.heap.size) := by
  have hxl : xs.length = n := by have := hown.1; omega
  by_cases hin : i = n
  · subst hin
    rw [List.take_of_length_le (by omega), List.drop_eq_nil_of_le (by omega)]
    exact insEndStr v i xs x vb w hown hx1 hn hblk
  · rcases hown.2 with ⟨rfl, rfl⟩ | ⟨g, cap, cur, rfl, hb, hg, hnc, hcm, hsz, htk⟩
    · omega
    · unfold maxLen at hcm
      rw [Nat.mul_one] at hsz htk
      by_cases hr : n + 1 ≤ cap
      · refine (insRoomStr g n cap i vb xs x w (by omega) hr hcm hn (fun e => hne (by rw [e]; rfl)) cur hg hsz htk h1 hx1 hblk).mono ?_
        rintro e w' ⟨rfl, rfl⟩
        refine ⟨_, rfl, ⟨by simp; omega, .inr ⟨g, cap, _, rfl, Nat.zero_le _, heap_setCells _ _ _ _ (heap_setCells _ _ w.drew _ hg), hr, by unfold maxLen; omega, by rw [wr_size, wr_size, hsz]; omega, ?_⟩⟩, ?_, .inl rfl⟩
        · rw [Nat.mul_one]; exact ins_listStr x (by omega) htk (by omega)
        · exact grownBy_of_only (only_setCells (F := fun k => some g = some k) (.inl rfl) _ _ _ (only_setCells (F := fun k => some g = some k) (.inl rfl) _ _ _ (Only.refl _ w).drew))
      · refine (insGrowStr g n cap i vb xs x w (by omega) hnc (by omega) hn cur hg hsz htk h1 hx1 hblk).mono ?_
        rintro e w' ⟨v', rfl, h2, hb2, h3⟩
        exact ⟨v', rfl, h2, ⟨hb2.os, hb2.tape, hb2.output, hb2.size, fun k hk _ => hb2.block k hk⟩, .inr h3⟩
end Go.Proofs.YtlenfiiocmchdaaGreatDoor
/- slices.Delete of one thing, slices.Clone, over a slice of the program's own: Str. -/
namespace Go.Proofs.YtlenfiiocmchdaaGreatDoor
open Go.RowKit
set_option linter.unusedVariables false
set_option linter.unusedSimpArgs false

theorem del_listStr {cur : Array Value} {xs : List Value} {n i : Nat} (z : List Value) (hz : z.length = 1) (hsz : n ≤ cur.size) (ht : cur.toList.take n = xs) (hi : i < n) : (wr (wr cur i (xs.drop (i + 1))) (n - 1) z).toList.take (n - 1) = xs.take i ++ xs.drop (i + 1) := by
  have hl : xs.length = n := by rw [← ht, List.length_take]; simp; omega
  have hd : (xs.drop (i + 1)).length = n - 1 - i := by rw [List.length_drop, hl]; omega
  have e4 : (xs.take i).length = i := by rw [List.length_take]; omega
  have e0 : cur.toList.take i = xs.take i := by rw [← ht, List.take_take, Nat.min_eq_left (by omega)]
  rw [wr_toList _ _ _ (by rw [wr_size, hz]; omega), wr_toList _ _ _ (by rw [hd]; omega), e0]
  have e6 : (xs.take i ++ xs.drop (i + 1)).length = n - 1 := by rw [List.length_append, e4, hd]; omega
  have e7 : (xs.take i ++ xs.drop (i + 1) ++ cur.toList.drop (i + (xs.drop (i + 1)).length)).take (n - 1) = xs.take i ++ xs.drop (i + 1) := by
    rw [List.take_append_of_le_length (by omega), List.take_of_length_le (by omega)]
  rw [e7, List.append_assoc, List.take_append_of_le_length (by omega), List.take_of_length_le (by omega)]

set_option maxHeartbeats 4000000 in
set_option maxRecDepth 100000 in
/-- one thing less -/
theorem delStr (v : Value) (n i : Nat) (xs : List Value) (w : World) (hown : w.ownsRow 0 9 1 v n xs) (h1 : ∀ u ∈ xs, u.oneCell' = true) (hi : i < n) (hn : n ≤ 1048576) :
    Calls Tryz.prog 81 #[v, .int .i64 i, .int .i64 ((i : Int) + 1)] w fun e w' => ∃ v', e = .returned v' ∧ w'.ownsRow 0 9 1 v' (n - 1) (xs.take i ++ xs.drop (i + 1)) ∧ w.grownBy w' v.ownBlock ∧ v'.ownBlock = v.ownBlock := by
  obtain ⟨i0, hi0, hz0, hz1, hz2⟩ := info_parts Tryz.infoStr
  have hxl : xs.length = n := by have := hown.1; omega
  rcases hown.2 with ⟨rfl, rfl⟩ | ⟨g, cap, cur, rfl, hb, hg, hnc, hcm, hsz, htk⟩
  · omega
  · unfold maxLen at hcm
    rw [Nat.mul_one] at hsz htk
    have hcur : Blk w g 9 cur := hg
    obtain ⟨W1, hW1⟩ : ∃ W1, W1 = w.drew.setCells g (0 + i * 1) (xs.drop (i + 1)) := ⟨_, rfl⟩
    have hB1 : Blk W1 g 9 (wr cur i (xs.drop (i + 1))) := by rw [hW1, Nat.mul_one, Nat.zero_add]; exact heap_setCells _ _ w.drew _ hg
    have hcl : ∀ ty, (Builtin.clear_ #[56] ty #[.slice (some ⟨g, i + (n - (i + 1)), none⟩) (n - (i + (n - (i + 1)))) (cap - (i + (n - (i + 1))))]).run Tryz.prog W1 = .ok (.tuple #[]) (W1.setCells g (i + (n - (i + 1))) (List.replicate (n - (i + (n - (i + 1)))) (.string ⟨#[]⟩))) :=
      fun ty => Lib.run_clear_slice W1 _ _ ty _ Tryz.underlying56 (Tryz.zeroValue9) rfl rfl g _ _ _ (by omega) (fun t ht => by rw [hB1.cell, Array.getElem?_eq_getElem (by rw [wr_size]; omega)]; rfl) (fun t ht => hB1.frozen _)
    have hfin : ∃ v', (Value.slice (some ⟨g, 0, none⟩) (i + (n - (i + 1))) cap) = v' ∧ (W1.setCells g (i + (n - (i + 1))) (List.replicate (n - (i + (n - (i + 1)))) (.string ⟨#[]⟩))).ownsRow 0 9 1 v' (n - 1) (xs.take i ++ xs.drop (i + 1)) ∧ w.grownBy (W1.setCells g (i + (n - (i + 1))) (List.replicate (n - (i + (n - (i + 1)))) (.string ⟨#[]⟩))) (some g) ∧ v'.ownBlock = some g := by
      have e1 : i + (n - (i + 1)) = n - 1 := by omega
      have e2 : n - (n - 1) = 1 := by omega
      rw [e1, e2]
      refine ⟨_, rfl, ⟨by simp; omega, .inr ⟨g, cap, _, rfl, Nat.zero_le _, heap_setCells _ _ _ _ hB1, by omega, by unfold maxLen; omega, by rw [wr_size, wr_size, hsz]; simp, ?_⟩⟩, ?_, rfl⟩
      · rw [Nat.mul_one]; exact del_listStr _ rfl (by omega) htk hi
      · rw [hW1]
        exact grownBy_of_only (only_setCells (F := fun k => some g = some k) (.inl rfl) _ _ _ (only_setCells (F := fun k => some g = some k) (.inl rfl) _ _ _ (Only.refl _ w).drew))
    have s1 : Hid ((xs.drop (i + 1)).length = (n - (i + 1)) * 1) := by unfold Hid; rw [List.length_drop]; omega
    have s2 : Hid (∀ u ∈ xs.drop (i + 1), u.oneCell' = true) := fun u hu => h1 u (List.mem_of_mem_drop hu)
    have s3 : Hid (∀ t, t < (xs.drop (i + 1)).length → (w.drew.cell? ⟨g, 0 + i * 1 + t, none⟩).isSome = true ∧ w.drew.frozen? ⟨g, 0 + i * 1 + t, none⟩ = false) := fun t ht => by
      rw [List.length_drop] at ht
      exact ⟨by rw [hcur.drew.cell, Array.getElem?_eq_getElem (by omega)]; rfl, hcur.drew.frozen _⟩
    have hsrc : Hid (∀ j u, (xs.drop (i + 1))[j]? = some u → w.drew.cell? ((⟨g, i + 1, none⟩ : Addr).add j) = some u) := fun j u hj => by
      rw [Addr.add_lit, hcur.drew.cell]
      rw [List.getElem?_drop] at hj
      rw [← hj, ← htk, List.getElem?_take, if_pos (by have := (List.getElem?_eq_some_iff.1 hj).1; omega)]; simp
    have hic : i ≤ cap := by omega
    have hjc : i + 1 ≤ cap := by omega
    have HFIN := hid hfin
    have HW := hid hW1
    have hii : ((i : Int) == (i : Int) + 1) = false := by rw [beq_eq_false_iff_ne]; omega
    have f1 : (0 : Int) ≤ (i : Int) + 1 := by omega
    have f2 : ((i : Int) + 1).toNat = i + 1 := by omega
    have f4 : (i : Int) ≤ (i : Int) + 1 := by omega
    have mixed : Tryz.prog.follows .mixedOrders = true := by kernel_rfl
    by_cases hce : cap = i + 1
    · have hn1 : n = i + 1 := by omega
      have hnil : Hid (∀ j u, (xs.drop (i + 1))[j]? = some u → w.drew.cell? ((⟨g, 0, none⟩ : Addr).add j) = some u) := fun j u hj => by
        rw [List.drop_eq_nil_of_le (by omega)] at hj; simp at hj
      subst hce
      subst hn1
      have z1 : i + (i + 1 - (i + 1)) = i := by omega
      have z2 : i + 1 - i = 1 := by omega
      rw [z1, z2] at hcl hfin
      have HFIN := hid hfin
      clear z1 z2
      clear hW1 hB1 hfin hown h1 hg hcur htk hsz hsrc
      go_enter Tryz.func81, Tryz.ntmps81
      go_wp2_with fail
      go_region_law (refine step_append_room rfl (.tmp 22) (.tmp 25) 56 rfl 9 i0 1 Tryz.underlying56 hi0 hz1 g 0 i (i + 1) (by simp [Act.eval, Act.put]) ⟨g, 0, none⟩ 0 0 (xs.drop (i + 1)) (by simp [Act.eval, Act.put]) (by have := s1.out; simpa using this) hnil.out s2.out (by omega) s3.out ?_; rw [← HW.out])
      go_wp2
      go_ret
      obtain ⟨v', h1, h2⟩ := HFIN.out
      exact ⟨v', congrArg Ending.returned h1, h2⟩
    · have f3 : (i : Int) + 1 ≤ (n : Int) := by omega
      clear hW1 hB1 hfin hown h1 hg hcur htk hsz
      go_enter Tryz.func81, Tryz.ntmps81
      go_wp2_with fail
      go_region_law (refine step_append_room rfl (.tmp 22) (.tmp 25) 56 rfl 9 i0 1 Tryz.underlying56 hi0 hz1 g 0 i cap (by simp [Act.eval, Act.put]) ⟨g, i + 1, none⟩ (n - (i + 1)) (cap - (i + 1)) (xs.drop (i + 1)) (by simp [Act.eval, Act.put]) s1.out hsrc.out s2.out (by omega) s3.out ?_; rw [← HW.out])
      go_wp2
      go_ret
      obtain ⟨v', h1, h2⟩ := HFIN.out
      exact ⟨v', congrArg Ending.returned h1, h2⟩

theorem own_noneStr (w : World) : (w.alloc (.cells #[] 9)).ownsRow w.heap.size 9 1 (.slice (some ⟨w.heap.size, 0, none⟩) 0 0) 0 [] :=
  ⟨rfl, .inr ⟨w.heap.size, 0, #[], rfl, Nat.le_refl _, by show (w.heap.push _)[w.heap.size]? = _; simp, Nat.le_refl _, by unfold maxLen; omega, rfl, rfl⟩⟩
set_option maxHeartbeats 4000000 in
set_option maxRecDepth 100000 in
/-- a copy -/
theorem cloneStr (v : Value) (n : Nat) (xs : List Value) (w : World) (hown : w.ownsRow 0 9 1 v n xs) (h1 : ∀ u ∈ xs, u.oneCell' = true) (hn : n ≤ 1048576) :
    Calls Tryz.prog 86 #[v] w fun e w' => ∃ v', e = .returned v' ∧ w'.ownsRow w.heap.size 9 1 v' n xs ∧ Below w.heap.size w w' := by
  obtain ⟨i0, hi0, hz0, hz1, hz2⟩ := info_parts Tryz.infoStr
  have hxl : xs.length = n := by have := hown.1; omega
  rcases hown.2 with ⟨rfl, rfl⟩ | ⟨g, cap, cur, rfl, hb, hg, hnc, hcm, hsz, htk⟩
  · obtain rfl : xs = [] := List.length_eq_zero_iff.1 hxl
    clear hown h1 hxl
    have hq : ∀ W : World, (binOp .eql 56 (.slice none 0 0) (.slice none 0 0)).run Tryz.prog W = .ok (.bool true) W := fun W => Go.run_eql_slice_nil W 56 9 none 0 0 Tryz.underlying56
    go_enter Tryz.func86, Tryz.ntmps86
    go_wp2
    go_ret
    exact ⟨_, rfl, World.ownsRow_nil _ _ _ _, Below.refl _ _⟩
  · unfold maxLen at hcm
    have hcells := hown.cells (g := g) rfl
    have hgl := (Array.getElem?_eq_some_iff.1 hg).1
    have HC : Hid (∀ j u, xs[j]? = some u → (w.alloc (.cells #[] 9)).cell? ((⟨g, 0, none⟩ : Addr).add j) = some u) := fun j u hu => by
      rw [World.cell?_alloc_lt w _ _ (by rw [Addr.add_lit]; exact hgl)]
      exact hcells j u hu
    have H1 := hid h1
    have HO := own_noneStr w
    have HXL : Hid (xs.length = n * 1) := by unfold Hid; omega
    have HN : Hid (0 + n = n) := by unfold Hid; omega
    clear hown h1 hxl hb hg hsz htk hcells
    have hq : ∀ W : World, (binOp .eql 56 (.slice (some ⟨g, 0, none⟩) n cap) (.slice none 0 0)).run Tryz.prog W = .ok (.bool false) W := fun W => Go.run_eql_slice_nil W 56 9 (some ⟨g, 0, none⟩) n cap Tryz.underlying56
    go_enter Tryz.func86, Tryz.ntmps86
    go_wp2_with (at_builtin; refine wpList_append_own_at _ rfl (.tmp 5) (.tmp 6) 56 rfl w.heap.size 9 i0 (.string ⟨#[]⟩) 1 16 Tryz.underlying56 hi0 hz0 hz1 hz2 rfl (by decide) _ _ _ rfl HO _ n cap xs rfl HXL.out HC.out H1.out (by unfold maxLen; omega) (by omega) (by simp) ?_; intro v' w3 hown' hgrow _ hbk)
    go_ret
    refine ⟨_, rfl, ?_, ?_⟩
    · rw [HN.out] at hown'; exact hown'
    · exact ((Below.refl _ w).alloc (Nat.le_refl _) _).grown hgrow (by simp) (fun k hk => by cases hk; exact Nat.le_refl _)
end Go.Proofs.YtlenfiiocmchdaaGreatDoor
/- A region that draws its order, in a round of a loop over an iterator: what holds of it outside a round holds in one. No program. -/
namespace Go.Proofs.YtlenfiiocmchdaaGreatDoor
open Go.RowKit
set_option linter.unusedVariables false

section
variable {l n : Nat} {P : Program} {ops : Array Oper} {md : Region.Mode} {Q : Exit → Act → World → Prop}
end
end Go.Proofs.YtlenfiiocmchdaaGreatDoor
/- The shelf's map of facts, gone over: clone, Keys, All. -/
namespace Go.Proofs.YtlenfiiocmchdaaGreatDoor
open Go.RowKit Book Pap
attribute [local go_sem] Oper.semAt_some
set_option linter.unusedVariables false
set_option linter.unusedSimpArgs false

/-- a fact in memory -/
structure Fc where
  id : ByteArray
  h : Int
  pa : Option Addr
  pn : Nat
  pc : Nat
def noFc : Fc := ⟨⟨#[]⟩, 0, none, 0, 0⟩
def fcs (f : Fc) : List Value := [.string f.id, .int .i64 f.h, .slice f.pa f.pn f.pc]
def fvals (l : List Fc) : List Value := l.flatMap fcs
theorem fvals_length : ∀ l : List Fc, (fvals l).length = l.length * 3
  | [] => rfl
  | f :: r => by
    show (fcs f ++ fvals r).length = _
    rw [List.length_append, fvals_length r, List.length_cons]
    show 3 + _ = _; omega
theorem fvals_one (l : List Fc) : ∀ u ∈ fvals l, u.oneCell' = true := by
  intro u hu
  obtain ⟨f, _, hf⟩ := List.mem_flatMap.1 hu
  unfold fcs at hf
  simp only [List.mem_cons, List.not_mem_nil, or_false] at hf
  rcases hf with rfl | rfl | rfl <;> rfl
theorem fvals_get : ∀ (l : List Fc) (k j : Nat), k < l.length → j < 3 → (fvals l)[k * 3 + j]? = (fcs (l.getD k noFc))[j]?
  | [], k, j, h, _ => by cases h
  | f :: r, 0, j, _, hj => by
    show (fcs f ++ fvals r)[0 * 3 + j]? = _
    rw [Nat.zero_mul, Nat.zero_add, List.getElem?_append_left (by exact hj)]; rfl
  | f :: r, k + 1, j, h, hj => by
    show (fcs f ++ fvals r)[(k + 1) * 3 + j]? = _
    rw [List.getElem?_append_right (by show 3 ≤ _; omega)]
    have e : (k + 1) * 3 + j - (fcs f).length = k * 3 + j := by show _ - 3 = _; omega
    rw [e, fvals_get r k j (by simpa using h) hj]; rfl
theorem own_noneF (w : World) : (w.alloc (.cells #[] 94)).ownsRow w.heap.size 94 3 (.slice (some ⟨w.heap.size, 0, none⟩) 0 0) 0 [] :=
  ⟨rfl, .inr ⟨w.heap.size, 0, #[], rfl, Nat.le_refl _, by show (w.heap.push _)[w.heap.size]? = _; simp, Nat.le_refl _, by unfold maxLen; omega, rfl, rfl⟩⟩
set_option maxHeartbeats 4000000 in
set_option maxRecDepth 100000 in
/-- a copy of facts -/
theorem cloneF (v : Value) (fs : List Fc) (w : World) (hown : w.ownsRow 0 94 3 v fs.length (fvals fs)) (hn : fs.length ≤ 1048576) :
    Calls Tryz.prog 107 #[v] w fun e w' => ∃ v', e = .returned v' ∧ w'.ownsRow w.heap.size 94 3 v' fs.length (fvals fs) ∧ Below w.heap.size w w' := by
  obtain ⟨i0, hi0, hz0, hz1, hz2⟩ := info_parts Tryz.infoFact
  obtain ⟨n, hnl⟩ : ∃ n, fs.length = n := ⟨_, rfl⟩
  have hxl : (fvals fs).length = n * 3 := by rw [fvals_length, hnl]
  rw [hnl] at hown hn ⊢
  have h1 := fvals_one fs
  obtain ⟨xs, hxs⟩ : ∃ xs, fvals fs = xs := ⟨_, rfl⟩
  rw [hxs] at hown hxl h1 ⊢
  rcases hown.2 with ⟨rfl, rfl⟩ | ⟨g, cap, cur, rfl, hb, hg, hnc, hcm, hsz, htk⟩
  · obtain rfl : xs = [] := List.length_eq_zero_iff.1 (by omega)
    clear hown h1 hxl hxs hnl
    have hq : ∀ W : World, (binOp .eql 51 (.slice none 0 0) (.slice none 0 0)).run Tryz.prog W = .ok (.bool true) W := fun W => Go.run_eql_slice_nil W 51 94 none 0 0 Tryz.underlying51
    go_enter Tryz.func107, Tryz.ntmps107
    go_wp2
    go_ret
    exact ⟨_, rfl, World.ownsRow_nil _ _ _ _, Below.refl _ _⟩
  · unfold maxLen at hcm
    have hcells := hown.cells (g := g) rfl
    have hgl := (Array.getElem?_eq_some_iff.1 hg).1
    have HC : Hid (∀ j u, xs[j]? = some u → (w.alloc (.cells #[] 94)).cell? ((⟨g, 0, none⟩ : Addr).add j) = some u) := fun j u hu => by
      rw [World.cell?_alloc_lt w _ _ (by rw [Addr.add_lit]; exact hgl)]
      exact hcells j u hu
    have H1 := hid h1
    have HO := own_noneF w
    have HXL : Hid (xs.length = n * 3) := hxl
    have HN : Hid (0 + n = n) := by unfold Hid; omega
    clear hown h1 hxl hb hg hsz htk hcells hxs hnl
    have hq : ∀ W : World, (binOp .eql 51 (.slice (some ⟨g, 0, none⟩) n cap) (.slice none 0 0)).run Tryz.prog W = .ok (.bool false) W := fun W => Go.run_eql_slice_nil W 51 94 (some ⟨g, 0, none⟩) n cap Tryz.underlying51
    go_enter Tryz.func107, Tryz.ntmps107
    go_wp2_with (at_builtin; refine wpList_append_own_at _ rfl (.tmp 5) (.tmp 6) 51 rfl w.heap.size 94 i0 (.agg #[.string ⟨#[]⟩, .int .i64 0, .slice none 0 0]) 3 48 Tryz.underlying51 hi0 hz0 hz1 hz2 rfl (by decide) _ _ _ rfl HO _ n cap xs rfl HXL.out HC.out H1.out (by unfold maxLen; omega) (by omega) (by simp) ?_; intro v' w3 hown' hgrow _ hbk)
    go_ret
    refine ⟨_, rfl, ?_, ?_⟩
    · rw [HN.out] at hown'; exact hown'
    · exact ((Below.refl _ w).alloc (Nat.le_refl _) _).grown hgrow (by simp) (fun k hk => by cases hk; exact Nat.le_refl _)
/-- a map of facts in memory -/
def MapIsF (w : World) (m : Nat) (ks vs : Value) (l : List ByteArray) (fs : List Fc) : Prop :=
  Blk w m 177 #[ks, vs] ∧ w.ownsRow 0 9 1 ks l.length (svals l) ∧ w.ownsRow 0 94 3 vs fs.length (fvals fs) ∧ fs.length = l.length ∧ Rising l ∧ l.length ≤ 1000000
set_option maxHeartbeats 1000000 in
theorem keysF (m : Nat) (ks vs : Value) (l : List ByteArray) (fs : List Fc) (w : World) (h : MapIsF w m ks vs l fs) :
    Calls Tryz.prog 108 #[.pointer (some ⟨m, 0, none⟩)] w fun e w' => ∃ v, e = .returned v ∧ w'.ownsRow w.heap.size 9 1 v l.length (svals l) ∧ Below w.heap.size w w' := by
  obtain ⟨h1, h2, h3, h4, h5, h6⟩ := h
  have CC := hid (cloneStr ks l.length (svals l) w h2 (svals_one l) (by omega))
  obtain ⟨ka, kc, rfl, hS⟩ := own_strs h2 (by omega)
  have c0 := h1.cell 0
  simp at c0
  clear h1 h2 h3 h4 h5 hS
  go_enter Tryz.func108, Tryz.ntmps108
  go_wp2_with (go_at_call 86; refine CC.out.mono ?_; rintro e w1 ⟨v, rfl, h1, h2⟩)
  go_ret
  exact ⟨_, rfl, h1, h2⟩
theorem allF_any (q : Option Addr) (w : World) : Calls Tryz.prog 66 #[.pointer q] w fun e w' => e = .returned (.func (.func 106) #[] #[.pointer (some ⟨w.heap.size, 0, none⟩)]) ∧ w' = w.alloc (.cells #[.pointer q] 122) := by
  go_enter Tryz.func66, Tryz.ntmps66
  go_wp2
  go_ret
  exact ⟨rfl, rfl⟩
/-- cells from n₀ on stay -/
def KeepC (n₀ : Nat) (A B : World) : Prop := A.heap.size ≤ B.heap.size ∧ ∀ k C t fz, n₀ ≤ k → A.heap[k]? = some (.cells C t fz) → B.heap[k]? = some (.cells C t fz)
theorem keepC_t {n₀ : Nat} {A B C : World} (h : KeepC n₀ A B) (k : KeepC n₀ B C) : KeepC n₀ A C := ⟨Nat.le_trans h.1 k.1, fun i c t fz hi e => k.2 i c t fz hi (h.2 i c t fz hi e)⟩
theorem keepC_b {n₀ : Nat} {w : World} (W : World) (l : Nat) (o o' : Obj) (_ : w.heap.size ≤ l) (h : W.heap[l]? = some o) (hc : o.isCells = false) (_ : o.isWalk = false) : KeepC n₀ W (W.putObj l o') := by
  refine ⟨by simp, fun k C t fz hk e => ?_⟩
  by_cases hkl : k = l
  · subst hkl; rw [h] at e; injection e with e; subst e; simp [Obj.isCells] at hc
  · rw [World.putObj_heap_other hkl]; exact e
theorem keepC_refl (n₀ : Nat) (A : World) : KeepC n₀ A A := ⟨Nat.le_refl _, fun _ _ _ _ _ e => e⟩
theorem own_keepC {n₀ B e s n : Nat} {v : Value} {xs : List Value} {A W : World} (h : A.ownsRow B e s v n xs) (hB : n₀ ≤ B) (hk : KeepC n₀ A W) : W.ownsRow B e s v n xs := by
  refine ⟨h.1, h.2.imp id ?_⟩
  rintro ⟨g, cap, cur, hv, hb, hg, r⟩
  exact ⟨g, cap, cur, hv, hb, hk.2 _ _ _ _ (by omega) hg, r⟩


/-- what is handed to a round: the j-th name, the j-th fact -/
def encsF (l : List ByteArray) (fs : List Fc) (j : Fin l.length) : Array Value := #[.string (l.getD j.1 ByteArray.empty), .agg (fcs (fs.getD j.1 noFc)).toArray]
set_option maxRecDepth 100000 in
set_option maxHeartbeats 4000000 in
theorem allStopsF (n Bm m n₀ : Nat) (ks vs : Value) (l : List ByteArray) (ps : List Fc) (w : World) (hn : 1 ≤ n) (hq : w.cell? ⟨Bm, 0, none⟩ = some (.pointer (some ⟨m, 0, none⟩))) (hm : MapIsF w m ks vs l ps) (hn0 : n₀ ≤ w.heap.size) :
    SeqStopsK Fence.wide n Tryz.prog 106 #[.pointer (some ⟨Bm, 0, none⟩)] (encsF l ps) (KeepC n₀) (fun xs => xs = List.finRange l.length) (fun pre => pre <+: List.finRange l.length) l.length w := by
  intro L J Jx W hW hJ hJx hY h0
  have hqW : W.cell? ⟨Bm, 0, none⟩ = some (.pointer (some ⟨m, 0, none⟩)) := (hW.cell (p := ⟨Bm, 0, none⟩) (World.block_lt_of_cell? _ _ hq)).trans hq
  obtain ⟨b1, b2, b3, b4, b5, b6⟩ := hm
  have oW : Only NoF w W := Only.of_below hW _
  have hmW : MapIsF W m ks vs l ps := ⟨b1.only oW (fun e => e), own_only b2 oW (fun _ _ e => e), own_only b3 oW (fun _ _ e => e), b4, b5, b6⟩
  have CC := hid (cloneF vs ps W hmW.2.2.1 (by omega))
  have HK : Hid (∀ W1, Below W.heap.size W W1 → Calls Tryz.prog 108 #[.pointer (some ⟨m, 0, none⟩)] W1 fun e w' => ∃ v, e = .returned v ∧ w'.ownsRow W1.heap.size 9 1 v l.length (svals l) ∧ Below W1.heap.size W1 w') := fun W1 hb => by
    have o1 : Only NoF W W1 := Only.of_below hb _
    exact keysF m ks vs l ps W1 ⟨hmW.1.only o1 (fun e => e), own_only hmW.2.1 o1 (fun _ _ e => e), own_only hmW.2.2.1 o1 (fun _ _ e => e), b4, b5, b6⟩
  have c1 := hmW.1.cell 1
  simp at c1
  obtain ⟨va, vc, rfl, hvc⟩ := own_slice hmW.2.2.1
  have hHY := hid hY; have hHJ := hid hJ
  have hnW : n₀ ≤ W.heap.size := Nat.le_trans hn0 hW.size
  obtain ⟨zs, hzs⟩ : ∃ zs, List.finRange l.length = zs := ⟨_, rfl⟩
  have hzl : zs.length = l.length := by rw [← hzs, List.length_finRange]
  have HZ : Hid (∀ k, (hk : k < l.length) → ∃ h : k < zs.length, zs[k] = ⟨k, hk⟩) := fun k hk => ⟨by omega, by subst hzs; simp⟩
  rw [hzs]
  have HQM : Hid (∀ W1, Below W.heap.size W W1 → W1.cell? ⟨Bm, 0, none⟩ = some (.pointer (some ⟨m, 0, none⟩))) := fun W1 hb => (hb.cell (p := ⟨Bm, 0, none⟩) (World.block_lt_of_cell? _ _ hqW)).trans hqW
  have H0 := hid h0
  have hln : l.length ≤ 1000000 := b6
  have HB4 := hid b4
  have hpl : ps.length ≤ 1000000 := by omega
  have HZL := hid hzl
  clear hY hJ hJx hmW b1 b2 b3 b4 b5 oW hzs hW hq h0 hzl b6
  refine callsIn_of_wp Tryz.func106 rfl trivial ?_ rfl
  simp only [Tryz.ntmps106, List.size_toArray, List.length_cons, List.length_nil, Nat.reduceAdd, Nat.reduceSub, Array.replicate_succ, Array.replicate_zero, List.push_toArray, List.append_toArray, List.nil_append, List.cons_append]
  gi_wp2_with fail
  refine ⟨trivial, (callsIn_wide.2 CC.out).mono ?_⟩; rintro e W1 ⟨v1, rfl, o1, hb1⟩
  have q1 := HQM.out W1 hb1
  have HJ1 : Hid (J [] W1) := hHJ.out _ _ _ none H0.out ⟨hb1.os, hb1.tape, hb1.output, hb1.size, fun k hk _ => hb1.block k hk⟩ (fun _ e => by cases e)
  gi_wp2_with fail
  refine ⟨trivial, (callsIn_wide.2 (HK.out W1 hb1)).mono ?_⟩; rintro e W2 ⟨v2, rfl, o2, hb2⟩
  have HJ2 : Hid (J [] W2) := hHJ.out _ _ _ none HJ1.out ⟨hb2.os, hb2.tape, hb2.output, hb2.size, fun k hk _ => hb2.block k hk⟩ (fun _ e => by cases e)
  have V2 : W2.ownsRow W.heap.size 94 3 v1 ps.length (fvals ps) := own_only o1 (Only.of_below hb2 NoF) (fun _ _ e => e)
  obtain ⟨a2, c2, rfl, hac2⟩ := own_slice o2
  obtain ⟨a1, c1', rfl, hac1⟩ := own_slice V2
  have hb1s := hb1.size
  have HV2 := hid V2; have HN2 := hid o2
  clear V2 o2 o1 hb1 hb2
  gi_wp2_with fail
  gi_loopw [16] (fun i wr => ∃ (k : Nat) (pre : List (Fin l.length)), k ≤ l.length ∧ i = .int .i64 k ∧ Hid (pre = zs.take k) ∧ J pre wr ∧ KeepC n₀ W2 wr) (fun i _ => l.length - (intOf i).toNat)
  case atStart => exact ⟨0, [], Nat.zero_le _, rfl, rfl, HJ2.out, keepC_refl _ _⟩
  case round =>
    obtain ⟨k, pre, hk, rfl, HP, hJs, hkp⟩ := hrel
    by_cases hlt : k < l.length
    · obtain ⟨h3, he⟩ := HZ.out k hlt
      have h1 := hlt
      have h2 : k < ps.length := by rw [HB4.out]; exact hlt
      have ck : wr.ownsRow W1.heap.size 9 1 (.slice a2 l.length c2) l.length (svals l) := own_keepC HN2.out (by omega) hkp
      have cv : wr.ownsRow W.heap.size 94 3 (.slice a1 ps.length c1') ps.length (fvals ps) := own_keepC HV2.out hnW hkp
      obtain ⟨g2, d2, e2, _, _⟩ := ck.form (by omega)
      obtain ⟨g1, d1, e1, _, _⟩ := cv.form (by omega)
      injection e2 with e21 _ e22
      injection e1 with e11 _ e12
      subst e21 e22 e11 e12
      have hck := ck.cellAt k (by omega)
      have hcv0 := cv.cellAt (k * 3 + 0) (by omega)
      have hcv1 := cv.cellAt (k * 3 + 1) (by omega)
      have hcv2 := cv.cellAt (k * 3 + 2) (by omega)
      rw [fvals_get ps k 0 h2 (by omega)] at hcv0
      rw [fvals_get ps k 1 h2 (by omega)] at hcv1
      rw [fvals_get ps k 2 h2 (by omega)] at hcv2
      obtain ⟨fx, hfx⟩ : ∃ fx, ps.getD k noFc = fx := ⟨_, rfl⟩
      rw [hfx] at hcv0 hcv1 hcv2
      replace hcv0 : wr.cell? ⟨g1, k * 3, none⟩ = some (.string fx.id) := hcv0
      replace hcv1 : wr.cell? ⟨g1, k * 3 + 1, none⟩ = some (.int .i64 fx.h) := hcv1
      replace hcv2 : wr.cell? ⟨g1, k * 3 + 2, none⟩ = some (.slice fx.pa fx.pn fx.pc) := hcv2
      have x1 : (svals l)[k]? = some (.string l[k]) := by unfold svals; rw [List.getElem?_map, List.getElem?_eq_getElem h1]; rfl
      rw [x1] at hck
      obtain ⟨fn, tmps, assign, body, hy, hR⟩ := hHY.out pre ⟨k, hlt⟩ wr hJs (by rw [HP.out, List.length_take, HZL.out]; omega)
      have hpre : pre ++ [⟨k, hlt⟩] = zs.take (k + 1) := by
        rw [HP.out, ← he, List.take_append_getElem h3]
      unfold encsF at hy
      have y1 : l.getD k ByteArray.empty = l[k] := by rw [List.getD_eq_getElem?_getD, List.getElem?_eq_getElem h1]; rfl
      simp only [y1, hfx] at hy
      obtain ⟨nk, hnk⟩ : ∃ nk, l[k] = nk := ⟨_, rfl⟩
      rw [hnk] at hck x1
      rw [hnk] at hy
      unfold fcs at hy
      obtain ⟨j0, hj0⟩ : ∃ j0 : Fin l.length, ⟨k, hlt⟩ = j0 := ⟨_, rfl⟩
      rw [hj0] at hpre hR
      have HPR := hid hpre
      have hkp2 : k < ps.length := h2
      clear x1 he hpre hnk hfx hJs y1 hj0
      gi_wp2
      refine hR.mono ?_
      rintro e W3 (⟨rfl, hJ3, hk3⟩ | ⟨rfl, hJx3⟩)
      · have HJ3 := hid hJ3; have HK3 := hid hk3
        clear hJ3 hk3
        gi_wp2
        go_roundw
        case rel => exact ⟨k + 1, pre ++ [j0], by omega, by go_num, HPR.out, HJ3.out, keepC_t hkp HK3.out⟩
        case measure => simp [intOf]; omega
      · have HJ3 := hid hJx3
        clear hJx3
        gi_wp2
        refine bodyPost_ret (results_none rfl _ _ _) rfl ?_
        exact ⟨⟨_, rfl⟩, .inr ⟨pre ++ [j0], by rw [HPR.out]; exact List.take_prefix _ _, HJ3.out⟩⟩
    · obtain rfl : k = l.length := by omega
      have HPZ : Hid (pre = zs) := by unfold Hid; rw [HP.out, List.take_of_length_le (Nat.le_of_eq HZL.out)]
      gi_wp2
      go_end0
      exact ⟨⟨_, rfl⟩, .inl ⟨_, rfl, by rw [← HPZ.out]; exact hJs⟩⟩
end Go.Proofs.YtlenfiiocmchdaaGreatDoor
/- The graver one of two errors: worse. -/
namespace Go.Proofs.YtlenfiiocmchdaaGreatDoor
open Go.RowKit Book Pap Ojt Sn
set_option linter.unusedVariables false
set_option linter.unusedSimpArgs false

def worseZ (a b : Int) : Int := if a = 4 ∨ b = 4 then 4 else if a = 22 ∨ b = 22 then 22 else if a = 21 ∨ b = 21 then 21 else 0
def errs : List Int := [4, 22, 21]
def worseL (a b : Int) : List Int → Int
  | [] => 0
  | e :: r => if a = e ∨ b = e then e else worseL a b r
set_option maxRecDepth 100000 in
set_option maxHeartbeats 2000000 in
theorem worse_any (a b : Int) (w : World) : Calls Tryz.prog 64 #[.int .i64 a, .int .i64 b] w fun e w' => e = .returned (.int .i64 (worseZ a b)) ∧ Below w.heap.size w w' := by
  have HB0 : Hid (Below w.heap.size w (w.alloc (.cells #[.int .i64 4, .int .i64 22, .int .i64 21] 26))) := (Below.refl _ _).alloc (Nat.le_refl _) _
  have HX0 : Hid (Blk (w.alloc (.cells #[.int .i64 4, .int .i64 22, .int .i64 21] 26)) w.heap.size 26 #[.int .i64 4, .int .i64 22, .int .i64 21]) := Blk.new w _ _
  go_enter Tryz.func64, Tryz.ntmps64
  go_upto_region 2 with fail
  generalize (w.alloc (.cells #[.int .i64 4, .int .i64 22, .int .i64 21] 26)) = w1 at HB0 HX0 ⊢
  go_loopw [9] (fun iv wr => ∃ k : Nat, k ≤ 3 ∧ iv = .int .i64 k ∧ w1 = wr ∧ Hid (worseZ a b = worseL a b (errs.drop k))) (fun iv _ => 3 - (intOf iv).toNat)
  case atStart => exact ⟨0, by omega, rfl, rfl, rfl⟩
  case round =>
    obtain ⟨k, hk, rfl, rfl, HW⟩ := hrel
    by_cases hlt : k < 3
    · have ci : (k : Int) < 3 := by omega
      have ci0 : (0 : Int) ≤ (k : Int) := by omega
      obtain ⟨e, he⟩ : ∃ e, errs.getD k 0 = e := ⟨_, rfl⟩
      have q0 : w1.cell? ⟨w.heap.size, k, none⟩ = some (.int .i64 e) := by
        rw [Blk.cell HX0.out k]
        subst he
        rcases (by omega : k = 0 ∨ k = 1 ∨ k = 2) with rfl | rfl | rfl <;> rfl
      have HD : Hid (worseZ a b = if a = e ∨ b = e then e else worseL a b (errs.drop (k + 1))) := by
        show _ = _
        rw [HW.out]
        subst he
        rcases (by omega : k = 0 ∨ k = 1 ∨ k = 2) with rfl | rfl | rfl <;> rfl
      clear he HW
      by_cases ha : a = e
      · have HR : Hid (worseZ a b = e) := by show _ = _; rw [HD.out, if_pos (.inl ha)]
        subst ha
        clear HD
        go_wp2_with fail
        go_ret
        rw [HR.out]
        exact ⟨rfl, HB0.out⟩
      · have e1 : (a == e) = false := by simpa using ha
        by_cases hb : b = e
        · have HR : Hid (worseZ a b = e) := by show _ = _; rw [HD.out, if_pos (.inr hb)]
          subst hb
          clear HD
          go_wp2_with fail
          go_ret
          rw [HR.out]
          exact ⟨rfl, HB0.out⟩
        · have HR : Hid (worseZ a b = worseL a b (errs.drop (k + 1))) := by show _ = _; rw [HD.out, if_neg (by rintro (h | h); exact ha h; exact hb h)]
          have e2 : (b == e) = false := by simpa using hb
          clear HD
          go_wp2_with fail
          go_roundw
          case rel => first | exact ⟨k + 1, by omega, by go_num, by first | rfl | trivial, HR⟩ | ((repeat apply Exists.intro); exact ⟨⟨k + 1, by omega, by go_num, by first | rfl | trivial, HR⟩, rfl⟩)
          case measure => simp [intOf]; omega
    · obtain rfl : k = 3 := by omega
      have HR : Hid (worseZ a b = 0) := HW.out
      go_wp2_with fail
      go_ret
      rw [HR.out]
      exact ⟨rfl, HB0.out⟩
end Go.Proofs.YtlenfiiocmchdaaGreatDoor
/- A commit without parents: its facts. -/
namespace Go.Proofs.YtlenfiiocmchdaaGreatDoor
open Go.RowKit Book Pap Ojt Sn Go.Deep
attribute [local go_sem] Oper.semAt_some
set_option linter.unusedVariables false
set_option linter.unusedSimpArgs false

def lenV : Value → Nat
  | .slice _ n _ => n
  | _ => 0
theorem wpList_append_nothing {ops : Array Oper} {rest : List Oper} {o : Oper} {act : Act} {w : World} {Q : Exit → Act → World → Prop} (hgd : o.guard = none) (sx x : Operand)
    (ho : o.op = .call { callee := .builtin .append, args := #[sx, x], argTypes := #[56, 56] }) (a : Option Addr) (n c : Nat) (hs : act.eval sx = .slice a n c) (hn : n ≤ c)
    (a2 : Option Addr) (c2 : Nat) (hx : act.eval x = .slice a2 0 c2)
    (hK : wpList Tryz.prog ops Q rest (act.put o.dst (.slice a n c)) w) :
    wpList Tryz.prog ops Q (o :: rest) act w := by
  obtain ⟨i, hi, hz, hz1, hz2⟩ := info_parts Tryz.infoS
  refine wpList_plain hgd fun K hK' => ?_
  have hsrc : Src Tryz.prog i.size 56 (.slice a2 0 c2) 0 [] w := by
    cases a2 with
    | none => exact Src.ofNil w Tryz.underlying56 c2
    | some ad => exact Src.ofSlice w Tryz.underlying56 ad 0 c2 [] (by simp) (fun j u h => by cases h) (fun u h => by cases h)
  have hr := run_append_nothing w 56 56 o.type 9 i Tryz.underlying56 hi a n c hn (.slice a2 0 c2) hsrc
  unfold Oper.wp execOp
  simp only [ho, resolve, invoke, builtin, Sem.run_bind, Sem.run_pure, Result.andThen_ok, List.map_toArray, List.map_cons, List.map_nil, hs, hx, hr]
  exact hK' _ _ hK
/-- what the only fact of a commit without parents is -/
def OneFact (w : World) (id : ByteArray) (h : Int) (e : Ending) (w' : World) : Prop :=
  ∃ a c pa pc, e = .returned (.tuple #[.slice a 1 c, .int .i64 0]) ∧ w'.ownsRow w.heap.size 94 3 (.slice a 1 c) 1 (fvals [⟨id, h, pa, 0, pc⟩]) ∧ Below w.heap.size w w'
set_option maxRecDepth 100000 in
set_option maxHeartbeats 8000000 in
theorem factsR_any (t : TypeId) (rv : Value) (G : Sw.Src) (hz : SrcSz G) (id : ByteArray) (x : Ob) (hx : lookK G id 3 21 = (x, 0)) (hp : x.pars = []) (w : World) (hs : SrcAt w t rv G) :
    Calls Tryz.prog 22 #[.iface t rv, .string id] w (OneFact w id x.height) := by
  obtain ⟨tx, hG⟩ : ∃ tx, G id = some tx := by
    unfold lookK at hx
    cases hG : G id with
    | none => rw [hG] at hx; cases hx
    | some tx => exact ⟨tx, rfl⟩
  have HS := hid hs
  obtain ⟨f, r, hm, hen, hget⟩ := hs
  have HGT : Hid (Calls Tryz.prog f #[r, .string id] w fun e w' => e = .returned (.tuple #[.string tx, .bool true]) ∧ Below w.heap.size w w') := by
    have := hget id w (Below.refl _ _)
    unfold GetOut at this
    rw [hG] at this
    exact this
  have HX := hid hx
  have HPN := hid hp
  clear hget hx hp hG
  refine (callsIn_wide (n := 5)).1 ?_
  refine callsIn_of_wp_marks Tryz.func22 rfl trivial ?_ rfl
  simp only [Tryz.ntmps22, List.size_toArray, List.length_cons, List.length_nil, Nat.reduceAdd, Nat.reduceSub, Array.replicate_succ, Array.replicate_zero, List.push_toArray, List.append_toArray, List.nil_append, List.cons_append]
  refine wpIn_wide.2 ?_
  go_wp2_with fail
  refine HGT.out.mono ?_; rintro e w1 ⟨rfl, hb1⟩
  have HB1 := hid hb1
  have HN := hid (fnew_any w1)
  have hs1 := hb1.size
  clear hb1 HGT hm hen
  go_wp2_with fail
  refine HN.out.mono ?_; rintro e w2 ⟨rfl, hm2, hb2⟩
  have HB2 : Hid (Below w.heap.size w w2) := HB1.out.trans (hb2.mono hs1)
  have hml := Blk.lt hm2
  have hs2 : w.heap.size ≤ w2.heap.size := HB2.out.size
  have HM3 : Hid (FM0 (w2.alloc (.cells #[.string id] 9)) w1.heap.size) := Blk.alloc hm2 _
  have HT3 : Hid (Blk (w2.alloc (.cells #[.string id] 9)) w2.heap.size 9 #[.string id]) := Blk.new w2 _ _
  have HB3 : Hid (Below w.heap.size w (w2.alloc (.cells #[.string id] 9))) := HB2.out.alloc hs2 _
  clear hm2 hb2 HN HB2 HB1 hs2
  go_wp2_with fail
  obtain ⟨m, hmm⟩ : ∃ m, w1.heap.size = m := ⟨_, rfl⟩
  rw [hmm] at HM3 hml hs1 ⊢
  clear hmm
  generalize (w2.alloc (.cells #[.string id] 9)) = w3 at HM3 HT3 HB3 ⊢
  generalize w2.heap.size = g at HT3 hml ⊢
  go_loopw [9, 10] (fun wo td wr => wo = .int .i64 0 ∧ ((td = .slice (some ⟨g, 0, none⟩) 1 1 ∧ w3 = wr) ∨ (∃ ta, td = .slice ta 0 0 ∧ Hid (∃ kv fv pa pc, MapIsF wr m kv fv [id] [⟨id, x.height, pa, 0, pc⟩] ∧ Below w.heap.size w wr)))) (fun _ td _ => lenV td)
  case atStart => exact ⟨rfl, .inl ⟨rfl, rfl⟩⟩
  case round =>
    obtain ⟨rfl, ⟨rfl, rfl⟩ | ⟨ta, rfl, HF⟩⟩ := hrel
    · have q0 : w3.cell? ⟨g, 0, none⟩ = some (.string id) := Blk.cell HT3.out 0
      have HG := hid (fget0 m id w3 HM3.out)
      go_wp2_with fail
      refine HG.out.mono ?_; rintro e w4 ⟨rfl, hb4⟩
      have hs3 : w.heap.size ≤ w3.heap.size := HB3.out.size
      have HM5 : Hid (FM0 (w4.alloc (.cells #[.string ⟨#[]⟩, .int .i64 0, .slice none 0 0] 94)) m) := Blk.alloc ((hb4.block m (Blk.lt HM3.out)).trans HM3.out) _
      have HB5 : Hid (Below w.heap.size w (w4.alloc (.cells #[.string ⟨#[]⟩, .int .i64 0, .slice none 0 0] 94))) := (HB3.out.trans (hb4.mono hs3)).alloc (Nat.le_trans hs3 hb4.size) _
      clear hb4 HG q0
      go_upto_region 11 with fail
      generalize (w4.alloc (.cells #[.string ⟨#[]⟩, .int .i64 0, .slice none 0 0] 94)) = w5 at HM5 HB5 ⊢
      have HLK := hid (look_any t rv G id 3 21 w5 (HS.out.later HB5.out) hz)
      rw [HX.out] at HLK
      go_wp2_with fail
      refine HLK.out.mono ?_; rintro e w6 ⟨ev, pv, rfl, hO6, hb6, hf6⟩
      simp only at hO6 ⊢
      obtain ⟨ea, en, ec, pa, pn, pc, rfl, -, rfl, hps⟩ := hO6
      have hpn : pn = 0 := by have := hps.1; rw [HPN.out] at this; exact this.symm
      subst hpn
      have hs5 : w.heap.size ≤ w5.heap.size := HB5.out.size
      have HM7 : Hid (FM0 (w6.alloc (.cells (obCs x (.slice ea en ec) (.slice pa 0 pc)) 103)) m) := Blk.alloc ((hb6.block m (Blk.lt HM5.out)).trans HM5.out) _
      have HX7 : Hid (Blk (w6.alloc (.cells (obCs x (.slice ea en ec) (.slice pa 0 pc)) 103)) w6.heap.size 103 (obCs x (.slice ea en ec) (.slice pa 0 pc))) := Blk.new w6 _ _
      have HB7 : Hid (Below w.heap.size w (w6.alloc (.cells (obCs x (.slice ea en ec) (.slice pa 0 pc)) 103))) := (HB5.out.trans (hb6.mono hs5)).alloc (Nat.le_trans hs5 hb6.size) _
      have hm6 : m < w6.heap.size := Nat.lt_of_lt_of_le (Blk.lt HM5.out) hb6.size
      unfold obCs at HM7 HX7 HB7
      simp only [obCs]
      clear hps hb6 hf6 HLK HM5 HB5 hs5
      have HW := hid (worse_any 0 0)
      go_upto_region 13 with fail
      generalize (w6.alloc (.cells #[.int .i64 x.kind, .string x.data, .slice ea en ec, .string x.tree, .slice pa 0 pc, .int .i64 x.height, .string x.note] 103)) = w7 at HM7 HX7 HB7 ⊢
      generalize w6.heap.size = o7 at HX7 hm6 ⊢
      go_wp2_with fail
      refine (HW.out w7).mono ?_; rintro e w8 ⟨rfl, hb8⟩
      have hs7 : w.heap.size ≤ w7.heap.size := HB7.out.size
      have HM8 : Hid (FM0 w8 m) := (hb8.block m (Blk.lt HM7.out)).trans HM7.out
      have HX8 : Hid (Blk w8 o7 103 #[.int .i64 x.kind, .string x.data, .slice ea en ec, .string x.tree, .slice pa 0 pc, .int .i64 x.height, .string x.note]) := (hb8.block o7 (Blk.lt HX7.out)).trans HX7.out
      have HB8 : Hid (Below w.heap.size w w8) := HB7.out.trans (hb8.mono hs7)
      have e0 : worseZ 0 0 = 0 := rfl
      rw [e0]
      clear hb8 HM7 HX7 HB7 hs7 HW e0
      have k4 : w8.cell? ⟨o7, 4, none⟩ = some (.slice pa 0 pc) := Blk.cell HX8.out 4
      have k5 : w8.cell? ⟨o7, 5, none⟩ = some (.int .i64 x.height) := Blk.cell HX8.out 5
      have HPU := hid (fput0 m id id x.height pa 0 pc w8 HM8.out)
      go_wp2_with fail
      refine HPU.out.mono ?_; rintro e w9 ⟨kv, fv, rfl, hblk, hkv, hfv, honly⟩
      have hs8 : w.heap.size ≤ w8.heap.size := HB8.out.size
      have k4' : w9.cell? ⟨o7, 4, none⟩ = some (.slice pa 0 pc) := Blk.cell ((honly.block o7 (Blk.lt HX8.out) (fun e => by have e : o7 = m := e; omega)).trans HX8.out) 4
      have HEND : Hid (∃ kv fv pa pc, MapIsF w9 m kv fv [id] [⟨id, x.height, pa, 0, pc⟩] ∧ Below w.heap.size w w9) :=
        ⟨kv, fv, pa, pc, ⟨hblk, own_mono hkv (Nat.zero_le _), own_mono hfv (Nat.zero_le _), rfl, List.pairwise_singleton _ _, by simp⟩, HB8.out.trans (honly.below (fun k hk => by have hk : k = m := hk; omega) hs8)⟩
      clear hblk hkv hfv honly HPU HX8 HM8 HB8 k4 k5
      go_wp2_with (at_builtin; refine wpList_append_nothing rfl (.tmp 63) (.tmp 65) rfl _ 0 0 rfl (Nat.le_refl _) pa pc rfl ?_)
      go_roundw
      case rel => first | exact ⟨rfl, .inr ⟨_, rfl, HEND⟩⟩ | ((repeat apply Exists.intro); exact ⟨⟨rfl, .inr ⟨_, rfl, HEND⟩⟩, rfl⟩)
      case measure => simp [lenV]
    · obtain ⟨kv, fv, pa, pc, hmap, hbw⟩ := HF.out
      have hsr := hbw.size
      have HMP : Hid (MapIsF ((wr.alloc (.cells #[.slice none 0 0] 51)).alloc (.cells #[.pointer (some ⟨m, 0, none⟩)] 122)) m kv fv [id] [⟨id, x.height, pa, 0, pc⟩]) := by
        obtain ⟨b1, b2, b3, b4, b5, b6⟩ := hmap
        have o : Only NoF wr ((wr.alloc (.cells #[.slice none 0 0] 51)).alloc (.cells #[.pointer (some ⟨m, 0, none⟩)] 122)) := ((Only.refl NoF wr).alloc _).alloc _
        exact ⟨b1.only o (fun e => e), own_only b2 o (fun _ _ e => e), own_only b3 o (fun _ _ e => e), b4, b5, b6⟩
      have HBW : Hid (Below w.heap.size w ((wr.alloc (.cells #[.slice none 0 0] 51)).alloc (.cells #[.pointer (some ⟨m, 0, none⟩)] 122))) := (hbw.alloc hsr _).alloc (by rw [World.size_alloc]; omega) _
      have HBO : Hid (Boxed ((wr.alloc (.cells #[.slice none 0 0] 51)).alloc (.cells #[.pointer (some ⟨m, 0, none⟩)] 122)) wr.heap.size 51 (.slice none 0 0)) := (Boxed.new wr _ _).alloc _
      have HQ : Hid (((wr.alloc (.cells #[.slice none 0 0] 51)).alloc (.cells #[.pointer (some ⟨m, 0, none⟩)] 122)).cell? ⟨wr.heap.size + 1, 0, none⟩ = some (.pointer (some ⟨m, 0, none⟩))) := by
        have := (Blk.new (wr.alloc (.cells #[.slice none 0 0] 51)) 122 #[.pointer (some ⟨m, 0, none⟩)]).cell 0
        rw [World.size_alloc] at this
        exact this
      have CA := hid (allF_any (some ⟨m, 0, none⟩) (wr.alloc (.cells #[.slice none 0 0] 51)))
      clear hmap hbw HF
      go_wp2_with fail
      refine CA.out.mono ?_; rintro e W3 ⟨rfl, rfl⟩
      rw [World.size_alloc]
      generalize hW3 : ((wr.alloc (.cells #[.slice none 0 0] 51)).alloc (.cells #[.pointer (some ⟨m, 0, none⟩)] 122)) = W3 at HMP HBW HBO HQ ⊢
      have hz3 : W3.heap.size = wr.heap.size + 2 := by rw [← hW3, World.size_alloc, World.size_alloc]
      clear CA hW3
      go_wp2_with fail
      obtain ⟨F, hF⟩ : ∃ F : Fin ([id] : List ByteArray).length → Fc, F = fun j => ([⟨id, x.height, pa, 0, pc⟩] : List Fc).getD j.1 noFc := ⟨_, rfl⟩
      have HFF := hid hF
      clear hF
      have hown0 : W3.ownsRow w.heap.size 94 3 (.slice none 0 0) 0 [] := World.ownsRow_nil _ _ _ _
      refine (wpIn_wide (n := 5)).1 ?_
      generalize hA0 : Act.mk _ _ = A0
      refine wpIn_rangeFunc_ownH (F := Fence.wide) (n := 5) rfl (by omega) (gf := 106) (lb := #[.pointer (some ⟨wr.heap.size + 1, 0, none⟩)]) (by subst hA0; rfl) trivial (enters_of Tryz.func106 (by kernel_rfl) rfl)
        (allStopsF (5 - 1) (wr.heap.size + 1) m W3.heap.size kv fv [id] [⟨id, x.height, pa, 0, pc⟩] W3 (by omega) HQ.out HMP.out (Nat.le_refl _)) keepC_t keepC_b (Below.refl _ _) (fun _ => rfl)
        (fun pre W => (∃ v, Boxed W wr.heap.size 51 v ∧ W.ownsRow w.heap.size 94 3 v pre.length (fvals (pre.map F)) ∧ (pre = [] → v = .slice none 0 0)) ∧ Below w.heap.size w W)
        (fun _ _ _ => False)
        (OwnFrom.and (Own.from (holdsRow_own w.heap.size wr.heap.size 51 94 3 (fun pre : List (Fin ([id] : List ByteArray).length) => pre.length) (fun pre => fvals (pre.map F)) (fun pre v => pre = [] → v = .slice none 0 0)) _) (ownFrom_below (Nat.le_refl _) (by omega)))
        (fun _ _ _ _ _ hs _ _ => hs)
        ⟨⟨_, HBO.out, hown0, fun _ => rfl⟩, HBW.out⟩
        (fun y a' W => ∃ bx, Blk W bx 94 (fcs (F y)).toArray ∧ a' = { tmps := ((A0.tmps.setIfInBounds 72 (.string (([id] : List ByteArray).getD y.1 ByteArray.empty))).setIfInBounds 73 (.agg (fcs (F y)).toArray)).setIfInBounds 18 (.pointer (some ⟨bx, 0, none⟩)), defers := [] })
        (fun y a' _ X Y row hs hg hr => by
          obtain ⟨bx, h1, h2⟩ := hs
          refine ⟨bx, ?_, h2⟩
          have hne : some bx ≠ row := fun e => by
            obtain ⟨o, ho, hc⟩ := (hr bx e.symm).2
            rw [show X.heap[bx]? = _ from h1] at ho; cases ho; cases hc
          exact (hg.block bx (Blk.lt h1) hne).trans h1)
        ?assign ?body ?done ?stop
      case assign =>
        rintro l pre y W K ⟨⟨v, hv, hrow, hnil⟩, hB1⟩ hK
        have hy : ([⟨id, x.height, pa, 0, pc⟩] : List Fc).getD y.1 noFc = F y := by rw [HFF.out]
        unfold encsF
        rw [hy]
        unfold fcs
        obtain ⟨bx, hbx⟩ : ∃ bx, W.heap.size = bx := ⟨_, rfl⟩
        have HK := hid hK
        have HY := hid hy
        have HBX := hid hbx
        have HS1 := hid hB1.size
        clear hK hy
        subst hA0
        gi_wp2
        refine HK.out _ _ ((KeepsOthers.alloc _ _).from _) ⟨by simp, fun k C t fz hk e => (Below.heap_alloc W _ k (Array.getElem?_eq_some_iff.1 e).1).trans e⟩ ⟨⟨v, hv.alloc _, hrow.alloc _, hnil⟩, hB1.alloc HS1.out _⟩ ⟨bx, ?_, by simp [fcs]⟩
        have := Blk.new W 94 #[.string (F y).id, .int .i64 (F y).h, .slice (F y).pa (F y).pn (F y).pc]
        rw [HBX.out] at this
        exact this
      case body =>
        rintro l pre y a' W hl hlo ⟨⟨v, hv, hrow, hnil⟩, hB⟩ ⟨bx, hbx, rfl⟩ hlt
        have hpre : pre = [] := List.length_eq_zero_iff.1 (by have h : pre.length < 1 := hlt; omega)
        have hv0 := hnil hpre
        subst hv0
        obtain ⟨i0, hi0, hz0, hz1, hz2⟩ := info_parts Tryz.infoFact
        have k0 : W.cell? ⟨bx, 0, none⟩ = some (.string (F y).id) := Blk.cell hbx 0
        have k1 : W.cell? ⟨bx, 1, none⟩ = some (.int .i64 (F y).h) := Blk.cell hbx 1
        have k2 : W.cell? ⟨bx, 2, none⟩ = some (.slice (F y).pa (F y).pn (F y).pc) := Blk.cell hbx 2
        have hc := hv.cell
        have hfz := hv.frozen
        have hsz := hB.size
        subst hpre
        unfold fcs
        subst hA0
        have hrow' : W.ownsRow w.heap.size 94 3 (.slice none 0 0) 0 [] := World.ownsRow_nil _ _ _ _
        gi_wp2_with (gi_at_builtin; refine wpListIn_append_own _ rfl _ _ 51 rfl w.heap.size 94 i0 (.agg #[.string ⟨#[]⟩, .int .i64 0, .slice none 0 0]) 3 48 Tryz.underlying51 hi0 hz0 hz1 hz2 rfl (by decide) (.slice none 0 0) _ _ rfl (hrow'.alloc _) ⟨W.heap.size, 0, none⟩ 1 1 [.string (F y).id, .int .i64 (F y).h, .slice (F y).pa (F y).pn (F y).pc] rfl rfl (cellBlk3 (Blk.new _ _ _)) (one3 rfl rfl rfl) (by unfold maxLen; omega) (by omega) (by simp; omega) ?_; intro v' w1 hown' hgrow _; obtain ⟨g', cap', rfl⟩ := ownsRow_succ hown'; obtain ⟨hv1, hv2, hr2, hk2, hb2⟩ := hv.appended (by decide) hrow' hB.size hsr hown' hgrow; have hc1 := hv1.cell; have hf1 := hv1.frozen)
        refine ⟨hk2.from _, ⟨?_, fun k C t fz hk e => ?_⟩, ⟨_, hv2, hr2, fun h => by cases h⟩, hB.trans hb2⟩
        · have h1 := hgrow.size
          rw [World.size_alloc] at h1
          have h2 : (w1.setCell ⟨wr.heap.size, 0, none⟩ (.slice (some ⟨g', 0, none⟩) (0 + 1) cap')).heap.size = w1.heap.size := by simp [World.setCell]
          have h3 : W.heap.size ≤ (w1.setCell ⟨wr.heap.size, 0, none⟩ (.slice (some ⟨g', 0, none⟩) (0 + 1) cap')).heap.size := by omega
          exact h3
        · have hl := (Array.getElem?_eq_some_iff.1 e).1
          have e1 := (Below.heap_alloc W (.cells #[.string (F y).id, .int .i64 (F y).h, .slice (F y).pa (F y).pn (F y).pc] 94) k hl).trans e
          have e2 := (hgrow.block k (by rw [World.size_alloc]; omega) (by simp [Value.ownBlock])).trans e1
          exact (Below.heap_setCell _ _ _ k (fun e => by have e : k = wr.heap.size := e; omega)).trans e2
      case done =>
        rintro D xs W hD rfl ⟨⟨v, hv, hrow, -⟩, hB⟩ hK
        have hrow : W.ownsRow w.heap.size 94 3 v (0 + 1) (fvals [⟨id, x.height, pa, 0, pc⟩]) := by
          have h := hrow
          rw [HFF.out] at h
          exact h
        obtain ⟨g', cap', rfl⟩ := ownsRow_succ hrow
        have hc := hv.cell
        have hK2 := hid hK
        have HROW := hid hrow
        have HBB := hid hB
        subst hA0
        clear hK hrow hB
        go_wp2
        refine ⟨by simp, .inl ⟨_, _, rfl, run_takeDeferred hK2.out, ?_⟩⟩
        exact ⟨_, results_tmp2 rfl _ _ _, _, _, pa, pc, rfl, ownsRow_putObj HROW.out _ hK2.out rfl, HBB.out.trans (belowK_b (w := w) (Nat.le_refl _) W D _ _ (by omega) hK2.out rfl rfl)⟩
      case stop =>
        rintro D c pre W _ _ h _
        exact h.elim
end Go.Proofs.YtlenfiiocmchdaaGreatDoor
/- path.Compare: it lays blocks and turns nothing. -/
namespace Go.Proofs.YtlenfiiocmchdaaGreatDoor
open Go.RowKit Go.Sort Pap
set_option linter.unusedVariables false

/-- blocks laid; nothing else -/
def Lays (w w' : World) : Prop := ∃ os, w' = grow w os
theorem Lays.refl (w : World) : Lays w w := ⟨#[], by simp [grow]⟩
theorem Lays.trans {a b c : World} (h : Lays a b) (k : Lays b c) : Lays a c := by
  obtain ⟨os, rfl⟩ := h
  obtain ⟨ps, rfl⟩ := k
  exact ⟨os ++ ps, by simp [grow, Array.append_assoc]⟩
theorem Lays.alloc {a b : World} (h : Lays a b) (o : Obj) : Lays a (b.alloc o) := by
  obtain ⟨os, rfl⟩ := h
  exact ⟨os.push o, by simp [grow, World.alloc]⟩
theorem Lays.below {a b : World} (h : Lays a b) : Below a.heap.size a b := by
  obtain ⟨os, rfl⟩ := h
  exact ⟨rfl, rfl, rfl, by simp [grow], fun k hk => heap_grow_old _ _ hk⟩
set_option maxHeartbeats 1000000 in
theorem indexFunc_still (g : Nat) (lb : Array Value) (eg : ∀ args w, (callFunc g args).run Tryz.prog w = .ok (.enter g args) w) (p : ByteArray → Bool) (a : Option Addr) (n c : Nat) (l : List ByteArray) (w : World) (hS : StrsAt w a n l)
    (hp : ∀ x ∈ l, Calls Tryz.prog g (#[.string x] ++ lb) w fun e w' => e = .returned (.bool (p x)) ∧ w = w') :
    Calls Tryz.prog 221 #[.slice a n c, .func (.func g) #[] lb] w fun e w' => e = .returned (.int .i64 (idxP p l)) ∧ w = w' := by
  have hl := hS.1
  have hm := hS.2.1
  have HP := hid hp; clear hp
  go_enter Tryz.func221, Tryz.ntmps221
  go_wp2
  go_loopw [8] (fun i wr => ∃ k : Nat, k ≤ n ∧ i = .int .i64 k ∧ w = wr ∧ Hid (∀ j, j < k → p (l.getD j ByteArray.empty) = false)) (fun i _ => n - (intOf i).toNat)
  case atStart => exact ⟨0, by omega, rfl, rfl, fun j hj => absurd hj (Nat.not_lt_zero _)⟩
  case round =>
    obtain ⟨k, hk, rfl, rfl, HK⟩ := hrel
    by_cases hlt : k < n
    · have hSr := hS
      obtain ⟨b, off, rfl, hc⟩ := hSr.2.2.resolve_left (by omega)
      have hck := hc k hlt
      have hmem : l.getD k ByteArray.empty ∈ l := by rw [List.getD_eq_getElem?_getD, List.getElem?_eq_getElem (by omega)]; exact List.getElem_mem _
      obtain ⟨x, hx⟩ : ∃ x, l.getD k ByteArray.empty = x := ⟨_, rfl⟩
      rw [hx] at hck hmem
      have cS := HP.out x hmem
      have HXE := hid hx
      clear hx hc
      cases hpx : p x
      · rw [hpx] at cS
        have HPX := hid hpx; clear hpx
        have CS := hid cS; clear cS
        go_wp2_with (first | (go_at_fn g; refine CS.out.mono ?_; rintro e w1 ⟨rfl, rfl⟩))
        go_roundw
        case rel => exact ⟨k + 1, by omega, by go_num, by first | rfl | trivial, upto_succ HK.out (by rw [HXE.out]; exact HPX.out)⟩
        case measure => simp [intOf]; omega
      · rw [hpx] at cS
        have HR : Hid (idxP p l = (k : Int)) := idxP_hit (by omega) HK.out (by rw [HXE.out]; exact hpx)
        clear hpx
        have CS := hid cS; clear cS
        go_wp2_with (first | (go_at_fn g; refine CS.out.mono ?_; rintro e w1 ⟨rfl, rfl⟩))
        go_ret
        exact ⟨ret_int (by rw [HR.out]), rfl⟩
    · have HR : Hid (idxP p l = -1) := idxP_miss (fun j hj => HK.out j (by omega))
      go_wp2
      go_ret
      exact ⟨ret_int (by rw [HR.out]), rfl⟩
theorem containsFunc_still (g : Nat) (lb : Array Value) (eg : ∀ args w, (callFunc g args).run Tryz.prog w = .ok (.enter g args) w) (p : ByteArray → Bool) (a : Option Addr) (n c : Nat) (l : List ByteArray) (w : World) (hS : StrsAt w a n l)
    (hp : ∀ x ∈ l, Calls Tryz.prog g (#[.string x] ++ lb) w fun e w' => e = .returned (.bool (p x)) ∧ w = w') :
    Calls Tryz.prog 162 #[.slice a n c, .func (.func g) #[] lb] w fun e w' => e = .returned (.bool (l.any p)) ∧ w = w' := by
  have c := indexFunc_still g lb eg p a n c l w hS hp
  rw [← idxP_any]
  obtain ⟨I, hI⟩ : ∃ I, idxP p l = I := ⟨_, rfl⟩
  rw [hI] at c ⊢
  have C := hid c; clear c hI hp
  go_enter Tryz.func162, Tryz.ntmps162
  go_wp2_with (go_at_call 221; refine C.out.mono ?_; rintro e w1 ⟨rfl, rfl⟩)
  go_ret
  exact ⟨rfl, rfl⟩

set_option maxHeartbeats 1000000 in
set_option maxRecDepth 100000 in
theorem check_still (a : Option Addr) (n c : Nat) (l : List ByteArray) (w : World) (hS : StrsAt w a n l) :
    Calls Tryz.prog 99 #[.slice a n c] w fun e w' => e = .returned (.int .i64 (checkE (ls l))) ∧ w = w' := by
  have hl := hS.1
  have cc := containsFunc_still 160 #[] (fun args w => rfl) (fun x => !goodL x.data.toList) a n c l w hS
    (fun x _ => checkClos_any x w)
  by_cases h0 : n = 0
  · have HX : Hid (checkE (ls l) = 30) := by
      unfold Hid checkE; rw [if_pos (.inl (List.length_eq_zero_iff.1 (by rw [ls_length]; omega)))]
    have hb : ((n : Int) == 0) = true := by simp; omega
    clear cc
    go_enter Tryz.func99, Tryz.ntmps99
    go_wp2
    go_ret
    exact ⟨ret_int (by rw [HX.out]), rfl⟩
  · have hb : ((n : Int) == 0) = false := by simp; omega
    by_cases hany : l.any (fun x => !goodL x.data.toList) = true
    · have HX : Hid (checkE (ls l) = 30) := by unfold Hid checkE; rw [if_pos (.inr ((any_bad l).1 hany))]
      rw [hany] at cc
      have CC := hid cc; clear cc hany
      go_enter Tryz.func99, Tryz.ntmps99
      go_wp2_with (go_at_call 162; refine CC.out.mono ?_; rintro e w1 ⟨rfl, rfl⟩)
      go_ret
      exact ⟨ret_int (by rw [HX.out]), rfl⟩
    · have hf : l.any (fun x => !goodL x.data.toList) = false := by simpa using hany
      have hno : ¬ (ls l = [] ∨ ∃ x ∈ ls l, goodL x = false) := by
        rintro (h | h)
        · have := congrArg List.length h; rw [ls_length] at this; simp at this; rw [this] at hl; simp at hl; omega
        · exact hany ((any_bad l).2 h)
      rw [hf] at cc
      have CC := hid cc; clear cc hany hf
      by_cases h64 : 64 < n
      · have HX : Hid (checkE (ls l) = 33) := by unfold Hid checkE; rw [if_neg hno, if_pos (by rw [ls_length]; omega)]
        have hn : (64 : Int) < n := by omega
        clear hno
        go_enter Tryz.func99, Tryz.ntmps99
        go_wp2_with (go_at_call 162; refine CC.out.mono ?_; rintro e w1 ⟨rfl, rfl⟩)
        go_ret
        exact ⟨ret_int (by rw [HX.out]), rfl⟩
      · have HX : Hid (checkE (ls l) = 0) := by unfold Hid checkE; rw [if_neg hno, if_neg (by rw [ls_length]; omega)]
        have hn : ¬ (64 : Int) < n := by omega
        clear hno
        go_enter Tryz.func99, Tryz.ntmps99
        go_wp2_with (go_at_call 162; refine CC.out.mono ?_; rintro e w1 ⟨rfl, rfl⟩)
        go_ret
        exact ⟨ret_int (by rw [HX.out]), rfl⟩


set_option maxHeartbeats 1000000 in
theorem splitX_any (s : ByteArray) (w : World) (hs : s.size < 4294967281) (hm : MaxAt w) :
    Calls Tryz.prog 54 #[.string s] w fun e w' => ∃ v, e = .returned (.tuple #[v, .int .i64 (splitE s.data.toList)]) ∧ SplitsC s v w' ∧ Lays w w' := by
  obtain ⟨m, hm⟩ := hm
  have cS := Tryz.strings_Split s slash m w hs hm (by decide)
  have hlen : (Lib.splitB slash 0 (Lib.countB s slash) s).length = Lib.countB s slash + 1 := Lib.splitB_all slash (by decide) 0 _ s rfl
  have hls := splitB_pieces s
  have hcl := Lib.countB_le slash (by decide) s.size s (Nat.le_refl _)
  obtain ⟨l, hl⟩ : ∃ l, Lib.splitB slash 0 (Lib.countB s slash) s = l := ⟨_, rfl⟩
  rw [hl] at cS hlen hls
  obtain ⟨k, hk⟩ : ∃ k, Lib.countB s slash = k := ⟨_, rfl⟩
  rw [hk] at cS hlen hcl
  have hlm : l.length ≤ 9223372036854775807 := by omega
  have hS := strs_alloc w l 9 hlm
  have hbel : Lays w (w.alloc (.cells (l.map Value.string).toArray 9)) := Lays.alloc (Lays.refl _) _
  rw [← hlen] at cS
  obtain ⟨w1, hw1⟩ : ∃ w1, w.alloc (.cells (l.map Value.string).toArray 9) = w1 := ⟨_, rfl⟩
  rw [hw1] at cS hS hbel
  obtain ⟨q, hq⟩ : ∃ q, w.heap.size = q := ⟨_, rfl⟩
  have hS' := hS
  rw [hq] at cS hS
  have cC := check_still (some ⟨q, 0, none⟩) l.length l.length l w1 hS
  have hE : checkE (ls l) = splitE s.data.toList := by unfold splitE ls; rw [hls]
  rw [hE] at cC
  have HL : Hid (ls l = pieces s.data.toList) := hls
  obtain ⟨E, hEE⟩ : ∃ E, splitE s.data.toList = E := ⟨_, rfl⟩
  rw [hEE] at cC
  have HEE := hid hEE
  have CS := hid cS; have CC := hid cC
  clear cS cC hlen hls hl hk hcl hE hEE hw1 hm hS' hq
  by_cases h0 : E = 0
  · subst h0
    go_enter Tryz.func54, Tryz.ntmps54
    go_wp2_with (first
      | (go_at_call 98; refine CS.out.mono ?_; rintro e w2 ⟨rfl, hw⟩; obtain rfl := hw.symm)
      | (go_at_call 99; refine CC.out.mono ?_; rintro e w2 ⟨rfl, rfl⟩))
    go_ret2
    exact ⟨_, by rw [HEE.out]; rfl, ⟨_, l, rfl, hS, by unfold namesOf; rw [if_pos HEE.out]; exact HL.out, fun h => absurd HEE.out h⟩, hbel⟩
  · have e1 : (E != 0) = true := by simpa using h0
    have e2 : (E == 0) = false := by simpa using h0
    have H0 := hid h0; clear h0
    go_enter Tryz.func54, Tryz.ntmps54
    go_wp2_with (first
      | (go_at_call 98; refine CS.out.mono ?_; rintro e w2 ⟨rfl, hw⟩; obtain rfl := hw.symm)
      | (go_at_call 99; refine CC.out.mono ?_; rintro e w2 ⟨rfl, rfl⟩))
    go_ret2
    exact ⟨_, by rw [HEE.out]; rfl, ⟨none, [], rfl, ⟨rfl, by simp, .inl rfl⟩, by unfold namesOf; rw [if_neg (by rw [HEE.out]; exact H0.out)]; rfl, fun _ => rfl⟩, hbel⟩

set_option maxHeartbeats 1000000 in
theorem compareX_any (a b : ByteArray) (w : World) (ha : a.size < 4294967281) (hb : b.size < 4294967281) (hm : MaxAt w) :
    Calls Tryz.prog 37 #[.string a, .string b] w fun e w' => e = .returned (.int .i64 (compareR a.data.toList b.data.toList)) ∧ Lays w w' := by
  have HM := hid hm
  have HB := Lays.refl w
  have HT : True := trivial
  clear hm
  by_cases h1 : splitE a.data.toList = 0
  · by_cases h2 : splitE b.data.toList = 0
    · have HR : Hid (compareR a.data.toList b.data.toList = cmpP (pieces a.data.toList) (pieces b.data.toList)) := by unfold Hid compareR; rw [if_pos ⟨h1, h2⟩]
      have H1 := hid h1
      have H2 := hid h2
      have f1 : (splitE a.data.toList != 0) = false := by simp [h1]
      have f2 : (splitE b.data.toList != 0) = false := by simp [h2]
      clear h1 h2
      go_enter Tryz.func37, Tryz.ntmps37
      go_wp2_with (first
        | (go_at_call 54; refine (splitX_any _ _ (by assumption) (HM.out.later HB.below)).mono ?_; rintro e w1 ⟨v, rfl, hv, hb1⟩; replace HB := Lays.trans HB hb1; replace HT := And.intro HT (And.intro (hid hv) (hid hb1)); clear hv hb1)
        | (go_at_call 80; obtain ⟨⟨-, K1, B1⟩, K2, B2⟩ := HT; obtain ⟨p1, l1, rfl, hs1, hn1, -⟩ := K1.out; obtain ⟨p2, l2, rfl, hs2, hn2, -⟩ := K2.out
           refine (slicesCompare_any _ _ _ _ _ _ _ _ _ (hs1.later B2.out.below) hs2).mono ?_; rintro e w3 ⟨rfl, rfl⟩))
      go_ret
      exact ⟨ret_int (by rw [HR.out]; unfold namesOf; rw [if_pos H1.out, if_pos H2.out]), HB⟩
    · have HR : Hid (compareR a.data.toList b.data.toList = 0) := by unfold Hid compareR; rw [if_neg (fun e => h2 e.2)]
      have f1 : (splitE a.data.toList != 0) = false := by simp [h1]
      have f2 : (splitE b.data.toList != 0) = true := by simp [h2]
      clear h1 h2
      go_enter Tryz.func37, Tryz.ntmps37
      go_wp2_with (go_at_call 54; refine (splitX_any _ _ (by assumption) (HM.out.later HB.below)).mono ?_; rintro e w1 ⟨v, rfl, hv, hb1⟩; replace HB := Lays.trans HB hb1; clear hv hb1)
      go_ret
      exact ⟨ret_int (by rw [HR.out]), HB⟩
  · have HR : Hid (compareR a.data.toList b.data.toList = 0) := by unfold Hid compareR; rw [if_neg (fun e => h1 e.1)]
    have f1 : (splitE a.data.toList != 0) = true := by simp [h1]
    clear h1
    go_enter Tryz.func37, Tryz.ntmps37
    go_wp2_with (go_at_call 54; refine (splitX_any _ _ (by assumption) (HM.out.later HB.below)).mono ?_; rintro e w1 ⟨v, rfl, hv, hb1⟩; replace HB := Lays.trans HB hb1; clear hv hb1)
    go_ret
    exact ⟨ret_int (by rw [HR.out]), HB⟩


end Go.Proofs.YtlenfiiocmchdaaGreatDoor
/- Own slices of structs sorted by a function. -/
namespace Go.Proofs.YtlenfiiocmchdaaGreatDoor
open Go.RowKit Go.Sort Go.Shelf
set_option linter.unusedVariables false
set_option linter.unusedSimpArgs false

section
variable {α : Type} [Inhabited α]
theorem flat_get (enc : α → List Value) (k : Nat) (hk0 : 0 < k) (hk : ∀ x, (enc x).length = k) : ∀ (l : List α) (j : Nat), j < l.length * k → (l.flatMap enc)[j]! = (enc (l[j / k]!))[j % k]!
  | [], j, h => by simp at h
  | a :: r, j, h => by
    rw [List.flatMap_cons]
    by_cases hj : j < k
    · have e1 : j / k = 0 := Nat.div_eq_of_lt hj
      have e2 : j % k = j := Nat.mod_eq_of_lt hj
      rw [e1, e2]
      have hja : j < (enc a).length := by rw [hk]; exact hj
      rw [getElem!_pos _ j (by rw [List.length_append]; omega), List.getElem_append_left hja]
      simp [hja]
    · obtain ⟨i, rfl⟩ : ∃ i, j = k + i := ⟨j - k, by omega⟩
      have hr : i < r.length * k := by rw [List.length_cons, Nat.succ_mul] at h; omega
      have ih := flat_get enc k hk0 hk r i hr
      have e1 : (k + i) / k = i / k + 1 := by rw [Nat.add_comm, Nat.add_div_right _ hk0]
      have e2 : (k + i) % k = i % k := by rw [Nat.add_mod_left]
      rw [e1, e2]
      have hlen : i < (r.flatMap enc).length := by
        have : (r.flatMap enc).length = r.length * k := by
          clear ih hr h e1 e2
          induction r with
          | nil => simp
          | cons b t ih => rw [List.flatMap_cons, List.length_append, hk, ih, List.length_cons, Nat.succ_mul]; omega
        omega
      rw [getElem!_pos _ (k + i) (by rw [List.length_append, hk]; omega), List.getElem_append_right (by rw [hk]; omega)]
      rw [getElem!_pos _ i hlen] at ih
      have e3 : (a :: r)[i / k + 1]! = r[i / k]! := rfl
      rw [e3, ← ih]
      congr 1
      rw [hk]; omega
theorem flat_len {β : Type} (enc : β → List Value) (k : Nat) (hk : ∀ x, (enc x).length = k) : ∀ l : List β, (l.flatMap enc).length = l.length * k
  | [] => by simp
  | b :: t => by rw [List.flatMap_cons, List.length_append, hk, flat_len enc k hk t, List.length_cons, Nat.succ_mul]; omega
theorem flatK_eq (enc : α → List Value) (k : Nat) (hk0 : 0 < k) (hk : ∀ x, (enc x).length = k) (d : Array α) : flatK enc k d = (d.toList.flatMap enc).toArray := by
  refine ext_get! (by simp [flat_len enc k hk]) fun t ht => ?_
  have ht' : t < d.size * k := by simpa using ht
  have hq : t / k < d.size := Nat.div_lt_of_lt_mul (by rw [Nat.mul_comm]; exact ht')
  have h := flat_get enc k hk0 hk d.toList t (by simpa using ht')
  rw [get_flatK _ _ _ t ht']
  have e1 : (d.toList.flatMap enc).toArray[t]! = (d.toList.flatMap enc)[t]! := by simp
  rw [e1, h]
  simp [hq]
theorem own_sortedK {w : World} {B g n cap k q : Nat} {e : TypeId} {xs ys : List Value} {os : Array Obj} (h : w.ownsRow B e k (.slice (some ⟨g, 0, none⟩) n cap) n xs) (hy : ys.length = n * k) :
    (grow (putRow id (Sort.ahead w q) g 0 ys.toArray) os).ownsRow B e k (.slice (some ⟨g, 0, none⟩) n cap) n ys := by
  rcases h.2 with ⟨e0, _⟩ | ⟨g', cap', cur, e0, hb, hg, hn, hm, hs, ht⟩
  · cases e0
  · injection e0 with e1 _ e3
    injection e1 with e1
    injection e1 with e1
    subst e1; subst e3
    have hlt : g < w.heap.size := (Array.getElem?_eq_some_iff.1 hg).1
    refine ⟨hy, .inr ⟨g, cap, putCells id 0 ys.toArray cur, rfl, hb, ?_, hn, hm, by simpa [putCells] using hs, ?_⟩⟩
    · rw [heap_grow_old _ _ (by simpa [putRow, mapBlock, Sort.ahead] using hlt)]
      simp [putRow, mapBlock, Sort.ahead, Array.getElem?_modify, hg, onCells]
    · have hle : n * k ≤ cur.size := by rw [hs]; exact Nat.mul_le_mul_right _ hn
      apply List.ext_getElem?
      intro j
      rw [List.getElem?_take, Array.getElem?_toList]
      by_cases hj : j < n * k
      · have hjc : j < cur.size := by omega
        simp only [if_pos hj, putCells, Array.getElem?_mapIdx, Array.getElem?_eq_getElem hjc, Option.map_some]
        rw [if_pos (by simp; omega), List.getElem?_eq_getElem (by omega)]
        simp [getElem!_pos, show j < ys.length by omega]
      · rw [if_neg hj, List.getElem?_eq_none (by omega)]
theorem holds_flat {w : World} {B g n cap k : Nat} {e : TypeId} {xs : List Value} (h : w.ownsRow B e k (.slice (some ⟨g, 0, none⟩) n cap) n xs) : Holds id w g 0 xs.toArray := by
  rcases h.2 with ⟨e0, _⟩ | ⟨g', cap', cur, e0, hb, hg, hn, hm, hs, ht⟩
  · cases e0
  · injection e0 with e1 _ e3
    injection e1 with e1
    injection e1 with e1
    subst e1
    intro j hj
    have hj' : j < xs.length := by simpa using hj
    refine ⟨?_, by simp [World.frozen?, hg]⟩
    have e1 : (cur.toList.take (n * k))[j]? = xs[j]? := by rw [ht]
    have hl := h.1
    rw [List.getElem?_take, if_pos (by omega), Array.getElem?_toList, List.getElem?_eq_getElem hj'] at e1
    simp only [World.cell?, hg, Nat.zero_add]
    simp only [Option.isSome_none, Bool.false_eq_true, if_false]
    rw [e1]
    simp [getElem!_pos, hj']
theorem grownBy_sortedK {w : World} {g n : Nat} {os : Array Obj} (d : Array Value) : w.grownBy (grow (putRow id (Sort.ahead w n) g 0 d) os) (some g) := by
  refine ⟨rfl, rfl, rfl, by simp, fun k hk hne => ?_⟩
  rw [heap_grow_old _ _ (by simpa using hk)]
  have : g ≠ k := fun e => hne (by rw [e])
  simp [putRow, mapBlock, Sort.ahead, Array.getElem?_modify, this]
/-- what sorting by a function leaves of an own slice of structs -/
def SortKOut (B : Nat) (e0 : TypeId) (k : Nat) (enc : α → List Value) (w : World) (v : Value) (n : Nat) (l : List α) (e : Ending) (w' : World) : Prop :=
  e = .returned (.tuple #[]) ∧ w'.ownsRow B e0 k v n (l.flatMap enc) ∧ w.grownBy w' v.ownBlock
theorem sortK_own {P : Program} {ρ : Ren} (L : SlLaysF0.n6 P ρ) (k : Nat) (hk0 : 0 < k) (aE : ∀ w, (isAgg (ρ.t 24)).run P w = .ok true w) (zE : ∀ w, (Go.sizeOf (ρ.t 24)).run P w = .ok k w)
    (enc : α → List Value) (hk : ∀ x, (enc x).length = k) (h1 : ∀ x, ∀ v ∈ enc x, v.oneCell' = true) (cf : α → α → Int) (hO : SWO (ltOf cf)) (hT : ∀ x y, (ltOf cf) x y = false → (ltOf cf) y x = false → x = y) (g : Nat) (cb : Array Value) (B n : Nat) (v : Value) (l : List α) (w : World)
    (eg : ∀ args w, (callFunc g args).run P w = .ok (.enter g args) w) (hcmp : ∀ W, w.grownBy W v.ownBlock → ∀ x y : α, Calls P g (#[.agg (enc x).toArray, .agg (enc y).toArray] ++ cb) W fun e w' => e = .returned (.int .i64 (cf x y)) ∧ ∃ q os', w' = grow (W.drewN q) os')
    (h : w.ownsRow B (ρ.t 24) k v n (l.flatMap enc)) (hn : n ≤ 1000000) :
    Calls P (ρ.f 6) #[v, .func (.func g) #[] cb] w (SortKOut B (ρ.t 24) k enc w v n (l.mergeSort fun x y => !(ltOf cf) y x)) := by
  have hl : l.length = n := by
    have := h.1
    rw [flat_len enc k hk] at this
    exact Nat.eq_of_mul_eq_mul_right hk0 this
  have h0 := h
  rcases h.2 with ⟨rfl, hz⟩ | ⟨gb, cap, cur, rfl, hb, hg, hn1, hc, hs, ht⟩
  · subst hz
    have hl0 : l = [] := List.length_eq_zero_iff.1 hl
    subst hl0
    refine (AnyF.slices_SortFunc_none L none 0 _ w).mono ?_
    rintro e w' ⟨rfl, rfl⟩
    refine ⟨rfl, ?_, ⟨rfl, rfl, rfl, Nat.le_refl _, fun _ _ _ => rfl⟩⟩
    rw [List.mergeSort_nil]; exact World.ownsRow_nil _ _ _ _
  · have hlt : gb < w.heap.size := (Array.getElem?_eq_some_iff.1 hg).1
    have hH : HoldsK enc k w gb 0 l.toArray := by
      unfold HoldsK
      rw [flatK_eq enc k hk0 hk]
      exact holds_flat h0
    have hsz : l.toArray.size = n := by simpa using hl
    have hS := AnyQ.slices_SortFunc_total L k aE zE enc hk h1 cf hO g cb gb 0 cap l.toArray w eg (fun m os dk hdk x y => hcmp _ (by unfold sortWorldK putRowK; exact grownBy_sortedK _) x y) hH hlt (by rw [hsz]; omega) hT
    rw [hsz] at hS
    refine hS.mono ?_
    rintro e w' ⟨rfl, q, os, rfl⟩
    unfold sortWorldK putRowK
    rw [flatK_eq enc k hk0 hk]
    refine ⟨rfl, own_sortedK h0 ?_, grownBy_sortedK _⟩
    rw [flat_len enc k hk]
    simp [List.length_mergeSort, hl]
end
end Go.Proofs.YtlenfiiocmchdaaGreatDoor
/-
  DERIVED: THE SHELF's CONTRACTS AT THIS DUMP, IN PLAIN WORDS (tools/lay-plain.mjs out of 'TryzLayT.lean', which tools/lay-shelf.mjs wrote): THE SAME DECLARATIONS UNDER THE SAME NAMES: 'import', 'namespace', 'open', 'def', 'theorem' AND NOTHING ELSE: no command of the shelf's: FOR A HAND-IN. Each laying: the table of numbers ('.._ren') and one theorem, a field a fact of the dump's own or the kernel's comparison; each contract: ONE APPLICATION.
-/
namespace Go.Proofs
open Go.Shelf
def Tryz.sortF58_ren : Go.Shelf.Ren := ⟨fun | 6 => 58 | 15 => 102 | 14 => 101 | 28 => 171 | 29 => 172 | 20 => 163 | 21 => 164 | 22 => 165 | 23 => 166 | 24 => 167 | 25 => 168 | 26 => 169 | 27 => 170 | 46 => 222 | 47 => 223 | 48 => 224 | 49 => 225 | 50 => 226 | 57 => 252 | n => n, fun | 22 => 45 | 24 => 50 | 25 => 120 | 3 => 3 | 39 => 64 | 0 => 0 | 53 => 207 | 55 => 246 | 4 => 4 | 46 => 239 | 45 => 238 | 50 => 149 | 5 => 5 | 9 => 9 | 66 => 285 | 70 => 289 | 76 => 310 | 77 => 311 | n => n, fun | n => n⟩
theorem Tryz.sortF58 : Go.Proofs.SlLaysF0.n6 Tryz.prog Tryz.sortF58_ren := {
  mixed := by kernel_rfl
  f6 := ⟨Tryz.f58.name, by decide, Tryz.func58.trans (congrArg some (by kernel_rfl))⟩
  f14 := ⟨Tryz.f101.name, by decide, Tryz.func101.trans (congrArg some (by kernel_rfl))⟩
  f15 := Tryz.func102.trans (congrArg some (by kernel_rfl))
  f20 := ⟨Tryz.f163.name, by decide, Tryz.func163.trans (congrArg some (by kernel_rfl))⟩
  f21 := ⟨Tryz.f164.name, by decide, Tryz.func164.trans (congrArg some (by kernel_rfl))⟩
  f22 := ⟨Tryz.f165.name, by decide, Tryz.func165.trans (congrArg some (by kernel_rfl))⟩
  f23 := ⟨Tryz.f166.name, by decide, Tryz.func166.trans (congrArg some (by kernel_rfl))⟩
  f24 := ⟨Tryz.f167.name, by decide, Tryz.func167.trans (congrArg some (by kernel_rfl))⟩
  f25 := ⟨Tryz.f168.name, by decide, Tryz.func168.trans (congrArg some (by kernel_rfl))⟩
  f26 := ⟨Tryz.f169.name, by decide, Tryz.func169.trans (congrArg some (by kernel_rfl))⟩
  f27 := ⟨Tryz.f170.name, by decide, Tryz.func170.trans (congrArg some (by kernel_rfl))⟩
  f28 := Tryz.func171.trans (congrArg some (by kernel_rfl))
  f29 := Tryz.func172.trans (congrArg some (by kernel_rfl))
  f46 := ⟨Tryz.f222.name, by decide, Tryz.func222.trans (congrArg some (by kernel_rfl))⟩
  f47 := Tryz.func223.trans (congrArg some (by kernel_rfl))
  f48 := Tryz.func224.trans (congrArg some (by kernel_rfl))
  f49 := ⟨Tryz.f225.name, by decide, Tryz.func225.trans (congrArg some (by kernel_rfl))⟩
  f50 := ⟨Tryz.f226.name, by decide, Tryz.func226.trans (congrArg some (by kernel_rfl))⟩
  f57 := ⟨Tryz.f252.name, by decide, Tryz.func252.trans (congrArg some (by kernel_rfl))⟩
  t0 := Tryz.underlying0
  a0 := Tryz.isAgg0
  z0 := Tryz.sizeOf0
  v0 := Tryz.zeroValue0
  t3 := Tryz.underlying3
  a3 := Tryz.isAgg3
  z3 := Tryz.sizeOf3
  v3 := Tryz.zeroValue3
  t4 := Tryz.underlying4
  a4 := Tryz.isAgg4
  z4 := Tryz.sizeOf4
  v4 := Tryz.zeroValue4
  t5 := Tryz.underlying5
  a5 := Tryz.isAgg5
  z5 := Tryz.sizeOf5
  v5 := Tryz.zeroValue5
  t9 := Tryz.underlying9
  a9 := Tryz.isAgg9
  z9 := Tryz.sizeOf9
  v9 := Tryz.zeroValue9
  t22 := Tryz.underlying45
  a22 := Tryz.isAgg45
  z22 := Tryz.sizeOf45
  v22 := Tryz.zeroValue45
  t25 := Tryz.underlying120
  a25 := Tryz.isAgg120
  z25 := Tryz.sizeOf120
  v25 := Tryz.zeroValue120
  t39 := Tryz.underlying64
  a39 := Tryz.isAgg64
  z39 := Tryz.sizeOf64
  v39 := Tryz.zeroValue64
  t45 := Tryz.underlying238
  a45 := Tryz.isAgg238
  z45 := Tryz.sizeOf238
  v45 := Tryz.zeroValue238
  t46 := Tryz.underlying239
  a46 := Tryz.isAgg239
  z46 := Tryz.sizeOf239
  v46 := Tryz.zeroValue239
  t50 := Tryz.underlying149
  a50 := Tryz.isAgg149
  z50 := Tryz.sizeOf149
  v50 := Tryz.zeroValue149
  t53 := Tryz.underlying207
  a53 := Tryz.isAgg207
  z53 := Tryz.sizeOf207
  v53 := Tryz.zeroValue207
  t55 := Tryz.underlying246
  a55 := Tryz.isAgg246
  z55 := Tryz.sizeOf246
  v55 := Tryz.zeroValue246
  t66 := Tryz.underlying285
  a66 := Tryz.isAgg285
  z66 := Tryz.sizeOf285
  v66 := Tryz.zeroValue285
  t70 := Tryz.underlying289
  a70 := Tryz.isAgg289
  z70 := Tryz.sizeOf289
  v70 := Tryz.zeroValue289
  t76 := Tryz.underlying310
  a76 := Tryz.isAgg310
  z76 := Tryz.sizeOf310
  v76 := Tryz.zeroValue310
  t77 := Tryz.underlying311
  a77 := Tryz.isAgg311
  z77 := Tryz.sizeOf311
  v77 := Tryz.zeroValue311 }
def Tryz.sortF175_ren : Go.Shelf.Ren := ⟨fun | 6 => 175 | 15 => 102 | 14 => 228 | 28 => 171 | 29 => 172 | 20 => 254 | 21 => 255 | 22 => 256 | 23 => 257 | 24 => 258 | 25 => 259 | 26 => 260 | 27 => 261 | 46 => 281 | 47 => 223 | 48 => 224 | 49 => 282 | 50 => 283 | 57 => 289 | n => n, fun | 22 => 51 | 24 => 94 | 25 => 170 | 3 => 3 | 39 => 64 | 0 => 0 | 53 => 207 | 55 => 246 | 4 => 4 | 46 => 239 | 45 => 238 | 50 => 149 | 5 => 5 | 9 => 9 | 66 => 285 | 70 => 289 | 76 => 310 | 77 => 311 | n => n, fun | n => n⟩
theorem Tryz.sortF175 : Go.Proofs.SlLaysF0.n6 Tryz.prog Tryz.sortF175_ren := {
  mixed := by kernel_rfl
  f6 := ⟨Tryz.f175.name, by decide, Tryz.func175.trans (congrArg some (by kernel_rfl))⟩
  f14 := ⟨Tryz.f228.name, by decide, Tryz.func228.trans (congrArg some (by kernel_rfl))⟩
  f15 := Tryz.func102.trans (congrArg some (by kernel_rfl))
  f20 := ⟨Tryz.f254.name, by decide, Tryz.func254.trans (congrArg some (by kernel_rfl))⟩
  f21 := ⟨Tryz.f255.name, by decide, Tryz.func255.trans (congrArg some (by kernel_rfl))⟩
  f22 := ⟨Tryz.f256.name, by decide, Tryz.func256.trans (congrArg some (by kernel_rfl))⟩
  f23 := ⟨Tryz.f257.name, by decide, Tryz.func257.trans (congrArg some (by kernel_rfl))⟩
  f24 := ⟨Tryz.f258.name, by decide, Tryz.func258.trans (congrArg some (by kernel_rfl))⟩
  f25 := ⟨Tryz.f259.name, by decide, Tryz.func259.trans (congrArg some (by kernel_rfl))⟩
  f26 := ⟨Tryz.f260.name, by decide, Tryz.func260.trans (congrArg some (by kernel_rfl))⟩
  f27 := ⟨Tryz.f261.name, by decide, Tryz.func261.trans (congrArg some (by kernel_rfl))⟩
  f28 := Tryz.func171.trans (congrArg some (by kernel_rfl))
  f29 := Tryz.func172.trans (congrArg some (by kernel_rfl))
  f46 := ⟨Tryz.f281.name, by decide, Tryz.func281.trans (congrArg some (by kernel_rfl))⟩
  f47 := Tryz.func223.trans (congrArg some (by kernel_rfl))
  f48 := Tryz.func224.trans (congrArg some (by kernel_rfl))
  f49 := ⟨Tryz.f282.name, by decide, Tryz.func282.trans (congrArg some (by kernel_rfl))⟩
  f50 := ⟨Tryz.f283.name, by decide, Tryz.func283.trans (congrArg some (by kernel_rfl))⟩
  f57 := ⟨Tryz.f289.name, by decide, Tryz.func289.trans (congrArg some (by kernel_rfl))⟩
  t0 := Tryz.underlying0
  a0 := Tryz.isAgg0
  z0 := Tryz.sizeOf0
  v0 := Tryz.zeroValue0
  t3 := Tryz.underlying3
  a3 := Tryz.isAgg3
  z3 := Tryz.sizeOf3
  v3 := Tryz.zeroValue3
  t4 := Tryz.underlying4
  a4 := Tryz.isAgg4
  z4 := Tryz.sizeOf4
  v4 := Tryz.zeroValue4
  t5 := Tryz.underlying5
  a5 := Tryz.isAgg5
  z5 := Tryz.sizeOf5
  v5 := Tryz.zeroValue5
  t9 := Tryz.underlying9
  a9 := Tryz.isAgg9
  z9 := Tryz.sizeOf9
  v9 := Tryz.zeroValue9
  t22 := Tryz.underlying51
  a22 := Tryz.isAgg51
  z22 := Tryz.sizeOf51
  v22 := Tryz.zeroValue51
  t25 := Tryz.underlying170
  a25 := Tryz.isAgg170
  z25 := Tryz.sizeOf170
  v25 := Tryz.zeroValue170
  t39 := Tryz.underlying64
  a39 := Tryz.isAgg64
  z39 := Tryz.sizeOf64
  v39 := Tryz.zeroValue64
  t45 := Tryz.underlying238
  a45 := Tryz.isAgg238
  z45 := Tryz.sizeOf238
  v45 := Tryz.zeroValue238
  t46 := Tryz.underlying239
  a46 := Tryz.isAgg239
  z46 := Tryz.sizeOf239
  v46 := Tryz.zeroValue239
  t50 := Tryz.underlying149
  a50 := Tryz.isAgg149
  z50 := Tryz.sizeOf149
  v50 := Tryz.zeroValue149
  t53 := Tryz.underlying207
  a53 := Tryz.isAgg207
  z53 := Tryz.sizeOf207
  v53 := Tryz.zeroValue207
  t55 := Tryz.underlying246
  a55 := Tryz.isAgg246
  z55 := Tryz.sizeOf246
  v55 := Tryz.zeroValue246
  t66 := Tryz.underlying285
  a66 := Tryz.isAgg285
  z66 := Tryz.sizeOf285
  v66 := Tryz.zeroValue285
  t70 := Tryz.underlying289
  a70 := Tryz.isAgg289
  z70 := Tryz.sizeOf289
  v70 := Tryz.zeroValue289
  t76 := Tryz.underlying310
  a76 := Tryz.isAgg310
  z76 := Tryz.sizeOf310
  v76 := Tryz.zeroValue310
  t77 := Tryz.underlying311
  a77 := Tryz.isAgg311
  z77 := Tryz.sizeOf311
  v77 := Tryz.zeroValue311 }
def Tryz.sortF192_ren : Go.Shelf.Ren := ⟨fun | 6 => 192 | 15 => 102 | 14 => 235 | 28 => 171 | 29 => 172 | 20 => 263 | 21 => 264 | 22 => 265 | 23 => 266 | 24 => 267 | 25 => 268 | 26 => 269 | 27 => 270 | 46 => 284 | 47 => 223 | 48 => 224 | 49 => 285 | 50 => 286 | 57 => 290 | n => n, fun | 22 => 210 | 24 => 213 | 25 => 262 | 3 => 3 | 39 => 64 | 0 => 0 | 53 => 207 | 55 => 246 | 4 => 4 | 46 => 239 | 45 => 238 | 50 => 149 | 5 => 5 | 9 => 9 | 66 => 285 | 70 => 289 | 76 => 310 | 77 => 311 | n => n, fun | n => n⟩
theorem Tryz.sortF192 : Go.Proofs.SlLaysF0.n6 Tryz.prog Tryz.sortF192_ren := {
  mixed := by kernel_rfl
  f6 := ⟨Tryz.f192.name, by decide, Tryz.func192.trans (congrArg some (by kernel_rfl))⟩
  f14 := ⟨Tryz.f235.name, by decide, Tryz.func235.trans (congrArg some (by kernel_rfl))⟩
  f15 := Tryz.func102.trans (congrArg some (by kernel_rfl))
  f20 := ⟨Tryz.f263.name, by decide, Tryz.func263.trans (congrArg some (by kernel_rfl))⟩
  f21 := ⟨Tryz.f264.name, by decide, Tryz.func264.trans (congrArg some (by kernel_rfl))⟩
  f22 := ⟨Tryz.f265.name, by decide, Tryz.func265.trans (congrArg some (by kernel_rfl))⟩
  f23 := ⟨Tryz.f266.name, by decide, Tryz.func266.trans (congrArg some (by kernel_rfl))⟩
  f24 := ⟨Tryz.f267.name, by decide, Tryz.func267.trans (congrArg some (by kernel_rfl))⟩
  f25 := ⟨Tryz.f268.name, by decide, Tryz.func268.trans (congrArg some (by kernel_rfl))⟩
  f26 := ⟨Tryz.f269.name, by decide, Tryz.func269.trans (congrArg some (by kernel_rfl))⟩
  f27 := ⟨Tryz.f270.name, by decide, Tryz.func270.trans (congrArg some (by kernel_rfl))⟩
  f28 := Tryz.func171.trans (congrArg some (by kernel_rfl))
  f29 := Tryz.func172.trans (congrArg some (by kernel_rfl))
  f46 := ⟨Tryz.f284.name, by decide, Tryz.func284.trans (congrArg some (by kernel_rfl))⟩
  f47 := Tryz.func223.trans (congrArg some (by kernel_rfl))
  f48 := Tryz.func224.trans (congrArg some (by kernel_rfl))
  f49 := ⟨Tryz.f285.name, by decide, Tryz.func285.trans (congrArg some (by kernel_rfl))⟩
  f50 := ⟨Tryz.f286.name, by decide, Tryz.func286.trans (congrArg some (by kernel_rfl))⟩
  f57 := ⟨Tryz.f290.name, by decide, Tryz.func290.trans (congrArg some (by kernel_rfl))⟩
  t0 := Tryz.underlying0
  a0 := Tryz.isAgg0
  z0 := Tryz.sizeOf0
  v0 := Tryz.zeroValue0
  t3 := Tryz.underlying3
  a3 := Tryz.isAgg3
  z3 := Tryz.sizeOf3
  v3 := Tryz.zeroValue3
  t4 := Tryz.underlying4
  a4 := Tryz.isAgg4
  z4 := Tryz.sizeOf4
  v4 := Tryz.zeroValue4
  t5 := Tryz.underlying5
  a5 := Tryz.isAgg5
  z5 := Tryz.sizeOf5
  v5 := Tryz.zeroValue5
  t9 := Tryz.underlying9
  a9 := Tryz.isAgg9
  z9 := Tryz.sizeOf9
  v9 := Tryz.zeroValue9
  t22 := Tryz.underlying210
  a22 := Tryz.isAgg210
  z22 := Tryz.sizeOf210
  v22 := Tryz.zeroValue210
  t25 := Tryz.underlying262
  a25 := Tryz.isAgg262
  z25 := Tryz.sizeOf262
  v25 := Tryz.zeroValue262
  t39 := Tryz.underlying64
  a39 := Tryz.isAgg64
  z39 := Tryz.sizeOf64
  v39 := Tryz.zeroValue64
  t45 := Tryz.underlying238
  a45 := Tryz.isAgg238
  z45 := Tryz.sizeOf238
  v45 := Tryz.zeroValue238
  t46 := Tryz.underlying239
  a46 := Tryz.isAgg239
  z46 := Tryz.sizeOf239
  v46 := Tryz.zeroValue239
  t50 := Tryz.underlying149
  a50 := Tryz.isAgg149
  z50 := Tryz.sizeOf149
  v50 := Tryz.zeroValue149
  t53 := Tryz.underlying207
  a53 := Tryz.isAgg207
  z53 := Tryz.sizeOf207
  v53 := Tryz.zeroValue207
  t55 := Tryz.underlying246
  a55 := Tryz.isAgg246
  z55 := Tryz.sizeOf246
  v55 := Tryz.zeroValue246
  t66 := Tryz.underlying285
  a66 := Tryz.isAgg285
  z66 := Tryz.sizeOf285
  v66 := Tryz.zeroValue285
  t70 := Tryz.underlying289
  a70 := Tryz.isAgg289
  z70 := Tryz.sizeOf289
  v70 := Tryz.zeroValue289
  t76 := Tryz.underlying310
  a76 := Tryz.isAgg310
  z76 := Tryz.sizeOf310
  v76 := Tryz.zeroValue310
  t77 := Tryz.underlying311
  a77 := Tryz.isAgg311
  z77 := Tryz.sizeOf311
  v77 := Tryz.zeroValue311 }
end Go.Proofs
/- How commits stand: order.Compare; facts sorted. -/
namespace Go.Proofs.YtlenfiiocmchdaaGreatDoor
open Go.RowKit Book Pap Go.Sort
set_option linter.unusedVariables false
set_option linter.unusedSimpArgs false

def valF (f : Fc) : Value := .agg (fcs f).toArray
/-- a number, or the next one -/
def orZ (x y : Int) : Int := if x ≠ 0 then x else y
def cmpZ (f g : Fc) : Int := orZ (Lib.compareInt f.h g.h) (Lib.compareBytes f.id.data.toList g.id.data.toList)
/-- nothing that lay has turned; orders may be drawn -/
def LaysD (w w' : World) : Prop := ∃ q os, w' = grow (w.drewN q) os
theorem LaysD.refl (w : World) : LaysD w w := ⟨0, #[], by simp [grow, World.drewN]⟩
set_option maxRecDepth 100000 in
set_option maxHeartbeats 2000000 in
theorem or_any (x y : Int) (b : Nat) (w : World) (h : Blk w b 3 #[.int .i64 x, .int .i64 y]) : Calls Tryz.prog 148 #[.slice (some ⟨b, 0, none⟩) 2 2] w fun e w' => e = .returned (.int .i64 (orZ x y)) ∧ w = w' := by
  have k0 : w.cell? ⟨b, 0, none⟩ = some (.int .i64 x) := Blk.cell h 0
  have k1 : w.cell? ⟨b, 1, none⟩ = some (.int .i64 y) := Blk.cell h 1
  clear h
  by_cases hx : x = 0
  · have HR : Hid (orZ x y = y) := by unfold Hid orZ; rw [if_neg (by simp [hx])]
    have q0 : (x != 0) = false := by simp [hx]
    have q0' : (x == 0) = true := by simp [hx]
    clear hx
    by_cases hy : y = 0
    · have q1 : (y != 0) = false := by simp [hy]
      have q1' : (y == 0) = true := by simp [hy]
      have HY := hid hy
      clear hy
      go_enter Tryz.func148, Tryz.ntmps148
      go_wp2
      go_loopw [8] (fun iv wr => ∃ k : Nat, k ≤ 2 ∧ iv = .int .i64 k ∧ w = wr) (fun iv _ => 2 - (intOf iv).toNat)
      case atStart => exact ⟨0, by omega, rfl, rfl⟩
      case round =>
        obtain ⟨k, hk, rfl, rfl⟩ := hrel
        rcases (by omega : k = 0 ∨ k = 1 ∨ k = 2) with rfl | rfl | rfl
        · go_wp2
          go_roundw
          case rel => first | exact ⟨1, by omega, by first | rfl | go_num, trivial⟩ | exact ⟨1, by omega, by first | rfl | go_num, rfl⟩
          case measure => simp [intOf]
        · go_wp2
          go_roundw
          case rel => first | exact ⟨2, by omega, by first | rfl | go_num, trivial⟩ | exact ⟨2, by omega, by first | rfl | go_num, rfl⟩
          case measure => simp [intOf]
        · go_wp2
          go_ret
          rw [HR.out, HY.out]
          exact ⟨rfl, rfl⟩
    · have q1 : (y != 0) = true := by simp [hy]
      have q1' : (y == 0) = false := by simp [hy]
      clear hy
      go_enter Tryz.func148, Tryz.ntmps148
      go_wp2
      go_loopw [8] (fun iv wr => ∃ k : Nat, k ≤ 1 ∧ iv = .int .i64 k ∧ w = wr) (fun iv _ => 2 - (intOf iv).toNat)
      case atStart => exact ⟨0, by omega, rfl, rfl⟩
      case round =>
        obtain ⟨k, hk, rfl, rfl⟩ := hrel
        rcases (by omega : k = 0 ∨ k = 1) with rfl | rfl
        · go_wp2
          go_roundw
          case rel => first | exact ⟨1, by omega, by first | rfl | go_num, trivial⟩ | exact ⟨1, by omega, by first | rfl | go_num, rfl⟩
          case measure => simp [intOf]
        · go_wp2
          go_ret
          rw [HR.out]
          exact ⟨rfl, rfl⟩
  · have HR : Hid (orZ x y = x) := by unfold Hid orZ; rw [if_pos hx]
    have q0 : (x != 0) = true := by simp [hx]
    have q0' : (x == 0) = false := by simp [hx]
    clear hx
    go_enter Tryz.func148, Tryz.ntmps148
    go_wp2
    go_loopw [8] (fun iv wr => iv = .int .i64 0 ∧ w = wr) (fun iv _ => 2 - (intOf iv).toNat)
    case atStart => exact ⟨rfl, rfl⟩
    case round =>
      obtain ⟨rfl, rfl⟩ := hrel
      go_wp2
      go_ret
      rw [HR.out]
      exact ⟨rfl, rfl⟩
set_option maxRecDepth 100000 in
set_option maxHeartbeats 4000000 in
theorem ordcmp_any (f g : Fc) (w : World) : Calls Tryz.prog 95 #[valF f, valF g] w fun e w' => e = .returned (.int .i64 (cmpZ f g)) ∧ LaysD w w' := by
  have e1 : valF f = .agg #[.string f.id, .int .i64 f.h, .slice f.pa f.pn f.pc] := rfl
  have e2 : valF g = .agg #[.string g.id, .int .i64 g.h, .slice g.pa g.pn g.pc] := rfl
  rw [e1, e2]
  clear e1 e2
  have HLY : Hid (Lays w ((w.alloc (.cells #[.string f.id, .int .i64 f.h, .slice f.pa f.pn f.pc] 94)).alloc (.cells #[.string g.id, .int .i64 g.h, .slice g.pa g.pn g.pc] 94))) := ((Lays.refl w).alloc _).alloc _
  have HXB : Hid (Blk ((w.alloc (.cells #[.string f.id, .int .i64 f.h, .slice f.pa f.pn f.pc] 94)).alloc (.cells #[.string g.id, .int .i64 g.h, .slice g.pa g.pn g.pc] 94)) w.heap.size 94 #[.string f.id, .int .i64 f.h, .slice f.pa f.pn f.pc]) := Blk.alloc (Blk.new w _ _) _
  have HYB : Hid (Blk ((w.alloc (.cells #[.string f.id, .int .i64 f.h, .slice f.pa f.pn f.pc] 94)).alloc (.cells #[.string g.id, .int .i64 g.h, .slice g.pa g.pn g.pc] 94)) (w.heap.size + 1) 94 #[.string g.id, .int .i64 g.h, .slice g.pa g.pn g.pc]) := by
    have h := Blk.new (w.alloc (.cells #[.string f.id, .int .i64 f.h, .slice f.pa f.pn f.pc] 94)) 94 #[.string g.id, .int .i64 g.h, .slice g.pa g.pn g.pc]
    rw [World.size_alloc] at h; exact h
  have HC1 := hid (Tryz.cmp_Compare_int f.h g.h)
  have HC2 := hid (Tryz.strings_Compare f.id g.id)
  have HCZ : Hid (cmpZ f g = orZ (Lib.compareInt f.h g.h) (Lib.compareBytes f.id.data.toList g.id.data.toList)) := rfl
  generalize Lib.compareInt f.h g.h = c1 at HC1 HCZ
  generalize Lib.compareBytes f.id.data.toList g.id.data.toList = c2 at HC2 HCZ
  go_enter Tryz.func95, Tryz.ntmps95
  go_upto_region 1 with fail
  generalize ((w.alloc (.cells #[.string f.id, .int .i64 f.h, .slice f.pa f.pn f.pc] 94)).alloc (.cells #[.string g.id, .int .i64 g.h, .slice g.pa g.pn g.pc] 94)) = w2 at HLY HXB HYB ⊢
  generalize hg1 : w.heap.size + 1 = g1 at HYB ⊢
  generalize w.heap.size = g0 at HXB hg1 ⊢
  clear hg1
  have k0 : w2.cell? ⟨g0, 0, none⟩ = some (.string f.id) := Blk.cell HXB.out 0
  have k1 : w2.cell? ⟨g0, 1, none⟩ = some (.int .i64 f.h) := Blk.cell HXB.out 1
  have k2 : w2.cell? ⟨g1, 0, none⟩ = some (.string g.id) := Blk.cell HYB.out 0
  have k3 : w2.cell? ⟨g1, 1, none⟩ = some (.int .i64 g.h) := Blk.cell HYB.out 1
  go_wp2_with fail
  refine wp_region_tail_drew 10 (by kernel_rfl) (by kernel_rfl) ?_
  simp only [List.take_succ_cons, List.take_zero, List.drop_succ_cons, List.drop_zero]
  repeat (first
    | go_big_quiet_step (first
      | (go_at_call 149; exact Calls.quiet_of_same (HC1.out _))
      | (go_at_call 150; exact Calls.quiet_of_same (HC2.out _)))
    | quiet_step (fail))
  refine wpQuiet_nil ?_
  intro _ hw'
  obtain ⟨nq, hw''⟩ := hw'
  subst hw''
  have HO := hid (or_any c1 c2 (w2.drewN nq).heap.size ((w2.drewN nq).alloc (.cells #[.int .i64 c1, .int .i64 c2] 3)) (Blk.new _ _ _))
  have HE : Hid (LaysD w ((w2.drewN nq).alloc (.cells #[.int .i64 c1, .int .i64 c2] 3))) := by
    obtain ⟨os, hos⟩ := HLY.out
    exact ⟨nq, os.push (.cells #[.int .i64 c1, .int .i64 c2] 3), by rw [hos]; simp [grow, World.alloc, World.drewN]⟩
  clear k0 k1 k2 k3
  go_wp2_with fail
  refine HO.out.mono ?_; rintro e w3 ⟨rfl, rfl⟩
  go_wp2_with fail
  go_ret
  rw [HCZ.out]
  exact ⟨rfl, HE.out⟩
set_option maxRecDepth 100000 in
set_option maxHeartbeats 4000000 in
/-- the greater one first -/
theorem met1_any (f g : Fc) (w : World) : Calls Tryz.prog 176 #[valF f, valF g] w fun e w' => e = .returned (.int .i64 (cmpZ g f)) ∧ LaysD w w' := by
  have e1 : valF f = .agg #[.string f.id, .int .i64 f.h, .slice f.pa f.pn f.pc] := rfl
  have e2 : valF g = .agg #[.string g.id, .int .i64 g.h, .slice g.pa g.pn g.pc] := rfl
  have e3 : (.agg #[.string g.id, .int .i64 g.h, .slice g.pa g.pn g.pc] : Value) = valF g := rfl
  have e4 : (.agg #[.string f.id, .int .i64 f.h, .slice f.pa f.pn f.pc] : Value) = valF f := rfl
  have HE3 := hid e3
  have HE4 := hid e4
  rw [e1, e2]
  clear e1 e2 e3 e4
  have HXB : Hid (Blk ((w.alloc (.cells #[.string f.id, .int .i64 f.h, .slice f.pa f.pn f.pc] 94)).alloc (.cells #[.string g.id, .int .i64 g.h, .slice g.pa g.pn g.pc] 94)) w.heap.size 94 #[.string f.id, .int .i64 f.h, .slice f.pa f.pn f.pc]) := Blk.alloc (Blk.new w _ _) _
  have HYB : Hid (Blk ((w.alloc (.cells #[.string f.id, .int .i64 f.h, .slice f.pa f.pn f.pc] 94)).alloc (.cells #[.string g.id, .int .i64 g.h, .slice g.pa g.pn g.pc] 94)) (w.heap.size + 1) 94 #[.string g.id, .int .i64 g.h, .slice g.pa g.pn g.pc]) := by
    have h := Blk.new (w.alloc (.cells #[.string f.id, .int .i64 f.h, .slice f.pa f.pn f.pc] 94)) 94 #[.string g.id, .int .i64 g.h, .slice g.pa g.pn g.pc]
    rw [World.size_alloc] at h; exact h
  have HLY : Hid (Lays w ((w.alloc (.cells #[.string f.id, .int .i64 f.h, .slice f.pa f.pn f.pc] 94)).alloc (.cells #[.string g.id, .int .i64 g.h, .slice g.pa g.pn g.pc] 94))) := ((Lays.refl w).alloc _).alloc _
  have HC := hid (ordcmp_any g f)
  rw [← HE3.out, ← HE4.out] at HC
  go_enter Tryz.func176, Tryz.ntmps176
  go_upto_region 1 with fail
  generalize ((w.alloc (.cells #[.string f.id, .int .i64 f.h, .slice f.pa f.pn f.pc] 94)).alloc (.cells #[.string g.id, .int .i64 g.h, .slice g.pa g.pn g.pc] 94)) = w2 at HLY HXB HYB ⊢
  generalize hg1 : w.heap.size + 1 = g1 at HYB ⊢
  generalize w.heap.size = g0 at HXB hg1 ⊢
  clear hg1
  have k0 : w2.cell? ⟨g0, 0, none⟩ = some (.string f.id) := Blk.cell HXB.out 0
  have k1 : w2.cell? ⟨g0, 1, none⟩ = some (.int .i64 f.h) := Blk.cell HXB.out 1
  have k2 : w2.cell? ⟨g0, 2, none⟩ = some (.slice f.pa f.pn f.pc) := Blk.cell HXB.out 2
  have k3 : w2.cell? ⟨g1, 0, none⟩ = some (.string g.id) := Blk.cell HYB.out 0
  have k4 : w2.cell? ⟨g1, 1, none⟩ = some (.int .i64 g.h) := Blk.cell HYB.out 1
  have k5 : w2.cell? ⟨g1, 2, none⟩ = some (.slice g.pa g.pn g.pc) := Blk.cell HYB.out 2
  go_wp2_with fail
  refine (HC.out w2).mono ?_; rintro e w3 ⟨rfl, hl⟩
  have HL : Hid (LaysD w w3) := by
    obtain ⟨os, hos⟩ := HLY.out
    obtain ⟨q, os', h⟩ := hl
    exact ⟨q, os ++ os', by rw [h, hos]; simp [grow, World.drewN, Array.append_assoc]⟩
  clear hl
  go_wp2_with fail
  go_ret
  exact ⟨rfl, HL.out⟩
end Go.Proofs.YtlenfiiocmchdaaGreatDoor
