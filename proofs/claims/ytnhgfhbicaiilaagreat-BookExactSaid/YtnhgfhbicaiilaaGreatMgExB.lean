/- Texts in a row: InsStr, DelStr, InsPtr, DelPtr, ShPtr, ReelA, ReelB, ReelC, ReelOk. -/
import Derived.Test.YtnhgfhbicaiilaaGreatMgExA
import Derived.Test.YtnhgfhbicaiilaaGreatChecked
import Derived.WalkKit
import Derived.RegionTactic
import Derived.Shelf.RegionOpenPlain
import Derived.Lib.Walk
import Derived.Lib.SliceRun
import Derived.Lib.JoinLaws
import Derived.Lib.AppendZeros
import Derived.Lib.AppendZerosOnto
import Derived.Lib.Overlaps
import Derived.Laws.Externs
import Derived.Laws.IdiomCopy
import Derived.Laws.NewBlocks
import Derived.Deep.RegionLaw
import Derived.Maps.AppendAt
import Derived.Lib.LazyBuf
import Derived.StillTailTactics
import Derived.BigRegion
import Derived.ChangeAlike
/- slices.Insert of one thing, over a slice of the program's own: Str. -/
namespace Go.Proofs.YtnhgfhbicaiilaaGreat
open Go.RowKit
set_option linter.unusedVariables false
set_option linter.unusedSimpArgs false

theorem Tryz.infoStr : (Tryz.prog.info? 9).map (fun i => (i.zero, i.size, i.bytes)) = some (some (.string ⟨#[]⟩), 1, 16) := by kernel_rfl

/-- a copy whose run is known -/
theorem wp_copy_isStr {P : Program} (w : World) {o : Oper} {a : Act} {K : Act → World → Prop} {Q : Exit → Act → World → Prop} (d s : Operand) (t t' : TypeId)
    (ho : o.op = .call { callee := .builtin .copy, args := #[d, s], argTypes := #[t, t'] }) (v u : Value) (hd : a.eval d = v) (hs : a.eval s = u) {v' : Value} {w' : World}
    (hr : (Builtin.copy_ #[t, t'] o.type #[v, u]).run P w = .ok v' w') (h : K (a.put o.dst v') w') : o.wp P a w K Q := by
  unfold Oper.wp execOp
  simp only [ho, resolve, invoke, builtin, Sem.run_bind, Sem.run_pure, Result.andThen_ok, List.map_toArray, List.map_cons, List.map_nil, hd, hs, hr]
  exact h
theorem wpList_copy_isStr {P : Program} (w : World) {ops : Array Oper} {rest : List Oper} {o : Oper} {a : Act} {Q : Exit → Act → World → Prop} (hgd : o.guard = none) (d s : Operand) (t t' : TypeId)
    (ho : o.op = .call { callee := .builtin .copy, args := #[d, s], argTypes := #[t, t'] }) (v u : Value) (hd : a.eval d = v) (hs : a.eval s = u) {v' : Value} {w' : World}
    (hr : (Builtin.copy_ #[t, t'] o.type #[v, u]).run P w = .ok v' w') (h : wpList P ops Q rest (a.put o.dst v') w') : wpList P ops Q (o :: rest) a w :=
  wpList_plain hgd fun _ hK => wp_copy_isStr w d s t t' ho v u hd hs hr (hK _ _ h)
theorem step_copy_isStr {P : Program} {ops : Array Oper} {o : Oper} {a : Act} {w : World} {K : Act → World → Prop} {Q : Exit → Act → World → Prop} {E : Prop}
    (hg : o.guard = none) (d x : Operand) (dT sT : TypeId) (hop : o.op = Op.call { callee := Callee.builtin Builtin.copy, args := #[d, x], argTypes := #[dT, sT] })
    (v u : Value) (hd : a.eval d = v) (hx : a.eval x = u) {v' : Value} {w' : World} (hr : (Builtin.copy_ #[dT, sT] o.type #[v, u]).run P w = .ok v' w') (hK : K (a.put o.dst v') w') :
    if Region.wanted o (yielded ops a.tmps) = true then Oper.wp P o a w K Q else E := by
  have hw : Region.wanted o (yielded ops a.tmps) = true := by simp [Region.wanted, hg]
  rw [if_pos hw]
  exact wp_copy_isStr w d x dT sT hop v u hd hx hr hK

theorem ins_listStr {cur : Array Value} {xs : List Value} {n i : Nat} (x : Value) (hsz : n + 1 ≤ cur.size) (ht : cur.toList.take n = xs) (hi : i < n) : (wr (wr cur (i + 1) (xs.drop i)) i [x]).toList.take (n + 1) = xs.take i ++ x :: xs.drop i := by
  have hl : xs.length = n := by rw [← ht, List.length_take]; simp; omega
  have hd : (xs.drop i).length = n - i := by rw [List.length_drop, hl]
  rw [wr_toList _ _ _ (by rw [wr_size]; simp; omega), wr_toList _ _ _ (by rw [hd]; omega), hd]
  have e1 : cur.toList.take (i + 1) = (cur.toList.take (i + 1)).take i ++ (cur.toList.take (i + 1)).drop i := (List.take_append_drop _ _).symm
  have hc : (cur.toList.take (i + 1)).length = i + 1 := by rw [List.length_take]; simp; omega
  have e2 : (cur.toList.take (i + 1) ++ xs.drop i ++ cur.toList.drop (i + 1 + (n - i))).take i = xs.take i := by
    rw [List.append_assoc, List.take_append_of_le_length (by omega), List.take_take, ← ht, List.take_take, Nat.min_eq_left (by omega), Nat.min_eq_left (by omega)]
  have e3 : (cur.toList.take (i + 1) ++ xs.drop i ++ cur.toList.drop (i + 1 + (n - i))).drop (i + [x].length) = xs.drop i ++ cur.toList.drop (i + 1 + (n - i)) := by
    rw [List.append_assoc, show i + [x].length = (cur.toList.take (i + 1)).length from hc.symm, List.drop_left]
  rw [e2, e3]
  have e4 : (xs.take i).length = i := by rw [List.length_take]; omega
  rw [show xs.take i ++ [x] ++ (xs.drop i ++ cur.toList.drop (i + 1 + (n - i))) = (xs.take i ++ x :: xs.drop i) ++ cur.toList.drop (i + 1 + (n - i)) by simp]
  rw [List.take_append_of_le_length (by rw [List.length_append, List.length_cons, hd, e4]; omega), List.take_of_length_le (by rw [List.length_append, List.length_cons, hd, e4]; omega)]
theorem ins_list2Str {cur : Array Value} {xs : List Value} {n i : Nat} (x : Value) (hsz : n + 1 ≤ cur.size) (hl : xs.length = n) (ht : cur.toList.take i = xs.take i) (hi : i < n) : (wr (wr cur i [x]) (i + 1) (xs.drop i)).toList.take (n + 1) = xs.take i ++ x :: xs.drop i := by
  have hd : (xs.drop i).length = n - i := by rw [List.length_drop, hl]
  have e4 : (xs.take i).length = i := by rw [List.length_take]; omega
  have e5 : (xs.take i ++ [x] ++ cur.toList.drop (i + [x].length)).take (i + 1) = xs.take i ++ [x] := by
    rw [List.take_append_of_le_length (by rw [List.length_append, e4]; exact Nat.le_refl _), List.take_of_length_le (by rw [List.length_append, e4]; exact Nat.le_refl _)]
  rw [wr_toList _ _ _ (by rw [wr_size, hd]; omega), wr_toList [x] _ _ (by simp; omega), ht, e5]
  have e6 : (xs.take i ++ [x] ++ xs.drop i).length = n + 1 := by rw [List.length_append, List.length_append, e4, hd, List.length_singleton]; omega
  rw [List.take_append_of_le_length (by omega), List.take_of_length_le (by omega)]
  simp

set_option maxRecDepth 100000 in
set_option maxHeartbeats 4000000 in
/-- at the end -/
theorem insEndStr (v : Value) (n : Nat) (xs : List Value) (x : Value) (vb : Nat) (w : World) (hown : w.ownsRow 0 9 1 v n xs) (hx1 : x.oneCell' = true) (hn : n ≤ 1048576) (hblk : Blk w vb 9 #[x]) :
    Calls Tryz.prog 99 #[v, .int .i64 n, .slice (some ⟨vb, 0, none⟩) 1 1] w fun e w' => ∃ v', e = .returned v' ∧ w'.ownsRow 0 9 1 v' (n + 1) (xs ++ [x]) ∧ w.grownBy w' v.ownBlock ∧ (v'.ownBlock = v.ownBlock ∨ v'.ownBlock = some w.heap.size) := by
  obtain ⟨i0, hi0, hz0, hz1, hz2⟩ := info_parts Tryz.infoStr
  have HC := hid (show ∀ j u, [x][j]? = some u → w.cell? ((⟨vb, 0, none⟩ : Addr).add j) = some u from fun j u hu => by
    cases j with
    | zero => simp at hu; subst hu; simpa [Addr.add] using hblk.cell 0
    | succ j => simp at hu)
  have HX : Hid (∀ u ∈ [x], u.oneCell' = true) := fun u hu => by rw [List.mem_singleton] at hu; subst hu; exact hx1
  have hown0 := hown
  rcases hown.2 with ⟨rfl, rfl⟩ | ⟨g, cap, cur, rfl, hb, hg, hnc, hcm, hsz, htk⟩
  · clear hown hx1 hblk
    go_enter Tryz.func99, Tryz.ntmps99
    go_wp2_with (at_builtin; refine wpList_append_own_at _ rfl (.tmp 23) (.tmp 24) 36 rfl 0 9 i0 (.string ⟨#[]⟩) 1 16 Tryz.underlying36 hi0 hz0 hz1 hz2 rfl (by decide) _ _ _ rfl hown0 _ 1 1 [x] rfl rfl HC.out HX.out (by unfold maxLen; omega) (by omega) (Nat.zero_le _) ?_; intro v' w3 hown' hgrow _ hbk)
    go_ret
    exact ⟨_, rfl, hown', hgrow, hbk⟩
  · have HT := hid htk
    have HS := hid hsz
    have HG := hid hg
    unfold maxLen at hcm
    clear hown hx1 hblk htk hsz hg hb
    have hd : decide (n ≤ cap) = true := decide_eq_true hnc
    go_enter Tryz.func99, Tryz.ntmps99
    go_wp2_with (at_builtin; refine wpList_append_own_at _ rfl (.tmp 23) (.tmp 24) 36 rfl 0 9 i0 (.string ⟨#[]⟩) 1 16 Tryz.underlying36 hi0 hz0 hz1 hz2 rfl (by decide) _ _ _ rfl hown0 _ 1 1 [x] rfl rfl HC.out HX.out (by unfold maxLen; omega) (by omega) (Nat.zero_le _) ?_; intro v' w3 hown' hgrow _ hbk)
    all_goals (go_ret; exact ⟨_, rfl, hown', hgrow, hbk⟩)

set_option maxHeartbeats 4000000 in
set_option maxRecDepth 100000 in
/-- ahead of the end, where there is room -/
theorem insRoomStr (g n c i vb : Nat) (cs : List Value) (x : Value) (w : World) (hi : i < n) (hroom : n + 1 ≤ c) (hc63 : c ≤ 9223372036854775807) (hn : n ≤ 1048576) (hvb : vb ≠ g)
    (cur : Array Value) (hcur : Blk w g 9 cur) (hsz : cur.size = c) (htk : cur.toList.take n = cs) (h1c : ∀ v ∈ cs, v.oneCell' = true) (hx1 : x.oneCell' = true) (hblk : Blk w vb 9 #[x]) :
    Calls Tryz.prog 99 #[.slice (some ⟨g, 0, none⟩) n c, .int .i64 i, .slice (some ⟨vb, 0, none⟩) 1 1] w fun e w' =>
      e = .returned (.slice (some ⟨g, 0, none⟩) (n + 1) c) ∧ w' = (w.drew.setCells g (i + 1) (cs.drop i)).setCells g i [x] := by
  have hcl : cs.length = n := by rw [← htk, List.length_take]; simp; omega
  have hcs : ∀ j v, cs[j]? = some v → w.cell? ⟨g, j, none⟩ = some v := fun j v hj => by
    rw [hcur.cell j, ← hj, ← htk, List.getElem?_take, if_pos (by have := (List.getElem?_eq_some_iff.1 hj).1; omega)]; simp
  have hsp : ∀ j, j < n + 1 → (w.cell? ⟨g, j, none⟩).isSome = true := fun j hj => by rw [hcur.cell j, Array.getElem?_eq_getElem (by omega)]; rfl
  have hfz : ∀ j, w.frozen? ⟨g, j, none⟩ = false := fun j => hcur.frozen j
  have hu := Tryz.underlying36
  have hsize : (Tryz.prog.info? 9).map (·.size) = some 1 := by
    obtain ⟨i0, hi0, h0, h1, h2⟩ := info_parts Tryz.infoStr
    rw [hi0]; simp [h1]
  have hz1 : ∀ w : World, (Go.sizeOf 9).run Tryz.prog w = .ok 1 w := fun w => by
    obtain ⟨i0, hi0, h0, h1, h2⟩ := info_parts Tryz.infoStr
    simp [Go.sizeOf, typeInfo, hi0, h1]
  have hsa : w.shape? vb = some (9, 1) := by have := hblk; unfold Blk at this; simp [World.shape?, this]
  have hsb : w.shape? g = some (9, c) := by have := hcur; unfold Blk at this; simp [World.shape?, this, hsz]
  have hov : ∀ lb cb, (callFunc 118 #[.slice (some ⟨vb, 0, none⟩) 1 1, .slice (some ⟨g, i + 1, none⟩) lb cb]).run Tryz.prog w = .ok (.value (.bool false)) w := fun lb cb => by
    rw [run_callFunc_extern Tryz.func118 (by kernel_rfl) (by kernel_rfl) (by kernel_rfl) (e := Extern.SlicesOverlaps.overlaps #[36, 36] #[4]) (by kernel_rfl),
      Lib.run_overlaps_apart w 36 4 9 hu 1 hz1 ⟨vb, 0, none⟩ ⟨g, i + 1, none⟩ 1 1 lb cb hvb 9 9 1 c hsa hsb (by omega) (hblk.frozen 0) (hblk.frozen 1)]
    rfl
  have hdl : (cs.drop i).length = n - i := by rw [List.length_drop, hcl]
  have hw1 : IntKind.i64.wrap ((i : Int) + 1) = (i : Int) + 1 := by rw [IntKind.wrap_i64]; omega
  have hb1 : (0 : Int) ≤ (i : Int) + 1 := by omega
  have hin : i ≤ n := by omega
  have htn : ((i : Int) + 1).toNat = i + 1 := by omega
  have hb2 : ¬ (c = i + 1) := by omega
  have hb3 : (i : Int) ≤ (n : Int) + 1 := by omega
  have hb4 : ¬ (c = i) := by omega
  have hz2 : ¬ ((i : Int) = (n : Int)) := by omega
  have hcp1 : ∀ ty dc sc, (Builtin.copy_ #[36, 36] ty #[.slice (some ⟨g, i + 1, none⟩) (n - i) dc, .slice (some ⟨g, i, none⟩) (n + 1 - i) sc]).run Tryz.prog w.drew = .ok (goInt (cs.drop i).length) (w.drew.setCells g (i + 1) (cs.drop i)) := fun ty dc sc =>
    run_copy_cells w.drew _ _ ty 9 g (i + 1) (n - i) dc ⟨g, i, none⟩ (n + 1 - i) sc (cs.drop i) hu hsize (by rw [hdl]; simp only [Nat.min_def]; split <;> omega)
      (fun j v hj => by rw [Addr.add_lit]; exact hcs (i + j) v (by rwa [List.getElem?_drop] at hj))
      (fun j hj => hsp _ (by omega)) (fun j hj => hfz _) (fun v hv => h1c v (List.mem_of_mem_drop hv))
  obtain ⟨W1, hW1⟩ : ∃ W1, W1 = w.drew.setCells g (i + 1) (cs.drop i) := ⟨_, rfl⟩
  have hB1 : Blk W1 g 9 (wr cur (i + 1) (cs.drop i)) := by rw [hW1]; exact heap_setCells _ _ _ _ hcur
  have hX1 : Blk W1 vb 9 #[x] := by rw [hW1]; exact hblk.only (only_setCells (F := (· = g)) (.inl rfl) (cs.drop i) (i + 1) w.drew (Only.refl (· = g) w).drew) hvb
  have hcp2 : ∀ (W : World), (∀ x, W.cell? x = W1.cell? x) → (∀ x, W.frozen? x = W1.frozen? x) → ∀ ty dc, (Builtin.copy_ #[36, 36] ty #[.slice (some ⟨g, i, none⟩) (n + 1 - i) dc, .slice (some ⟨vb, 0, none⟩) 1 1]).run Tryz.prog W = .ok (goInt 1) (W.setCells g i [x]) := fun W hWc hWf ty dc =>
    run_copy_cells W _ _ ty 9 g i (n + 1 - i) dc ⟨vb, 0, none⟩ 1 1 [x] hu hsize (by simp only [Nat.min_def, List.length_singleton]; split <;> omega)
      (fun j v hj => by
        cases j with
        | zero => simp at hj; subst hj; rw [Addr.add_lit, hWc]; exact hX1.cell 0
        | succ j => simp at hj)
      (fun j hj => by rw [hWc, hB1.cell, Array.getElem?_eq_getElem (by rw [wr_size]; simp at hj; omega)]; rfl) (fun j hj => by rw [hWf]; exact hB1.frozen _) (fun u hu => by rw [List.mem_singleton] at hu; subst hu; exact hx1)
  rw [← hW1] at hcp1
  clear hcs hsp hfz hsa hsb hcur hblk htk h1c hx1 hB1 hX1 hsz hcl hz1 hsize
  have HCP2 := hid hcp2
  clear hcp2
  have HDL := hid hdl; clear hdl
  have HW1 := hid hW1; clear hW1
  have mixed : Tryz.prog.follows .mixedOrders = true := by kernel_rfl
  go_enter Tryz.func99, Tryz.ntmps99
  go_wp2_with (simp only [hov])
  go_region_law (refine step_copy_isStr rfl _ _ 36 36 rfl _ _ (by simp [Act.eval, Act.put]) (by simp [Act.eval, Act.put]) (hcp1 _ _ _) ?_)
  go_wp2_with (refine wpList_copy_isStr _ rfl (.tmp 80) (.tmp 81) 36 36 rfl _ _ rfl rfl (HCP2.out _ (fun _ => rfl) (fun _ => rfl) _ _) ?_)
  go_ret
  exact ⟨rfl, by rw [HW1.out]⟩

set_option maxHeartbeats 4000000 in
set_option maxRecDepth 100000 in
/-- ahead of the end, where there is no room -/
theorem insGrowStr (g n c i vb : Nat) (cs : List Value) (x : Value) (w : World) (hi : i < n) (hnc : n ≤ c) (hroom : c < n + 1) (hn : n ≤ 1048576)
    (cur : Array Value) (hcur : Blk w g 9 cur) (hsz : cur.size = c) (htk : cur.toList.take n = cs) (h1c : ∀ v ∈ cs, v.oneCell' = true) (hx1 : x.oneCell' = true) (hblk : Blk w vb 9 #[x]) :
    Calls Tryz.prog 99 #[.slice (some ⟨g, 0, none⟩) n c, .int .i64 i, .slice (some ⟨vb, 0, none⟩) 1 1] w fun e w' =>
      ∃ v', e = .returned v' ∧ w'.ownsRow 0 9 1 v' (n + 1) (cs.take i ++ x :: cs.drop i) ∧ Below w.heap.size w w' ∧ v'.ownBlock = some w.heap.size := by
  have hcl : cs.length = n := by rw [← htk, List.length_take]; simp; omega
  have hcs : ∀ j v, cs[j]? = some v → w.cell? ⟨g, j, none⟩ = some v := fun j v hj => by
    rw [hcur.cell j, ← hj, ← htk, List.getElem?_take, if_pos (by have := (List.getElem?_eq_some_iff.1 hj).1; omega)]; simp
  have hu := Tryz.underlying36
  obtain ⟨i0, hi0, hz0, hzs, hzb⟩ := info_parts Tryz.infoStr
  have hsize : (Tryz.prog.info? 9).map (·.size) = some 1 := by rw [hi0]; simp [hzs]
  have hdl : (cs.drop i).length = n - i := by rw [List.length_drop, hcl]
  have hold : (Builtin.firstCells i0.size i (.slice (some ⟨g, 0, none⟩) i c)).run Tryz.prog w.drew = .ok (cs.take i).toArray w.drew := by
    rw [hzs]
    exact run_firstCells_some w.drew 1 i ⟨g, 0, none⟩ i c (cs.take i) (by rw [List.length_take]; omega) (fun j v hj => by
      rw [Addr.add_lit, Nat.zero_add]
      rw [List.getElem?_take] at hj
      split at hj
      · exact hcs j v hj
      · cases hj)
  obtain ⟨G, hG⟩ : ∃ G, G = grownCap w (n + 1) c 9 := ⟨_, rfl⟩
  obtain ⟨ROW, hROW⟩ : ∃ ROW : Array Value, ROW = (cs.take i).toArray ++ Builtin.zeroCells (Value.cells (.string ⟨#[]⟩)) (n + 1 - i) ++ Builtin.zeroCells (Value.cells (.string ⟨#[]⟩)) (G - (n + 1)) := ⟨_, rfl⟩
  have hkk : (n : Int) + 1 - (i : Int) = ((n + 1 - i : Nat) : Int) := by omega
  have hik : i + (n + 1 - i) = n + 1 := by omega
  have hrz : ∀ ty, (Builtin.append_ #[36, 3] ty #[.slice (some ⟨g, 0, none⟩) i c, .int .i64 ((n : Int) + 1 - (i : Int))]).run Tryz.prog w =
      .ok (.slice (some ⟨w.heap.size, 0, none⟩) (n + 1) G) (w.drew.alloc (.cells ROW 9)) := fun ty => by
    have h := Lib.run_append_grow_zeros w 36 3 ty 9 i0 _ .i64 .i64 hu Tryz.underlying3 hi0 hz0 (some ⟨g, 0, none⟩) i c (cs.take i) hold (n + 1 - i) (by omega) (by omega) (by omega) (by omega) (by rw [hzb]; omega) (by rw [hzb, hik]; exact growslice_fits hroom (by omega))
    rw [hik] at h
    rw [hkk, hROW, hG]
    exact h
  have hGn : n + 1 ≤ G := by rw [hG]; exact grownCap_ge w _ _ _
  have hG63 : G ≤ 9223372036854775807 := by
    have := grownCap_le_maxLen w (n + 1) c 9 (by unfold maxLen; omega)
    rw [← hG] at this
    unfold maxLen at this
    omega
  have hRs : ROW.size = G := by
    rw [hROW]
    simp [Builtin.zeroCells, Value.cells]
    omega
  have hRt : ROW.toList.take i = cs.take i := by
    rw [hROW, Array.toList_append, Array.toList_append, List.append_assoc, List.take_append_of_le_length (by simp; omega)]
    show List.take i (cs.take i) = _
    rw [List.take_take, Nat.min_self]
  have hgl := hcur.lt
  have hvl := hblk.lt
  obtain ⟨W1, hW1⟩ : ∃ W1, W1 = w.drew.alloc (.cells ROW 9) := ⟨_, rfl⟩
  have hN1 : Blk W1 w.heap.size 9 ROW := by rw [hW1]; exact Blk.new w.drew _ _
  have hC1 : Blk W1 g 9 cur := by rw [hW1]; exact hcur.drew.alloc _
  have hV1 : Blk W1 vb 9 #[x] := by rw [hW1]; exact hblk.drew.alloc _
  have hb1 : Below w.heap.size w W1 := by rw [hW1]; exact (Below.refl _ _).drew.alloc (Nat.le_refl _) _
  have hcpA : ∀ (W : World), (∀ x, W.cell? x = W1.cell? x) → (∀ x, W.frozen? x = W1.frozen? x) → ∀ ty dc, (Builtin.copy_ #[36, 36] ty #[.slice (some ⟨w.heap.size, i, none⟩) (n + 1 - i) dc, .slice (some ⟨vb, 0, none⟩) 1 1]).run Tryz.prog W = .ok (goInt 1) (W.setCells w.heap.size i [x]) := fun W hWc hWf ty dc =>
    run_copy_cells W _ _ ty 9 w.heap.size i (n + 1 - i) dc ⟨vb, 0, none⟩ 1 1 [x] hu hsize (by simp only [Nat.min_def, List.length_singleton]; split <;> omega)
      (fun j v hj => by
        cases j with
        | zero => simp at hj; subst hj; rw [Addr.add_lit, hWc]; exact hV1.cell 0
        | succ j => simp at hj)
      (fun j hj => by rw [hWc, hN1.cell, Array.getElem?_eq_getElem (by simp at hj; omega)]; rfl) (fun j hj => by rw [hWf]; exact hN1.frozen _) (fun u hu => by rw [List.mem_singleton] at hu; subst hu; exact hx1)
  have hN2 : Blk (W1.setCells w.heap.size i [x]) w.heap.size 9 (wr ROW i [x]) := heap_setCells _ _ _ _ hN1
  have hO2 : Only (· = w.heap.size) W1 (W1.setCells w.heap.size i [x]) := only_setCells (F := (· = w.heap.size)) (.inl rfl) _ _ _ (Only.refl _ _)
  have hC2 : Blk (W1.setCells w.heap.size i [x]) g 9 cur := hC1.only hO2 (by omega)
  have hcpB : ∀ (W : World), (∀ y, W.cell? y = (W1.setCells w.heap.size i [x]).cell? y) → (∀ y, W.frozen? y = (W1.setCells w.heap.size i [x]).frozen? y) → ∀ ty dc sc, (Builtin.copy_ #[36, 36] ty #[.slice (some ⟨w.heap.size, i + 1, none⟩) (n - i) dc, .slice (some ⟨g, i, none⟩) (n - i) sc]).run Tryz.prog W = .ok (goInt (cs.drop i).length) (W.setCells w.heap.size (i + 1) (cs.drop i)) := fun W hWc hWf ty dc sc =>
    run_copy_cells W _ _ ty 9 w.heap.size (i + 1) (n - i) dc ⟨g, i, none⟩ (n - i) sc (cs.drop i) hu hsize (by rw [hdl]; simp only [Nat.min_def]; split <;> omega)
      (fun j v hj => by
        rw [Addr.add_lit, hWc, hC2.cell]
        rw [List.getElem?_drop] at hj
        rw [← hj, ← htk, List.getElem?_take, if_pos (by have := (List.getElem?_eq_some_iff.1 hj).1; omega)]; simp)
      (fun j hj => by rw [hWc, hN2.cell, Array.getElem?_eq_getElem (by rw [wr_size]; omega)]; rfl)
      (fun j hj => by rw [hWf]; exact hN2.frozen _) (fun v hv => h1c v (List.mem_of_mem_drop hv))
  have hGi : ¬ (G = i) := by omega
  have hGim : ¬ (G = i + 1) := by omega
  have hci : ¬ (c = i) := by omega
  have hw1 : IntKind.i64.wrap ((i : Int) + 1) = (i : Int) + 1 := by rw [IntKind.wrap_i64]; omega
  have hb1' : (0 : Int) ≤ (i : Int) + 1 := by omega
  have hin : i ≤ n := by omega
  have htn : ((i : Int) + 1).toNat = i + 1 := by omega
  have hb3 : (i : Int) ≤ (n : Int) := by omega
  have hz2 : ¬ ((i : Int) = (n : Int)) := by omega
  have hz3 : (c : Int) < (n : Int) + 1 := by omega
  have hfin : (∃ v', (Value.slice (some ⟨w.heap.size, 0, none⟩) (n + 1) G) = v' ∧ ((((w.alloc (.cells ROW 9)).drew.setCells w.heap.size i [x]).drew).setCells w.heap.size (i + 1) (cs.drop i)).ownsRow 0 9 1 v' (n + 1) (cs.take i ++ x :: cs.drop i) ∧ Below w.heap.size w ((((w.alloc (.cells ROW 9)).drew.setCells w.heap.size i [x]).drew).setCells w.heap.size (i + 1) (cs.drop i)) ∧ v'.ownBlock = some w.heap.size) := by
    have a1 : Blk ((w.alloc (.cells ROW 9)).drew) w.heap.size 9 ROW := Blk.new w _ _
    have a2 : Blk (((w.alloc (.cells ROW 9)).drew.setCells w.heap.size i [x]).drew) w.heap.size 9 (wr ROW i [x]) := heap_setCells _ _ _ _ a1
    have a3 : Blk ((((w.alloc (.cells ROW 9)).drew.setCells w.heap.size i [x]).drew).setCells w.heap.size (i + 1) (cs.drop i)) w.heap.size 9 (wr (wr ROW i [x]) (i + 1) (cs.drop i)) := heap_setCells _ _ _ _ a2
    have o1 : Only NoF w ((w.alloc (.cells ROW 9)).drew) := ((Only.refl NoF w).alloc _).drew
    have o2 : Only NoF w ((((w.alloc (.cells ROW 9)).drew.setCells w.heap.size i [x]).drew).setCells w.heap.size (i + 1) (cs.drop i)) :=
      only_setCells (.inr (Nat.le_refl _)) _ _ _ (only_setCells (.inr (Nat.le_refl _)) _ _ _ o1).drew
    refine ⟨_, rfl, ⟨by simp; omega, .inr ⟨w.heap.size, G, _, rfl, Nat.zero_le _, a3, hGn, by unfold maxLen; omega, by rw [wr_size, wr_size, hRs]; simp, ?_⟩⟩, o2.below0, rfl⟩
    rw [Nat.mul_one]
    exact ins_list2Str x (by omega) hcl hRt hi
  have HFIN := hid hfin
  have HA := hid hcpA; have HB := hid hcpB; have HE := hid hW1
  have hE1 : Hid (∀ x, ((w.alloc (.cells ROW 9)).drew).cell? x = W1.cell? x) := fun x => by rw [hW1]; rfl
  have hE2 : Hid (∀ x, ((w.alloc (.cells ROW 9)).drew).frozen? x = W1.frozen? x) := fun x => by rw [hW1]; rfl
  have hF1 : Hid (∀ y, (((w.alloc (.cells ROW 9)).drew.setCells w.heap.size i [x]).drew).cell? y = (W1.setCells w.heap.size i [x]).cell? y) := fun y => by rw [hW1]; rfl
  have hF2 : Hid (∀ y, (((w.alloc (.cells ROW 9)).drew.setCells w.heap.size i [x]).drew).frozen? y = (W1.setCells w.heap.size i [x]).frozen? y) := fun y => by rw [hW1]; rfl
  have HZ := hid hrz
  clear hfin hcpA hcpB hrz hW1 hN1 hC1 hV1 hb1 hN2 hO2 hC2 hRt hRs hROW hG hold hcs hcur htk h1c hx1 hblk hsz hcl hkk hik hi0 hz0 hzs hzb hsize hdl
  have mixed : Tryz.prog.follows .mixedOrders = true := by kernel_rfl
  go_enter Tryz.func99, Tryz.ntmps99
  go_wp2_with (first
    | (at_builtin; refine Lib.wpList_append_run _ rfl _ _ _ _ rfl _ _ rfl rfl _ _ (HZ.out _) ?_)
    | (refine wpList_copy_isStr _ rfl (.tmp 43) (.tmp 44) 36 36 rfl _ _ rfl rfl (HA.out _ hE1.out hE2.out _ _) ?_))
  go_region_law (refine step_copy_isStr rfl _ _ 36 36 rfl (.slice (some ⟨w.heap.size, i + 1, none⟩) (n - i) (G - (i + 1))) (.slice (some ⟨g, i, none⟩) (n - i) (c - i)) (by simp [Act.eval, Act.put]) (by simp [Act.eval, Act.put]) (HB.out _ hF1.out hF2.out _ _ _) ?_)
  go_wp2
  go_ret
  obtain ⟨v', h1, h2⟩ := HFIN.out
  exact ⟨v', congrArg Ending.returned h1, h2⟩

/-- one thing more at a place -/
theorem insStr (v : Value) (n i : Nat) (xs : List Value) (x : Value) (vb : Nat) (w : World) (hown : w.ownsRow 0 9 1 v n xs) (h1 : ∀ u ∈ xs, u.oneCell' = true) (hx1 : x.oneCell' = true) (hi : i ≤ n) (hn : n ≤ 1048576) (hblk : Blk w vb 9 #[x]) (hne : v.ownBlock ≠ some vb) :
    Calls Tryz.prog 99 #[v, .int .i64 i, .slice (some ⟨vb, 0, none⟩) 1 1] w fun e w' => ∃ v', e = .returned v' ∧ w'.ownsRow 0 9 1 v' (n + 1) (xs.take i ++ x :: xs.drop i) ∧ w.grownBy w' v.ownBlock ∧ (v'.ownBlock = v.ownBlock ∨ v'.ownBlock = some w.heap.size) := by
  have hxl : xs.length = n := by have := hown.1; omega
  by_cases hin : i = n
  · subst hin
    rw [List.take_of_length_le (by omega), List.drop_eq_nil_of_le (by omega)]
    exact insEndStr v i xs x vb w hown hx1 hn hblk
  · rcases hown.2 with ⟨rfl, rfl⟩ | ⟨g, cap, cur, rfl, hb, hg, hnc, hcm, hsz, htk⟩
    · omega
    · unfold maxLen at hcm
      rw [Nat.mul_one] at hsz htk
      by_cases hr : n + 1 ≤ cap
      · refine (insRoomStr g n cap i vb xs x w (by omega) hr hcm hn (fun e => hne (by rw [e]; rfl)) cur hg hsz htk h1 hx1 hblk).mono ?_
        rintro e w' ⟨rfl, rfl⟩
        refine ⟨_, rfl, ⟨by simp; omega, .inr ⟨g, cap, _, rfl, Nat.zero_le _, heap_setCells _ _ _ _ (heap_setCells _ _ w.drew _ hg), hr, by unfold maxLen; omega, by rw [wr_size, wr_size, hsz]; omega, ?_⟩⟩, ?_, .inl rfl⟩
        · rw [Nat.mul_one]; exact ins_listStr x (by omega) htk (by omega)
        · exact grownBy_of_only (only_setCells (F := fun k => some g = some k) (.inl rfl) _ _ _ (only_setCells (F := fun k => some g = some k) (.inl rfl) _ _ _ (Only.refl _ w).drew))
      · refine (insGrowStr g n cap i vb xs x w (by omega) hnc (by omega) hn cur hg hsz htk h1 hx1 hblk).mono ?_
        rintro e w' ⟨v', rfl, h2, hb2, h3⟩
        exact ⟨v', rfl, h2, ⟨hb2.os, hb2.tape, hb2.output, hb2.size, fun k hk _ => hb2.block k hk⟩, .inr h3⟩
end Go.Proofs.YtnhgfhbicaiilaaGreat
/- slices.Delete of one thing, slices.Clone, over a slice of the program's own: Str. -/
namespace Go.Proofs.YtnhgfhbicaiilaaGreat
open Go.RowKit
set_option linter.unusedVariables false
set_option linter.unusedSimpArgs false

theorem del_listStr {cur : Array Value} {xs : List Value} {n i : Nat} (z : List Value) (hz : z.length = 1) (hsz : n ≤ cur.size) (ht : cur.toList.take n = xs) (hi : i < n) : (wr (wr cur i (xs.drop (i + 1))) (n - 1) z).toList.take (n - 1) = xs.take i ++ xs.drop (i + 1) := by
  have hl : xs.length = n := by rw [← ht, List.length_take]; simp; omega
  have hd : (xs.drop (i + 1)).length = n - 1 - i := by rw [List.length_drop, hl]; omega
  have e4 : (xs.take i).length = i := by rw [List.length_take]; omega
  have e0 : cur.toList.take i = xs.take i := by rw [← ht, List.take_take, Nat.min_eq_left (by omega)]
  rw [wr_toList _ _ _ (by rw [wr_size, hz]; omega), wr_toList _ _ _ (by rw [hd]; omega), e0]
  have e6 : (xs.take i ++ xs.drop (i + 1)).length = n - 1 := by rw [List.length_append, e4, hd]; omega
  have e7 : (xs.take i ++ xs.drop (i + 1) ++ cur.toList.drop (i + (xs.drop (i + 1)).length)).take (n - 1) = xs.take i ++ xs.drop (i + 1) := by
    rw [List.take_append_of_le_length (by omega), List.take_of_length_le (by omega)]
  rw [e7, List.append_assoc, List.take_append_of_le_length (by omega), List.take_of_length_le (by omega)]

set_option maxHeartbeats 4000000 in
set_option maxRecDepth 100000 in
/-- one thing less -/
theorem delStr (v : Value) (n i : Nat) (xs : List Value) (w : World) (hown : w.ownsRow 0 9 1 v n xs) (h1 : ∀ u ∈ xs, u.oneCell' = true) (hi : i < n) (hn : n ≤ 1048576) :
    Calls Tryz.prog 101 #[v, .int .i64 i, .int .i64 ((i : Int) + 1)] w fun e w' => ∃ v', e = .returned v' ∧ w'.ownsRow 0 9 1 v' (n - 1) (xs.take i ++ xs.drop (i + 1)) ∧ w.grownBy w' v.ownBlock ∧ v'.ownBlock = v.ownBlock := by
  obtain ⟨i0, hi0, hz0, hz1, hz2⟩ := info_parts Tryz.infoStr
  have hxl : xs.length = n := by have := hown.1; omega
  rcases hown.2 with ⟨rfl, rfl⟩ | ⟨g, cap, cur, rfl, hb, hg, hnc, hcm, hsz, htk⟩
  · omega
  · unfold maxLen at hcm
    rw [Nat.mul_one] at hsz htk
    have hcur : Blk w g 9 cur := hg
    obtain ⟨W1, hW1⟩ : ∃ W1, W1 = w.drew.setCells g (0 + i * 1) (xs.drop (i + 1)) := ⟨_, rfl⟩
    have hB1 : Blk W1 g 9 (wr cur i (xs.drop (i + 1))) := by rw [hW1, Nat.mul_one, Nat.zero_add]; exact heap_setCells _ _ w.drew _ hg
    have hcl : ∀ ty, (Builtin.clear_ #[36] ty #[.slice (some ⟨g, i + (n - (i + 1)), none⟩) (n - (i + (n - (i + 1)))) (cap - (i + (n - (i + 1))))]).run Tryz.prog W1 = .ok (.tuple #[]) (W1.setCells g (i + (n - (i + 1))) (List.replicate (n - (i + (n - (i + 1)))) (.string ⟨#[]⟩))) :=
      fun ty => Lib.run_clear_slice W1 _ _ ty _ Tryz.underlying36 (Tryz.zeroValue9) rfl rfl g _ _ _ (by omega) (fun t ht => by rw [hB1.cell, Array.getElem?_eq_getElem (by rw [wr_size]; omega)]; rfl) (fun t ht => hB1.frozen _)
    have hfin : ∃ v', (Value.slice (some ⟨g, 0, none⟩) (i + (n - (i + 1))) cap) = v' ∧ (W1.setCells g (i + (n - (i + 1))) (List.replicate (n - (i + (n - (i + 1)))) (.string ⟨#[]⟩))).ownsRow 0 9 1 v' (n - 1) (xs.take i ++ xs.drop (i + 1)) ∧ w.grownBy (W1.setCells g (i + (n - (i + 1))) (List.replicate (n - (i + (n - (i + 1)))) (.string ⟨#[]⟩))) (some g) ∧ v'.ownBlock = some g := by
      have e1 : i + (n - (i + 1)) = n - 1 := by omega
      have e2 : n - (n - 1) = 1 := by omega
      rw [e1, e2]
      refine ⟨_, rfl, ⟨by simp; omega, .inr ⟨g, cap, _, rfl, Nat.zero_le _, heap_setCells _ _ _ _ hB1, by omega, by unfold maxLen; omega, by rw [wr_size, wr_size, hsz]; simp, ?_⟩⟩, ?_, rfl⟩
      · rw [Nat.mul_one]; exact del_listStr _ rfl (by omega) htk hi
      · rw [hW1]
        exact grownBy_of_only (only_setCells (F := fun k => some g = some k) (.inl rfl) _ _ _ (only_setCells (F := fun k => some g = some k) (.inl rfl) _ _ _ (Only.refl _ w).drew))
    have s1 : Hid ((xs.drop (i + 1)).length = (n - (i + 1)) * 1) := by unfold Hid; rw [List.length_drop]; omega
    have s2 : Hid (∀ u ∈ xs.drop (i + 1), u.oneCell' = true) := fun u hu => h1 u (List.mem_of_mem_drop hu)
    have s3 : Hid (∀ t, t < (xs.drop (i + 1)).length → (w.drew.cell? ⟨g, 0 + i * 1 + t, none⟩).isSome = true ∧ w.drew.frozen? ⟨g, 0 + i * 1 + t, none⟩ = false) := fun t ht => by
      rw [List.length_drop] at ht
      exact ⟨by rw [hcur.drew.cell, Array.getElem?_eq_getElem (by omega)]; rfl, hcur.drew.frozen _⟩
    have hsrc : Hid (∀ j u, (xs.drop (i + 1))[j]? = some u → w.drew.cell? ((⟨g, i + 1, none⟩ : Addr).add j) = some u) := fun j u hj => by
      rw [Addr.add_lit, hcur.drew.cell]
      rw [List.getElem?_drop] at hj
      rw [← hj, ← htk, List.getElem?_take, if_pos (by have := (List.getElem?_eq_some_iff.1 hj).1; omega)]; simp
    have hic : i ≤ cap := by omega
    have hjc : i + 1 ≤ cap := by omega
    have HFIN := hid hfin
    have HW := hid hW1
    have hii : ((i : Int) == (i : Int) + 1) = false := by rw [beq_eq_false_iff_ne]; omega
    have f1 : (0 : Int) ≤ (i : Int) + 1 := by omega
    have f2 : ((i : Int) + 1).toNat = i + 1 := by omega
    have f4 : (i : Int) ≤ (i : Int) + 1 := by omega
    have mixed : Tryz.prog.follows .mixedOrders = true := by kernel_rfl
    by_cases hce : cap = i + 1
    · have hn1 : n = i + 1 := by omega
      have hnil : Hid (∀ j u, (xs.drop (i + 1))[j]? = some u → w.drew.cell? ((⟨g, 0, none⟩ : Addr).add j) = some u) := fun j u hj => by
        rw [List.drop_eq_nil_of_le (by omega)] at hj; simp at hj
      subst hce
      subst hn1
      have z1 : i + (i + 1 - (i + 1)) = i := by omega
      have z2 : i + 1 - i = 1 := by omega
      rw [z1, z2] at hcl hfin
      have HFIN := hid hfin
      clear z1 z2
      clear hW1 hB1 hfin hown h1 hg hcur htk hsz hsrc
      go_enter Tryz.func101, Tryz.ntmps101
      go_wp2_with fail
      go_region_law (refine step_append_room rfl (.tmp 22) (.tmp 25) 36 rfl 9 i0 1 Tryz.underlying36 hi0 hz1 g 0 i (i + 1) (by simp [Act.eval, Act.put]) ⟨g, 0, none⟩ 0 0 (xs.drop (i + 1)) (by simp [Act.eval, Act.put]) (by have := s1.out; simpa using this) hnil.out s2.out (by omega) s3.out ?_; rw [← HW.out])
      go_wp2
      go_ret
      obtain ⟨v', h1, h2⟩ := HFIN.out
      exact ⟨v', congrArg Ending.returned h1, h2⟩
    · have f3 : (i : Int) + 1 ≤ (n : Int) := by omega
      clear hW1 hB1 hfin hown h1 hg hcur htk hsz
      go_enter Tryz.func101, Tryz.ntmps101
      go_wp2_with fail
      go_region_law (refine step_append_room rfl (.tmp 22) (.tmp 25) 36 rfl 9 i0 1 Tryz.underlying36 hi0 hz1 g 0 i cap (by simp [Act.eval, Act.put]) ⟨g, i + 1, none⟩ (n - (i + 1)) (cap - (i + 1)) (xs.drop (i + 1)) (by simp [Act.eval, Act.put]) s1.out hsrc.out s2.out (by omega) s3.out ?_; rw [← HW.out])
      go_wp2
      go_ret
      obtain ⟨v', h1, h2⟩ := HFIN.out
      exact ⟨v', congrArg Ending.returned h1, h2⟩

theorem own_noneStr (w : World) : (w.alloc (.cells #[] 9)).ownsRow w.heap.size 9 1 (.slice (some ⟨w.heap.size, 0, none⟩) 0 0) 0 [] :=
  ⟨rfl, .inr ⟨w.heap.size, 0, #[], rfl, Nat.le_refl _, by show (w.heap.push _)[w.heap.size]? = _; simp, Nat.le_refl _, by unfold maxLen; omega, rfl, rfl⟩⟩
set_option maxHeartbeats 4000000 in
set_option maxRecDepth 100000 in
/-- a copy -/
theorem cloneStr (v : Value) (n : Nat) (xs : List Value) (w : World) (hown : w.ownsRow 0 9 1 v n xs) (h1 : ∀ u ∈ xs, u.oneCell' = true) (hn : n ≤ 1048576) :
    Calls Tryz.prog 116 #[v] w fun e w' => ∃ v', e = .returned v' ∧ w'.ownsRow w.heap.size 9 1 v' n xs ∧ Below w.heap.size w w' := by
  obtain ⟨i0, hi0, hz0, hz1, hz2⟩ := info_parts Tryz.infoStr
  have hxl : xs.length = n := by have := hown.1; omega
  rcases hown.2 with ⟨rfl, rfl⟩ | ⟨g, cap, cur, rfl, hb, hg, hnc, hcm, hsz, htk⟩
  · obtain rfl : xs = [] := List.length_eq_zero_iff.1 hxl
    clear hown h1 hxl
    have hq : ∀ W : World, (binOp .eql 36 (.slice none 0 0) (.slice none 0 0)).run Tryz.prog W = .ok (.bool true) W := fun W => Go.run_eql_slice_nil W 36 9 none 0 0 Tryz.underlying36
    go_enter Tryz.func116, Tryz.ntmps116
    go_wp2
    go_ret
    exact ⟨_, rfl, World.ownsRow_nil _ _ _ _, Below.refl _ _⟩
  · unfold maxLen at hcm
    have hcells := hown.cells (g := g) rfl
    have hgl := (Array.getElem?_eq_some_iff.1 hg).1
    have HC : Hid (∀ j u, xs[j]? = some u → (w.alloc (.cells #[] 9)).cell? ((⟨g, 0, none⟩ : Addr).add j) = some u) := fun j u hu => by
      rw [World.cell?_alloc_lt w _ _ (by rw [Addr.add_lit]; exact hgl)]
      exact hcells j u hu
    have H1 := hid h1
    have HO := own_noneStr w
    have HXL : Hid (xs.length = n * 1) := by unfold Hid; omega
    have HN : Hid (0 + n = n) := by unfold Hid; omega
    clear hown h1 hxl hb hg hsz htk hcells
    have hq : ∀ W : World, (binOp .eql 36 (.slice (some ⟨g, 0, none⟩) n cap) (.slice none 0 0)).run Tryz.prog W = .ok (.bool false) W := fun W => Go.run_eql_slice_nil W 36 9 (some ⟨g, 0, none⟩) n cap Tryz.underlying36
    go_enter Tryz.func116, Tryz.ntmps116
    go_wp2_with (at_builtin; refine wpList_append_own_at _ rfl (.tmp 5) (.tmp 6) 36 rfl w.heap.size 9 i0 (.string ⟨#[]⟩) 1 16 Tryz.underlying36 hi0 hz0 hz1 hz2 rfl (by decide) _ _ _ rfl HO _ n cap xs rfl HXL.out HC.out H1.out (by unfold maxLen; omega) (by omega) (by simp) ?_; intro v' w3 hown' hgrow _ hbk)
    go_ret
    refine ⟨_, rfl, ?_, ?_⟩
    · rw [HN.out] at hown'; exact hown'
    · exact ((Below.refl _ w).alloc (Nat.le_refl _) _).grown hgrow (by simp) (fun k hk => by cases hk; exact Nat.le_refl _)
end Go.Proofs.YtnhgfhbicaiilaaGreat
/- slices.Insert of one thing, over a slice of the program's own: Ptr. -/
namespace Go.Proofs.YtnhgfhbicaiilaaGreat
open Go.RowKit
set_option linter.unusedVariables false
set_option linter.unusedSimpArgs false

theorem Tryz.infoPtr : (Tryz.prog.info? 53).map (fun i => (i.zero, i.size, i.bytes)) = some (some (.pointer none), 1, 8) := by kernel_rfl

/-- a copy whose run is known -/
theorem wp_copy_isPtr {P : Program} (w : World) {o : Oper} {a : Act} {K : Act → World → Prop} {Q : Exit → Act → World → Prop} (d s : Operand) (t t' : TypeId)
    (ho : o.op = .call { callee := .builtin .copy, args := #[d, s], argTypes := #[t, t'] }) (v u : Value) (hd : a.eval d = v) (hs : a.eval s = u) {v' : Value} {w' : World}
    (hr : (Builtin.copy_ #[t, t'] o.type #[v, u]).run P w = .ok v' w') (h : K (a.put o.dst v') w') : o.wp P a w K Q := by
  unfold Oper.wp execOp
  simp only [ho, resolve, invoke, builtin, Sem.run_bind, Sem.run_pure, Result.andThen_ok, List.map_toArray, List.map_cons, List.map_nil, hd, hs, hr]
  exact h
theorem wpList_copy_isPtr {P : Program} (w : World) {ops : Array Oper} {rest : List Oper} {o : Oper} {a : Act} {Q : Exit → Act → World → Prop} (hgd : o.guard = none) (d s : Operand) (t t' : TypeId)
    (ho : o.op = .call { callee := .builtin .copy, args := #[d, s], argTypes := #[t, t'] }) (v u : Value) (hd : a.eval d = v) (hs : a.eval s = u) {v' : Value} {w' : World}
    (hr : (Builtin.copy_ #[t, t'] o.type #[v, u]).run P w = .ok v' w') (h : wpList P ops Q rest (a.put o.dst v') w') : wpList P ops Q (o :: rest) a w :=
  wpList_plain hgd fun _ hK => wp_copy_isPtr w d s t t' ho v u hd hs hr (hK _ _ h)
theorem step_copy_isPtr {P : Program} {ops : Array Oper} {o : Oper} {a : Act} {w : World} {K : Act → World → Prop} {Q : Exit → Act → World → Prop} {E : Prop}
    (hg : o.guard = none) (d x : Operand) (dT sT : TypeId) (hop : o.op = Op.call { callee := Callee.builtin Builtin.copy, args := #[d, x], argTypes := #[dT, sT] })
    (v u : Value) (hd : a.eval d = v) (hx : a.eval x = u) {v' : Value} {w' : World} (hr : (Builtin.copy_ #[dT, sT] o.type #[v, u]).run P w = .ok v' w') (hK : K (a.put o.dst v') w') :
    if Region.wanted o (yielded ops a.tmps) = true then Oper.wp P o a w K Q else E := by
  have hw : Region.wanted o (yielded ops a.tmps) = true := by simp [Region.wanted, hg]
  rw [if_pos hw]
  exact wp_copy_isPtr w d x dT sT hop v u hd hx hr hK

theorem ins_listPtr {cur : Array Value} {xs : List Value} {n i : Nat} (x : Value) (hsz : n + 1 ≤ cur.size) (ht : cur.toList.take n = xs) (hi : i < n) : (wr (wr cur (i + 1) (xs.drop i)) i [x]).toList.take (n + 1) = xs.take i ++ x :: xs.drop i := by
  have hl : xs.length = n := by rw [← ht, List.length_take]; simp; omega
  have hd : (xs.drop i).length = n - i := by rw [List.length_drop, hl]
  rw [wr_toList _ _ _ (by rw [wr_size]; simp; omega), wr_toList _ _ _ (by rw [hd]; omega), hd]
  have e1 : cur.toList.take (i + 1) = (cur.toList.take (i + 1)).take i ++ (cur.toList.take (i + 1)).drop i := (List.take_append_drop _ _).symm
  have hc : (cur.toList.take (i + 1)).length = i + 1 := by rw [List.length_take]; simp; omega
  have e2 : (cur.toList.take (i + 1) ++ xs.drop i ++ cur.toList.drop (i + 1 + (n - i))).take i = xs.take i := by
    rw [List.append_assoc, List.take_append_of_le_length (by omega), List.take_take, ← ht, List.take_take, Nat.min_eq_left (by omega), Nat.min_eq_left (by omega)]
  have e3 : (cur.toList.take (i + 1) ++ xs.drop i ++ cur.toList.drop (i + 1 + (n - i))).drop (i + [x].length) = xs.drop i ++ cur.toList.drop (i + 1 + (n - i)) := by
    rw [List.append_assoc, show i + [x].length = (cur.toList.take (i + 1)).length from hc.symm, List.drop_left]
  rw [e2, e3]
  have e4 : (xs.take i).length = i := by rw [List.length_take]; omega
  rw [show xs.take i ++ [x] ++ (xs.drop i ++ cur.toList.drop (i + 1 + (n - i))) = (xs.take i ++ x :: xs.drop i) ++ cur.toList.drop (i + 1 + (n - i)) by simp]
  rw [List.take_append_of_le_length (by rw [List.length_append, List.length_cons, hd, e4]; omega), List.take_of_length_le (by rw [List.length_append, List.length_cons, hd, e4]; omega)]
theorem ins_list2Ptr {cur : Array Value} {xs : List Value} {n i : Nat} (x : Value) (hsz : n + 1 ≤ cur.size) (hl : xs.length = n) (ht : cur.toList.take i = xs.take i) (hi : i < n) : (wr (wr cur i [x]) (i + 1) (xs.drop i)).toList.take (n + 1) = xs.take i ++ x :: xs.drop i := by
  have hd : (xs.drop i).length = n - i := by rw [List.length_drop, hl]
  have e4 : (xs.take i).length = i := by rw [List.length_take]; omega
  have e5 : (xs.take i ++ [x] ++ cur.toList.drop (i + [x].length)).take (i + 1) = xs.take i ++ [x] := by
    rw [List.take_append_of_le_length (by rw [List.length_append, e4]; exact Nat.le_refl _), List.take_of_length_le (by rw [List.length_append, e4]; exact Nat.le_refl _)]
  rw [wr_toList _ _ _ (by rw [wr_size, hd]; omega), wr_toList [x] _ _ (by simp; omega), ht, e5]
  have e6 : (xs.take i ++ [x] ++ xs.drop i).length = n + 1 := by rw [List.length_append, List.length_append, e4, hd, List.length_singleton]; omega
  rw [List.take_append_of_le_length (by omega), List.take_of_length_le (by omega)]
  simp

set_option maxRecDepth 100000 in
set_option maxHeartbeats 4000000 in
/-- at the end -/
theorem insEndPtr (v : Value) (n : Nat) (xs : List Value) (x : Value) (vb : Nat) (w : World) (hown : w.ownsRow 0 53 1 v n xs) (hx1 : x.oneCell' = true) (hn : n ≤ 1048576) (hblk : Blk w vb 53 #[x]) :
    Calls Tryz.prog 100 #[v, .int .i64 n, .slice (some ⟨vb, 0, none⟩) 1 1] w fun e w' => ∃ v', e = .returned v' ∧ w'.ownsRow 0 53 1 v' (n + 1) (xs ++ [x]) ∧ w.grownBy w' v.ownBlock ∧ (v'.ownBlock = v.ownBlock ∨ v'.ownBlock = some w.heap.size) := by
  obtain ⟨i0, hi0, hz0, hz1, hz2⟩ := info_parts Tryz.infoPtr
  have HC := hid (show ∀ j u, [x][j]? = some u → w.cell? ((⟨vb, 0, none⟩ : Addr).add j) = some u from fun j u hu => by
    cases j with
    | zero => simp at hu; subst hu; simpa [Addr.add] using hblk.cell 0
    | succ j => simp at hu)
  have HX : Hid (∀ u ∈ [x], u.oneCell' = true) := fun u hu => by rw [List.mem_singleton] at hu; subst hu; exact hx1
  have hown0 := hown
  rcases hown.2 with ⟨rfl, rfl⟩ | ⟨g, cap, cur, rfl, hb, hg, hnc, hcm, hsz, htk⟩
  · clear hown hx1 hblk
    go_enter Tryz.func100, Tryz.ntmps100
    go_wp2_with (at_builtin; refine wpList_append_own_at _ rfl (.tmp 23) (.tmp 24) 94 rfl 0 53 i0 (.pointer none) 1 8 Tryz.underlying94 hi0 hz0 hz1 hz2 rfl (by decide) _ _ _ rfl hown0 _ 1 1 [x] rfl rfl HC.out HX.out (by unfold maxLen; omega) (by omega) (Nat.zero_le _) ?_; intro v' w3 hown' hgrow _ hbk)
    go_ret
    exact ⟨_, rfl, hown', hgrow, hbk⟩
  · have HT := hid htk
    have HS := hid hsz
    have HG := hid hg
    unfold maxLen at hcm
    clear hown hx1 hblk htk hsz hg hb
    have hd : decide (n ≤ cap) = true := decide_eq_true hnc
    go_enter Tryz.func100, Tryz.ntmps100
    go_wp2_with (at_builtin; refine wpList_append_own_at _ rfl (.tmp 23) (.tmp 24) 94 rfl 0 53 i0 (.pointer none) 1 8 Tryz.underlying94 hi0 hz0 hz1 hz2 rfl (by decide) _ _ _ rfl hown0 _ 1 1 [x] rfl rfl HC.out HX.out (by unfold maxLen; omega) (by omega) (Nat.zero_le _) ?_; intro v' w3 hown' hgrow _ hbk)
    all_goals (go_ret; exact ⟨_, rfl, hown', hgrow, hbk⟩)

set_option maxHeartbeats 4000000 in
set_option maxRecDepth 100000 in
/-- ahead of the end, where there is room -/
theorem insRoomPtr (g n c i vb : Nat) (cs : List Value) (x : Value) (w : World) (hi : i < n) (hroom : n + 1 ≤ c) (hc63 : c ≤ 9223372036854775807) (hn : n ≤ 1048576) (hvb : vb ≠ g)
    (cur : Array Value) (hcur : Blk w g 53 cur) (hsz : cur.size = c) (htk : cur.toList.take n = cs) (h1c : ∀ v ∈ cs, v.oneCell' = true) (hx1 : x.oneCell' = true) (hblk : Blk w vb 53 #[x]) :
    Calls Tryz.prog 100 #[.slice (some ⟨g, 0, none⟩) n c, .int .i64 i, .slice (some ⟨vb, 0, none⟩) 1 1] w fun e w' =>
      e = .returned (.slice (some ⟨g, 0, none⟩) (n + 1) c) ∧ w' = (w.drew.setCells g (i + 1) (cs.drop i)).setCells g i [x] := by
  have hcl : cs.length = n := by rw [← htk, List.length_take]; simp; omega
  have hcs : ∀ j v, cs[j]? = some v → w.cell? ⟨g, j, none⟩ = some v := fun j v hj => by
    rw [hcur.cell j, ← hj, ← htk, List.getElem?_take, if_pos (by have := (List.getElem?_eq_some_iff.1 hj).1; omega)]; simp
  have hsp : ∀ j, j < n + 1 → (w.cell? ⟨g, j, none⟩).isSome = true := fun j hj => by rw [hcur.cell j, Array.getElem?_eq_getElem (by omega)]; rfl
  have hfz : ∀ j, w.frozen? ⟨g, j, none⟩ = false := fun j => hcur.frozen j
  have hu := Tryz.underlying94
  have hsize : (Tryz.prog.info? 53).map (·.size) = some 1 := by
    obtain ⟨i0, hi0, h0, h1, h2⟩ := info_parts Tryz.infoPtr
    rw [hi0]; simp [h1]
  have hz1 : ∀ w : World, (Go.sizeOf 53).run Tryz.prog w = .ok 1 w := fun w => by
    obtain ⟨i0, hi0, h0, h1, h2⟩ := info_parts Tryz.infoPtr
    simp [Go.sizeOf, typeInfo, hi0, h1]
  have hsa : w.shape? vb = some (53, 1) := by have := hblk; unfold Blk at this; simp [World.shape?, this]
  have hsb : w.shape? g = some (53, c) := by have := hcur; unfold Blk at this; simp [World.shape?, this, hsz]
  have hov : ∀ lb cb, (callFunc 120 #[.slice (some ⟨vb, 0, none⟩) 1 1, .slice (some ⟨g, i + 1, none⟩) lb cb]).run Tryz.prog w = .ok (.value (.bool false)) w := fun lb cb => by
    rw [run_callFunc_extern Tryz.func120 (by kernel_rfl) (by kernel_rfl) (by kernel_rfl) (e := Extern.SlicesOverlaps.overlaps #[94, 94] #[4]) (by kernel_rfl),
      Lib.run_overlaps_apart w 94 4 53 hu 1 hz1 ⟨vb, 0, none⟩ ⟨g, i + 1, none⟩ 1 1 lb cb hvb 53 53 1 c hsa hsb (by omega) (hblk.frozen 0) (hblk.frozen 1)]
    rfl
  have hdl : (cs.drop i).length = n - i := by rw [List.length_drop, hcl]
  have hw1 : IntKind.i64.wrap ((i : Int) + 1) = (i : Int) + 1 := by rw [IntKind.wrap_i64]; omega
  have hb1 : (0 : Int) ≤ (i : Int) + 1 := by omega
  have hin : i ≤ n := by omega
  have htn : ((i : Int) + 1).toNat = i + 1 := by omega
  have hb2 : ¬ (c = i + 1) := by omega
  have hb3 : (i : Int) ≤ (n : Int) + 1 := by omega
  have hb4 : ¬ (c = i) := by omega
  have hz2 : ¬ ((i : Int) = (n : Int)) := by omega
  have hcp1 : ∀ ty dc sc, (Builtin.copy_ #[94, 94] ty #[.slice (some ⟨g, i + 1, none⟩) (n - i) dc, .slice (some ⟨g, i, none⟩) (n + 1 - i) sc]).run Tryz.prog w.drew = .ok (goInt (cs.drop i).length) (w.drew.setCells g (i + 1) (cs.drop i)) := fun ty dc sc =>
    run_copy_cells w.drew _ _ ty 53 g (i + 1) (n - i) dc ⟨g, i, none⟩ (n + 1 - i) sc (cs.drop i) hu hsize (by rw [hdl]; simp only [Nat.min_def]; split <;> omega)
      (fun j v hj => by rw [Addr.add_lit]; exact hcs (i + j) v (by rwa [List.getElem?_drop] at hj))
      (fun j hj => hsp _ (by omega)) (fun j hj => hfz _) (fun v hv => h1c v (List.mem_of_mem_drop hv))
  obtain ⟨W1, hW1⟩ : ∃ W1, W1 = w.drew.setCells g (i + 1) (cs.drop i) := ⟨_, rfl⟩
  have hB1 : Blk W1 g 53 (wr cur (i + 1) (cs.drop i)) := by rw [hW1]; exact heap_setCells _ _ _ _ hcur
  have hX1 : Blk W1 vb 53 #[x] := by rw [hW1]; exact hblk.only (only_setCells (F := (· = g)) (.inl rfl) (cs.drop i) (i + 1) w.drew (Only.refl (· = g) w).drew) hvb
  have hcp2 : ∀ (W : World), (∀ x, W.cell? x = W1.cell? x) → (∀ x, W.frozen? x = W1.frozen? x) → ∀ ty dc, (Builtin.copy_ #[94, 94] ty #[.slice (some ⟨g, i, none⟩) (n + 1 - i) dc, .slice (some ⟨vb, 0, none⟩) 1 1]).run Tryz.prog W = .ok (goInt 1) (W.setCells g i [x]) := fun W hWc hWf ty dc =>
    run_copy_cells W _ _ ty 53 g i (n + 1 - i) dc ⟨vb, 0, none⟩ 1 1 [x] hu hsize (by simp only [Nat.min_def, List.length_singleton]; split <;> omega)
      (fun j v hj => by
        cases j with
        | zero => simp at hj; subst hj; rw [Addr.add_lit, hWc]; exact hX1.cell 0
        | succ j => simp at hj)
      (fun j hj => by rw [hWc, hB1.cell, Array.getElem?_eq_getElem (by rw [wr_size]; simp at hj; omega)]; rfl) (fun j hj => by rw [hWf]; exact hB1.frozen _) (fun u hu => by rw [List.mem_singleton] at hu; subst hu; exact hx1)
  rw [← hW1] at hcp1
  clear hcs hsp hfz hsa hsb hcur hblk htk h1c hx1 hB1 hX1 hsz hcl hz1 hsize
  have HCP2 := hid hcp2
  clear hcp2
  have HDL := hid hdl; clear hdl
  have HW1 := hid hW1; clear hW1
  have mixed : Tryz.prog.follows .mixedOrders = true := by kernel_rfl
  go_enter Tryz.func100, Tryz.ntmps100
  go_wp2_with (simp only [hov])
  go_region_law (refine step_copy_isPtr rfl _ _ 94 94 rfl _ _ (by simp [Act.eval, Act.put]) (by simp [Act.eval, Act.put]) (hcp1 _ _ _) ?_)
  go_wp2_with (refine wpList_copy_isPtr _ rfl (.tmp 80) (.tmp 81) 94 94 rfl _ _ rfl rfl (HCP2.out _ (fun _ => rfl) (fun _ => rfl) _ _) ?_)
  go_ret
  exact ⟨rfl, by rw [HW1.out]⟩

set_option maxHeartbeats 4000000 in
set_option maxRecDepth 100000 in
/-- ahead of the end, where there is no room -/
theorem insGrowPtr (g n c i vb : Nat) (cs : List Value) (x : Value) (w : World) (hi : i < n) (hnc : n ≤ c) (hroom : c < n + 1) (hn : n ≤ 1048576)
    (cur : Array Value) (hcur : Blk w g 53 cur) (hsz : cur.size = c) (htk : cur.toList.take n = cs) (h1c : ∀ v ∈ cs, v.oneCell' = true) (hx1 : x.oneCell' = true) (hblk : Blk w vb 53 #[x]) :
    Calls Tryz.prog 100 #[.slice (some ⟨g, 0, none⟩) n c, .int .i64 i, .slice (some ⟨vb, 0, none⟩) 1 1] w fun e w' =>
      ∃ v', e = .returned v' ∧ w'.ownsRow 0 53 1 v' (n + 1) (cs.take i ++ x :: cs.drop i) ∧ Below w.heap.size w w' ∧ v'.ownBlock = some w.heap.size := by
  have hcl : cs.length = n := by rw [← htk, List.length_take]; simp; omega
  have hcs : ∀ j v, cs[j]? = some v → w.cell? ⟨g, j, none⟩ = some v := fun j v hj => by
    rw [hcur.cell j, ← hj, ← htk, List.getElem?_take, if_pos (by have := (List.getElem?_eq_some_iff.1 hj).1; omega)]; simp
  have hu := Tryz.underlying94
  obtain ⟨i0, hi0, hz0, hzs, hzb⟩ := info_parts Tryz.infoPtr
  have hsize : (Tryz.prog.info? 53).map (·.size) = some 1 := by rw [hi0]; simp [hzs]
  have hdl : (cs.drop i).length = n - i := by rw [List.length_drop, hcl]
  have hold : (Builtin.firstCells i0.size i (.slice (some ⟨g, 0, none⟩) i c)).run Tryz.prog w.drew = .ok (cs.take i).toArray w.drew := by
    rw [hzs]
    exact run_firstCells_some w.drew 1 i ⟨g, 0, none⟩ i c (cs.take i) (by rw [List.length_take]; omega) (fun j v hj => by
      rw [Addr.add_lit, Nat.zero_add]
      rw [List.getElem?_take] at hj
      split at hj
      · exact hcs j v hj
      · cases hj)
  obtain ⟨G, hG⟩ : ∃ G, G = grownCap w (n + 1) c 53 := ⟨_, rfl⟩
  obtain ⟨ROW, hROW⟩ : ∃ ROW : Array Value, ROW = (cs.take i).toArray ++ Builtin.zeroCells (Value.cells (.pointer none)) (n + 1 - i) ++ Builtin.zeroCells (Value.cells (.pointer none)) (G - (n + 1)) := ⟨_, rfl⟩
  have hkk : (n : Int) + 1 - (i : Int) = ((n + 1 - i : Nat) : Int) := by omega
  have hik : i + (n + 1 - i) = n + 1 := by omega
  have hrz : ∀ ty, (Builtin.append_ #[94, 3] ty #[.slice (some ⟨g, 0, none⟩) i c, .int .i64 ((n : Int) + 1 - (i : Int))]).run Tryz.prog w =
      .ok (.slice (some ⟨w.heap.size, 0, none⟩) (n + 1) G) (w.drew.alloc (.cells ROW 53)) := fun ty => by
    have h := Lib.run_append_grow_zeros w 94 3 ty 53 i0 _ .i64 .i64 hu Tryz.underlying3 hi0 hz0 (some ⟨g, 0, none⟩) i c (cs.take i) hold (n + 1 - i) (by omega) (by omega) (by omega) (by omega) (by rw [hzb]; omega) (by rw [hzb, hik]; exact growslice_fits hroom (by omega))
    rw [hik] at h
    rw [hkk, hROW, hG]
    exact h
  have hGn : n + 1 ≤ G := by rw [hG]; exact grownCap_ge w _ _ _
  have hG63 : G ≤ 9223372036854775807 := by
    have := grownCap_le_maxLen w (n + 1) c 53 (by unfold maxLen; omega)
    rw [← hG] at this
    unfold maxLen at this
    omega
  have hRs : ROW.size = G := by
    rw [hROW]
    simp [Builtin.zeroCells, Value.cells]
    omega
  have hRt : ROW.toList.take i = cs.take i := by
    rw [hROW, Array.toList_append, Array.toList_append, List.append_assoc, List.take_append_of_le_length (by simp; omega)]
    show List.take i (cs.take i) = _
    rw [List.take_take, Nat.min_self]
  have hgl := hcur.lt
  have hvl := hblk.lt
  obtain ⟨W1, hW1⟩ : ∃ W1, W1 = w.drew.alloc (.cells ROW 53) := ⟨_, rfl⟩
  have hN1 : Blk W1 w.heap.size 53 ROW := by rw [hW1]; exact Blk.new w.drew _ _
  have hC1 : Blk W1 g 53 cur := by rw [hW1]; exact hcur.drew.alloc _
  have hV1 : Blk W1 vb 53 #[x] := by rw [hW1]; exact hblk.drew.alloc _
  have hb1 : Below w.heap.size w W1 := by rw [hW1]; exact (Below.refl _ _).drew.alloc (Nat.le_refl _) _
  have hcpA : ∀ (W : World), (∀ x, W.cell? x = W1.cell? x) → (∀ x, W.frozen? x = W1.frozen? x) → ∀ ty dc, (Builtin.copy_ #[94, 94] ty #[.slice (some ⟨w.heap.size, i, none⟩) (n + 1 - i) dc, .slice (some ⟨vb, 0, none⟩) 1 1]).run Tryz.prog W = .ok (goInt 1) (W.setCells w.heap.size i [x]) := fun W hWc hWf ty dc =>
    run_copy_cells W _ _ ty 53 w.heap.size i (n + 1 - i) dc ⟨vb, 0, none⟩ 1 1 [x] hu hsize (by simp only [Nat.min_def, List.length_singleton]; split <;> omega)
      (fun j v hj => by
        cases j with
        | zero => simp at hj; subst hj; rw [Addr.add_lit, hWc]; exact hV1.cell 0
        | succ j => simp at hj)
      (fun j hj => by rw [hWc, hN1.cell, Array.getElem?_eq_getElem (by simp at hj; omega)]; rfl) (fun j hj => by rw [hWf]; exact hN1.frozen _) (fun u hu => by rw [List.mem_singleton] at hu; subst hu; exact hx1)
  have hN2 : Blk (W1.setCells w.heap.size i [x]) w.heap.size 53 (wr ROW i [x]) := heap_setCells _ _ _ _ hN1
  have hO2 : Only (· = w.heap.size) W1 (W1.setCells w.heap.size i [x]) := only_setCells (F := (· = w.heap.size)) (.inl rfl) _ _ _ (Only.refl _ _)
  have hC2 : Blk (W1.setCells w.heap.size i [x]) g 53 cur := hC1.only hO2 (by omega)
  have hcpB : ∀ (W : World), (∀ y, W.cell? y = (W1.setCells w.heap.size i [x]).cell? y) → (∀ y, W.frozen? y = (W1.setCells w.heap.size i [x]).frozen? y) → ∀ ty dc sc, (Builtin.copy_ #[94, 94] ty #[.slice (some ⟨w.heap.size, i + 1, none⟩) (n - i) dc, .slice (some ⟨g, i, none⟩) (n - i) sc]).run Tryz.prog W = .ok (goInt (cs.drop i).length) (W.setCells w.heap.size (i + 1) (cs.drop i)) := fun W hWc hWf ty dc sc =>
    run_copy_cells W _ _ ty 53 w.heap.size (i + 1) (n - i) dc ⟨g, i, none⟩ (n - i) sc (cs.drop i) hu hsize (by rw [hdl]; simp only [Nat.min_def]; split <;> omega)
      (fun j v hj => by
        rw [Addr.add_lit, hWc, hC2.cell]
        rw [List.getElem?_drop] at hj
        rw [← hj, ← htk, List.getElem?_take, if_pos (by have := (List.getElem?_eq_some_iff.1 hj).1; omega)]; simp)
      (fun j hj => by rw [hWc, hN2.cell, Array.getElem?_eq_getElem (by rw [wr_size]; omega)]; rfl)
      (fun j hj => by rw [hWf]; exact hN2.frozen _) (fun v hv => h1c v (List.mem_of_mem_drop hv))
  have hGi : ¬ (G = i) := by omega
  have hGim : ¬ (G = i + 1) := by omega
  have hci : ¬ (c = i) := by omega
  have hw1 : IntKind.i64.wrap ((i : Int) + 1) = (i : Int) + 1 := by rw [IntKind.wrap_i64]; omega
  have hb1' : (0 : Int) ≤ (i : Int) + 1 := by omega
  have hin : i ≤ n := by omega
  have htn : ((i : Int) + 1).toNat = i + 1 := by omega
  have hb3 : (i : Int) ≤ (n : Int) := by omega
  have hz2 : ¬ ((i : Int) = (n : Int)) := by omega
  have hz3 : (c : Int) < (n : Int) + 1 := by omega
  have hfin : (∃ v', (Value.slice (some ⟨w.heap.size, 0, none⟩) (n + 1) G) = v' ∧ ((((w.alloc (.cells ROW 53)).drew.setCells w.heap.size i [x]).drew).setCells w.heap.size (i + 1) (cs.drop i)).ownsRow 0 53 1 v' (n + 1) (cs.take i ++ x :: cs.drop i) ∧ Below w.heap.size w ((((w.alloc (.cells ROW 53)).drew.setCells w.heap.size i [x]).drew).setCells w.heap.size (i + 1) (cs.drop i)) ∧ v'.ownBlock = some w.heap.size) := by
    have a1 : Blk ((w.alloc (.cells ROW 53)).drew) w.heap.size 53 ROW := Blk.new w _ _
    have a2 : Blk (((w.alloc (.cells ROW 53)).drew.setCells w.heap.size i [x]).drew) w.heap.size 53 (wr ROW i [x]) := heap_setCells _ _ _ _ a1
    have a3 : Blk ((((w.alloc (.cells ROW 53)).drew.setCells w.heap.size i [x]).drew).setCells w.heap.size (i + 1) (cs.drop i)) w.heap.size 53 (wr (wr ROW i [x]) (i + 1) (cs.drop i)) := heap_setCells _ _ _ _ a2
    have o1 : Only NoF w ((w.alloc (.cells ROW 53)).drew) := ((Only.refl NoF w).alloc _).drew
    have o2 : Only NoF w ((((w.alloc (.cells ROW 53)).drew.setCells w.heap.size i [x]).drew).setCells w.heap.size (i + 1) (cs.drop i)) :=
      only_setCells (.inr (Nat.le_refl _)) _ _ _ (only_setCells (.inr (Nat.le_refl _)) _ _ _ o1).drew
    refine ⟨_, rfl, ⟨by simp; omega, .inr ⟨w.heap.size, G, _, rfl, Nat.zero_le _, a3, hGn, by unfold maxLen; omega, by rw [wr_size, wr_size, hRs]; simp, ?_⟩⟩, o2.below0, rfl⟩
    rw [Nat.mul_one]
    exact ins_list2Ptr x (by omega) hcl hRt hi
  have HFIN := hid hfin
  have HA := hid hcpA; have HB := hid hcpB; have HE := hid hW1
  have hE1 : Hid (∀ x, ((w.alloc (.cells ROW 53)).drew).cell? x = W1.cell? x) := fun x => by rw [hW1]; rfl
  have hE2 : Hid (∀ x, ((w.alloc (.cells ROW 53)).drew).frozen? x = W1.frozen? x) := fun x => by rw [hW1]; rfl
  have hF1 : Hid (∀ y, (((w.alloc (.cells ROW 53)).drew.setCells w.heap.size i [x]).drew).cell? y = (W1.setCells w.heap.size i [x]).cell? y) := fun y => by rw [hW1]; rfl
  have hF2 : Hid (∀ y, (((w.alloc (.cells ROW 53)).drew.setCells w.heap.size i [x]).drew).frozen? y = (W1.setCells w.heap.size i [x]).frozen? y) := fun y => by rw [hW1]; rfl
  have HZ := hid hrz
  clear hfin hcpA hcpB hrz hW1 hN1 hC1 hV1 hb1 hN2 hO2 hC2 hRt hRs hROW hG hold hcs hcur htk h1c hx1 hblk hsz hcl hkk hik hi0 hz0 hzs hzb hsize hdl
  have mixed : Tryz.prog.follows .mixedOrders = true := by kernel_rfl
  go_enter Tryz.func100, Tryz.ntmps100
  go_wp2_with (first
    | (at_builtin; refine Lib.wpList_append_run _ rfl _ _ _ _ rfl _ _ rfl rfl _ _ (HZ.out _) ?_)
    | (refine wpList_copy_isPtr _ rfl (.tmp 43) (.tmp 44) 94 94 rfl _ _ rfl rfl (HA.out _ hE1.out hE2.out _ _) ?_))
  go_region_law (refine step_copy_isPtr rfl _ _ 94 94 rfl (.slice (some ⟨w.heap.size, i + 1, none⟩) (n - i) (G - (i + 1))) (.slice (some ⟨g, i, none⟩) (n - i) (c - i)) (by simp [Act.eval, Act.put]) (by simp [Act.eval, Act.put]) (HB.out _ hF1.out hF2.out _ _ _) ?_)
  go_wp2
  go_ret
  obtain ⟨v', h1, h2⟩ := HFIN.out
  exact ⟨v', congrArg Ending.returned h1, h2⟩

/-- one thing more at a place -/
theorem insPtr (v : Value) (n i : Nat) (xs : List Value) (x : Value) (vb : Nat) (w : World) (hown : w.ownsRow 0 53 1 v n xs) (h1 : ∀ u ∈ xs, u.oneCell' = true) (hx1 : x.oneCell' = true) (hi : i ≤ n) (hn : n ≤ 1048576) (hblk : Blk w vb 53 #[x]) (hne : v.ownBlock ≠ some vb) :
    Calls Tryz.prog 100 #[v, .int .i64 i, .slice (some ⟨vb, 0, none⟩) 1 1] w fun e w' => ∃ v', e = .returned v' ∧ w'.ownsRow 0 53 1 v' (n + 1) (xs.take i ++ x :: xs.drop i) ∧ w.grownBy w' v.ownBlock ∧ (v'.ownBlock = v.ownBlock ∨ v'.ownBlock = some w.heap.size) := by
  have hxl : xs.length = n := by have := hown.1; omega
  by_cases hin : i = n
  · subst hin
    rw [List.take_of_length_le (by omega), List.drop_eq_nil_of_le (by omega)]
    exact insEndPtr v i xs x vb w hown hx1 hn hblk
  · rcases hown.2 with ⟨rfl, rfl⟩ | ⟨g, cap, cur, rfl, hb, hg, hnc, hcm, hsz, htk⟩
    · omega
    · unfold maxLen at hcm
      rw [Nat.mul_one] at hsz htk
      by_cases hr : n + 1 ≤ cap
      · refine (insRoomPtr g n cap i vb xs x w (by omega) hr hcm hn (fun e => hne (by rw [e]; rfl)) cur hg hsz htk h1 hx1 hblk).mono ?_
        rintro e w' ⟨rfl, rfl⟩
        refine ⟨_, rfl, ⟨by simp; omega, .inr ⟨g, cap, _, rfl, Nat.zero_le _, heap_setCells _ _ _ _ (heap_setCells _ _ w.drew _ hg), hr, by unfold maxLen; omega, by rw [wr_size, wr_size, hsz]; omega, ?_⟩⟩, ?_, .inl rfl⟩
        · rw [Nat.mul_one]; exact ins_listPtr x (by omega) htk (by omega)
        · exact grownBy_of_only (only_setCells (F := fun k => some g = some k) (.inl rfl) _ _ _ (only_setCells (F := fun k => some g = some k) (.inl rfl) _ _ _ (Only.refl _ w).drew))
      · refine (insGrowPtr g n cap i vb xs x w (by omega) hnc (by omega) hn cur hg hsz htk h1 hx1 hblk).mono ?_
        rintro e w' ⟨v', rfl, h2, hb2, h3⟩
        exact ⟨v', rfl, h2, ⟨hb2.os, hb2.tape, hb2.output, hb2.size, fun k hk _ => hb2.block k hk⟩, .inr h3⟩
end Go.Proofs.YtnhgfhbicaiilaaGreat
/- slices.Delete of one thing, slices.Clone, over a slice of the program's own: Ptr. -/
namespace Go.Proofs.YtnhgfhbicaiilaaGreat
open Go.RowKit
set_option linter.unusedVariables false
set_option linter.unusedSimpArgs false

theorem del_listPtr {cur : Array Value} {xs : List Value} {n i : Nat} (z : List Value) (hz : z.length = 1) (hsz : n ≤ cur.size) (ht : cur.toList.take n = xs) (hi : i < n) : (wr (wr cur i (xs.drop (i + 1))) (n - 1) z).toList.take (n - 1) = xs.take i ++ xs.drop (i + 1) := by
  have hl : xs.length = n := by rw [← ht, List.length_take]; simp; omega
  have hd : (xs.drop (i + 1)).length = n - 1 - i := by rw [List.length_drop, hl]; omega
  have e4 : (xs.take i).length = i := by rw [List.length_take]; omega
  have e0 : cur.toList.take i = xs.take i := by rw [← ht, List.take_take, Nat.min_eq_left (by omega)]
  rw [wr_toList _ _ _ (by rw [wr_size, hz]; omega), wr_toList _ _ _ (by rw [hd]; omega), e0]
  have e6 : (xs.take i ++ xs.drop (i + 1)).length = n - 1 := by rw [List.length_append, e4, hd]; omega
  have e7 : (xs.take i ++ xs.drop (i + 1) ++ cur.toList.drop (i + (xs.drop (i + 1)).length)).take (n - 1) = xs.take i ++ xs.drop (i + 1) := by
    rw [List.take_append_of_le_length (by omega), List.take_of_length_le (by omega)]
  rw [e7, List.append_assoc, List.take_append_of_le_length (by omega), List.take_of_length_le (by omega)]

set_option maxHeartbeats 4000000 in
set_option maxRecDepth 100000 in
/-- one thing less -/
theorem delPtr (v : Value) (n i : Nat) (xs : List Value) (w : World) (hown : w.ownsRow 0 53 1 v n xs) (h1 : ∀ u ∈ xs, u.oneCell' = true) (hi : i < n) (hn : n ≤ 1048576) :
    Calls Tryz.prog 102 #[v, .int .i64 i, .int .i64 ((i : Int) + 1)] w fun e w' => ∃ v', e = .returned v' ∧ w'.ownsRow 0 53 1 v' (n - 1) (xs.take i ++ xs.drop (i + 1)) ∧ w.grownBy w' v.ownBlock ∧ v'.ownBlock = v.ownBlock := by
  obtain ⟨i0, hi0, hz0, hz1, hz2⟩ := info_parts Tryz.infoPtr
  have hxl : xs.length = n := by have := hown.1; omega
  rcases hown.2 with ⟨rfl, rfl⟩ | ⟨g, cap, cur, rfl, hb, hg, hnc, hcm, hsz, htk⟩
  · omega
  · unfold maxLen at hcm
    rw [Nat.mul_one] at hsz htk
    have hcur : Blk w g 53 cur := hg
    obtain ⟨W1, hW1⟩ : ∃ W1, W1 = w.drew.setCells g (0 + i * 1) (xs.drop (i + 1)) := ⟨_, rfl⟩
    have hB1 : Blk W1 g 53 (wr cur i (xs.drop (i + 1))) := by rw [hW1, Nat.mul_one, Nat.zero_add]; exact heap_setCells _ _ w.drew _ hg
    have hcl : ∀ ty, (Builtin.clear_ #[94] ty #[.slice (some ⟨g, i + (n - (i + 1)), none⟩) (n - (i + (n - (i + 1)))) (cap - (i + (n - (i + 1))))]).run Tryz.prog W1 = .ok (.tuple #[]) (W1.setCells g (i + (n - (i + 1))) (List.replicate (n - (i + (n - (i + 1)))) (.pointer none))) :=
      fun ty => Lib.run_clear_slice W1 _ _ ty _ Tryz.underlying94 (Tryz.zeroValue53) rfl rfl g _ _ _ (by omega) (fun t ht => by rw [hB1.cell, Array.getElem?_eq_getElem (by rw [wr_size]; omega)]; rfl) (fun t ht => hB1.frozen _)
    have hfin : ∃ v', (Value.slice (some ⟨g, 0, none⟩) (i + (n - (i + 1))) cap) = v' ∧ (W1.setCells g (i + (n - (i + 1))) (List.replicate (n - (i + (n - (i + 1)))) (.pointer none))).ownsRow 0 53 1 v' (n - 1) (xs.take i ++ xs.drop (i + 1)) ∧ w.grownBy (W1.setCells g (i + (n - (i + 1))) (List.replicate (n - (i + (n - (i + 1)))) (.pointer none))) (some g) ∧ v'.ownBlock = some g := by
      have e1 : i + (n - (i + 1)) = n - 1 := by omega
      have e2 : n - (n - 1) = 1 := by omega
      rw [e1, e2]
      refine ⟨_, rfl, ⟨by simp; omega, .inr ⟨g, cap, _, rfl, Nat.zero_le _, heap_setCells _ _ _ _ hB1, by omega, by unfold maxLen; omega, by rw [wr_size, wr_size, hsz]; simp, ?_⟩⟩, ?_, rfl⟩
      · rw [Nat.mul_one]; exact del_listPtr _ rfl (by omega) htk hi
      · rw [hW1]
        exact grownBy_of_only (only_setCells (F := fun k => some g = some k) (.inl rfl) _ _ _ (only_setCells (F := fun k => some g = some k) (.inl rfl) _ _ _ (Only.refl _ w).drew))
    have s1 : Hid ((xs.drop (i + 1)).length = (n - (i + 1)) * 1) := by unfold Hid; rw [List.length_drop]; omega
    have s2 : Hid (∀ u ∈ xs.drop (i + 1), u.oneCell' = true) := fun u hu => h1 u (List.mem_of_mem_drop hu)
    have s3 : Hid (∀ t, t < (xs.drop (i + 1)).length → (w.drew.cell? ⟨g, 0 + i * 1 + t, none⟩).isSome = true ∧ w.drew.frozen? ⟨g, 0 + i * 1 + t, none⟩ = false) := fun t ht => by
      rw [List.length_drop] at ht
      exact ⟨by rw [hcur.drew.cell, Array.getElem?_eq_getElem (by omega)]; rfl, hcur.drew.frozen _⟩
    have hsrc : Hid (∀ j u, (xs.drop (i + 1))[j]? = some u → w.drew.cell? ((⟨g, i + 1, none⟩ : Addr).add j) = some u) := fun j u hj => by
      rw [Addr.add_lit, hcur.drew.cell]
      rw [List.getElem?_drop] at hj
      rw [← hj, ← htk, List.getElem?_take, if_pos (by have := (List.getElem?_eq_some_iff.1 hj).1; omega)]; simp
    have hic : i ≤ cap := by omega
    have hjc : i + 1 ≤ cap := by omega
    have HFIN := hid hfin
    have HW := hid hW1
    have hii : ((i : Int) == (i : Int) + 1) = false := by rw [beq_eq_false_iff_ne]; omega
    have f1 : (0 : Int) ≤ (i : Int) + 1 := by omega
    have f2 : ((i : Int) + 1).toNat = i + 1 := by omega
    have f4 : (i : Int) ≤ (i : Int) + 1 := by omega
    have mixed : Tryz.prog.follows .mixedOrders = true := by kernel_rfl
    by_cases hce : cap = i + 1
    · have hn1 : n = i + 1 := by omega
      have hnil : Hid (∀ j u, (xs.drop (i + 1))[j]? = some u → w.drew.cell? ((⟨g, 0, none⟩ : Addr).add j) = some u) := fun j u hj => by
        rw [List.drop_eq_nil_of_le (by omega)] at hj; simp at hj
      subst hce
      subst hn1
      have z1 : i + (i + 1 - (i + 1)) = i := by omega
      have z2 : i + 1 - i = 1 := by omega
      rw [z1, z2] at hcl hfin
      have HFIN := hid hfin
      clear z1 z2
      clear hW1 hB1 hfin hown h1 hg hcur htk hsz hsrc
      go_enter Tryz.func102, Tryz.ntmps102
      go_wp2_with fail
      go_region_law (refine step_append_room rfl (.tmp 22) (.tmp 25) 94 rfl 53 i0 1 Tryz.underlying94 hi0 hz1 g 0 i (i + 1) (by simp [Act.eval, Act.put]) ⟨g, 0, none⟩ 0 0 (xs.drop (i + 1)) (by simp [Act.eval, Act.put]) (by have := s1.out; simpa using this) hnil.out s2.out (by omega) s3.out ?_; rw [← HW.out])
      go_wp2
      go_ret
      obtain ⟨v', h1, h2⟩ := HFIN.out
      exact ⟨v', congrArg Ending.returned h1, h2⟩
    · have f3 : (i : Int) + 1 ≤ (n : Int) := by omega
      clear hW1 hB1 hfin hown h1 hg hcur htk hsz
      go_enter Tryz.func102, Tryz.ntmps102
      go_wp2_with fail
      go_region_law (refine step_append_room rfl (.tmp 22) (.tmp 25) 94 rfl 53 i0 1 Tryz.underlying94 hi0 hz1 g 0 i cap (by simp [Act.eval, Act.put]) ⟨g, i + 1, none⟩ (n - (i + 1)) (cap - (i + 1)) (xs.drop (i + 1)) (by simp [Act.eval, Act.put]) s1.out hsrc.out s2.out (by omega) s3.out ?_; rw [← HW.out])
      go_wp2
      go_ret
      obtain ⟨v', h1, h2⟩ := HFIN.out
      exact ⟨v', congrArg Ending.returned h1, h2⟩

theorem own_nonePtr (w : World) : (w.alloc (.cells #[] 53)).ownsRow w.heap.size 53 1 (.slice (some ⟨w.heap.size, 0, none⟩) 0 0) 0 [] :=
  ⟨rfl, .inr ⟨w.heap.size, 0, #[], rfl, Nat.le_refl _, by show (w.heap.push _)[w.heap.size]? = _; simp, Nat.le_refl _, by unfold maxLen; omega, rfl, rfl⟩⟩
set_option maxHeartbeats 4000000 in
set_option maxRecDepth 100000 in
/-- a copy -/
theorem clonePtr (v : Value) (n : Nat) (xs : List Value) (w : World) (hown : w.ownsRow 0 53 1 v n xs) (h1 : ∀ u ∈ xs, u.oneCell' = true) (hn : n ≤ 1048576) :
    Calls Tryz.prog 95 #[v] w fun e w' => ∃ v', e = .returned v' ∧ w'.ownsRow w.heap.size 53 1 v' n xs ∧ Below w.heap.size w w' := by
  obtain ⟨i0, hi0, hz0, hz1, hz2⟩ := info_parts Tryz.infoPtr
  have hxl : xs.length = n := by have := hown.1; omega
  rcases hown.2 with ⟨rfl, rfl⟩ | ⟨g, cap, cur, rfl, hb, hg, hnc, hcm, hsz, htk⟩
  · obtain rfl : xs = [] := List.length_eq_zero_iff.1 hxl
    clear hown h1 hxl
    have hq : ∀ W : World, (binOp .eql 94 (.slice none 0 0) (.slice none 0 0)).run Tryz.prog W = .ok (.bool true) W := fun W => Go.run_eql_slice_nil W 94 53 none 0 0 Tryz.underlying94
    go_enter Tryz.func95, Tryz.ntmps95
    go_wp2
    go_ret
    exact ⟨_, rfl, World.ownsRow_nil _ _ _ _, Below.refl _ _⟩
  · unfold maxLen at hcm
    have hcells := hown.cells (g := g) rfl
    have hgl := (Array.getElem?_eq_some_iff.1 hg).1
    have HC : Hid (∀ j u, xs[j]? = some u → (w.alloc (.cells #[] 53)).cell? ((⟨g, 0, none⟩ : Addr).add j) = some u) := fun j u hu => by
      rw [World.cell?_alloc_lt w _ _ (by rw [Addr.add_lit]; exact hgl)]
      exact hcells j u hu
    have H1 := hid h1
    have HO := own_nonePtr w
    have HXL : Hid (xs.length = n * 1) := by unfold Hid; omega
    have HN : Hid (0 + n = n) := by unfold Hid; omega
    clear hown h1 hxl hb hg hsz htk hcells
    have hq : ∀ W : World, (binOp .eql 94 (.slice (some ⟨g, 0, none⟩) n cap) (.slice none 0 0)).run Tryz.prog W = .ok (.bool false) W := fun W => Go.run_eql_slice_nil W 94 53 (some ⟨g, 0, none⟩) n cap Tryz.underlying94
    go_enter Tryz.func95, Tryz.ntmps95
    go_wp2_with (at_builtin; refine wpList_append_own_at _ rfl (.tmp 5) (.tmp 6) 94 rfl w.heap.size 53 i0 (.pointer none) 1 8 Tryz.underlying94 hi0 hz0 hz1 hz2 rfl (by decide) _ _ _ rfl HO _ n cap xs rfl HXL.out HC.out H1.out (by unfold maxLen; omega) (by omega) (by simp) ?_; intro v' w3 hown' hgrow _ hbk)
    go_ret
    refine ⟨_, rfl, ?_, ?_⟩
    · rw [HN.out] at hown'; exact hown'
    · exact ((Below.refl _ w).alloc (Nat.le_refl _) _).grown hgrow (by simp) (fun k hk => by cases hk; exact Nat.le_refl _)
end Go.Proofs.YtnhgfhbicaiilaaGreat
/- The shelf's map of Ptr under texts: find, Get, Put, Del, Len, Keys. -/
namespace Go.Proofs.YtnhgfhbicaiilaaGreat
open Go.RowKit
set_option linter.unusedVariables false

def encPtr : (Option Addr) → Value := Value.pointer
def MapIsPtr (w : World) (m : Nat) (ks vs : Value) (l : List ByteArray) (ps : List (Option Addr)) : Prop :=
  Blk w m 96 #[ks, vs] ∧ w.ownsRow 0 9 1 ks l.length (svals l) ∧ w.ownsRow 0 53 1 vs ps.length (ps.map encPtr) ∧ ps.length = l.length ∧ Rising l ∧ l.length ≤ 1000000
theorem encPtr_one (l : List (Option Addr)) : ∀ u ∈ l.map encPtr, u.oneCell' = true := by
  intro u hu; obtain ⟨x, _, rfl⟩ := List.mem_map.1 hu; rfl

set_option maxHeartbeats 1000000 in
theorem findPtr (m : Nat) (ks vs : Value) (l : List ByteArray) (ps : List (Option Addr)) (x : ByteArray) (w : World) (h : MapIsPtr w m ks vs l ps) :
    Calls Tryz.prog 98 #[.pointer (some ⟨m, 0, none⟩), .string x] w fun e w' => e = .returned (.tuple #[.int .i64 (posOf l x : Nat), .bool (hasN l x)]) ∧ w = w' := by
  obtain ⟨h1, h2, h3, h4, h5, h6⟩ := h
  obtain ⟨ka, kc, rfl, hS⟩ := own_strs h2 (by omega)
  have c0 := h1.cell 0
  simp at c0
  have CB := hid (bs_names ka l.length kc l x w hS (by omega) h5)
  clear h1 h2 h3 h4 h5 hS
  go_enter Tryz.func98, Tryz.ntmps98
  go_wp2_with (go_at_call 117; refine CB.out.mono ?_; rintro e w' ⟨rfl, rfl⟩)
  go_ret2
  exact ⟨rfl, rfl⟩
set_option maxHeartbeats 1000000 in
theorem findPtr_nil (x : ByteArray) (w : World) :
    Calls Tryz.prog 98 #[.pointer none, .string x] w fun e w' => e = .returned (.tuple #[.int .i64 0, .bool false]) ∧ w = w' := by
  go_enter Tryz.func98, Tryz.ntmps98
  go_wp2_with fail
  go_ret2
  exact ⟨rfl, rfl⟩

/-- what is found -/
def getVPtr (l : List ByteArray) (ps : List (Option Addr)) (x : ByteArray) : (Option Addr) := if hasN l x = true then ps.getD (posOf l x) (none) else (none)
set_option maxHeartbeats 1000000 in
theorem getPtr (m : Nat) (ks vs : Value) (l : List ByteArray) (ps : List (Option Addr)) (x : ByteArray) (w : World) (h : MapIsPtr w m ks vs l ps) :
    Calls Tryz.prog 76 #[.pointer (some ⟨m, 0, none⟩), .string x] w fun e w' => e = .returned (.tuple #[encPtr (getVPtr l ps x), .bool (hasN l x)]) ∧ w = w' := by
  have CF := hid (findPtr m ks vs l ps x w h)
  obtain ⟨h1, h2, h3, h4, h5, h6⟩ := h
  have hm := posOf_mem h5 x
  obtain ⟨va, vc, rfl, hvn⟩ := own_slice h3
  have c1 := h1.cell 1
  simp at c1
  obtain ⟨P, hP⟩ : ∃ P, posOf l x = P := ⟨_, rfl⟩
  unfold getVPtr
  rw [hP] at CF hm ⊢
  cases hh : hasN l x
  · rw [hh] at CF
    rw [if_neg (by simp)]
    clear h1 h2 h3 h4 h5 hm hh hP
    unfold encPtr
    go_enter Tryz.func76, Tryz.ntmps76
    go_wp2_with (go_at_call 98; refine CF.out.mono ?_; rintro e w' ⟨rfl, rfl⟩)
    go_ret2
    exact ⟨rfl, rfl⟩
  · rw [hh] at CF
    rw [if_pos rfl]
    have hlt := (hm.2 (hasN_iff.1 hh)).1
    have hcl := fun g => h3.cells (g := g)
    rcases h3.2 with ⟨e1, e2⟩ | ⟨g, cap, cur, e1, _, _, _⟩
    · omega
    · injection e1 with e2 e3 e4
      subst e2 e4
      have hc := hcl g rfl P (encPtr (ps.getD P (none))) (by rw [List.getElem?_map, List.getD_eq_getElem?_getD, List.getElem?_eq_getElem (by omega)]; rfl)
      rw [Addr.add_lit, Nat.zero_add] at hc
      obtain ⟨v, hv⟩ : ∃ v, ps.getD P (none) = v := ⟨_, rfl⟩
      rw [hv] at hc ⊢
      unfold encPtr at hc ⊢
      have hPl : P < ps.length := by omega
      clear h1 h2 h3 h4 h5 hm hh hP hcl hv
      go_enter Tryz.func76, Tryz.ntmps76
      go_wp2_with (go_at_call 98; refine CF.out.mono ?_; rintro e w' ⟨rfl, rfl⟩)
      go_ret2
      exact ⟨rfl, rfl⟩
theorem lenPtr (m : Nat) (ks vs : Value) (l : List ByteArray) (ps : List (Option Addr)) (w : World) (h : MapIsPtr w m ks vs l ps) :
    Calls Tryz.prog 66 #[.pointer (some ⟨m, 0, none⟩)] w fun e w' => e = .returned (.int .i64 l.length) ∧ w = w' := by
  obtain ⟨h1, h2, h3, h4, h5, h6⟩ := h
  obtain ⟨ka, kc, rfl, hS⟩ := own_strs h2 (by omega)
  have c0 := h1.cell 0
  simp at c0
  clear h1 h2 h3 h4 h5 hS
  go_enter Tryz.func66, Tryz.ntmps66
  go_wp2_with fail
  go_ret
  exact ⟨rfl, rfl⟩
set_option maxHeartbeats 1000000 in
theorem keysPtr (m : Nat) (ks vs : Value) (l : List ByteArray) (ps : List (Option Addr)) (w : World) (h : MapIsPtr w m ks vs l ps) :
    Calls Tryz.prog 96 #[.pointer (some ⟨m, 0, none⟩)] w fun e w' => ∃ v, e = .returned v ∧ w'.ownsRow w.heap.size 9 1 v l.length (svals l) ∧ Below w.heap.size w w' := by
  obtain ⟨h1, h2, h3, h4, h5, h6⟩ := h
  have CC := hid (cloneStr ks l.length (svals l) w h2 (svals_one l) (by omega))
  obtain ⟨ka, kc, rfl, hS⟩ := own_strs h2 (by omega)
  have c0 := h1.cell 0
  simp at c0
  clear h1 h2 h3 h4 h5 hS
  go_enter Tryz.func96, Tryz.ntmps96
  go_wp2_with (go_at_call 116; refine CC.out.mono ?_; rintro e w1 ⟨v, rfl, h1, h2⟩)
  go_ret
  exact ⟨_, rfl, h1, h2⟩

/-- what a map's values are behind Put, behind Del -/
def putVPtr (l : List ByteArray) (ps : List (Option Addr)) (x : ByteArray) (v : (Option Addr)) : List (Option Addr) := if hasN l x = true then ps.set (posOf l x) v else ps.take (posOf l x) ++ v :: ps.drop (posOf l x)
def delVPtr (l : List ByteArray) (ps : List (Option Addr)) (x : ByteArray) : List (Option Addr) := if hasN l x = true then ps.take (posOf l x) ++ ps.drop (posOf l x + 1) else ps
theorem putN_lenPtr (l : List ByteArray) (ps : List (Option Addr)) (x : ByteArray) (v : (Option Addr)) (h : ps.length = l.length) : (putVPtr l ps x v).length = (putN l x).length := by
  have := posOf_le l x
  unfold putVPtr putN
  split
  · simp [h]
  · simp [h]
theorem delN_lenPtr (l : List ByteArray) (ps : List (Option Addr)) (x : ByteArray) (h : ps.length = l.length) : (delVPtr l ps x).length = (delN l x).length := by
  unfold delVPtr delN
  split <;> simp [h]

set_option maxHeartbeats 2000000 in
theorem delPtr_has (m : Nat) (ks vs : Value) (l : List ByteArray) (ps : List (Option Addr)) (x : ByteArray) (w : World) (h : MapIsPtr w m ks vs l ps) (hh : hasN l x = true) :
    Calls Tryz.prog 77 #[.pointer (some ⟨m, 0, none⟩), .string x] w fun e w' => e = .returned (.bool true) ∧ ∃ ks' vs', MapIsPtr w' m ks' vs' (delN l x) (delVPtr l ps x) ∧ Only (MapF m ks vs) w w' ∧ (∀ k, MapF m ks' vs' k → MapF m ks vs k) := by
  have CF := hid (findPtr m ks vs l ps x w h)
  obtain ⟨h1, h2, h3, h4, h5, h6⟩ := h
  have hm := (posOf_mem h5 x).2 (hasN_iff.1 hh)
  have hris := delN_rising h5 x
  have hlen := delN_lenPtr l ps x h4
  have eN : delN l x = l.take (posOf l x) ++ l.drop (posOf l x + 1) := by unfold delN; rw [if_pos hh]
  have eV : delVPtr l ps x = ps.take (posOf l x) ++ ps.drop (posOf l x + 1) := by unfold delVPtr; rw [if_pos hh]
  rw [hh] at CF
  obtain ⟨P, hP⟩ : ∃ P, posOf l x = P := ⟨_, rfl⟩
  rw [hP] at CF hm eN eV
  have hlN : (delN l x).length = l.length - 1 := by rw [eN]; simp; omega
  have f0 := h1.frozen 0
  have f1 := h1.frozen 1
  have c0 := h1.cell 0
  have c1 := h1.cell 1
  simp at c0 c1
  have C1 := hid (delStr ks l.length P (svals l) w h2 (svals_one l) (by omega) (by omega))
  have d1 := own_blk_ne h2 h1 (by decide)
  have d2 := own_blk_ne h3 h1 (by decide)
  have d3 : ∀ k, ks.ownBlock = some k → vs.ownBlock ≠ some k := fun k hk => own_ne h2 h3 (by decide) hk
  have G2 := hid h2; have G3 := hid h3; have G1 := hid h1
  have EN := hid eN; have EV := hid eV; have HR := hid hris; have HL := hid hlen; have HLN := hid hlN
  have hPl : P < l.length := hm.1
  have hPp : P < ps.length := by omega
  have hps : ps.length ≤ 1000000 := by omega
  obtain ⟨ka, kc, rfl, hkc⟩ := own_slice h2
  obtain ⟨va, vc, rfl, hvc⟩ := own_slice h3
  clear h1 h2 h3 h4 h5 hm hris hlen eN eV hh hP hlN
  have K1 := hid d1; have K2 := hid d2; have K3 := hid d3
  clear d1 d2 d3
  go_enter Tryz.func77, Tryz.ntmps77
  go_wp2_with fail
  refine CF.out.mono ?_; rintro e w' ⟨rfl, rfl⟩
  go_wp2_with fail
  refine C1.out.mono ?_; rintro e w1 ⟨k', rfl, o1, g1, b1⟩
  have B1 : Blk w1 m 96 #[.slice ka l.length kc, .slice va ps.length vc] := G1.out.grown g1 (fun e => K1.out e.symm)
  have V1 : w1.ownsRow 0 53 1 (.slice va ps.length vc) ps.length (ps.map encPtr) := G3.out.kept g1 (by
    cases hv : (Value.slice va ps.length vc).ownBlock with
    | none => exact .inl rfl
    | some k => exact .inr (fun e => K3.out k e.symm hv))
  obtain ⟨ka', kc', rfl, hkc'⟩ := own_slice o1
  have c0' := B1.cell 0
  have c1' := B1.cell 1
  have f0' := B1.frozen 0
  have f1' := B1.frozen 1
  simp at c0' c1'
  clear c0 c1 f0 f1
  have B2 := B1.set 0 (.slice ka' (l.length - 1) kc')
  have O2 : Only (· = m) w1 (w1.setCell ⟨m, 0, none⟩ (.slice ka' (l.length - 1) kc')) := (Only.refl (· = m) w1).setCell (p := ⟨m, 0, none⟩) (.inl rfl) _
  have V2 : (w1.setCell ⟨m, 0, none⟩ (.slice ka' (l.length - 1) kc')).ownsRow 0 53 1 (.slice va ps.length vc) ps.length (ps.map encPtr) := own_only V1 O2 (fun k hk e => by subst e; exact K2.out hk)
  have N2 : (w1.setCell ⟨m, 0, none⟩ (.slice ka' (l.length - 1) kc')).ownsRow 0 9 1 (.slice ka' (l.length - 1) kc') (l.length - 1) ((svals l).take P ++ (svals l).drop (P + 1)) := own_only o1 O2 (fun k hk e => by subst e; rw [b1] at hk; exact K1.out hk)
  have Z2 : (w1.setCell ⟨m, 0, none⟩ (.slice ka' (l.length - 1) kc')).heap.size = w1.heap.size := by simp [World.setCell]
  have C2 := hid (delPtr _ ps.length P (ps.map encPtr) _ V2 (encPtr_one ps) hPp (by omega))
  have H2 := hid B2; have HN2 := hid N2; have HV2 := hid V2; have HG1 := hid g1; have HB1 := hid b1; have HO2 := hid O2
  clear B1 B2 O2 V1 V2 N2 o1 Z2 g1 b1
  go_wp2_with fail
  refine C2.out.mono ?_; rintro e w3 ⟨v', rfl, o3, g3, b3⟩
  obtain ⟨va', vc', rfl, hvc'⟩ := own_slice o3
  have B3 : Blk w3 m 96 #[.slice ka' (l.length - 1) kc', .slice va ps.length vc] := by
    have := H2.out.grown g3 (fun e => K2.out e.symm)
    simpa using this
  have c0 := B3.cell 0
  have c1 := B3.cell 1
  have f0 := B3.frozen 0
  have f1 := B3.frozen 1
  simp at c0 c1
  have HFIN : Hid (∃ ks' vs', MapIsPtr (w3.setCell ⟨m, 1, none⟩ (.slice va' (ps.length - 1) vc')) m ks' vs' (delN l x) (delVPtr l ps x) ∧ Only (MapF m (.slice ka l.length kc) (.slice va ps.length vc)) w (w3.setCell ⟨m, 1, none⟩ (.slice va' (ps.length - 1) vc')) ∧ (∀ k, MapF m ks' vs' k → MapF m (.slice ka l.length kc) (.slice va ps.length vc) k)) := by
    refine ⟨.slice ka' (l.length - 1) kc', .slice va' (ps.length - 1) vc', ⟨?_, ?_, ?_, HL.out, HR.out, by rw [HLN.out]; omega⟩, ?_, ?_⟩
    · have := B3.set 1 (.slice va' (ps.length - 1) vc')
      simpa using this
    · have h1 : w3.ownsRow 0 9 1 (.slice ka' (l.length - 1) kc') (l.length - 1) ((svals l).take P ++ (svals l).drop (P + 1)) := HN2.out.kept g3 (by
        cases hv : (Value.slice ka' (l.length - 1) kc').ownBlock with
        | none => exact .inl rfl
        | some k => exact .inr (fun e => own_ne HN2.out HV2.out (by decide) hv e.symm))
      have h2 := own_only h1 ((Only.refl (· = m) w3).setCell (p := ⟨m, 1, none⟩) (.inl rfl) (.slice va' (ps.length - 1) vc')) (fun k hk e => by subst e; rw [HB1.out] at hk; exact K1.out hk)
      rw [HLN.out, EN.out]
      unfold svals at h2 ⊢
      rw [List.map_append, List.map_take, List.map_drop]
      exact h2
    · have h2 := own_only o3 ((Only.refl (· = m) w3).setCell (p := ⟨m, 1, none⟩) (.inl rfl) (.slice va' (ps.length - 1) vc')) (fun k hk e => by subst e; rw [b3] at hk; exact K2.out hk)
      have e1 : (delVPtr l ps x).length = ps.length - 1 := by rw [EV.out]; simp; omega
      rw [e1, EV.out, List.map_append, List.map_take, List.map_drop]
      exact h2
    · have q1 := (Only.refl (MapF m (.slice ka l.length kc) (.slice va ps.length vc)) w).grown HG1.out (fun k hk => .inl (.inr (.inl hk)))
      have q2 := q1.setCell (p := ⟨m, 0, none⟩) (.inl (.inl rfl)) (.slice ka' (l.length - 1) kc')
      have q3 := q2.grown g3 (fun k hk => .inl (.inr (.inr hk)))
      exact q3.setCell (p := ⟨m, 1, none⟩) (.inl (.inl rfl)) _
    · rintro k (h | h | h)
      · exact .inl h
      · rw [HB1.out] at h; exact .inr (.inl h)
      · rw [b3] at h; exact .inr (.inr h)
  clear o3 g3 b3 B3
  go_wp2_with fail
  go_ret
  exact ⟨rfl, HFIN.out⟩

set_option maxHeartbeats 1000000 in
theorem delPtr_no (m : Nat) (ks vs : Value) (l : List ByteArray) (ps : List (Option Addr)) (x : ByteArray) (w : World) (h : MapIsPtr w m ks vs l ps) (hh : hasN l x = false) :
    Calls Tryz.prog 77 #[.pointer (some ⟨m, 0, none⟩), .string x] w fun e w' => e = .returned (.bool false) ∧ w = w' := by
  have CF := hid (findPtr m ks vs l ps x w h)
  rw [hh] at CF
  clear h
  go_enter Tryz.func77, Tryz.ntmps77
  go_wp2_with (go_at_call 98; refine CF.out.mono ?_; rintro e w' ⟨rfl, rfl⟩)
  go_ret
  exact ⟨rfl, rfl⟩
theorem delPtr_any (m : Nat) (ks vs : Value) (l : List ByteArray) (ps : List (Option Addr)) (x : ByteArray) (w : World) (h : MapIsPtr w m ks vs l ps) :
    Calls Tryz.prog 77 #[.pointer (some ⟨m, 0, none⟩), .string x] w fun e w' => e = .returned (.bool (hasN l x)) ∧ ∃ ks' vs', MapIsPtr w' m ks' vs' (delN l x) (delVPtr l ps x) ∧ Only (MapF m ks vs) w w' ∧ (∀ k, MapF m ks' vs' k → MapF m ks vs k) := by
  cases hh : hasN l x
  · refine (delPtr_no m ks vs l ps x w h hh).mono ?_
    rintro e w' ⟨rfl, rfl⟩
    have e1 : delN l x = l := by unfold delN; rw [if_neg (by simp [hh])]
    have e2 : delVPtr l ps x = ps := by unfold delVPtr; rw [if_neg (by simp [hh])]
    rw [e1, e2]
    exact ⟨rfl, ks, vs, h, Only.refl _ _, fun _ h => h⟩
  · exact delPtr_has m ks vs l ps x w h hh

set_option maxHeartbeats 2000000 in
theorem putPtr_has (m : Nat) (ks vs : Value) (l : List ByteArray) (ps : List (Option Addr)) (x : ByteArray) (y : (Option Addr)) (w : World) (h : MapIsPtr w m ks vs l ps) (hh : hasN l x = true) :
    Calls Tryz.prog 67 #[.pointer (some ⟨m, 0, none⟩), .string x, encPtr y] w fun e w' => e = .returned (.bool false) ∧ MapIsPtr w' m ks vs (putN l x) (putVPtr l ps x y) ∧ Only (MapF m ks vs) w w' := by
  have CF := hid (findPtr m ks vs l ps x w h)
  have h0 := h
  obtain ⟨h1, h2, h3, h4, h5, h6⟩ := h
  have hm := (posOf_mem h5 x).2 (hasN_iff.1 hh)
  have eN : putN l x = l := by unfold putN; rw [if_pos hh]
  have eV : putVPtr l ps x y = ps.set (posOf l x) y := by unfold putVPtr; rw [if_pos hh]
  rw [eN, eV]
  rw [hh] at CF
  obtain ⟨P, hP⟩ : ∃ P, posOf l x = P := ⟨_, rfl⟩
  rw [hP] at CF hm ⊢
  rcases h3.2 with ⟨rfl, e2⟩ | ⟨g, cap, cur, rfl, hb, hg, hnc, hcm, hsz, htk⟩
  · omega
  · unfold maxLen at hcm
    rw [Nat.mul_one] at hsz htk
    have B3 : Blk w g 53 cur := hg
    have c1 := h1.cell 1
    simp at c1
    have hgm : g ≠ m := B3.ne h1 (by decide)
    have cg : w.cell? ⟨g, P, none⟩ = some (encPtr (ps.getD P (none))) := by
      rw [B3.cell, ← Array.getElem?_toList, ← List.getElem?_take_of_lt (j := ps.length) (by omega), htk, List.getElem?_map, List.getD_eq_getElem?_getD, List.getElem?_eq_getElem (by omega)]; rfl
    have fg := B3.frozen P
    have HFIN : Hid (MapIsPtr (w.setCell ⟨g, P, none⟩ (encPtr y)) m ks (.slice (some ⟨g, 0, none⟩) ps.length cap) l (ps.set P y) ∧ Only (MapF m ks (.slice (some ⟨g, 0, none⟩) ps.length cap)) w (w.setCell ⟨g, P, none⟩ (encPtr y))) := by
      have O : Only (· = g) w (w.setCell ⟨g, P, none⟩ (encPtr y)) := (Only.refl (· = g) w).setCell (p := ⟨g, P, none⟩) (.inl rfl) _
      refine ⟨⟨h1.only O (fun e => hgm e.symm), own_only h2 O (fun k hk e => by subst e; exact own_ne h3 h2 (by decide) rfl hk), ?_, by simp [h4], h5, h6⟩, O.mono (fun i hi => .inr (.inr (by rw [hi]; rfl)))⟩
      refine ⟨by simp, .inr ⟨g, cap, _, by rw [List.length_set], hb, B3.set P _, by simpa using hnc, by unfold maxLen; omega, by simp [hsz], ?_⟩⟩
      rw [List.length_set, Nat.mul_one, Array.toList_setIfInBounds, List.take_set, htk, List.map_set]
    obtain ⟨v0, hv0⟩ : ∃ v0, ps.getD P (none) = v0 := ⟨_, rfl⟩
    rw [hv0] at cg
    have hPl : P < ps.length := by omega
    unfold encPtr at cg HFIN ⊢
    clear h0 h1 h2 h3 h4 h5 hm hh hP hg htk hsz B3 hv0 hgm eN eV hb
    go_enter Tryz.func67, Tryz.ntmps67
    go_wp2_with (go_at_call 98; refine CF.out.mono ?_; rintro e w' ⟨rfl, rfl⟩)
    go_ret
    exact ⟨rfl, HFIN.out⟩

set_option maxHeartbeats 2000000 in
theorem putPtr_no (m : Nat) (ks vs : Value) (l : List ByteArray) (ps : List (Option Addr)) (x : ByteArray) (y : (Option Addr)) (w : World) (h : MapIsPtr w m ks vs l ps) (hh : hasN l x = false) (hl : l.length < 1000000) :
    Calls Tryz.prog 67 #[.pointer (some ⟨m, 0, none⟩), .string x, encPtr y] w fun e w' => e = .returned (.bool true) ∧ ∃ ks' vs', MapIsPtr w' m ks' vs' (putN l x) (putVPtr l ps x y) ∧ Only (MapF m ks vs) w w' ∧ (∀ k, MapF m ks' vs' k → MapF m ks vs k ∨ w.heap.size ≤ k) := by
  have CF := hid (findPtr m ks vs l ps x w h)
  obtain ⟨h1, h2, h3, h4, h5, h6⟩ := h
  have hris := putN_rising h5 x
  have hlen := putN_lenPtr l ps x y h4
  have hple := posOf_le l x
  have eN : putN l x = l.take (posOf l x) ++ x :: l.drop (posOf l x) := by unfold putN; rw [if_neg (by simp [hh])]
  have eV : putVPtr l ps x y = ps.take (posOf l x) ++ y :: ps.drop (posOf l x) := by unfold putVPtr; rw [if_neg (by simp [hh])]
  rw [hh] at CF
  obtain ⟨P, hP⟩ : ∃ P, posOf l x = P := ⟨_, rfl⟩
  rw [hP] at CF hple eN eV
  have hlN : (putN l x).length = l.length + 1 := by rw [eN]; simp; omega
  have c0 := h1.cell 0
  have c1 := h1.cell 1
  have f0 := h1.frozen 0
  have f1 := h1.frozen 1
  simp at c0 c1
  have hml := h1.lt
  have A1 : Blk (w.alloc (.cells #[.string x] 9)) w.heap.size 9 #[.string x] := Blk.new w _ _
  have C1 := hid (insStr ks l.length P (svals l) (.string x) w.heap.size _ (h2.alloc _) (svals_one l) rfl hple (by omega) A1 (fun e => by have := own_lt h2 e; omega))
  have d1 := own_blk_ne h2 h1 (by decide)
  have d2 := own_blk_ne h3 h1 (by decide)
  have d3 : ∀ k, ks.ownBlock = some k → vs.ownBlock ≠ some k := fun k hk => own_ne h2 h3 (by decide) hk
  have hvl : ∀ k, vs.ownBlock = some k → k < w.heap.size := fun k hk => own_lt h3 hk
  have G1 := hid h1; have G2 := hid h2; have G3 := hid h3
  have EN := hid eN; have EV := hid eV; have HR := hid hris; have HL := hid hlen; have HLN := hid hlN
  have hPp : P ≤ ps.length := by omega
  have hps : ps.length < 1000000 := by omega
  have K1 := hid d1; have K2 := hid d2; have K3 := hid d3; have K4 := hid hvl; have K5 := hid hml
  obtain ⟨ka, kc, rfl, hkc⟩ := own_slice h2
  obtain ⟨va, vc, rfl, hvc⟩ := own_slice h3
  clear h1 h2 h3 h4 h5 h6 hris hlen eN eV hh hP hlN d1 d2 d3 hvl A1
  unfold encPtr
  go_enter Tryz.func67, Tryz.ntmps67
  go_wp2_with fail
  refine CF.out.mono ?_; rintro e w' ⟨rfl, rfl⟩
  go_wp2_with fail
  refine C1.out.mono ?_; rintro e w1 ⟨k', rfl, o1, g1, b1⟩
  obtain ⟨ka', kc', rfl, hkc'⟩ := own_slice o1
  have B1 : Blk w1 m 96 #[.slice ka l.length kc, .slice va ps.length vc] := (G1.out.alloc _).grown g1 (fun e => K1.out e.symm)
  have V1 : w1.ownsRow 0 53 1 (.slice va ps.length vc) ps.length (ps.map encPtr) := (G3.out.alloc _).kept g1 (by
    cases hv : (Value.slice va ps.length vc).ownBlock with
    | none => exact .inl rfl
    | some k => exact .inr (fun e => K3.out k e.symm hv))
  have S1 : Hid (w.heap.size ≤ w1.heap.size) := by have := g1.size; simp at this; unfold Hid; omega
  clear c0 c1 f0 f1 hml
  have c0 := B1.cell 0
  have c1 := B1.cell 1
  have f0 := B1.frozen 0
  have f1 := B1.frozen 1
  simp at c0 c1
  have hml1 := B1.lt
  obtain ⟨w2, hw2⟩ : ∃ w2, w2 = w1.setCell ⟨m, 0, none⟩ (.slice ka' (l.length + 1) kc') := ⟨_, rfl⟩
  have O2 : Only (· = m) w1 w2 := by rw [hw2]; exact (Only.refl (· = m) w1).setCell (p := ⟨m, 0, none⟩) (.inl rfl) _
  have B2 : Blk w2 m 96 #[.slice ka' (l.length + 1) kc', .slice va ps.length vc] := by
    have := B1.set 0 (.slice ka' (l.length + 1) kc')
    rw [hw2]; simpa using this
  have kne : ∀ k, (Value.slice ka' (l.length + 1) kc').ownBlock = some k → k ≠ m := fun k hk e => by
    subst e
    rcases b1 with b1 | b1
    · rw [b1] at hk; exact K1.out hk
    · rw [b1] at hk; injection hk with hk; simp at hk; have := K5.out; omega
  have N2 : w2.ownsRow 0 9 1 (.slice ka' (l.length + 1) kc') (l.length + 1) ((svals l).take P ++ .string x :: (svals l).drop P) := own_only o1 O2 kne
  have V2 : w2.ownsRow 0 53 1 (.slice va ps.length vc) ps.length (ps.map encPtr) := own_only V1 O2 (fun k hk e => by subst e; exact K2.out hk)
  have Z2 : w2.heap.size = w1.heap.size := by rw [hw2]; simp [World.setCell]
  have A2 : Blk (w2.alloc (.cells #[encPtr y] 53)) w2.heap.size 53 #[encPtr y] := Blk.new w2 _ _
  have C2 := hid (insPtr _ ps.length P (ps.map encPtr) (encPtr y) w2.heap.size _ (V2.alloc _) (encPtr_one ps) rfl hPp (by omega) A2 (fun e => by have := own_lt V2 e; omega))
  have H2 := hid B2; have HN2 := hid N2; have HV2 := hid V2; have HG1 := hid g1; have HB1 := hid b1; have HO2 := hid O2; have HW2 := hid hw2; have HZ2 := hid Z2; have HKN := hid kne
  clear B1 B2 O2 V1 V2 N2 o1 Z2 g1 b1 A2 kne hw2
  unfold encPtr at C2
  go_wp2_with fail
  rw [← HW2.out, ← HZ2.out]
  refine C2.out.mono ?_; rintro e w3 ⟨v', rfl, o3, g3, b3⟩
  obtain ⟨va', vc', rfl, hvc'⟩ := own_slice o3
  have B3 : Blk w3 m 96 #[.slice ka' (l.length + 1) kc', .slice va ps.length vc] := (H2.out.alloc _).grown g3 (fun e => K2.out e.symm)
  clear c0 c1 f0 f1 hml1
  have c0 := B3.cell 0
  have c1 := B3.cell 1
  have f0 := B3.frozen 0
  have f1 := B3.frozen 1
  simp at c0 c1
  have HFIN : Hid (∃ ks' vs', MapIsPtr (w3.setCell ⟨m, 1, none⟩ (.slice va' (ps.length + 1) vc')) m ks' vs' (putN l x) (putVPtr l ps x y) ∧ Only (MapF m (.slice ka l.length kc) (.slice va ps.length vc)) w (w3.setCell ⟨m, 1, none⟩ (.slice va' (ps.length + 1) vc')) ∧ (∀ k, MapF m ks' vs' k → MapF m (.slice ka l.length kc) (.slice va ps.length vc) k ∨ w.heap.size ≤ k)) := by
    have vne : ∀ k, (Value.slice va' (ps.length + 1) vc').ownBlock = some k → k ≠ m := fun k hk e => by
      subst e
      rcases b3 with b3 | b3
      · rw [b3] at hk; exact K2.out hk
      · rw [b3] at hk; injection hk with hk; simp at hk; have := H2.out.lt; omega
    have O4 : Only (· = m) w3 (w3.setCell ⟨m, 1, none⟩ (.slice va' (ps.length + 1) vc')) := (Only.refl (· = m) w3).setCell (p := ⟨m, 1, none⟩) (.inl rfl) _
    refine ⟨.slice ka' (l.length + 1) kc', .slice va' (ps.length + 1) vc', ⟨?_, ?_, ?_, HL.out, HR.out, by rw [HLN.out]; omega⟩, ?_, ?_⟩
    · have := B3.set 1 (.slice va' (ps.length + 1) vc')
      simpa using this
    · have h1 : w3.ownsRow 0 9 1 (.slice ka' (l.length + 1) kc') (l.length + 1) ((svals l).take P ++ .string x :: (svals l).drop P) := (HN2.out.alloc _).kept g3 (by
        cases hv : (Value.slice ka' (l.length + 1) kc').ownBlock with
        | none => exact .inl rfl
        | some k => exact .inr (fun e => own_ne HN2.out HV2.out (by decide) hv e.symm))
      have h2 := own_only h1 O4 HKN.out
      rw [HLN.out, EN.out]
      unfold svals at h2 ⊢
      rw [List.map_append, List.map_cons, List.map_take, List.map_drop]
      exact h2
    · have h2 := own_only o3 O4 vne
      have e1 : (putVPtr l ps x y).length = ps.length + 1 := by rw [EV.out]; simp; omega
      rw [e1, EV.out, List.map_append, List.map_cons, List.map_take, List.map_drop]
      exact h2
    · have q0 := (Only.refl (MapF m (.slice ka l.length kc) (.slice va ps.length vc)) w).alloc (.cells #[.string x] 9)
      have q1 := q0.grown HG1.out (fun k hk => .inl (.inr (.inl hk)))
      have q2 : Only (MapF m (.slice ka l.length kc) (.slice va ps.length vc)) w w2 := q1.trans HO2.out (fun i hi => .inl (.inl hi))
      have q3 := (q2.alloc (.cells #[encPtr y] 53)).grown g3 (fun k hk => .inl (.inr (.inr hk)))
      exact q3.setCell (p := ⟨m, 1, none⟩) (.inl (.inl rfl)) _
    · rintro k (h | h | h)
      · exact .inl (.inl h)
      · rcases HB1.out with b1 | b1
        · rw [b1] at h; exact .inl (.inr (.inl h))
        · rw [b1] at h; injection h with h; simp at h; exact .inr (by omega)
      · rcases b3 with b3 | b3
        · rw [b3] at h; exact .inl (.inr (.inr h))
        · rw [b3] at h; injection h with h; simp at h; have := S1.out; have := HZ2.out; exact .inr (by omega)
  clear o3 g3 b3 B3
  go_wp2_with fail
  go_ret
  exact ⟨rfl, HFIN.out⟩
theorem putPtr_any (m : Nat) (ks vs : Value) (l : List ByteArray) (ps : List (Option Addr)) (x : ByteArray) (y : (Option Addr)) (w : World) (h : MapIsPtr w m ks vs l ps) (hl : l.length < 1000000) :
    Calls Tryz.prog 67 #[.pointer (some ⟨m, 0, none⟩), .string x, encPtr y] w fun e w' => e = .returned (.bool (!hasN l x)) ∧ ∃ ks' vs', MapIsPtr w' m ks' vs' (putN l x) (putVPtr l ps x y) ∧ Only (MapF m ks vs) w w' ∧ (∀ k, MapF m ks' vs' k → MapF m ks vs k ∨ w.heap.size ≤ k) := by
  cases hh : hasN l x
  · exact putPtr_no m ks vs l ps x y w h hh hl
  · refine (putPtr_has m ks vs l ps x y w h hh).mono ?_
    rintro e w' ⟨rfl, h1, h2⟩
    exact ⟨rfl, ks, vs, h1, h2, fun _ h => .inl h⟩
end Go.Proofs.YtnhgfhbicaiilaaGreat
/- The reel's disk in memory; the calls that touch its own cells alone. -/
namespace Go.Proofs.YtnhgfhbicaiilaaGreat
open Go.RowKit Reel
set_option linter.unusedVariables false

/-- the disk's own cells -/
def DBlk (w : World) (p m : Nat) (S : St) : Prop := Blk w p 55 #[.pointer (some ⟨m, 0, none⟩), .int .i64 S.used, .int .i64 S.room, .bool S.down, .int .i64 S.acts, .int .i64 S.armed, .int .i64 S.life]
theorem DBlk.cells {w : World} {p m : Nat} {S : St} (h : DBlk w p m S) :
    w.cell? ⟨p, 0, none⟩ = some (.pointer (some ⟨m, 0, none⟩)) ∧ w.cell? ⟨p, 1, none⟩ = some (.int .i64 S.used) ∧ w.cell? ⟨p, 2, none⟩ = some (.int .i64 S.room) ∧ w.cell? ⟨p, 3, none⟩ = some (.bool S.down) ∧ w.cell? ⟨p, 4, none⟩ = some (.int .i64 S.acts) ∧ w.cell? ⟨p, 5, none⟩ = some (.int .i64 S.armed) ∧ w.cell? ⟨p, 6, none⟩ = some (.int .i64 S.life) :=
  ⟨(Blk.cell h 0).trans rfl, (Blk.cell h 1).trans rfl, (Blk.cell h 2).trans rfl, (Blk.cell h 3).trans rfl, (Blk.cell h 4).trans rfl, (Blk.cell h 5).trans rfl, (Blk.cell h 6).trans rfl⟩

theorem down_nil (w : World) : Calls Tryz.prog 33 #[.pointer none] w fun e w' => e = .returned (.bool true) ∧ w = w' := by
  go_enter Tryz.func33, Tryz.ntmps33
  go_wp2
  go_ret
  exact ⟨rfl, rfl⟩
theorem down_any (p m : Nat) (S : St) (w : World) (h : DBlk w p m S) : Calls Tryz.prog 33 #[.pointer (some ⟨p, 0, none⟩)] w fun e w' => e = .returned (.bool S.down) ∧ w = w' := by
  obtain ⟨-, -, -, c3, -, -, -⟩ := h.cells
  obtain ⟨d, hd⟩ : ∃ d, S.down = d := ⟨_, rfl⟩
  rw [hd] at c3 ⊢
  clear h hd
  go_enter Tryz.func33, Tryz.ntmps33
  go_wp2
  go_ret
  exact ⟨rfl, rfl⟩
theorem acts_any (p m : Nat) (S : St) (w : World) (h : DBlk w p m S) : Calls Tryz.prog 25 #[.pointer (some ⟨p, 0, none⟩)] w fun e w' => e = .returned (.int .i64 S.acts) ∧ w = w' := by
  obtain ⟨-, -, -, -, c4, -, -⟩ := h.cells
  clear h
  go_enter Tryz.func25, Tryz.ntmps25
  go_wp2
  go_ret
  exact ⟨rfl, rfl⟩
theorem life_any (p m : Nat) (S : St) (w : World) (h : DBlk w p m S) : Calls Tryz.prog 39 #[.pointer (some ⟨p, 0, none⟩)] w fun e w' => e = .returned (.int .i64 S.life) ∧ w = w' := by
  obtain ⟨-, -, -, -, -, -, c6⟩ := h.cells
  clear h
  go_enter Tryz.func39, Tryz.ntmps39
  go_wp2
  go_ret
  exact ⟨rfl, rfl⟩
theorem ready_nil (w : World) : Calls Tryz.prog 97 #[.pointer none] w fun e w' => e = .returned (.int .i64 2) ∧ w = w' := by
  go_enter Tryz.func97, Tryz.ntmps97
  go_wp2
  go_ret
  exact ⟨rfl, rfl⟩
theorem ready_any (p m : Nat) (S : St) (w : World) (h : DBlk w p m S) : Calls Tryz.prog 97 #[.pointer (some ⟨p, 0, none⟩)] w fun e w' => e = .returned (.int .i64 (if S.down = true then 10 else 0)) ∧ w = w' := by
  obtain ⟨-, -, -, c3, -, -, -⟩ := h.cells
  cases hd : S.down
  · rw [hd] at c3
    clear h hd
    go_enter Tryz.func97, Tryz.ntmps97
    go_wp2
    go_ret
    exact ⟨rfl, rfl⟩
  · rw [hd] at c3
    clear h hd
    go_enter Tryz.func97, Tryz.ntmps97
    go_wp2
    go_ret
    exact ⟨rfl, rfl⟩
theorem isName_any (s : ByteArray) (w : World) (hs : s.size ≤ 9223372036854775807) : Calls Tryz.prog 65 #[.string s] w fun e w' => e = .returned (.bool (isName s)) ∧ w = w' := by
  by_cases h0 : s.size = 0
  · have n1 := bstr_nil h0
    have HX : Hid (isName s = false) := decide_eq_false (by omega)
    go_enter Tryz.func65, Tryz.ntmps65
    go_wp2
    go_ret
    exact ⟨ret_bool (by rw [HX.out]), rfl⟩
  · have n1 := bstr_some h0
    have n2 := bstr_isEmpty h0
    by_cases h1 : s.size ≤ 32
    · have HX : Hid (isName s = true) := decide_eq_true (by omega)
      have g1 : (s.size : Int) ≤ 32 := by omega
      go_enter Tryz.func65, Tryz.ntmps65
      go_wp2
      go_ret
      exact ⟨ret_bool (by rw [HX.out]), rfl⟩
    · have HX : Hid (isName s = false) := decide_eq_false (by omega)
      have g1 : ¬ (s.size : Int) ≤ 32 := by omega
      go_enter Tryz.func65, Tryz.ntmps65
      go_wp2
      go_ret
      exact ⟨ret_bool (by rw [HX.out]), rfl⟩

/-! calls that write the disk's own cells -/
set_option maxHeartbeats 1000000 in
theorem off_any (p m : Nat) (S : St) (w : World) (h : DBlk w p m S) (hl : S.life < 4611686018427387904) :
    Calls Tryz.prog 17 #[.pointer (some ⟨p, 0, none⟩)] w fun e w' => e = .returned (.tuple #[]) ∧ DBlk w' p m (offS S) ∧ Only (· = p) w w' := by
  obtain ⟨c0, c1, c2, c3, c4, c5, c6⟩ := h.cells
  cases hd : S.down
  · rw [hd] at c3
    have f3 := Blk.frozen h 3
    have f5 := Blk.frozen h 5
    have f6 := Blk.frozen h 6
    have HFIN : Hid (DBlk (((w.setCell ⟨p, 3, none⟩ (.bool true)).setCell ⟨p, 5, none⟩ (.int .i64 0)).setCell ⟨p, 6, none⟩ (.int .i64 ((S.life : Int) + 1))) p m (offS S) ∧ Only (· = p) w (((w.setCell ⟨p, 3, none⟩ (.bool true)).setCell ⟨p, 5, none⟩ (.int .i64 0)).setCell ⟨p, 6, none⟩ (.int .i64 ((S.life : Int) + 1)))) := by
      have e : offS S = { S with down := true, armed := 0, life := S.life + 1 } := by unfold offS; rw [if_neg (by simp [hd])]
      rw [e]
      refine ⟨?_, (((Only.refl (· = p) w).setCell (p := ⟨p, 3, none⟩) (.inl rfl) _).setCell (p := ⟨p, 5, none⟩) (.inl rfl) _).setCell (p := ⟨p, 6, none⟩) (.inl rfl) _⟩
      have := ((Blk.set h 3 (.bool true)).set 5 (.int .i64 0)).set 6 (.int .i64 ((S.life : Int) + 1))
      unfold DBlk
      simpa using this
    clear h hd c0 c1 c2 c4
    go_enter Tryz.func17, Tryz.ntmps17
    go_wp2
    go_end0
    exact ⟨rfl, HFIN.out⟩
  · rw [hd] at c3
    have e : offS S = S := by unfold offS; rw [if_pos hd]
    rw [e]
    have H := hid h
    clear h hd e c0 c1 c2 c4 c5 c6
    go_enter Tryz.func17, Tryz.ntmps17
    go_wp2
    exact bodyPost_ret (results_none rfl _ _ _) rfl ⟨rfl, H.out, Only.refl _ _⟩

theorem off_nil (w : World) : Calls Tryz.prog 17 #[.pointer none] w fun e w' => e = .returned (.tuple #[]) ∧ w = w' := by
  go_enter Tryz.func17, Tryz.ntmps17
  go_wp2
  exact bodyPost_ret (results_none rfl _ _ _) rfl ⟨rfl, rfl⟩
set_option maxHeartbeats 1000000 in
theorem arm_any (p m : Nat) (S : St) (n : Int) (w : World) (h : DBlk w p m S) (hn : n ≤ 9223372036854775807) :
    Calls Tryz.prog 15 #[.pointer (some ⟨p, 0, none⟩), .int .i64 n] w fun e w' => e = .returned (.tuple #[]) ∧ DBlk w' p m (armS S n) ∧ Only (· = p) w w' := by
  obtain ⟨c0, c1, c2, c3, c4, c5, c6⟩ := h.cells
  have f5 := Blk.frozen h 5
  have HFIN : ∀ k : Int, k = ((n.toNat : Nat) : Int) → (DBlk (w.setCell ⟨p, 5, none⟩ (.int .i64 k)) p m (armS S n) ∧ Only (· = p) w (w.setCell ⟨p, 5, none⟩ (.int .i64 k))) := fun k hk => by
    refine ⟨?_, (Only.refl (· = p) w).setCell (p := ⟨p, 5, none⟩) (.inl rfl) _⟩
    have := Blk.set h 5 (.int .i64 k)
    unfold DBlk armS
    rw [← hk]
    simpa using this
  have HF := hid HFIN
  clear h HFIN c0 c1 c2 c3 c4 c6
  by_cases h0 : 0 ≤ n
  · go_enter Tryz.func15, Tryz.ntmps15
    go_wp2
    go_end0
    exact ⟨rfl, HF.out _ (by omega)⟩
  · go_enter Tryz.func15, Tryz.ntmps15
    go_wp2
    go_end0
    exact ⟨rfl, HF.out _ (by omega)⟩
set_option maxHeartbeats 1000000 in
theorem room_any (p m : Nat) (S : St) (n : Int) (w : World) (h : DBlk w p m S) :
    Calls Tryz.prog 21 #[.pointer (some ⟨p, 0, none⟩), .int .i64 n] w fun e w' => e = .returned (.tuple #[]) ∧ DBlk w' p m (roomS S n) ∧ Only (· = p) w w' := by
  obtain ⟨c0, c1, c2, c3, c4, c5, c6⟩ := h.cells
  have f2 := Blk.frozen h 2
  have HFIN : ∀ k : Int, k = ((roomOf n : Nat) : Int) → (DBlk (w.setCell ⟨p, 2, none⟩ (.int .i64 k)) p m (roomS S n) ∧ Only (· = p) w (w.setCell ⟨p, 2, none⟩ (.int .i64 k))) := fun k hk => by
    refine ⟨?_, (Only.refl (· = p) w).setCell (p := ⟨p, 2, none⟩) (.inl rfl) _⟩
    have := Blk.set h 2 (.int .i64 k)
    unfold DBlk roomS
    rw [← hk]
    simpa using this
  have HF := hid HFIN
  clear h HFIN c0 c1 c3 c4 c5 c6
  by_cases h0 : 0 ≤ n
  · by_cases h1 : 67108864 < n
    · have e : Hid (roomOf n = 67108864) := by unfold Hid roomOf; rw [if_neg (by omega), if_pos h1]
      go_enter Tryz.func21, Tryz.ntmps21
      go_wp2
      go_end0
      exact ⟨rfl, HF.out _ (by rw [e.out]; omega)⟩
    · have e : Hid (roomOf n = n.toNat) := by unfold Hid roomOf; rw [if_neg (by omega), if_neg h1]
      go_enter Tryz.func21, Tryz.ntmps21
      go_wp2
      go_end0
      exact ⟨rfl, HF.out _ (by rw [e.out]; omega)⟩
  · have e : Hid (roomOf n = 0) := by unfold Hid roomOf; rw [if_pos (by omega)]
    go_enter Tryz.func21, Tryz.ntmps21
    go_wp2
    go_end0
    exact ⟨rfl, HF.out _ (by rw [e.out]; omega)⟩
set_option maxHeartbeats 2000000 in
theorem act_any (p m : Nat) (S : St) (w : World) (h : DBlk w p m S) (hd : S.down = false) (ha : S.acts < 4611686018427387904) (hl : S.life < 4611686018427387904) (hr : S.armed ≤ 9223372036854775807) :
    Calls Tryz.prog 68 #[.pointer (some ⟨p, 0, none⟩)] w fun e w' => e = .returned (.int .i64 (actS S).2) ∧ DBlk w' p m (actS S).1 ∧ Only (· = p) w w' := by
  obtain ⟨c0, c1, c2, c3, c4, c5, c6⟩ := h.cells
  have f4 := Blk.frozen h 4
  have f5 := Blk.frozen h 5
  have O1 : Only (· = p) w (w.setCell ⟨p, 4, none⟩ (.int .i64 ((S.acts : Int) + 1))) := (Only.refl (· = p) w).setCell (p := ⟨p, 4, none⟩) (.inl rfl) _
  have B1 : DBlk (w.setCell ⟨p, 4, none⟩ (.int .i64 ((S.acts : Int) + 1))) p m { S with acts := S.acts + 1 } := by
    have := Blk.set h 4 (.int .i64 ((S.acts : Int) + 1))
    unfold DBlk
    simpa using this
  by_cases h0 : S.armed = 0
  · have e : actS S = ({ S with acts := S.acts + 1 }, 0) := by unfold actS; rw [if_pos h0]
    rw [e]
    have b0 : ((S.armed : Int) == 0) = true := by simp [h0]
    have HB := hid B1; have HO := hid O1
    clear h B1 O1 c0 c1 c2 c3 c6 h0 e
    go_enter Tryz.func68, Tryz.ntmps68
    go_wp2
    go_ret
    exact ⟨rfl, HB.out, HO.out⟩
  · have b0 : ((S.armed : Int) == 0) = false := by rw [beq_eq_false_iff_ne]; omega
    by_cases h1 : S.armed = 1
    · have e : actS S = ({ S with acts := S.acts + 1, down := true, armed := 0, life := S.life + 1 }, 10) := by unfold actS; rw [if_neg h0, if_pos h1]
      rw [e]
      have O2 : Only (· = p) w ((w.setCell ⟨p, 4, none⟩ (.int .i64 ((S.acts : Int) + 1))).setCell ⟨p, 5, none⟩ (.int .i64 0)) := O1.setCell (p := ⟨p, 5, none⟩) (.inl rfl) _
      have B2 : DBlk ((w.setCell ⟨p, 4, none⟩ (.int .i64 ((S.acts : Int) + 1))).setCell ⟨p, 5, none⟩ (.int .i64 0)) p m { S with acts := S.acts + 1, armed := 0 } := by
        have := Blk.set B1 5 (.int .i64 0)
        unfold DBlk
        simpa using this
      have CO := hid (off_any p m _ _ B2 (by exact hl))
      have eo : offS { S with acts := S.acts + 1, armed := 0 } = { S with acts := S.acts + 1, down := true, armed := 0, life := S.life + 1 } := by unfold offS; rw [if_neg (by simp [hd])]
      rw [eo] at CO
      have g1 : ((S.armed : Int) - 1) = 0 := by omega
      have HO := hid O2
      clear h B1 O1 O2 B2 c0 c1 c2 c3 c6 h0 e eo
      rw [h1] at c5
      clear h1 g1 b0 hr
      go_enter Tryz.func68, Tryz.ntmps68
      go_wp2_with fail
      refine CO.out.mono ?_; rintro e w' ⟨rfl, hb, ho⟩
      go_wp2_with fail
      go_ret
      exact ⟨rfl, hb, HO.out.then ho⟩
    · have e : actS S = ({ S with acts := S.acts + 1, armed := S.armed - 1 }, 0) := by unfold actS; rw [if_neg h0, if_neg h1]
      rw [e]
      have O2 : Only (· = p) w ((w.setCell ⟨p, 4, none⟩ (.int .i64 ((S.acts : Int) + 1))).setCell ⟨p, 5, none⟩ (.int .i64 ((S.armed : Int) - 1))) := O1.setCell (p := ⟨p, 5, none⟩) (.inl rfl) _
      have B2 : DBlk ((w.setCell ⟨p, 4, none⟩ (.int .i64 ((S.acts : Int) + 1))).setCell ⟨p, 5, none⟩ (.int .i64 ((S.armed : Int) - 1))) p m { S with acts := S.acts + 1, armed := S.armed - 1 } := by
        have := Blk.set B1 5 (.int .i64 ((S.armed : Int) - 1))
        unfold DBlk
        rw [show ((S.armed - 1 : Nat) : Int) = (S.armed : Int) - 1 by omega]
        simpa using this
      have g1 : (0 : Int) < (S.armed : Int) - 1 := by omega
      have HB := hid B2; have HO := hid O2
      clear h B1 O1 O2 B2 c0 c1 c2 c3 c6 h0 e
      go_enter Tryz.func68, Tryz.ntmps68
      go_wp2
      go_ret
      exact ⟨rfl, HB.out, HO.out⟩
theorem ret_ib {a b : Int} {c : Bool} (h : a = b) : Ending.returned (.tuple #[.int .i64 a, .bool c]) = .returned (.tuple #[.int .i64 b, .bool c]) := by rw [h]
set_option maxHeartbeats 1000000 in
theorem kept_any (f : Int) (k : Nat) (w : World) (hf : -9223372036854775808 ≤ f) (hf2 : f ≤ 9223372036854775807) (hk : k ≤ 4194304) (hk0 : 0 < k) :
    Calls Tryz.prog 61 #[.int .i64 f, .int .i64 k] w fun e w' => e = .returned (.tuple #[.int .i64 (kept f k).1, .bool (kept f k).2]) ∧ w = w' := by
  by_cases h0 : 0 ≤ f
  · have e : kept f k = (min f.toNat k, false) := by unfold kept; rw [if_pos h0]
    rw [e]
    by_cases h1 : f ≤ k
    · have e1 : ((min f.toNat k : Nat) : Int) = f := by omega
      simp only [e1]
      clear e e1
      go_enter Tryz.func61, Tryz.ntmps61
      go_wp2
      go_ret2
      exact ⟨ret_ib (by omega), rfl⟩
    · have e1 : (min f.toNat k : Nat) = k := by omega
      simp only [e1]
      clear e e1
      go_enter Tryz.func61, Tryz.ntmps61
      go_wp2
      go_ret2
      exact ⟨ret_ib (by omega), rfl⟩
  · by_cases h1 : f ≤ -(k : Int)
    · have e : kept f k = (k, true) := by unfold kept; rw [if_neg h0, if_pos h1]
      rw [e]
      clear e
      go_enter Tryz.func61, Tryz.ntmps61
      go_wp2
      go_ret2
      exact ⟨ret_ib (by omega), rfl⟩
    · have e : kept f k = ((-f).toNat, true) := by unfold kept; rw [if_neg h0, if_neg h1]
      rw [e]
      have e1 : (((-f).toNat : Nat) : Int) = -f := by omega
      simp only [e1]
      clear e e1
      go_enter Tryz.func61, Tryz.ntmps61
      go_wp2
      go_ret2
      exact ⟨ret_ib (by omega), rfl⟩
end Go.Proofs.YtnhgfhbicaiilaaGreat
/- The reel's disk in memory, whole: its map, its tapes; what one change leaves of it. -/
namespace Go.Proofs.YtnhgfhbicaiilaaGreat
open Go.RowKit Reel
set_option linter.unusedVariables false

/-- a tape's place: its block, its bytes' slice, what it reads as -/
structure RM where
  b : Nat
  v : Value
  t : Spool
def tp (r : RM) : Option Addr := some ⟨r.b, 0, none⟩
def TapeIs (w : World) (r : RM) : Prop := Blk w r.b 79 #[r.v, .int .i64 r.t.safe] ∧ w.ownsRow 0 5 1 r.v r.t.bytes.length (bvals r.t.bytes)
def Apart (a c : RM) : Prop := a.b ≠ c.b ∧ ∀ k, a.v.ownBlock = some k → c.v.ownBlock ≠ some k
theorem Apart.symm {a c : RM} (h : Apart a c) : Apart c a := ⟨fun e => h.1 e.symm, fun k hk e => h.2 k e hk⟩
def Tapes (w : World) (R : List RM) : Prop := (∀ r ∈ R, TapeIs w r) ∧ R.Pairwise Apart
def TF (r : RM) : Nat → Prop := fun k => k = r.b ∨ r.v.ownBlock = some k
section
variable {w w' : World} {R : List RM} {r r' : RM} {F : Nat → Prop} {i : Nat}
theorem TapeIs.only (h : TapeIs w r) (ho : Only F w w') (hf : ∀ k, TF r k → ¬ F k) : TapeIs w' r :=
  ⟨h.1.only ho (hf _ (.inl rfl)), own_only h.2 ho (fun k hk => hf k (.inr hk))⟩
theorem TapeIs.lt (h : TapeIs w r) : ∀ k, TF r k → k < w.heap.size := by
  rintro k (rfl | hk)
  · exact h.1.lt
  · exact own_lt h.2 hk
theorem TapeIs.v_ne_b (h : TapeIs w r) (h' : TapeIs w r') : r.v.ownBlock ≠ some r'.b := own_blk_ne h.2 h'.1 (by decide)
theorem Tapes.only (h : Tapes w R) (ho : Only F w w') (hf : ∀ r ∈ R, ∀ k, TF r k → ¬ F k) : Tapes w' R := ⟨fun r hr => (h.1 r hr).only ho (hf r hr), h.2⟩
theorem apart_tf (h : Apart r r') (h1 : TapeIs w r) (h2 : TapeIs w r') : ∀ k, TF r k → ¬ TF r' k := by
  rintro k (rfl | hk) (e | e)
  · exact h.1 e
  · exact h2.v_ne_b h1 e
  · subst e; exact h1.v_ne_b h2 hk
  · exact h.2 k hk e
theorem Tapes.apart (h : Tapes w R) {j : Nat} (hi : R[i]? = some r) (hj : R[j]? = some r') (hne : i ≠ j) : Apart r r' := by
  obtain ⟨i1, rfl⟩ := List.getElem?_eq_some_iff.1 hi
  obtain ⟨j1, rfl⟩ := List.getElem?_eq_some_iff.1 hj
  rcases Nat.lt_or_gt_of_ne hne with hlt | hlt
  · exact List.pairwise_iff_getElem.1 h.2 i j i1 j1 hlt
  · exact (List.pairwise_iff_getElem.1 h.2 j i j1 i1 hlt).symm
theorem Tapes.set (h : Tapes w R) (hi : R[i]? = some r) (ho : Only (TF r) w w') (hr : TapeIs w' r') (hb : r'.b = r.b) (hv : r'.v.ownBlock = r.v.ownBlock ∨ ∃ g, w.heap.size ≤ g ∧ r'.v.ownBlock = some g) : Tapes w' (R.set i r') := by
  have hi' := (List.getElem?_eq_some_iff.1 hi).1
  have hm : r ∈ R := by obtain ⟨_, rfl⟩ := List.getElem?_eq_some_iff.1 hi; exact List.getElem_mem _
  have far : ∀ (j : Nat) x, j ≠ i → R[j]? = some x → TapeIs w' x ∧ Apart r' x := by
    intro j x hj hx
    have hxm : x ∈ R := by obtain ⟨_, rfl⟩ := List.getElem?_eq_some_iff.1 hx; exact List.getElem_mem _
    have ha := h.apart hi hx (fun e => hj e.symm)
    refine ⟨(h.1 x hxm).only ho (apart_tf ha.symm (h.1 x hxm) (h.1 r hm)), by rw [hb]; exact ha.1, ?_⟩
    intro k hk
    rcases hv with hv | ⟨g, hg, hv⟩
    · rw [hv] at hk; exact ha.2 k hk
    · intro e
      have := (h.1 x hxm).lt k (.inr e)
      rw [hv] at hk; injection hk with hk; omega
  have hget : ∀ j (x : RM), (R.set i r')[j]? = some x → (j = i ∧ x = r') ∨ (j ≠ i ∧ R[j]? = some x) := by
    intro j x hx
    rw [List.getElem?_set] at hx
    split at hx
    · rename_i e
      left
      subst e
      exact ⟨rfl, by injection hx with hx; exact hx.symm⟩
    · rename_i e; exact .inr ⟨fun e' => e e'.symm, hx⟩
  refine ⟨fun x hx => ?_, ?_⟩
  · obtain ⟨j, hj⟩ := List.getElem?_of_mem hx
    rcases hget j x hj with ⟨_, rfl⟩ | ⟨hne, hx'⟩
    · exact hr
    · exact (far j x hne hx').1
  · refine List.pairwise_iff_getElem.2 fun j k hj hk hlt => ?_
    have ej := List.getElem?_eq_getElem hj
    have ek := List.getElem?_eq_getElem hk
    rcases hget j _ ej with ⟨rfl, e1⟩ | ⟨hne, hx'⟩
    · rcases hget k _ ek with ⟨rfl, e2⟩ | ⟨hne', hx''⟩
      · omega
      · rw [e1]; exact (far k _ hne' hx'').2
    · rcases hget k _ ek with ⟨rfl, e2⟩ | ⟨hne', hx''⟩
      · rw [e2]; exact (far j _ hne hx').2.symm
      · exact h.apart hx' hx'' (by omega)
theorem Tapes.ins (h : Tapes w R) (ho : Only NoF w w') (hr : TapeIs w' r) (hn : ∀ k, TF r k → w.heap.size ≤ k) (i : Nat) : Tapes w' (R.take i ++ r :: R.drop i) := by
  have h' : Tapes w' R := h.only ho (fun _ _ _ _ e => e)
  have ha : ∀ x ∈ R, Apart r x := fun x hx => by
    refine ⟨fun e => ?_, fun k hk e => ?_⟩
    · have := hn r.b (.inl rfl); have := (h.1 x hx).lt x.b (.inl rfl); omega
    · have := hn k (.inr hk); have := (h.1 x hx).lt k (.inr e); omega
  refine ⟨fun x hx => ?_, ?_⟩
  · rcases List.mem_append.1 hx with hx | hx
    · exact h'.1 x (List.mem_of_mem_take hx)
    · rcases List.mem_cons.1 hx with rfl | hx
      · exact hr
      · exact h'.1 x (List.mem_of_mem_drop hx)
  · have h0 : (R.take i ++ R.drop i).Pairwise Apart := by rw [List.take_append_drop]; exact h.2
    obtain ⟨h1, h2, h3⟩ := List.pairwise_append.1 h0
    refine List.pairwise_append.2 ⟨h1, List.pairwise_cons.2 ⟨fun x hx => ha x (List.mem_of_mem_drop hx), h2⟩, fun a hA b hB => ?_⟩
    rcases List.mem_cons.1 hB with rfl | hB
    · exact (ha a (List.mem_of_mem_take hA)).symm
    · exact h3 a hA b hB
theorem Tapes.sub {R' : List RM} (h : Tapes w R) (hs : R'.Sublist R) : Tapes w R' := ⟨fun x hx => h.1 x (hs.subset hx), h.2.sublist hs⟩
theorem del_sub (R : List RM) (i : Nat) : (R.take i ++ R.drop (i + 1)).Sublist R := by
  conv => rhs; rw [← List.take_append_drop i R]
  exact List.Sublist.append (List.Sublist.refl _) (by rw [← List.drop_drop]; exact List.drop_sublist _ _)
end

/-- the disk's memory -/
structure DMem (w : World) (p m : Nat) (ks vs : Value) (R : List RM) (S : St) : Prop where
  blk : DBlk w p m S
  map : MapIsPtr w m ks vs S.l (R.map tp)
  tapes : Tapes w R
  ts : S.ts = R.map (·.t)
def DF (p m : Nat) (ks vs : Value) (R : List RM) : Nat → Prop := fun k => k = p ∨ MapF m ks vs k ∨ ∃ r ∈ R, TF r k
section
variable {w w' : World} {p m : Nat} {ks vs ks' vs' : Value} {R R' : List RM} {S S' : St} {F : Nat → Prop} {r r' : RM} {i : Nat}
theorem DMem.p_ne_m (h : DMem w p m ks vs R S) : p ≠ m := Blk.ne h.blk h.map.1 (by decide)
theorem DMem.p_map (h : DMem w p m ks vs R S) : ¬ MapF m ks vs p := by
  rintro (e | e | e)
  · exact h.p_ne_m e
  · exact own_blk_ne h.map.2.1 h.blk (by decide) e
  · exact own_blk_ne h.map.2.2.1 h.blk (by decide) e
theorem DMem.p_tape (h : DMem w p m ks vs R S) (hr : r ∈ R) : ¬ TF r p := by
  rintro (e | e)
  · exact Blk.ne h.blk (h.tapes.1 r hr).1 (by decide) e
  · exact own_blk_ne (h.tapes.1 r hr).2 h.blk (by decide) e
theorem DMem.map_tape (h : DMem w p m ks vs R S) (hr : r ∈ R) : ∀ k, TF r k → ¬ MapF m ks vs k := by
  have ht := h.tapes.1 r hr
  rintro k (rfl | hk) (e | e | e)
  · exact Blk.ne ht.1 h.map.1 (by decide) e
  · exact own_blk_ne h.map.2.1 ht.1 (by decide) e
  · exact own_blk_ne h.map.2.2.1 ht.1 (by decide) e
  · subst e; exact own_blk_ne ht.2 h.map.1 (by decide) hk
  · exact own_ne ht.2 h.map.2.1 (by decide) hk e
  · exact own_ne ht.2 h.map.2.2.1 (by decide) hk e
theorem MapIsPtr.only {l : List ByteArray} {ps : List (Option Addr)} (h : MapIsPtr w m ks vs l ps) (ho : Only F w w') (hf : ∀ k, MapF m ks vs k → ¬ F k) : MapIsPtr w' m ks vs l ps :=
  ⟨h.1.only ho (hf _ (.inl rfl)), own_only h.2.1 ho (fun k hk => hf k (.inr (.inl hk))), own_only h.2.2.1 ho (fun k hk => hf k (.inr (.inr hk))), h.2.2.2⟩
theorem DMem.only (h : DMem w p m ks vs R S) (ho : Only F w w') (hf : ∀ k, DF p m ks vs R k → ¬ F k) : DMem w' p m ks vs R S :=
  ⟨Blk.only h.blk ho (hf p (.inl rfl)), h.map.only ho (fun k hk => hf k (.inr (.inl hk))), h.tapes.only ho (fun r hr k hk => hf k (.inr (.inr ⟨r, hr, hk⟩))), h.ts⟩
theorem DMem.lt (h : DMem w p m ks vs R S) : ∀ k, DF p m ks vs R k → k < w.heap.size := by
  rintro k (rfl | (rfl | hk | hk) | ⟨r, hr, hk⟩)
  · exact Blk.lt h.blk
  · exact h.map.1.lt
  · exact own_lt h.map.2.1 hk
  · exact own_lt h.map.2.2.1 hk
  · exact (h.tapes.1 r hr).lt k hk
/-- its own cells alone are written -/
theorem DMem.own (h : DMem w p m ks vs R S) (ho : Only (· = p) w w') (hb : DBlk w' p m S') (hl : S'.l = S.l) (ht : S'.ts = S.ts) : DMem w' p m ks vs R S' :=
  ⟨hb, by rw [hl]; exact h.map.only ho (fun k hk e => by subst e; exact h.p_map hk), h.tapes.only ho (fun r hr k hk e => by subst e; exact h.p_tape hr hk), by rw [ht]; exact h.ts⟩
/-- one tape is written -/
theorem DMem.tape (h : DMem w p m ks vs R S) (hi : R[i]? = some r) (ho : Only (TF r) w w') (hr : TapeIs w' r') (hb : r'.b = r.b) (hv : r'.v.ownBlock = r.v.ownBlock ∨ ∃ g, w.heap.size ≤ g ∧ r'.v.ownBlock = some g) :
    DMem w' p m ks vs (R.set i r') { S with ts := S.ts.set i r'.t } := by
  have hm : r ∈ R := by obtain ⟨_, rfl⟩ := List.getElem?_eq_some_iff.1 hi; exact List.getElem_mem _
  refine ⟨Blk.only h.blk ho (h.p_tape hm), ?_, h.tapes.set hi ho hr hb hv, by rw [List.map_set]; show S.ts.set i r'.t = _; rw [h.ts]⟩
  have e : (R.set i r').map tp = R.map tp := by
    rw [List.map_set]
    apply List.ext_getElem?
    intro j
    rw [List.getElem?_set]
    split
    · rename_i e; subst e
      rw [List.getElem?_map, hi]
      simp [tp, hb, (List.getElem?_eq_some_iff.1 hi).1]
    · rfl
  show MapIsPtr w' m ks vs S.l _
  rw [e]
  exact h.map.only ho (fun k hk e => h.map_tape hm k e hk)
end
end Go.Proofs.YtnhgfhbicaiilaaGreat
/- The reel's calls: find, Size, Read, Names, cut. -/
namespace Go.Proofs.YtnhgfhbicaiilaaGreat
open Go.RowKit Reel
set_option linter.unusedVariables false

def grow (F : Nat → Prop) (w w' : World) : Nat → Prop := fun k => F k ∨ (w.heap.size ≤ k ∧ k < w'.heap.size)
def DiskAt (w : World) (p : Nat) (F : Nat → Prop) (S : St) : Prop := (∀ k, F k → k < w.heap.size) ∧ S.Ok ∧ ∃ m ks vs R, DMem w p m ks vs R S ∧ ∀ k, DF p m ks vs R k → F k
section
variable {w w' w'' : World} {p m : Nat} {ks vs : Value} {R : List RM} {S S' : St} {F G : Nat → Prop}
theorem DiskAt.mk' (hF : ∀ k, F k → k < w.heap.size) (ho : Only F w w') (hok : S.Ok) (hm : DMem w' p m ks vs R S) (hf : ∀ k, DF p m ks vs R k → F k ∨ w.heap.size ≤ k) : DiskAt w' p (grow F w w') S :=
  ⟨fun k hk => hk.elim (fun h => Nat.lt_of_lt_of_le (hF k h) ho.size) (fun h => h.2), hok, m, ks, vs, R, hm, fun k hk => (hf k hk).imp id (fun h => ⟨h, hm.lt k hk⟩)⟩
theorem DiskAt.only (h : DiskAt w p F S) (ho : Only G w w') (hd : ∀ k, F k → ¬ G k) : DiskAt w' p F S := by
  obtain ⟨h1, h2, m, ks, vs, R, h3, h4⟩ := h
  exact ⟨fun k hk => Nat.lt_of_lt_of_le (h1 k hk) ho.size, h2, m, ks, vs, R, h3.only ho (fun k hk => hd k (h4 k hk)), h4⟩
theorem DiskAt.below (h : DiskAt w p F S) (hb : Below w.heap.size w w') : DiskAt w' p F S := h.only (Only.of_below hb NoF) (fun _ _ e => e)
theorem DiskAt.mono (h : DiskAt w p F S) (hF : ∀ k, F k → G k) (hG : ∀ k, G k → k < w.heap.size) : DiskAt w p G S := by
  obtain ⟨h1, h2, m, ks, vs, R, h3, h4⟩ := h
  exact ⟨hG, h2, m, ks, vs, R, h3, fun k hk => hF k (h4 k hk)⟩
/-- two steps are one -/
theorem DiskAt.chain (h : DiskAt w'' p (grow (grow F w w') w' w'') S) (h1 : w.heap.size ≤ w'.heap.size) (h2 : w'.heap.size ≤ w''.heap.size) (hF : ∀ k, F k → k < w.heap.size) : DiskAt w'' p (grow F w w'') S :=
  h.mono (fun k hk => by
    rcases hk with (hk | hk) | hk
    · exact .inl hk
    · exact .inr ⟨hk.1, by omega⟩
    · exact .inr ⟨by omega, hk.2⟩) (fun k hk => by
    rcases hk with hk | hk
    · have := hF k hk; omega
    · exact hk.2)
theorem only_chain (h : Only F w w') (k : Only (grow F w w') w' w'') : Only F w w'' := h.trans k (fun i hi => hi.imp id (fun h => h.1))
end

/-! what stands under a name -/
section
variable {w : World} {p m : Nat} {ks vs : Value} {R : List RM} {S : St} {x : ByteArray}
theorem DMem.len (h : DMem w p m ks vs R S) : R.length = S.l.length := by have := h.map.2.2.2.1; simpa using this
theorem DMem.rising (h : DMem w p m ks vs R S) : Rising S.l := h.map.2.2.2.2.1
theorem DMem.yes (h : DMem w p m ks vs R S) (hx : hasN S.l x = true) : ∃ r, R[posOf S.l x]? = some r ∧ r ∈ R ∧ at_ S x = some r.t ∧ getVPtr S.l (R.map tp) x = tp r := by
  have hlt := ((posOf_mem h.rising x).2 (hasN_iff.1 hx)).1
  have hl := h.len
  refine ⟨R[posOf S.l x]'(by omega), List.getElem?_eq_getElem (by omega), List.getElem_mem _, ?_, ?_⟩
  · unfold at_
    rw [if_pos hx, h.ts, List.getElem?_map, List.getElem?_eq_getElem (by omega)]; rfl
  · unfold getVPtr
    rw [if_pos hx, List.getD_eq_getElem?_getD, List.getElem?_map, List.getElem?_eq_getElem (by omega)]; rfl
theorem at_no {S : St} {x : ByteArray} (hx : hasN S.l x = false) : at_ S x = none := by unfold at_; rw [if_neg (by simp [hx])]
end

theorem rfind_down (p m : Nat) (ks vs : Value) (R : List RM) (S : St) (x : ByteArray) (w : World) (h : DMem w p m ks vs R S) (hd : S.down = true) :
    Calls Tryz.prog 64 #[.pointer (some ⟨p, 0, none⟩), .string x] w fun e w' => e = .returned (.tuple #[.pointer none, .int .i64 10]) ∧ w = w' := by
  have CR := ready_any p m S w h.blk
  rw [if_pos hd] at CR
  have C := hid CR
  clear h CR hd
  go_enter Tryz.func64, Tryz.ntmps64
  go_wp2_with (go_at_call 97; refine C.out.mono ?_; rintro e w' ⟨rfl, rfl⟩)
  go_ret2
  exact ⟨rfl, rfl⟩
theorem rfind_nil (x : ByteArray) (w : World) :
    Calls Tryz.prog 64 #[.pointer none, .string x] w fun e w' => e = .returned (.tuple #[.pointer none, .int .i64 2]) ∧ w = w' := by
  go_enter Tryz.func64, Tryz.ntmps64
  go_wp2_with (go_at_call 97; refine (ready_nil _).mono ?_; rintro e w' ⟨rfl, rfl⟩)
  go_ret2
  exact ⟨rfl, rfl⟩
set_option maxHeartbeats 1000000 in
theorem rfind_no (p m : Nat) (ks vs : Value) (R : List RM) (S : St) (x : ByteArray) (w : World) (h : DMem w p m ks vs R S) (hd : S.down = false) (hx : hasN S.l x = false) :
    Calls Tryz.prog 64 #[.pointer (some ⟨p, 0, none⟩), .string x] w fun e w' => e = .returned (.tuple #[.pointer none, .int .i64 12]) ∧ w = w' := by
  have CR := ready_any p m S w h.blk
  rw [if_neg (by simp [hd])] at CR
  have C := hid CR
  obtain ⟨c0, -, -, -, -, -, -⟩ := h.blk.cells
  have CG := getPtr m ks vs S.l (R.map tp) x w h.map
  rw [hx] at CG
  have e : getVPtr S.l (R.map tp) x = none := by unfold getVPtr; rw [if_neg (by simp [hx])]
  rw [e] at CG
  have G := hid CG
  clear h CR hd CG hx e
  unfold encPtr at G
  go_enter Tryz.func64, Tryz.ntmps64
  go_wp2_with (first
    | (go_at_call 97; refine C.out.mono ?_; rintro e w' ⟨rfl, rfl⟩)
    | (go_at_call 76; refine G.out.mono ?_; rintro e w' ⟨rfl, rfl⟩))
  go_ret2
  exact ⟨rfl, rfl⟩
set_option maxHeartbeats 1000000 in
theorem rfind_yes (p m : Nat) (ks vs : Value) (R : List RM) (S : St) (x : ByteArray) (r : RM) (w : World) (h : DMem w p m ks vs R S) (hd : S.down = false) (hx : hasN S.l x = true) (hr : getVPtr S.l (R.map tp) x = tp r) :
    Calls Tryz.prog 64 #[.pointer (some ⟨p, 0, none⟩), .string x] w fun e w' => e = .returned (.tuple #[.pointer (some ⟨r.b, 0, none⟩), .int .i64 0]) ∧ w = w' := by
  have CR := ready_any p m S w h.blk
  rw [if_neg (by simp [hd])] at CR
  have C := hid CR
  obtain ⟨c0, -, -, -, -, -, -⟩ := h.blk.cells
  have CG := getPtr m ks vs S.l (R.map tp) x w h.map
  rw [hx, hr] at CG
  have G := hid CG
  clear h CR hd CG hx hr
  unfold encPtr tp at G
  go_enter Tryz.func64, Tryz.ntmps64
  go_wp2_with (first
    | (go_at_call 97; refine C.out.mono ?_; rintro e w' ⟨rfl, rfl⟩)
    | (go_at_call 76; refine G.out.mono ?_; rintro e w' ⟨rfl, rfl⟩))
  go_ret2
  exact ⟨rfl, rfl⟩

set_option maxHeartbeats 1000000 in
theorem size_mem (p m : Nat) (ks vs : Value) (R : List RM) (S : St) (x : ByteArray) (w : World) (h : DMem w p m ks vs R S) :
    Calls Tryz.prog 34 #[.pointer (some ⟨p, 0, none⟩), .string x] w fun e w' => e = .returned (.int .i64 (sizeS S x)) ∧ w = w' := by
  obtain ⟨c0, -, -, -, -, -, -⟩ := h.blk.cells
  have CG := getPtr m ks vs S.l (R.map tp) x w h.map
  cases hx : hasN S.l x
  · rw [hx] at CG
    have e : getVPtr S.l (R.map tp) x = none := by unfold getVPtr; rw [if_neg (by simp [hx])]
    rw [e] at CG
    have G := hid CG
    have HS : Hid (sizeS S x = -1) := by unfold Hid sizeS; rw [at_no hx]
    clear h CG hx e
    unfold encPtr at G
    go_enter Tryz.func34, Tryz.ntmps34
    go_wp2_with (go_at_call 76; refine G.out.mono ?_; rintro e w' ⟨rfl, rfl⟩)
    go_ret
    exact ⟨ret_int (by rw [HS.out]), rfl⟩
  · obtain ⟨r, h1, h2, h3, h4⟩ := h.yes hx
    rw [hx, h4] at CG
    have G := hid CG
    have HS : Hid (sizeS S x = r.t.bytes.length) := by unfold Hid sizeS; rw [h3]
    have ht := h.tapes.1 r h2
    obtain ⟨a, c, hv, hc⟩ := own_slice ht.2
    have cb := ht.1.cell 0
    simp [hv] at cb
    clear h CG hx h1 h2 h3 h4 ht hv
    unfold encPtr tp at G
    go_enter Tryz.func34, Tryz.ntmps34
    go_wp2_with (go_at_call 76; refine G.out.mono ?_; rintro e w' ⟨rfl, rfl⟩)
    go_ret
    exact ⟨ret_int (by rw [HS.out]), rfl⟩
theorem size_nil (x : ByteArray) (w : World) :
    Calls Tryz.prog 34 #[.pointer none, .string x] w fun e w' => e = .returned (.int .i64 (-1)) ∧ w = w' := by
  go_enter Tryz.func34, Tryz.ntmps34
  go_wp2
  go_ret
  exact ⟨rfl, rfl⟩
theorem size_any (p : Nat) (F : Nat → Prop) (S : St) (x : ByteArray) (w : World) (h : DiskAt w p F S) :
    Calls Tryz.prog 34 #[.pointer (some ⟨p, 0, none⟩), .string x] w fun e w' => e = .returned (.int .i64 (sizeS S x)) ∧ w = w' := by
  obtain ⟨-, -, m, ks, vs, R, h, -⟩ := h
  exact size_mem p m ks vs R S x w h
set_option maxHeartbeats 1000000 in
theorem read_any (p : Nat) (F : Nat → Prop) (S : St) (x : ByteArray) (w : World) (h : DiskAt w p F S) :
    Calls Tryz.prog 29 #[.pointer (some ⟨p, 0, none⟩), .string x] w fun e w' => e = .returned (.tuple #[.string ⟨(readS S x).1.toArray⟩, .int .i64 (readS S x).2]) ∧ w = w' := by
  obtain ⟨-, -, m, ks, vs, R, h, -⟩ := h
  cases hd : S.down
  · cases hx : hasN S.l x
    · have HS : readS S x = ([], 12) := by unfold readS; rw [if_neg (by simp [hd]), at_no hx]
      rw [HS]
      have C := hid (rfind_no p m ks vs R S x w h hd hx)
      clear h hd hx HS
      go_enter Tryz.func29, Tryz.ntmps29
      go_wp2_with (go_at_call 64; refine C.out.mono ?_; rintro e w' ⟨rfl, rfl⟩)
      go_ret2
      exact ⟨rfl, rfl⟩
    · obtain ⟨r, h1, h2, h3, h4⟩ := h.yes hx
      have HS : readS S x = (r.t.bytes, 0) := by unfold readS; rw [if_neg (by simp [hd]), h3]
      rw [HS]
      have C := hid (rfind_yes p m ks vs R S x r w h hd hx h4)
      have ht := h.tapes.1 r h2
      have hcv := conv_own ht.2
      have cb := ht.1.cell 0
      simp at cb
      obtain ⟨a, c, hv, hc⟩ := own_slice ht.2
      rw [hv] at cb hcv
      obtain ⟨N, hN⟩ : ∃ N, r.t.bytes.length = N := ⟨_, rfl⟩
      obtain ⟨T, hT⟩ : ∃ T : ByteArray, (⟨r.t.bytes.toArray⟩ : ByteArray) = T := ⟨_, rfl⟩
      rw [hN] at cb hcv
      simp only [hT] at hcv ⊢
      clear h hd hx HS h1 h2 h3 h4 ht hv hN hT hc
      go_enter Tryz.func29, Tryz.ntmps29
      go_wp2_with (go_at_call 64; refine C.out.mono ?_; rintro e w' ⟨rfl, rfl⟩)
      go_ret2
      exact ⟨rfl, rfl⟩
  · have HS : readS S x = ([], 10) := by unfold readS; rw [if_pos hd]
    rw [HS]
    have C := hid (rfind_down p m ks vs R S x w h hd)
    clear h hd HS
    go_enter Tryz.func29, Tryz.ntmps29
    go_wp2_with (go_at_call 64; refine C.out.mono ?_; rintro e w' ⟨rfl, rfl⟩)
    go_ret2
    exact ⟨rfl, rfl⟩
theorem read_nil (x : ByteArray) (w : World) :
    Calls Tryz.prog 29 #[.pointer none, .string x] w fun e w' => e = .returned (.tuple #[.string ⟨#[]⟩, .int .i64 2]) ∧ w = w' := by
  go_enter Tryz.func29, Tryz.ntmps29
  go_wp2_with (go_at_call 64; refine (rfind_nil _ _).mono ?_; rintro e w' ⟨rfl, rfl⟩)
  go_ret2
  exact ⟨rfl, rfl⟩
end Go.Proofs.YtnhgfhbicaiilaaGreat
/- What each call of the reel keeps: plain Lean. -/
namespace Go.Proofs.YtnhgfhbicaiilaaGreat.Reel
open Go.RowKit
set_option linter.unusedVariables false

/-- numbers that don't pass what an int holds -/
def St.Fits (S : St) (n : Nat) : Prop := S.acts ≤ n ∧ S.life ≤ n ∧ S.armed ≤ 9223372036854775807
theorem size_cons (t : Spool) (r : List Spool) : size (t :: r) = t.bytes.length + size r := by simp [size]
theorem size_append (a b : List Spool) : size (a ++ b) = size a + size b := by simp [size]
theorem size_split (ts : List Spool) (i : Nat) (h : i < ts.length) : size ts = size (ts.take i) + (ts[i]).bytes.length + size (ts.drop (i + 1)) := by
  conv => lhs; rw [← List.take_append_drop i ts, List.drop_eq_getElem_cons h]
  rw [size_append, size_cons]; omega
theorem size_set (ts : List Spool) (i : Nat) (h : i < ts.length) (t : Spool) : size (ts.set i t) + (ts[i]).bytes.length = size ts + t.bytes.length := by
  have e1 : (ts.set i t).take i = ts.take i := by rw [List.take_set, List.set_eq_of_length_le (by rw [List.length_take]; omega)]
  have e2 : (ts.set i t).drop (i + 1) = ts.drop (i + 1) := by rw [List.drop_set_of_lt (by omega)]
  have e3 : (ts.set i t)[i]'(by simpa using h) = t := by simp
  rw [size_split (ts.set i t) i (by simpa using h), size_split ts i h, e1, e2, e3]
  omega
theorem size_mem {ts : List Spool} {t : Spool} (h : t ∈ ts) : t.bytes.length ≤ size ts := by
  obtain ⟨i, hi, rfl⟩ := List.getElem_of_mem h
  rw [size_split ts i hi]; omega
theorem size_del (ts : List Spool) (i : Nat) (h : i < ts.length) : size (ts.take i ++ ts.drop (i + 1)) + (ts[i]).bytes.length = size ts := by
  rw [size_append, size_split ts i h]; omega
theorem size_ins (ts : List Spool) (i : Nat) (t : Spool) : size (ts.take i ++ t :: ts.drop i) = size ts + t.bytes.length := by
  have h : size ts = size (ts.take i) + size (ts.drop i) := by rw [← size_append, List.take_append_drop]
  rw [size_append, size_cons, h]; omega

section
variable {S S' : St} {x : ByteArray} {t t' : Spool}
theorem at_get (h : S.Ok) (hx : hasN S.l x = true) : ∃ hi : posOf S.l x < S.ts.length, at_ S x = some S.ts[posOf S.l x] := by
  have hlt := ((posOf_mem h.rising x).2 (hasN_iff.1 hx)).1
  have hl := h.len
  refine ⟨by omega, ?_⟩
  unfold at_
  rw [if_pos hx, List.getElem?_eq_getElem]
theorem at_some (ht : at_ S x = some t) : hasN S.l x = true ∧ S.ts[posOf S.l x]? = some t := by
  unfold at_ at ht
  split at ht
  · rename_i h; exact ⟨h, ht⟩
  · cases ht
theorem at_none (h : S.Ok) (ht : at_ S x = none) : hasN S.l x = false := by
  cases hx : hasN S.l x
  · rfl
  · obtain ⟨_, e⟩ := at_get h hx; rw [ht] at e; cases e
theorem at_mem (ht : at_ S x = some t) : t ∈ S.ts := by
  obtain ⟨_, h⟩ := at_some ht
  obtain ⟨_, rfl⟩ := List.getElem?_eq_some_iff.1 h
  exact List.getElem_mem _
theorem putT_has (hx : hasN S.l x = true) : putT S x t = { S with ts := S.ts.set (posOf S.l x) t } := by
  unfold putT putN; rw [if_pos hx, if_pos hx]
theorem putT_no (hx : hasN S.l x = false) : putT S x t = { S with l := S.l.take (posOf S.l x) ++ x :: S.l.drop (posOf S.l x), ts := S.ts.take (posOf S.l x) ++ t :: S.ts.drop (posOf S.l x) } := by
  unfold putT putN; rw [if_neg (by simp [hx]), if_neg (by simp [hx])]
theorem delT_has (hx : hasN S.l x = true) : delT S x = { S with l := S.l.take (posOf S.l x) ++ S.l.drop (posOf S.l x + 1), ts := S.ts.take (posOf S.l x) ++ S.ts.drop (posOf S.l x + 1) } := by
  unfold delT delN; rw [if_pos hx, if_pos hx]
/-- the state but for its tapes -/
theorem St.Ok.with_ (h : S.Ok) (hl : S'.l = S.l) (ht : S'.ts = S.ts) (hu : S'.used = S.used) (hr : S'.room ≤ 67108864) : S'.Ok :=
  ⟨by rw [hl, ht]; exact h.len, by rw [hl]; exact h.rising, by rw [hl]; exact h.few, by rw [hu, ht]; exact h.used, by rw [hu]; exact h.most, hr, by rw [ht]; exact h.each, by rw [hl]; exact h.names⟩
theorem St.Ok.put (h : S.Ok) (ht : at_ S x = some t) (h1 : t'.bytes.length ≤ 4194304) (h2 : t'.safe ≤ t'.bytes.length) (U : Nat) (hU : U + t.bytes.length = S.used + t'.bytes.length) (hm : U ≤ 67108864) : St.Ok { putT S x t' with used := U } := by
  obtain ⟨hx, hi⟩ := at_some ht
  obtain ⟨hlt, rfl⟩ := List.getElem?_eq_some_iff.1 hi
  rw [putT_has hx]
  have hs := size_set S.ts (posOf S.l x) hlt t'
  have hu := h.used
  refine ⟨by simpa using h.len, h.rising, h.few, ?_, hm, h.room, ?_, h.names⟩
  · show U = size (S.ts.set _ t'); omega
  · intro y hy
    rcases List.mem_or_eq_of_mem_set hy with hy | rfl
    · exact h.each y hy
    · exact ⟨h1, h2⟩
theorem St.Ok.ins (h : S.Ok) (hx : hasN S.l x = false) (hn : isName x = true) (hf : S.l.length < 64) (h1 : t'.bytes.length ≤ 4194304) (h2 : t'.safe ≤ t'.bytes.length) (U : Nat) (hU : U = S.used + t'.bytes.length) (hm : U ≤ 67108864) : St.Ok { putT S x t' with used := U } := by
  have hp := posOf_le S.l x
  have hr := putN_rising h.rising x
  have hl := h.len
  have hu := h.used
  rw [putT_no hx]
  unfold putN at hr
  rw [if_neg (by simp [hx])] at hr
  refine ⟨by simp [hl], hr, ?_, ?_, hm, h.room, ?_, ?_⟩
  · simp; omega
  · show U = size _; rw [size_ins]; omega
  · intro y hy
    rcases List.mem_append.1 hy with hy | hy
    · exact h.each y (List.mem_of_mem_take hy)
    · rcases List.mem_cons.1 hy with rfl | hy
      · exact ⟨h1, h2⟩
      · exact h.each y (List.mem_of_mem_drop hy)
  · intro y hy
    rcases List.mem_append.1 hy with hy | hy
    · exact h.names y (List.mem_of_mem_take hy)
    · rcases List.mem_cons.1 hy with rfl | hy
      · exact hn
      · exact h.names y (List.mem_of_mem_drop hy)
theorem St.Ok.del (h : S.Ok) (ht : at_ S x = some t) (U : Nat) (hU : U + t.bytes.length = S.used) : St.Ok { delT S x with used := U } := by
  obtain ⟨hx, hi⟩ := at_some ht
  obtain ⟨hlt, rfl⟩ := List.getElem?_eq_some_iff.1 hi
  have hr := delN_rising h.rising x
  have hs := size_del S.ts (posOf S.l x) hlt
  have hu := h.used
  have hl := h.len
  have hm := h.most
  have hf := h.few
  rw [delT_has hx]
  unfold delN at hr
  rw [if_pos hx] at hr
  refine ⟨by simp [hl], hr, by simp; omega, ?_, by show U ≤ _; omega, h.room, ?_, ?_⟩
  · show U = size (S.ts.take (posOf S.l x) ++ S.ts.drop (posOf S.l x + 1)); omega
  · intro y hy
    rcases List.mem_append.1 hy with hy | hy
    · exact h.each y (List.mem_of_mem_take hy)
    · exact h.each y (List.mem_of_mem_drop hy)
  · intro y hy
    rcases List.mem_append.1 hy with hy | hy
    · exact h.names y (List.mem_of_mem_take hy)
    · exact h.names y (List.mem_of_mem_drop hy)

/-! an act -/
theorem act_l (S : St) : (actS S).1.l = S.l ∧ (actS S).1.ts = S.ts ∧ (actS S).1.used = S.used ∧ (actS S).1.room = S.room := by
  unfold actS; split
  · exact ⟨rfl, rfl, rfl, rfl⟩
  · split <;> exact ⟨rfl, rfl, rfl, rfl⟩
theorem act_err (S : St) : (actS S).2 = 0 ∨ (actS S).2 = 10 := by
  unfold actS; split
  · exact .inl rfl
  · split
    · exact .inr rfl
    · exact .inl rfl
theorem act_ok (h : S.Ok) : (actS S).1.Ok := by
  obtain ⟨h1, h2, h3, h4⟩ := act_l S
  exact h.with_ h1 h2 h3 (by rw [h4]; exact h.room)
theorem act_fits {n : Nat} (h : S.Fits n) : (actS S).1.Fits (n + 1) := by
  obtain ⟨h1, h2, h3⟩ := h
  unfold actS St.Fits; split
  · exact ⟨by show S.acts + 1 ≤ _; omega, by show S.life ≤ _; omega, h3⟩
  · split
    · exact ⟨by show S.acts + 1 ≤ _; omega, by show S.life + 1 ≤ _; omega, by show (0 : Nat) ≤ _; omega⟩
    · exact ⟨by show S.acts + 1 ≤ _; omega, by show S.life ≤ _; omega, by show S.armed - 1 ≤ _; omega⟩
theorem act_down (hd : S.down = false) : (actS S).1.down = decide ((actS S).2 = 10) := by
  unfold actS; split
  · simpa using hd
  · split
    · rfl
    · simpa using hd
theorem at_act (S : St) (x : ByteArray) : at_ (actS S).1 x = at_ S x := by
  obtain ⟨h1, h2, _⟩ := act_l S
  unfold at_; rw [h1, h2]
theorem roomOf_le (n : Int) : roomOf n ≤ 67108864 := by unfold roomOf; split; omega; split <;> omega
theorem new_ok (n : Int) : (new n).Ok := by
  refine ⟨rfl, List.Pairwise.nil, Nat.zero_le _, rfl, Nat.zero_le _, roomOf_le n, ?_, ?_⟩
  · intro t h; cases h
  · intro t h; cases h
theorem arm_ok (h : S.Ok) (n : Int) : (armS S n).Ok := h.with_ rfl rfl rfl h.room
theorem room_ok (h : S.Ok) (n : Int) : (roomS S n).Ok := h.with_ rfl rfl rfl (roomOf_le n)
theorem off_ok (h : S.Ok) : (offS S).Ok := by
  unfold offS; split
  · exact h
  · exact h.with_ rfl rfl rfl h.room
end
end Go.Proofs.YtnhgfhbicaiilaaGreat.Reel
