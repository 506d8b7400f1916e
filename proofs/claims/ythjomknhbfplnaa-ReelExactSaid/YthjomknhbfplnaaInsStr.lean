/- slices.Insert of one thing, over a slice of the program's own: Str. -/
import Derived.Test.YthjomknhbfplnaaOnly
import Derived.Test.YthjomknhbfplnaaChecked
import Derived.WalkKit
import Derived.RegionTactic
import Derived.Shelf.RegionOpenPlain
import Derived.Lib.Walk
import Derived.Lib.SliceRun
import Derived.Lib.JoinLaws
import Derived.Lib.AppendZeros
import Derived.Lib.AppendZerosOnto
import Derived.Lib.Overlaps
import Derived.Laws.Externs
import Derived.Laws.IdiomCopy
import Derived.Laws.NewBlocks
import Derived.Deep.RegionLaw
import Derived.Maps.AppendAt
namespace Go.Proofs.Ythjomknhbfplnaa
open Go.RowKit
set_option linter.unusedVariables false
set_option linter.unusedSimpArgs false

theorem Try.infoStr : (Try.prog.info? 9).map (fun i => (i.zero, i.size, i.bytes)) = some (some (.string ⟨#[]⟩), 1, 16) := by kernel_rfl

/-- a copy whose run is known -/
theorem wp_copy_isStr {P : Program} (w : World) {o : Oper} {a : Act} {K : Act → World → Prop} {Q : Exit → Act → World → Prop} (d s : Operand) (t t' : TypeId)
    (ho : o.op = .call { callee := .builtin .copy, args := #[d, s], argTypes := #[t, t'] }) (v u : Value) (hd : a.eval d = v) (hs : a.eval s = u) {v' : Value} {w' : World}
    (hr : (Builtin.copy_ #[t, t'] o.type #[v, u]).run P w = .ok v' w') (h : K (a.put o.dst v') w') : o.wp P a w K Q := by
  unfold Oper.wp execOp
  simp only [ho, resolve, invoke, builtin, Sem.run_bind, Sem.run_pure, Result.andThen_ok, List.map_toArray, List.map_cons, List.map_nil, hd, hs, hr]
  exact h
theorem wpList_copy_isStr {P : Program} (w : World) {ops : Array Oper} {rest : List Oper} {o : Oper} {a : Act} {Q : Exit → Act → World → Prop} (hgd : o.guard = none) (d s : Operand) (t t' : TypeId)
    (ho : o.op = .call { callee := .builtin .copy, args := #[d, s], argTypes := #[t, t'] }) (v u : Value) (hd : a.eval d = v) (hs : a.eval s = u) {v' : Value} {w' : World}
    (hr : (Builtin.copy_ #[t, t'] o.type #[v, u]).run P w = .ok v' w') (h : wpList P ops Q rest (a.put o.dst v') w') : wpList P ops Q (o :: rest) a w :=
  wpList_plain hgd fun _ hK => wp_copy_isStr w d s t t' ho v u hd hs hr (hK _ _ h)
theorem step_copy_isStr {P : Program} {ops : Array Oper} {o : Oper} {a : Act} {w : World} {K : Act → World → Prop} {Q : Exit → Act → World → Prop} {E : Prop}
    (hg : o.guard = none) (d x : Operand) (dT sT : TypeId) (hop : o.op = Op.call { callee := Callee.builtin Builtin.copy, args := #[d, x], argTypes := #[dT, sT] })
    (v u : Value) (hd : a.eval d = v) (hx : a.eval x = u) {v' : Value} {w' : World} (hr : (Builtin.copy_ #[dT, sT] o.type #[v, u]).run P w = .ok v' w') (hK : K (a.put o.dst v') w') :
    if Region.wanted o (yielded ops a.tmps) = true then Oper.wp P o a w K Q else E := by
  have hw : Region.wanted o (yielded ops a.tmps) = true := by simp [Region.wanted, hg]
  rw [if_pos hw]
  exact wp_copy_isStr w d x dT sT hop v u hd hx hr hK

theorem ins_listStr {cur : Array Value} {xs : List Value} {n i : Nat} (x : Value) (hsz : n + 1 ≤ cur.size) (ht : cur.toList.take n = xs) (hi : i < n) : (wr (wr cur (i + 1) (xs.drop i)) i [x]).toList.take (n + 1) = xs.take i ++ x :: xs.drop i := by
  have hl : xs.length = n := by rw [← ht, List.length_take]; simp; omega
  have hd : (xs.drop i).length = n - i := by rw [List.length_drop, hl]
  rw [wr_toList _ _ _ (by rw [wr_size]; simp; omega), wr_toList _ _ _ (by rw [hd]; omega), hd]
  have e1 : cur.toList.take (i + 1) = (cur.toList.take (i + 1)).take i ++ (cur.toList.take (i + 1)).drop i := (List.take_append_drop _ _).symm
  have hc : (cur.toList.take (i + 1)).length = i + 1 := by rw [List.length_take]; simp; omega
  have e2 : (cur.toList.take (i + 1) ++ xs.drop i ++ cur.toList.drop (i + 1 + (n - i))).take i = xs.take i := by
    rw [List.append_assoc, List.take_append_of_le_length (by omega), List.take_take, ← ht, List.take_take, Nat.min_eq_left (by omega), Nat.min_eq_left (by omega)]
  have e3 : (cur.toList.take (i + 1) ++ xs.drop i ++ cur.toList.drop (i + 1 + (n - i))).drop (i + [x].length) = xs.drop i ++ cur.toList.drop (i + 1 + (n - i)) := by
    rw [List.append_assoc, show i + [x].length = (cur.toList.take (i + 1)).length from hc.symm, List.drop_left]
  rw [e2, e3]
  have e4 : (xs.take i).length = i := by rw [List.length_take]; omega
  rw [show xs.take i ++ [x] ++ (xs.drop i ++ cur.toList.drop (i + 1 + (n - i))) = (xs.take i ++ x :: xs.drop i) ++ cur.toList.drop (i + 1 + (n - i)) by simp]
  rw [List.take_append_of_le_length (by rw [List.length_append, List.length_cons, hd, e4]; omega), List.take_of_length_le (by rw [List.length_append, List.length_cons, hd, e4]; omega)]
theorem ins_list2Str {cur : Array Value} {xs : List Value} {n i : Nat} (x : Value) (hsz : n + 1 ≤ cur.size) (hl : xs.length = n) (ht : cur.toList.take i = xs.take i) (hi : i < n) : (wr (wr cur i [x]) (i + 1) (xs.drop i)).toList.take (n + 1) = xs.take i ++ x :: xs.drop i := by
  have hd : (xs.drop i).length = n - i := by rw [List.length_drop, hl]
  have e4 : (xs.take i).length = i := by rw [List.length_take]; omega
  have e5 : (xs.take i ++ [x] ++ cur.toList.drop (i + [x].length)).take (i + 1) = xs.take i ++ [x] := by
    rw [List.take_append_of_le_length (by rw [List.length_append, e4]; exact Nat.le_refl _), List.take_of_length_le (by rw [List.length_append, e4]; exact Nat.le_refl _)]
  rw [wr_toList _ _ _ (by rw [wr_size, hd]; omega), wr_toList [x] _ _ (by simp; omega), ht, e5]
  have e6 : (xs.take i ++ [x] ++ xs.drop i).length = n + 1 := by rw [List.length_append, List.length_append, e4, hd, List.length_singleton]; omega
  rw [List.take_append_of_le_length (by omega), List.take_of_length_le (by omega)]
  simp

set_option maxRecDepth 100000 in
set_option maxHeartbeats 4000000 in
/-- at the end -/
theorem insEndStr (v : Value) (n : Nat) (xs : List Value) (x : Value) (vb : Nat) (w : World) (hown : w.ownsRow 0 9 1 v n xs) (hx1 : x.oneCell' = true) (hn : n ≤ 1048576) (hblk : Blk w vb 9 #[x]) :
    Calls Try.prog 62 #[v, .int .i64 n, .slice (some ⟨vb, 0, none⟩) 1 1] w fun e w' => ∃ v', e = .returned v' ∧ w'.ownsRow 0 9 1 v' (n + 1) (xs ++ [x]) ∧ w.grownBy w' v.ownBlock ∧ (v'.ownBlock = v.ownBlock ∨ v'.ownBlock = some w.heap.size) := by
  obtain ⟨i0, hi0, hz0, hz1, hz2⟩ := info_parts Try.infoStr
  have HC := hid (show ∀ j u, [x][j]? = some u → w.cell? ((⟨vb, 0, none⟩ : Addr).add j) = some u from fun j u hu => by
    cases j with
    | zero => simp at hu; subst hu; simpa [Addr.add] using hblk.cell 0
    | succ j => simp at hu)
  have HX : Hid (∀ u ∈ [x], u.oneCell' = true) := fun u hu => by rw [List.mem_singleton] at hu; subst hu; exact hx1
  have hown0 := hown
  rcases hown.2 with ⟨rfl, rfl⟩ | ⟨g, cap, cur, rfl, hb, hg, hnc, hcm, hsz, htk⟩
  · clear hown hx1 hblk
    go_enter Try.func62, Try.ntmps62
    go_wp2_with (at_builtin; refine wpList_append_own_at _ rfl (.tmp 23) (.tmp 24) 22 rfl 0 9 i0 (.string ⟨#[]⟩) 1 16 Try.underlying22 hi0 hz0 hz1 hz2 rfl (by decide) _ _ _ rfl hown0 _ 1 1 [x] rfl rfl HC.out HX.out (by unfold maxLen; omega) (by omega) (Nat.zero_le _) ?_; intro v' w3 hown' hgrow _ hbk)
    go_ret
    exact ⟨_, rfl, hown', hgrow, hbk⟩
  · have HT := hid htk
    have HS := hid hsz
    have HG := hid hg
    unfold maxLen at hcm
    clear hown hx1 hblk htk hsz hg hb
    have hd : decide (n ≤ cap) = true := decide_eq_true hnc
    go_enter Try.func62, Try.ntmps62
    go_wp2_with (at_builtin; refine wpList_append_own_at _ rfl (.tmp 23) (.tmp 24) 22 rfl 0 9 i0 (.string ⟨#[]⟩) 1 16 Try.underlying22 hi0 hz0 hz1 hz2 rfl (by decide) _ _ _ rfl hown0 _ 1 1 [x] rfl rfl HC.out HX.out (by unfold maxLen; omega) (by omega) (Nat.zero_le _) ?_; intro v' w3 hown' hgrow _ hbk)
    all_goals (go_ret; exact ⟨_, rfl, hown', hgrow, hbk⟩)

set_option maxHeartbeats 4000000 in
set_option maxRecDepth 100000 in
/-- ahead of the end, where there is room -/
theorem insRoomStr (g n c i vb : Nat) (cs : List Value) (x : Value) (w : World) (hi : i < n) (hroom : n + 1 ≤ c) (hc63 : c ≤ 9223372036854775807) (hn : n ≤ 1048576) (hvb : vb ≠ g)
    (cur : Array Value) (hcur : Blk w g 9 cur) (hsz : cur.size = c) (htk : cur.toList.take n = cs) (h1c : ∀ v ∈ cs, v.oneCell' = true) (hx1 : x.oneCell' = true) (hblk : Blk w vb 9 #[x]) :
    Calls Try.prog 62 #[.slice (some ⟨g, 0, none⟩) n c, .int .i64 i, .slice (some ⟨vb, 0, none⟩) 1 1] w fun e w' =>
      e = .returned (.slice (some ⟨g, 0, none⟩) (n + 1) c) ∧ w' = (w.drew.setCells g (i + 1) (cs.drop i)).setCells g i [x] := by
  have hcl : cs.length = n := by rw [← htk, List.length_take]; simp; omega
  have hcs : ∀ j v, cs[j]? = some v → w.cell? ⟨g, j, none⟩ = some v := fun j v hj => by
    rw [hcur.cell j, ← hj, ← htk, List.getElem?_take, if_pos (by have := (List.getElem?_eq_some_iff.1 hj).1; omega)]; simp
  have hsp : ∀ j, j < n + 1 → (w.cell? ⟨g, j, none⟩).isSome = true := fun j hj => by rw [hcur.cell j, Array.getElem?_eq_getElem (by omega)]; rfl
  have hfz : ∀ j, w.frozen? ⟨g, j, none⟩ = false := fun j => hcur.frozen j
  have hu := Try.underlying22
  have hsize : (Try.prog.info? 9).map (·.size) = some 1 := by
    obtain ⟨i0, hi0, h0, h1, h2⟩ := info_parts Try.infoStr
    rw [hi0]; simp [h1]
  have hz1 : ∀ w : World, (Go.sizeOf 9).run Try.prog w = .ok 1 w := fun w => by
    obtain ⟨i0, hi0, h0, h1, h2⟩ := info_parts Try.infoStr
    simp [Go.sizeOf, typeInfo, hi0, h1]
  have hsa : w.shape? vb = some (9, 1) := by have := hblk; unfold Blk at this; simp [World.shape?, this]
  have hsb : w.shape? g = some (9, c) := by have := hcur; unfold Blk at this; simp [World.shape?, this, hsz]
  have hov : ∀ lb cb, (callFunc 76 #[.slice (some ⟨vb, 0, none⟩) 1 1, .slice (some ⟨g, i + 1, none⟩) lb cb]).run Try.prog w = .ok (.value (.bool false)) w := fun lb cb => by
    rw [run_callFunc_extern Try.func76 (by kernel_rfl) (by kernel_rfl) (by kernel_rfl) (e := Extern.SlicesOverlaps.overlaps #[22, 22] #[4]) (by kernel_rfl),
      Lib.run_overlaps_apart w 22 4 9 hu 1 hz1 ⟨vb, 0, none⟩ ⟨g, i + 1, none⟩ 1 1 lb cb hvb 9 9 1 c hsa hsb (by omega) (hblk.frozen 0) (hblk.frozen 1)]
    rfl
  have hdl : (cs.drop i).length = n - i := by rw [List.length_drop, hcl]
  have hw1 : IntKind.i64.wrap ((i : Int) + 1) = (i : Int) + 1 := by rw [IntKind.wrap_i64]; omega
  have hb1 : (0 : Int) ≤ (i : Int) + 1 := by omega
  have hin : i ≤ n := by omega
  have htn : ((i : Int) + 1).toNat = i + 1 := by omega
  have hb2 : ¬ (c = i + 1) := by omega
  have hb3 : (i : Int) ≤ (n : Int) + 1 := by omega
  have hb4 : ¬ (c = i) := by omega
  have hz2 : ¬ ((i : Int) = (n : Int)) := by omega
  have hcp1 : ∀ ty dc sc, (Builtin.copy_ #[22, 22] ty #[.slice (some ⟨g, i + 1, none⟩) (n - i) dc, .slice (some ⟨g, i, none⟩) (n + 1 - i) sc]).run Try.prog w.drew = .ok (goInt (cs.drop i).length) (w.drew.setCells g (i + 1) (cs.drop i)) := fun ty dc sc =>
    run_copy_cells w.drew _ _ ty 9 g (i + 1) (n - i) dc ⟨g, i, none⟩ (n + 1 - i) sc (cs.drop i) hu hsize (by rw [hdl]; simp only [Nat.min_def]; split <;> omega)
      (fun j v hj => by rw [Addr.add_lit]; exact hcs (i + j) v (by rwa [List.getElem?_drop] at hj))
      (fun j hj => hsp _ (by omega)) (fun j hj => hfz _) (fun v hv => h1c v (List.mem_of_mem_drop hv))
  obtain ⟨W1, hW1⟩ : ∃ W1, W1 = w.drew.setCells g (i + 1) (cs.drop i) := ⟨_, rfl⟩
  have hB1 : Blk W1 g 9 (wr cur (i + 1) (cs.drop i)) := by rw [hW1]; exact heap_setCells _ _ _ _ hcur
  have hX1 : Blk W1 vb 9 #[x] := by rw [hW1]; exact hblk.only (only_setCells (F := (· = g)) (.inl rfl) (cs.drop i) (i + 1) w.drew (Only.refl (· = g) w).drew) hvb
  have hcp2 : ∀ (W : World), (∀ x, W.cell? x = W1.cell? x) → (∀ x, W.frozen? x = W1.frozen? x) → ∀ ty dc, (Builtin.copy_ #[22, 22] ty #[.slice (some ⟨g, i, none⟩) (n + 1 - i) dc, .slice (some ⟨vb, 0, none⟩) 1 1]).run Try.prog W = .ok (goInt 1) (W.setCells g i [x]) := fun W hWc hWf ty dc =>
    run_copy_cells W _ _ ty 9 g i (n + 1 - i) dc ⟨vb, 0, none⟩ 1 1 [x] hu hsize (by simp only [Nat.min_def, List.length_singleton]; split <;> omega)
      (fun j v hj => by
        cases j with
        | zero => simp at hj; subst hj; rw [Addr.add_lit, hWc]; exact hX1.cell 0
        | succ j => simp at hj)
      (fun j hj => by rw [hWc, hB1.cell, Array.getElem?_eq_getElem (by rw [wr_size]; simp at hj; omega)]; rfl) (fun j hj => by rw [hWf]; exact hB1.frozen _) (fun u hu => by rw [List.mem_singleton] at hu; subst hu; exact hx1)
  rw [← hW1] at hcp1
  clear hcs hsp hfz hsa hsb hcur hblk htk h1c hx1 hB1 hX1 hsz hcl hz1 hsize
  have HCP2 := hid hcp2
  clear hcp2
  have HDL := hid hdl; clear hdl
  have HW1 := hid hW1; clear hW1
  have mixed : Try.prog.follows .mixedOrders = true := by kernel_rfl
  go_enter Try.func62, Try.ntmps62
  go_wp2_with (simp only [hov])
  go_region_law (refine step_copy_isStr rfl _ _ 22 22 rfl _ _ (by simp [Act.eval, Act.put]) (by simp [Act.eval, Act.put]) (hcp1 _ _ _) ?_)
  go_wp2_with (refine wpList_copy_isStr _ rfl (.tmp 80) (.tmp 81) 22 22 rfl _ _ rfl rfl (HCP2.out _ (fun _ => rfl) (fun _ => rfl) _ _) ?_)
  go_ret
  exact ⟨rfl, by rw [HW1.out]⟩

set_option maxHeartbeats 4000000 in
set_option maxRecDepth 100000 in
/-- ahead of the end, where there is no room -/
theorem insGrowStr (g n c i vb : Nat) (cs : List Value) (x : Value) (w : World) (hi : i < n) (hnc : n ≤ c) (hroom : c < n + 1) (hn : n ≤ 1048576)
    (cur : Array Value) (hcur : Blk w g 9 cur) (hsz : cur.size = c) (htk : cur.toList.take n = cs) (h1c : ∀ v ∈ cs, v.oneCell' = true) (hx1 : x.oneCell' = true) (hblk : Blk w vb 9 #[x]) :
    Calls Try.prog 62 #[.slice (some ⟨g, 0, none⟩) n c, .int .i64 i, .slice (some ⟨vb, 0, none⟩) 1 1] w fun e w' =>
      ∃ v', e = .returned v' ∧ w'.ownsRow 0 9 1 v' (n + 1) (cs.take i ++ x :: cs.drop i) ∧ Below w.heap.size w w' ∧ v'.ownBlock = some w.heap.size := by
  have hcl : cs.length = n := by rw [← htk, List.length_take]; simp; omega
  have hcs : ∀ j v, cs[j]? = some v → w.cell? ⟨g, j, none⟩ = some v := fun j v hj => by
    rw [hcur.cell j, ← hj, ← htk, List.getElem?_take, if_pos (by have := (List.getElem?_eq_some_iff.1 hj).1; omega)]; simp
  have hu := Try.underlying22
  obtain ⟨i0, hi0, hz0, hzs, hzb⟩ := info_parts Try.infoStr
  have hsize : (Try.prog.info? 9).map (·.size) = some 1 := by rw [hi0]; simp [hzs]
  have hdl : (cs.drop i).length = n - i := by rw [List.length_drop, hcl]
  have hold : (Builtin.firstCells i0.size i (.slice (some ⟨g, 0, none⟩) i c)).run Try.prog w.drew = .ok (cs.take i).toArray w.drew := by
    rw [hzs]
    exact run_firstCells_some w.drew 1 i ⟨g, 0, none⟩ i c (cs.take i) (by rw [List.length_take]; omega) (fun j v hj => by
      rw [Addr.add_lit, Nat.zero_add]
      rw [List.getElem?_take] at hj
      split at hj
      · exact hcs j v hj
      · cases hj)
  obtain ⟨G, hG⟩ : ∃ G, G = grownCap w (n + 1) c 9 := ⟨_, rfl⟩
  obtain ⟨ROW, hROW⟩ : ∃ ROW : Array Value, ROW = (cs.take i).toArray ++ Builtin.zeroCells (Value.cells (.string ⟨#[]⟩)) (n + 1 - i) ++ Builtin.zeroCells (Value.cells (.string ⟨#[]⟩)) (G - (n + 1)) := ⟨_, rfl⟩
  have hkk : (n : Int) + 1 - (i : Int) = ((n + 1 - i : Nat) : Int) := by omega
  have hik : i + (n + 1 - i) = n + 1 := by omega
  have hrz : ∀ ty, (Builtin.append_ #[22, 3] ty #[.slice (some ⟨g, 0, none⟩) i c, .int .i64 ((n : Int) + 1 - (i : Int))]).run Try.prog w =
      .ok (.slice (some ⟨w.heap.size, 0, none⟩) (n + 1) G) (w.drew.alloc (.cells ROW 9)) := fun ty => by
    have h := Lib.run_append_grow_zeros w 22 3 ty 9 i0 _ .i64 .i64 hu Try.underlying3 hi0 hz0 (some ⟨g, 0, none⟩) i c (cs.take i) hold (n + 1 - i) (by omega) (by omega) (by omega) (by omega) (by rw [hzb]; omega) (by rw [hzb, hik]; exact growslice_fits hroom (by omega))
    rw [hik] at h
    rw [hkk, hROW, hG]
    exact h
  have hGn : n + 1 ≤ G := by rw [hG]; exact grownCap_ge w _ _ _
  have hG63 : G ≤ 9223372036854775807 := by
    have := grownCap_le_maxLen w (n + 1) c 9 (by unfold maxLen; omega)
    rw [← hG] at this
    unfold maxLen at this
    omega
  have hRs : ROW.size = G := by
    rw [hROW]
    simp [Builtin.zeroCells, Value.cells]
    omega
  have hRt : ROW.toList.take i = cs.take i := by
    rw [hROW, Array.toList_append, Array.toList_append, List.append_assoc, List.take_append_of_le_length (by simp; omega)]
    show List.take i (cs.take i) = _
    rw [List.take_take, Nat.min_self]
  have hgl := hcur.lt
  have hvl := hblk.lt
  obtain ⟨W1, hW1⟩ : ∃ W1, W1 = w.drew.alloc (.cells ROW 9) := ⟨_, rfl⟩
  have hN1 : Blk W1 w.heap.size 9 ROW := by rw [hW1]; exact Blk.new w.drew _ _
  have hC1 : Blk W1 g 9 cur := by rw [hW1]; exact hcur.drew.alloc _
  have hV1 : Blk W1 vb 9 #[x] := by rw [hW1]; exact hblk.drew.alloc _
  have hb1 : Below w.heap.size w W1 := by rw [hW1]; exact (Below.refl _ _).drew.alloc (Nat.le_refl _) _
  have hcpA : ∀ (W : World), (∀ x, W.cell? x = W1.cell? x) → (∀ x, W.frozen? x = W1.frozen? x) → ∀ ty dc, (Builtin.copy_ #[22, 22] ty #[.slice (some ⟨w.heap.size, i, none⟩) (n + 1 - i) dc, .slice (some ⟨vb, 0, none⟩) 1 1]).run Try.prog W = .ok (goInt 1) (W.setCells w.heap.size i [x]) := fun W hWc hWf ty dc =>
    run_copy_cells W _ _ ty 9 w.heap.size i (n + 1 - i) dc ⟨vb, 0, none⟩ 1 1 [x] hu hsize (by simp only [Nat.min_def, List.length_singleton]; split <;> omega)
      (fun j v hj => by
        cases j with
        | zero => simp at hj; subst hj; rw [Addr.add_lit, hWc]; exact hV1.cell 0
        | succ j => simp at hj)
      (fun j hj => by rw [hWc, hN1.cell, Array.getElem?_eq_getElem (by simp at hj; omega)]; rfl) (fun j hj => by rw [hWf]; exact hN1.frozen _) (fun u hu => by rw [List.mem_singleton] at hu; subst hu; exact hx1)
  have hN2 : Blk (W1.setCells w.heap.size i [x]) w.heap.size 9 (wr ROW i [x]) := heap_setCells _ _ _ _ hN1
  have hO2 : Only (· = w.heap.size) W1 (W1.setCells w.heap.size i [x]) := only_setCells (F := (· = w.heap.size)) (.inl rfl) _ _ _ (Only.refl _ _)
  have hC2 : Blk (W1.setCells w.heap.size i [x]) g 9 cur := hC1.only hO2 (by omega)
  have hcpB : ∀ (W : World), (∀ y, W.cell? y = (W1.setCells w.heap.size i [x]).cell? y) → (∀ y, W.frozen? y = (W1.setCells w.heap.size i [x]).frozen? y) → ∀ ty dc sc, (Builtin.copy_ #[22, 22] ty #[.slice (some ⟨w.heap.size, i + 1, none⟩) (n - i) dc, .slice (some ⟨g, i, none⟩) (n - i) sc]).run Try.prog W = .ok (goInt (cs.drop i).length) (W.setCells w.heap.size (i + 1) (cs.drop i)) := fun W hWc hWf ty dc sc =>
    run_copy_cells W _ _ ty 9 w.heap.size (i + 1) (n - i) dc ⟨g, i, none⟩ (n - i) sc (cs.drop i) hu hsize (by rw [hdl]; simp only [Nat.min_def]; split <;> omega)
      (fun j v hj => by
        rw [Addr.add_lit, hWc, hC2.cell]
        rw [List.getElem?_drop] at hj
        rw [← hj, ← htk, List.getElem?_take, if_pos (by have := (List.getElem?_eq_some_iff.1 hj).1; omega)]; simp)
      (fun j hj => by rw [hWc, hN2.cell, Array.getElem?_eq_getElem (by rw [wr_size]; omega)]; rfl)
      (fun j hj => by rw [hWf]; exact hN2.frozen _) (fun v hv => h1c v (List.mem_of_mem_drop hv))
  have hGi : ¬ (G = i) := by omega
  have hGim : ¬ (G = i + 1) := by omega
  have hci : ¬ (c = i) := by omega
  have hw1 : IntKind.i64.wrap ((i : Int) + 1) = (i : Int) + 1 := by rw [IntKind.wrap_i64]; omega
  have hb1' : (0 : Int) ≤ (i : Int) + 1 := by omega
  have hin : i ≤ n := by omega
  have htn : ((i : Int) + 1).toNat = i + 1 := by omega
  have hb3 : (i : Int) ≤ (n : Int) := by omega
  have hz2 : ¬ ((i : Int) = (n : Int)) := by omega
  have hz3 : (c : Int) < (n : Int) + 1 := by omega
  have hfin : (∃ v', (Value.slice (some ⟨w.heap.size, 0, none⟩) (n + 1) G) = v' ∧ ((((w.alloc (.cells ROW 9)).drew.setCells w.heap.size i [x]).drew).setCells w.heap.size (i + 1) (cs.drop i)).ownsRow 0 9 1 v' (n + 1) (cs.take i ++ x :: cs.drop i) ∧ Below w.heap.size w ((((w.alloc (.cells ROW 9)).drew.setCells w.heap.size i [x]).drew).setCells w.heap.size (i + 1) (cs.drop i)) ∧ v'.ownBlock = some w.heap.size) := by
    have a1 : Blk ((w.alloc (.cells ROW 9)).drew) w.heap.size 9 ROW := Blk.new w _ _
    have a2 : Blk (((w.alloc (.cells ROW 9)).drew.setCells w.heap.size i [x]).drew) w.heap.size 9 (wr ROW i [x]) := heap_setCells _ _ _ _ a1
    have a3 : Blk ((((w.alloc (.cells ROW 9)).drew.setCells w.heap.size i [x]).drew).setCells w.heap.size (i + 1) (cs.drop i)) w.heap.size 9 (wr (wr ROW i [x]) (i + 1) (cs.drop i)) := heap_setCells _ _ _ _ a2
    have o1 : Only NoF w ((w.alloc (.cells ROW 9)).drew) := ((Only.refl NoF w).alloc _).drew
    have o2 : Only NoF w ((((w.alloc (.cells ROW 9)).drew.setCells w.heap.size i [x]).drew).setCells w.heap.size (i + 1) (cs.drop i)) :=
      only_setCells (.inr (Nat.le_refl _)) _ _ _ (only_setCells (.inr (Nat.le_refl _)) _ _ _ o1).drew
    refine ⟨_, rfl, ⟨by simp; omega, .inr ⟨w.heap.size, G, _, rfl, Nat.zero_le _, a3, hGn, by unfold maxLen; omega, by rw [wr_size, wr_size, hRs]; simp, ?_⟩⟩, o2.below0, rfl⟩
    rw [Nat.mul_one]
    exact ins_list2Str x (by omega) hcl hRt hi
  have HFIN := hid hfin
  have HA := hid hcpA; have HB := hid hcpB; have HE := hid hW1
  have hE1 : Hid (∀ x, ((w.alloc (.cells ROW 9)).drew).cell? x = W1.cell? x) := fun x => by rw [hW1]; rfl
  have hE2 : Hid (∀ x, ((w.alloc (.cells ROW 9)).drew).frozen? x = W1.frozen? x) := fun x => by rw [hW1]; rfl
  have hF1 : Hid (∀ y, (((w.alloc (.cells ROW 9)).drew.setCells w.heap.size i [x]).drew).cell? y = (W1.setCells w.heap.size i [x]).cell? y) := fun y => by rw [hW1]; rfl
  have hF2 : Hid (∀ y, (((w.alloc (.cells ROW 9)).drew.setCells w.heap.size i [x]).drew).frozen? y = (W1.setCells w.heap.size i [x]).frozen? y) := fun y => by rw [hW1]; rfl
  have HZ := hid hrz
  clear hfin hcpA hcpB hrz hW1 hN1 hC1 hV1 hb1 hN2 hO2 hC2 hRt hRs hROW hG hold hcs hcur htk h1c hx1 hblk hsz hcl hkk hik hi0 hz0 hzs hzb hsize hdl
  have mixed : Try.prog.follows .mixedOrders = true := by kernel_rfl
  go_enter Try.func62, Try.ntmps62
  go_wp2_with (first
    | (at_builtin; refine Lib.wpList_append_run _ rfl _ _ _ _ rfl _ _ rfl rfl _ _ (HZ.out _) ?_)
    | (refine wpList_copy_isStr _ rfl (.tmp 43) (.tmp 44) 22 22 rfl _ _ rfl rfl (HA.out _ hE1.out hE2.out _ _) ?_))
  go_region_law (refine step_copy_isStr rfl _ _ 22 22 rfl (.slice (some ⟨w.heap.size, i + 1, none⟩) (n - i) (G - (i + 1))) (.slice (some ⟨g, i, none⟩) (n - i) (c - i)) (by simp [Act.eval, Act.put]) (by simp [Act.eval, Act.put]) (HB.out _ hF1.out hF2.out _ _ _) ?_)
  go_wp2
  go_ret
  obtain ⟨v', h1, h2⟩ := HFIN.out
  exact ⟨v', congrArg Ending.returned h1, h2⟩

/-- one thing more at a place -/
theorem insStr (v : Value) (n i : Nat) (xs : List Value) (x : Value) (vb : Nat) (w : World) (hown : w.ownsRow 0 9 1 v n xs) (h1 : ∀ u ∈ xs, u.oneCell' = true) (hx1 : x.oneCell' = true) (hi : i ≤ n) (hn : n ≤ 1048576) (hblk : Blk w vb 9 #[x]) (hne : v.ownBlock ≠ some vb) :
    Calls Try.prog 62 #[v, .int .i64 i, .slice (some ⟨vb, 0, none⟩) 1 1] w fun e w' => ∃ v', e = .returned v' ∧ w'.ownsRow 0 9 1 v' (n + 1) (xs.take i ++ x :: xs.drop i) ∧ w.grownBy w' v.ownBlock ∧ (v'.ownBlock = v.ownBlock ∨ v'.ownBlock = some w.heap.size) := by
  have hxl : xs.length = n := by have := hown.1; omega
  by_cases hin : i = n
  · subst hin
    rw [List.take_of_length_le (by omega), List.drop_eq_nil_of_le (by omega)]
    exact insEndStr v i xs x vb w hown hx1 hn hblk
  · rcases hown.2 with ⟨rfl, rfl⟩ | ⟨g, cap, cur, rfl, hb, hg, hnc, hcm, hsz, htk⟩
    · omega
    · unfold maxLen at hcm
      rw [Nat.mul_one] at hsz htk
      by_cases hr : n + 1 ≤ cap
      · refine (insRoomStr g n cap i vb xs x w (by omega) hr hcm hn (fun e => hne (by rw [e]; rfl)) cur hg hsz htk h1 hx1 hblk).mono ?_
        rintro e w' ⟨rfl, rfl⟩
        refine ⟨_, rfl, ⟨by simp; omega, .inr ⟨g, cap, _, rfl, Nat.zero_le _, heap_setCells _ _ _ _ (heap_setCells _ _ w.drew _ hg), hr, by unfold maxLen; omega, by rw [wr_size, wr_size, hsz]; omega, ?_⟩⟩, ?_, .inl rfl⟩
        · rw [Nat.mul_one]; exact ins_listStr x (by omega) htk (by omega)
        · exact grownBy_of_only (only_setCells (F := fun k => some g = some k) (.inl rfl) _ _ _ (only_setCells (F := fun k => some g = some k) (.inl rfl) _ _ _ (Only.refl _ w).drew))
      · refine (insGrowStr g n cap i vb xs x w (by omega) hnc (by omega) hn cur hg hsz htk h1 hx1 hblk).mono ?_
        rintro e w' ⟨v', rfl, h2, hb2, h3⟩
        exact ⟨v', rfl, h2, ⟨hb2.os, hb2.tape, hb2.output, hb2.size, fun k hk _ => hb2.block k hk⟩, .inr h3⟩
end Go.Proofs.Ythjomknhbfplnaa
