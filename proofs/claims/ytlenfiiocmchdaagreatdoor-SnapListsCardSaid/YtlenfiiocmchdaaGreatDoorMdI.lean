/- Texts in a row: AllF, SnW, FactR, CmpX, SortK, LayS, OrdC, OrdR, OrdL. -/
import Derived.Test.YtlenfiiocmchdaaGreatDoorMdH
import Derived.RangeFuncNested
import Derived.RangeFuncBound
import Derived.RangeFuncLeaves
import Derived.Shelf.Abstract
import Derived.Shelf.RegionOpen
import Derived.TacticsInMore
import Derived.LoopNIn
import Derived.LoopIn
import Derived.Deep.AppendLies
import Derived.Deep.Upon
import Derived.RangeFuncBox
import Derived.OwnWalkIn
import Derived.Sort.Grow
import Derived.Shelf.SlSortCmp.NoneTotal
import Derived.Shelf.SlGeneric
import Derived.Test.YtlenfiiocmchdaaGreatDoorProg
/- The shelf's map of facts, gone over: clone, Keys, All. -/
namespace Go.Proofs.YtlenfiiocmchdaaGreatDoor
open Go.RowKit Book Pap
attribute [local go_sem] Oper.semAt_some
set_option linter.unusedVariables false
set_option linter.unusedSimpArgs false

/-- a fact in memory -/
structure Fc where
  id : ByteArray
  h : Int
  pa : Option Addr
  pn : Nat
  pc : Nat
def noFc : Fc := ⟨⟨#[]⟩, 0, none, 0, 0⟩
def fcs (f : Fc) : List Value := [.string f.id, .int .i64 f.h, .slice f.pa f.pn f.pc]
def fvals (l : List Fc) : List Value := l.flatMap fcs
theorem fvals_length : ∀ l : List Fc, (fvals l).length = l.length * 3
  | [] => rfl
  | f :: r => by
    show (fcs f ++ fvals r).length = _
    rw [List.length_append, fvals_length r, List.length_cons]
    show 3 + _ = _; omega
theorem fvals_one (l : List Fc) : ∀ u ∈ fvals l, u.oneCell' = true := by
  intro u hu
  obtain ⟨f, _, hf⟩ := List.mem_flatMap.1 hu
  unfold fcs at hf
  simp only [List.mem_cons, List.not_mem_nil, or_false] at hf
  rcases hf with rfl | rfl | rfl <;> rfl
theorem fvals_get : ∀ (l : List Fc) (k j : Nat), k < l.length → j < 3 → (fvals l)[k * 3 + j]? = (fcs (l.getD k noFc))[j]?
  | [], k, j, h, _ => by cases h
  | f :: r, 0, j, _, hj => by
    show (fcs f ++ fvals r)[0 * 3 + j]? = _
    rw [Nat.zero_mul, Nat.zero_add, List.getElem?_append_left (by exact hj)]; rfl
  | f :: r, k + 1, j, h, hj => by
    show (fcs f ++ fvals r)[(k + 1) * 3 + j]? = _
    rw [List.getElem?_append_right (by show 3 ≤ _; omega)]
    have e : (k + 1) * 3 + j - (fcs f).length = k * 3 + j := by show _ - 3 = _; omega
    rw [e, fvals_get r k j (by simpa using h) hj]; rfl
theorem own_noneF (w : World) : (w.alloc (.cells #[] 94)).ownsRow w.heap.size 94 3 (.slice (some ⟨w.heap.size, 0, none⟩) 0 0) 0 [] :=
  ⟨rfl, .inr ⟨w.heap.size, 0, #[], rfl, Nat.le_refl _, by show (w.heap.push _)[w.heap.size]? = _; simp, Nat.le_refl _, by unfold maxLen; omega, rfl, rfl⟩⟩
set_option maxHeartbeats 4000000 in
set_option maxRecDepth 100000 in
/-- a copy of facts -/
theorem cloneF (v : Value) (fs : List Fc) (w : World) (hown : w.ownsRow 0 94 3 v fs.length (fvals fs)) (hn : fs.length ≤ 1048576) :
    Calls Tryz.prog 107 #[v] w fun e w' => ∃ v', e = .returned v' ∧ w'.ownsRow w.heap.size 94 3 v' fs.length (fvals fs) ∧ Below w.heap.size w w' := by
  obtain ⟨i0, hi0, hz0, hz1, hz2⟩ := info_parts Tryz.infoFact
  obtain ⟨n, hnl⟩ : ∃ n, fs.length = n := ⟨_, rfl⟩
  have hxl : (fvals fs).length = n * 3 := by rw [fvals_length, hnl]
  rw [hnl] at hown hn ⊢
  have h1 := fvals_one fs
  obtain ⟨xs, hxs⟩ : ∃ xs, fvals fs = xs := ⟨_, rfl⟩
  rw [hxs] at hown hxl h1 ⊢
  rcases hown.2 with ⟨rfl, rfl⟩ | ⟨g, cap, cur, rfl, hb, hg, hnc, hcm, hsz, htk⟩
  · obtain rfl : xs = [] := List.length_eq_zero_iff.1 (by omega)
    clear hown h1 hxl hxs hnl
    have hq : ∀ W : World, (binOp .eql 51 (.slice none 0 0) (.slice none 0 0)).run Tryz.prog W = .ok (.bool true) W := fun W => Go.run_eql_slice_nil W 51 94 none 0 0 Tryz.underlying51
    go_enter Tryz.func107, Tryz.ntmps107
    go_wp2
    go_ret
    exact ⟨_, rfl, World.ownsRow_nil _ _ _ _, Below.refl _ _⟩
  · unfold maxLen at hcm
    have hcells := hown.cells (g := g) rfl
    have hgl := (Array.getElem?_eq_some_iff.1 hg).1
    have HC : Hid (∀ j u, xs[j]? = some u → (w.alloc (.cells #[] 94)).cell? ((⟨g, 0, none⟩ : Addr).add j) = some u) := fun j u hu => by
      rw [World.cell?_alloc_lt w _ _ (by rw [Addr.add_lit]; exact hgl)]
      exact hcells j u hu
    have H1 := hid h1
    have HO := own_noneF w
    have HXL : Hid (xs.length = n * 3) := hxl
    have HN : Hid (0 + n = n) := by unfold Hid; omega
    clear hown h1 hxl hb hg hsz htk hcells hxs hnl
    have hq : ∀ W : World, (binOp .eql 51 (.slice (some ⟨g, 0, none⟩) n cap) (.slice none 0 0)).run Tryz.prog W = .ok (.bool false) W := fun W => Go.run_eql_slice_nil W 51 94 (some ⟨g, 0, none⟩) n cap Tryz.underlying51
    go_enter Tryz.func107, Tryz.ntmps107
    go_wp2_with (at_builtin; refine wpList_append_own_at _ rfl (.tmp 5) (.tmp 6) 51 rfl w.heap.size 94 i0 (.agg #[.string ⟨#[]⟩, .int .i64 0, .slice none 0 0]) 3 48 Tryz.underlying51 hi0 hz0 hz1 hz2 rfl (by decide) _ _ _ rfl HO _ n cap xs rfl HXL.out HC.out H1.out (by unfold maxLen; omega) (by omega) (by simp) ?_; intro v' w3 hown' hgrow _ hbk)
    go_ret
    refine ⟨_, rfl, ?_, ?_⟩
    · rw [HN.out] at hown'; exact hown'
    · exact ((Below.refl _ w).alloc (Nat.le_refl _) _).grown hgrow (by simp) (fun k hk => by cases hk; exact Nat.le_refl _)
/-- a map of facts in memory -/
def MapIsF (w : World) (m : Nat) (ks vs : Value) (l : List ByteArray) (fs : List Fc) : Prop :=
  Blk w m 177 #[ks, vs] ∧ w.ownsRow 0 9 1 ks l.length (svals l) ∧ w.ownsRow 0 94 3 vs fs.length (fvals fs) ∧ fs.length = l.length ∧ Rising l ∧ l.length ≤ 1000000
set_option maxHeartbeats 1000000 in
theorem keysF (m : Nat) (ks vs : Value) (l : List ByteArray) (fs : List Fc) (w : World) (h : MapIsF w m ks vs l fs) :
    Calls Tryz.prog 108 #[.pointer (some ⟨m, 0, none⟩)] w fun e w' => ∃ v, e = .returned v ∧ w'.ownsRow w.heap.size 9 1 v l.length (svals l) ∧ Below w.heap.size w w' := by
  obtain ⟨h1, h2, h3, h4, h5, h6⟩ := h
  have CC := hid (cloneStr ks l.length (svals l) w h2 (svals_one l) (by omega))
  obtain ⟨ka, kc, rfl, hS⟩ := own_strs h2 (by omega)
  have c0 := h1.cell 0
  simp at c0
  clear h1 h2 h3 h4 h5 hS
  go_enter Tryz.func108, Tryz.ntmps108
  go_wp2_with (go_at_call 86; refine CC.out.mono ?_; rintro e w1 ⟨v, rfl, h1, h2⟩)
  go_ret
  exact ⟨_, rfl, h1, h2⟩
theorem allF_any (q : Option Addr) (w : World) : Calls Tryz.prog 66 #[.pointer q] w fun e w' => e = .returned (.func (.func 106) #[] #[.pointer (some ⟨w.heap.size, 0, none⟩)]) ∧ w' = w.alloc (.cells #[.pointer q] 122) := by
  go_enter Tryz.func66, Tryz.ntmps66
  go_wp2
  go_ret
  exact ⟨rfl, rfl⟩
/-- cells from n₀ on stay -/
def KeepC (n₀ : Nat) (A B : World) : Prop := A.heap.size ≤ B.heap.size ∧ ∀ k C t fz, n₀ ≤ k → A.heap[k]? = some (.cells C t fz) → B.heap[k]? = some (.cells C t fz)
theorem keepC_t {n₀ : Nat} {A B C : World} (h : KeepC n₀ A B) (k : KeepC n₀ B C) : KeepC n₀ A C := ⟨Nat.le_trans h.1 k.1, fun i c t fz hi e => k.2 i c t fz hi (h.2 i c t fz hi e)⟩
theorem keepC_b {n₀ : Nat} {w : World} (W : World) (l : Nat) (o o' : Obj) (_ : w.heap.size ≤ l) (h : W.heap[l]? = some o) (hc : o.isCells = false) (_ : o.isWalk = false) : KeepC n₀ W (W.putObj l o') := by
  refine ⟨by simp, fun k C t fz hk e => ?_⟩
  by_cases hkl : k = l
  · subst hkl; rw [h] at e; injection e with e; subst e; simp [Obj.isCells] at hc
  · rw [World.putObj_heap_other hkl]; exact e
theorem keepC_refl (n₀ : Nat) (A : World) : KeepC n₀ A A := ⟨Nat.le_refl _, fun _ _ _ _ _ e => e⟩
theorem own_keepC {n₀ B e s n : Nat} {v : Value} {xs : List Value} {A W : World} (h : A.ownsRow B e s v n xs) (hB : n₀ ≤ B) (hk : KeepC n₀ A W) : W.ownsRow B e s v n xs := by
  refine ⟨h.1, h.2.imp id ?_⟩
  rintro ⟨g, cap, cur, hv, hb, hg, r⟩
  exact ⟨g, cap, cur, hv, hb, hk.2 _ _ _ _ (by omega) hg, r⟩


/-- what is handed to a round: the j-th name, the j-th fact -/
def encsF (l : List ByteArray) (fs : List Fc) (j : Fin l.length) : Array Value := #[.string (l.getD j.1 ByteArray.empty), .agg (fcs (fs.getD j.1 noFc)).toArray]
set_option maxRecDepth 100000 in
set_option maxHeartbeats 4000000 in
theorem allStopsF (n Bm m n₀ : Nat) (ks vs : Value) (l : List ByteArray) (ps : List Fc) (w : World) (hn : 1 ≤ n) (hq : w.cell? ⟨Bm, 0, none⟩ = some (.pointer (some ⟨m, 0, none⟩))) (hm : MapIsF w m ks vs l ps) (hn0 : n₀ ≤ w.heap.size) :
    SeqStopsK Fence.wide n Tryz.prog 106 #[.pointer (some ⟨Bm, 0, none⟩)] (encsF l ps) (KeepC n₀) (fun xs => xs = List.finRange l.length) (fun pre => pre <+: List.finRange l.length) l.length w := by
  intro L J Jx W hW hJ hJx hY h0
  have hqW : W.cell? ⟨Bm, 0, none⟩ = some (.pointer (some ⟨m, 0, none⟩)) := (hW.cell (p := ⟨Bm, 0, none⟩) (World.block_lt_of_cell? _ _ hq)).trans hq
  obtain ⟨b1, b2, b3, b4, b5, b6⟩ := hm
  have oW : Only NoF w W := Only.of_below hW _
  have hmW : MapIsF W m ks vs l ps := ⟨b1.only oW (fun e => e), own_only b2 oW (fun _ _ e => e), own_only b3 oW (fun _ _ e => e), b4, b5, b6⟩
  have CC := hid (cloneF vs ps W hmW.2.2.1 (by omega))
  have HK : Hid (∀ W1, Below W.heap.size W W1 → Calls Tryz.prog 108 #[.pointer (some ⟨m, 0, none⟩)] W1 fun e w' => ∃ v, e = .returned v ∧ w'.ownsRow W1.heap.size 9 1 v l.length (svals l) ∧ Below W1.heap.size W1 w') := fun W1 hb => by
    have o1 : Only NoF W W1 := Only.of_below hb _
    exact keysF m ks vs l ps W1 ⟨hmW.1.only o1 (fun e => e), own_only hmW.2.1 o1 (fun _ _ e => e), own_only hmW.2.2.1 o1 (fun _ _ e => e), b4, b5, b6⟩
  have c1 := hmW.1.cell 1
  simp at c1
  obtain ⟨va, vc, rfl, hvc⟩ := own_slice hmW.2.2.1
  have hHY := hid hY; have hHJ := hid hJ
  have hnW : n₀ ≤ W.heap.size := Nat.le_trans hn0 hW.size
  obtain ⟨zs, hzs⟩ : ∃ zs, List.finRange l.length = zs := ⟨_, rfl⟩
  have hzl : zs.length = l.length := by rw [← hzs, List.length_finRange]
  have HZ : Hid (∀ k, (hk : k < l.length) → ∃ h : k < zs.length, zs[k] = ⟨k, hk⟩) := fun k hk => ⟨by omega, by subst hzs; simp⟩
  rw [hzs]
  have HQM : Hid (∀ W1, Below W.heap.size W W1 → W1.cell? ⟨Bm, 0, none⟩ = some (.pointer (some ⟨m, 0, none⟩))) := fun W1 hb => (hb.cell (p := ⟨Bm, 0, none⟩) (World.block_lt_of_cell? _ _ hqW)).trans hqW
  have H0 := hid h0
  have hln : l.length ≤ 1000000 := b6
  have HB4 := hid b4
  have hpl : ps.length ≤ 1000000 := by omega
  have HZL := hid hzl
  clear hY hJ hJx hmW b1 b2 b3 b4 b5 oW hzs hW hq h0 hzl b6
  refine callsIn_of_wp Tryz.func106 rfl trivial ?_ rfl
  simp only [Tryz.ntmps106, List.size_toArray, List.length_cons, List.length_nil, Nat.reduceAdd, Nat.reduceSub, Array.replicate_succ, Array.replicate_zero, List.push_toArray, List.append_toArray, List.nil_append, List.cons_append]
  gi_wp2_with fail
  refine ⟨trivial, (callsIn_wide.2 CC.out).mono ?_⟩; rintro e W1 ⟨v1, rfl, o1, hb1⟩
  have q1 := HQM.out W1 hb1
  have HJ1 : Hid (J [] W1) := hHJ.out _ _ _ none H0.out ⟨hb1.os, hb1.tape, hb1.output, hb1.size, fun k hk _ => hb1.block k hk⟩ (fun _ e => by cases e)
  gi_wp2_with fail
  refine ⟨trivial, (callsIn_wide.2 (HK.out W1 hb1)).mono ?_⟩; rintro e W2 ⟨v2, rfl, o2, hb2⟩
  have HJ2 : Hid (J [] W2) := hHJ.out _ _ _ none HJ1.out ⟨hb2.os, hb2.tape, hb2.output, hb2.size, fun k hk _ => hb2.block k hk⟩ (fun _ e => by cases e)
  have V2 : W2.ownsRow W.heap.size 94 3 v1 ps.length (fvals ps) := own_only o1 (Only.of_below hb2 NoF) (fun _ _ e => e)
  obtain ⟨a2, c2, rfl, hac2⟩ := own_slice o2
  obtain ⟨a1, c1', rfl, hac1⟩ := own_slice V2
  have hb1s := hb1.size
  have HV2 := hid V2; have HN2 := hid o2
  clear V2 o2 o1 hb1 hb2
  gi_wp2_with fail
  gi_loopw [16] (fun i wr => ∃ (k : Nat) (pre : List (Fin l.length)), k ≤ l.length ∧ i = .int .i64 k ∧ Hid (pre = zs.take k) ∧ J pre wr ∧ KeepC n₀ W2 wr) (fun i _ => l.length - (intOf i).toNat)
  case atStart => exact ⟨0, [], Nat.zero_le _, rfl, rfl, HJ2.out, keepC_refl _ _⟩
  case round =>
    obtain ⟨k, pre, hk, rfl, HP, hJs, hkp⟩ := hrel
    by_cases hlt : k < l.length
    · obtain ⟨h3, he⟩ := HZ.out k hlt
      have h1 := hlt
      have h2 : k < ps.length := by rw [HB4.out]; exact hlt
      have ck : wr.ownsRow W1.heap.size 9 1 (.slice a2 l.length c2) l.length (svals l) := own_keepC HN2.out (by omega) hkp
      have cv : wr.ownsRow W.heap.size 94 3 (.slice a1 ps.length c1') ps.length (fvals ps) := own_keepC HV2.out hnW hkp
      obtain ⟨g2, d2, e2, _, _⟩ := ck.form (by omega)
      obtain ⟨g1, d1, e1, _, _⟩ := cv.form (by omega)
      injection e2 with e21 _ e22
      injection e1 with e11 _ e12
      subst e21 e22 e11 e12
      have hck := ck.cellAt k (by omega)
      have hcv0 := cv.cellAt (k * 3 + 0) (by omega)
      have hcv1 := cv.cellAt (k * 3 + 1) (by omega)
      have hcv2 := cv.cellAt (k * 3 + 2) (by omega)
      rw [fvals_get ps k 0 h2 (by omega)] at hcv0
      rw [fvals_get ps k 1 h2 (by omega)] at hcv1
      rw [fvals_get ps k 2 h2 (by omega)] at hcv2
      obtain ⟨fx, hfx⟩ : ∃ fx, ps.getD k noFc = fx := ⟨_, rfl⟩
      rw [hfx] at hcv0 hcv1 hcv2
      replace hcv0 : wr.cell? ⟨g1, k * 3, none⟩ = some (.string fx.id) := hcv0
      replace hcv1 : wr.cell? ⟨g1, k * 3 + 1, none⟩ = some (.int .i64 fx.h) := hcv1
      replace hcv2 : wr.cell? ⟨g1, k * 3 + 2, none⟩ = some (.slice fx.pa fx.pn fx.pc) := hcv2
      have x1 : (svals l)[k]? = some (.string l[k]) := by unfold svals; rw [List.getElem?_map, List.getElem?_eq_getElem h1]; rfl
      rw [x1] at hck
      obtain ⟨fn, tmps, assign, body, hy, hR⟩ := hHY.out pre ⟨k, hlt⟩ wr hJs (by rw [HP.out, List.length_take, HZL.out]; omega)
      have hpre : pre ++ [⟨k, hlt⟩] = zs.take (k + 1) := by
        rw [HP.out, ← he, List.take_append_getElem h3]
      unfold encsF at hy
      have y1 : l.getD k ByteArray.empty = l[k] := by rw [List.getD_eq_getElem?_getD, List.getElem?_eq_getElem h1]; rfl
      simp only [y1, hfx] at hy
      obtain ⟨nk, hnk⟩ : ∃ nk, l[k] = nk := ⟨_, rfl⟩
      rw [hnk] at hck x1
      rw [hnk] at hy
      unfold fcs at hy
      obtain ⟨j0, hj0⟩ : ∃ j0 : Fin l.length, ⟨k, hlt⟩ = j0 := ⟨_, rfl⟩
      rw [hj0] at hpre hR
      have HPR := hid hpre
      have hkp2 : k < ps.length := h2
      clear x1 he hpre hnk hfx hJs y1 hj0
      gi_wp2
      refine hR.mono ?_
      rintro e W3 (⟨rfl, hJ3, hk3⟩ | ⟨rfl, hJx3⟩)
      · have HJ3 := hid hJ3; have HK3 := hid hk3
        clear hJ3 hk3
        gi_wp2
        go_roundw
        case rel => exact ⟨k + 1, pre ++ [j0], by omega, by go_num, HPR.out, HJ3.out, keepC_t hkp HK3.out⟩
        case measure => simp [intOf]; omega
      · have HJ3 := hid hJx3
        clear hJx3
        gi_wp2
        refine bodyPost_ret (results_none rfl _ _ _) rfl ?_
        exact ⟨⟨_, rfl⟩, .inr ⟨pre ++ [j0], by rw [HPR.out]; exact List.take_prefix _ _, HJ3.out⟩⟩
    · obtain rfl : k = l.length := by omega
      have HPZ : Hid (pre = zs) := by unfold Hid; rw [HP.out, List.take_of_length_le (Nat.le_of_eq HZL.out)]
      gi_wp2
      go_end0
      exact ⟨⟨_, rfl⟩, .inl ⟨_, rfl, by rw [← HPZ.out]; exact hJs⟩⟩
end Go.Proofs.YtlenfiiocmchdaaGreatDoor
/- The graver one of two errors: worse. -/
namespace Go.Proofs.YtlenfiiocmchdaaGreatDoor
open Go.RowKit Book Pap Ojt Sn
set_option linter.unusedVariables false
set_option linter.unusedSimpArgs false

def worseZ (a b : Int) : Int := if a = 4 ∨ b = 4 then 4 else if a = 22 ∨ b = 22 then 22 else if a = 21 ∨ b = 21 then 21 else 0
def errs : List Int := [4, 22, 21]
def worseL (a b : Int) : List Int → Int
  | [] => 0
  | e :: r => if a = e ∨ b = e then e else worseL a b r
set_option maxRecDepth 100000 in
set_option maxHeartbeats 2000000 in
theorem worse_any (a b : Int) (w : World) : Calls Tryz.prog 64 #[.int .i64 a, .int .i64 b] w fun e w' => e = .returned (.int .i64 (worseZ a b)) ∧ Below w.heap.size w w' := by
  have HB0 : Hid (Below w.heap.size w (w.alloc (.cells #[.int .i64 4, .int .i64 22, .int .i64 21] 26))) := (Below.refl _ _).alloc (Nat.le_refl _) _
  have HX0 : Hid (Blk (w.alloc (.cells #[.int .i64 4, .int .i64 22, .int .i64 21] 26)) w.heap.size 26 #[.int .i64 4, .int .i64 22, .int .i64 21]) := Blk.new w _ _
  go_enter Tryz.func64, Tryz.ntmps64
  go_upto_region 2 with fail
  generalize (w.alloc (.cells #[.int .i64 4, .int .i64 22, .int .i64 21] 26)) = w1 at HB0 HX0 ⊢
  go_loopw [9] (fun iv wr => ∃ k : Nat, k ≤ 3 ∧ iv = .int .i64 k ∧ w1 = wr ∧ Hid (worseZ a b = worseL a b (errs.drop k))) (fun iv _ => 3 - (intOf iv).toNat)
  case atStart => exact ⟨0, by omega, rfl, rfl, rfl⟩
  case round =>
    obtain ⟨k, hk, rfl, rfl, HW⟩ := hrel
    by_cases hlt : k < 3
    · have ci : (k : Int) < 3 := by omega
      have ci0 : (0 : Int) ≤ (k : Int) := by omega
      obtain ⟨e, he⟩ : ∃ e, errs.getD k 0 = e := ⟨_, rfl⟩
      have q0 : w1.cell? ⟨w.heap.size, k, none⟩ = some (.int .i64 e) := by
        rw [Blk.cell HX0.out k]
        subst he
        rcases (by omega : k = 0 ∨ k = 1 ∨ k = 2) with rfl | rfl | rfl <;> rfl
      have HD : Hid (worseZ a b = if a = e ∨ b = e then e else worseL a b (errs.drop (k + 1))) := by
        show _ = _
        rw [HW.out]
        subst he
        rcases (by omega : k = 0 ∨ k = 1 ∨ k = 2) with rfl | rfl | rfl <;> rfl
      clear he HW
      by_cases ha : a = e
      · have HR : Hid (worseZ a b = e) := by show _ = _; rw [HD.out, if_pos (.inl ha)]
        subst ha
        clear HD
        go_wp2_with fail
        go_ret
        rw [HR.out]
        exact ⟨rfl, HB0.out⟩
      · have e1 : (a == e) = false := by simpa using ha
        by_cases hb : b = e
        · have HR : Hid (worseZ a b = e) := by show _ = _; rw [HD.out, if_pos (.inr hb)]
          subst hb
          clear HD
          go_wp2_with fail
          go_ret
          rw [HR.out]
          exact ⟨rfl, HB0.out⟩
        · have HR : Hid (worseZ a b = worseL a b (errs.drop (k + 1))) := by show _ = _; rw [HD.out, if_neg (by rintro (h | h); exact ha h; exact hb h)]
          have e2 : (b == e) = false := by simpa using hb
          clear HD
          go_wp2_with fail
          go_roundw
          case rel => first | exact ⟨k + 1, by omega, by go_num, by first | rfl | trivial, HR⟩ | ((repeat apply Exists.intro); exact ⟨⟨k + 1, by omega, by go_num, by first | rfl | trivial, HR⟩, rfl⟩)
          case measure => simp [intOf]; omega
    · obtain rfl : k = 3 := by omega
      have HR : Hid (worseZ a b = 0) := HW.out
      go_wp2_with fail
      go_ret
      rw [HR.out]
      exact ⟨rfl, HB0.out⟩
end Go.Proofs.YtlenfiiocmchdaaGreatDoor
/- A commit without parents: its facts. -/
namespace Go.Proofs.YtlenfiiocmchdaaGreatDoor
open Go.RowKit Book Pap Ojt Sn Go.Deep
attribute [local go_sem] Oper.semAt_some
set_option linter.unusedVariables false
set_option linter.unusedSimpArgs false

def lenV : Value → Nat
  | .slice _ n _ => n
  | _ => 0
theorem wpList_append_nothing {ops : Array Oper} {rest : List Oper} {o : Oper} {act : Act} {w : World} {Q : Exit → Act → World → Prop} (hgd : o.guard = none) (sx x : Operand)
    (ho : o.op = .call { callee := .builtin .append, args := #[sx, x], argTypes := #[56, 56] }) (a : Option Addr) (n c : Nat) (hs : act.eval sx = .slice a n c) (hn : n ≤ c)
    (a2 : Option Addr) (c2 : Nat) (hx : act.eval x = .slice a2 0 c2)
    (hK : wpList Tryz.prog ops Q rest (act.put o.dst (.slice a n c)) w) :
    wpList Tryz.prog ops Q (o :: rest) act w := by
  obtain ⟨i, hi, hz, hz1, hz2⟩ := info_parts Tryz.infoS
  refine wpList_plain hgd fun K hK' => ?_
  have hsrc : Src Tryz.prog i.size 56 (.slice a2 0 c2) 0 [] w := by
    cases a2 with
    | none => exact Src.ofNil w Tryz.underlying56 c2
    | some ad => exact Src.ofSlice w Tryz.underlying56 ad 0 c2 [] (by simp) (fun j u h => by cases h) (fun u h => by cases h)
  have hr := run_append_nothing w 56 56 o.type 9 i Tryz.underlying56 hi a n c hn (.slice a2 0 c2) hsrc
  unfold Oper.wp execOp
  simp only [ho, resolve, invoke, builtin, Sem.run_bind, Sem.run_pure, Result.andThen_ok, List.map_toArray, List.map_cons, List.map_nil, hs, hx, hr]
  exact hK' _ _ hK
/-- what the only fact of a commit without parents is -/
def OneFact (w : World) (id : ByteArray) (h : Int) (e : Ending) (w' : World) : Prop :=
  ∃ a c pa pc, e = .returned (.tuple #[.slice a 1 c, .int .i64 0]) ∧ w'.ownsRow w.heap.size 94 3 (.slice a 1 c) 1 (fvals [⟨id, h, pa, 0, pc⟩]) ∧ Below w.heap.size w w'
set_option maxRecDepth 100000 in
set_option maxHeartbeats 8000000 in
theorem factsR_any (t : TypeId) (rv : Value) (G : Sw.Src) (hz : SrcSz G) (id : ByteArray) (x : Ob) (hx : lookK G id 3 21 = (x, 0)) (hp : x.pars = []) (w : World) (hs : SrcAt w t rv G) :
    Calls Tryz.prog 22 #[.iface t rv, .string id] w (OneFact w id x.height) := by
  obtain ⟨tx, hG⟩ : ∃ tx, G id = some tx := by
    unfold lookK at hx
    cases hG : G id with
    | none => rw [hG] at hx; cases hx
    | some tx => exact ⟨tx, rfl⟩
  have HS := hid hs
  obtain ⟨f, r, hm, hen, hget⟩ := hs
  have HGT : Hid (Calls Tryz.prog f #[r, .string id] w fun e w' => e = .returned (.tuple #[.string tx, .bool true]) ∧ Below w.heap.size w w') := by
    have := hget id w (Below.refl _ _)
    unfold GetOut at this
    rw [hG] at this
    exact this
  have HX := hid hx
  have HPN := hid hp
  clear hget hx hp hG
  refine (callsIn_wide (n := 5)).1 ?_
  refine callsIn_of_wp_marks Tryz.func22 rfl trivial ?_ rfl
  simp only [Tryz.ntmps22, List.size_toArray, List.length_cons, List.length_nil, Nat.reduceAdd, Nat.reduceSub, Array.replicate_succ, Array.replicate_zero, List.push_toArray, List.append_toArray, List.nil_append, List.cons_append]
  refine wpIn_wide.2 ?_
  go_wp2_with fail
  refine HGT.out.mono ?_; rintro e w1 ⟨rfl, hb1⟩
  have HB1 := hid hb1
  have HN := hid (fnew_any w1)
  have hs1 := hb1.size
  clear hb1 HGT hm hen
  go_wp2_with fail
  refine HN.out.mono ?_; rintro e w2 ⟨rfl, hm2, hb2⟩
  have HB2 : Hid (Below w.heap.size w w2) := HB1.out.trans (hb2.mono hs1)
  have hml := Blk.lt hm2
  have hs2 : w.heap.size ≤ w2.heap.size := HB2.out.size
  have HM3 : Hid (FM0 (w2.alloc (.cells #[.string id] 9)) w1.heap.size) := Blk.alloc hm2 _
  have HT3 : Hid (Blk (w2.alloc (.cells #[.string id] 9)) w2.heap.size 9 #[.string id]) := Blk.new w2 _ _
  have HB3 : Hid (Below w.heap.size w (w2.alloc (.cells #[.string id] 9))) := HB2.out.alloc hs2 _
  clear hm2 hb2 HN HB2 HB1 hs2
  go_wp2_with fail
  obtain ⟨m, hmm⟩ : ∃ m, w1.heap.size = m := ⟨_, rfl⟩
  rw [hmm] at HM3 hml hs1 ⊢
  clear hmm
  generalize (w2.alloc (.cells #[.string id] 9)) = w3 at HM3 HT3 HB3 ⊢
  generalize w2.heap.size = g at HT3 hml ⊢
  go_loopw [9, 10] (fun wo td wr => wo = .int .i64 0 ∧ ((td = .slice (some ⟨g, 0, none⟩) 1 1 ∧ w3 = wr) ∨ (∃ ta, td = .slice ta 0 0 ∧ Hid (∃ kv fv pa pc, MapIsF wr m kv fv [id] [⟨id, x.height, pa, 0, pc⟩] ∧ Below w.heap.size w wr)))) (fun _ td _ => lenV td)
  case atStart => exact ⟨rfl, .inl ⟨rfl, rfl⟩⟩
  case round =>
    obtain ⟨rfl, ⟨rfl, rfl⟩ | ⟨ta, rfl, HF⟩⟩ := hrel
    · have q0 : w3.cell? ⟨g, 0, none⟩ = some (.string id) := Blk.cell HT3.out 0
      have HG := hid (fget0 m id w3 HM3.out)
      go_wp2_with fail
      refine HG.out.mono ?_; rintro e w4 ⟨rfl, hb4⟩
      have hs3 : w.heap.size ≤ w3.heap.size := HB3.out.size
      have HM5 : Hid (FM0 (w4.alloc (.cells #[.string ⟨#[]⟩, .int .i64 0, .slice none 0 0] 94)) m) := Blk.alloc ((hb4.block m (Blk.lt HM3.out)).trans HM3.out) _
      have HB5 : Hid (Below w.heap.size w (w4.alloc (.cells #[.string ⟨#[]⟩, .int .i64 0, .slice none 0 0] 94))) := (HB3.out.trans (hb4.mono hs3)).alloc (Nat.le_trans hs3 hb4.size) _
      clear hb4 HG q0
      go_upto_region 11 with fail
      generalize (w4.alloc (.cells #[.string ⟨#[]⟩, .int .i64 0, .slice none 0 0] 94)) = w5 at HM5 HB5 ⊢
      have HLK := hid (look_any t rv G id 3 21 w5 (HS.out.later HB5.out) hz)
      rw [HX.out] at HLK
      go_wp2_with fail
      refine HLK.out.mono ?_; rintro e w6 ⟨ev, pv, rfl, hO6, hb6, hf6⟩
      simp only at hO6 ⊢
      obtain ⟨ea, en, ec, pa, pn, pc, rfl, -, rfl, hps⟩ := hO6
      have hpn : pn = 0 := by have := hps.1; rw [HPN.out] at this; exact this.symm
      subst hpn
      have hs5 : w.heap.size ≤ w5.heap.size := HB5.out.size
      have HM7 : Hid (FM0 (w6.alloc (.cells (obCs x (.slice ea en ec) (.slice pa 0 pc)) 103)) m) := Blk.alloc ((hb6.block m (Blk.lt HM5.out)).trans HM5.out) _
      have HX7 : Hid (Blk (w6.alloc (.cells (obCs x (.slice ea en ec) (.slice pa 0 pc)) 103)) w6.heap.size 103 (obCs x (.slice ea en ec) (.slice pa 0 pc))) := Blk.new w6 _ _
      have HB7 : Hid (Below w.heap.size w (w6.alloc (.cells (obCs x (.slice ea en ec) (.slice pa 0 pc)) 103))) := (HB5.out.trans (hb6.mono hs5)).alloc (Nat.le_trans hs5 hb6.size) _
      have hm6 : m < w6.heap.size := Nat.lt_of_lt_of_le (Blk.lt HM5.out) hb6.size
      unfold obCs at HM7 HX7 HB7
      simp only [obCs]
      clear hps hb6 hf6 HLK HM5 HB5 hs5
      have HW := hid (worse_any 0 0)
      go_upto_region 13 with fail
      generalize (w6.alloc (.cells #[.int .i64 x.kind, .string x.data, .slice ea en ec, .string x.tree, .slice pa 0 pc, .int .i64 x.height, .string x.note] 103)) = w7 at HM7 HX7 HB7 ⊢
      generalize w6.heap.size = o7 at HX7 hm6 ⊢
      go_wp2_with fail
      refine (HW.out w7).mono ?_; rintro e w8 ⟨rfl, hb8⟩
      have hs7 : w.heap.size ≤ w7.heap.size := HB7.out.size
      have HM8 : Hid (FM0 w8 m) := (hb8.block m (Blk.lt HM7.out)).trans HM7.out
      have HX8 : Hid (Blk w8 o7 103 #[.int .i64 x.kind, .string x.data, .slice ea en ec, .string x.tree, .slice pa 0 pc, .int .i64 x.height, .string x.note]) := (hb8.block o7 (Blk.lt HX7.out)).trans HX7.out
      have HB8 : Hid (Below w.heap.size w w8) := HB7.out.trans (hb8.mono hs7)
      have e0 : worseZ 0 0 = 0 := rfl
      rw [e0]
      clear hb8 HM7 HX7 HB7 hs7 HW e0
      have k4 : w8.cell? ⟨o7, 4, none⟩ = some (.slice pa 0 pc) := Blk.cell HX8.out 4
      have k5 : w8.cell? ⟨o7, 5, none⟩ = some (.int .i64 x.height) := Blk.cell HX8.out 5
      have HPU := hid (fput0 m id id x.height pa 0 pc w8 HM8.out)
      go_wp2_with fail
      refine HPU.out.mono ?_; rintro e w9 ⟨kv, fv, rfl, hblk, hkv, hfv, honly⟩
      have hs8 : w.heap.size ≤ w8.heap.size := HB8.out.size
      have k4' : w9.cell? ⟨o7, 4, none⟩ = some (.slice pa 0 pc) := Blk.cell ((honly.block o7 (Blk.lt HX8.out) (fun e => by have e : o7 = m := e; omega)).trans HX8.out) 4
      have HEND : Hid (∃ kv fv pa pc, MapIsF w9 m kv fv [id] [⟨id, x.height, pa, 0, pc⟩] ∧ Below w.heap.size w w9) :=
        ⟨kv, fv, pa, pc, ⟨hblk, own_mono hkv (Nat.zero_le _), own_mono hfv (Nat.zero_le _), rfl, List.pairwise_singleton _ _, by simp⟩, HB8.out.trans (honly.below (fun k hk => by have hk : k = m := hk; omega) hs8)⟩
      clear hblk hkv hfv honly HPU HX8 HM8 HB8 k4 k5
      go_wp2_with (at_builtin; refine wpList_append_nothing rfl (.tmp 63) (.tmp 65) rfl _ 0 0 rfl (Nat.le_refl _) pa pc rfl ?_)
      go_roundw
      case rel => first | exact ⟨rfl, .inr ⟨_, rfl, HEND⟩⟩ | ((repeat apply Exists.intro); exact ⟨⟨rfl, .inr ⟨_, rfl, HEND⟩⟩, rfl⟩)
      case measure => simp [lenV]
    · obtain ⟨kv, fv, pa, pc, hmap, hbw⟩ := HF.out
      have hsr := hbw.size
      have HMP : Hid (MapIsF ((wr.alloc (.cells #[.slice none 0 0] 51)).alloc (.cells #[.pointer (some ⟨m, 0, none⟩)] 122)) m kv fv [id] [⟨id, x.height, pa, 0, pc⟩]) := by
        obtain ⟨b1, b2, b3, b4, b5, b6⟩ := hmap
        have o : Only NoF wr ((wr.alloc (.cells #[.slice none 0 0] 51)).alloc (.cells #[.pointer (some ⟨m, 0, none⟩)] 122)) := ((Only.refl NoF wr).alloc _).alloc _
        exact ⟨b1.only o (fun e => e), own_only b2 o (fun _ _ e => e), own_only b3 o (fun _ _ e => e), b4, b5, b6⟩
      have HBW : Hid (Below w.heap.size w ((wr.alloc (.cells #[.slice none 0 0] 51)).alloc (.cells #[.pointer (some ⟨m, 0, none⟩)] 122))) := (hbw.alloc hsr _).alloc (by rw [World.size_alloc]; omega) _
      have HBO : Hid (Boxed ((wr.alloc (.cells #[.slice none 0 0] 51)).alloc (.cells #[.pointer (some ⟨m, 0, none⟩)] 122)) wr.heap.size 51 (.slice none 0 0)) := (Boxed.new wr _ _).alloc _
      have HQ : Hid (((wr.alloc (.cells #[.slice none 0 0] 51)).alloc (.cells #[.pointer (some ⟨m, 0, none⟩)] 122)).cell? ⟨wr.heap.size + 1, 0, none⟩ = some (.pointer (some ⟨m, 0, none⟩))) := by
        have := (Blk.new (wr.alloc (.cells #[.slice none 0 0] 51)) 122 #[.pointer (some ⟨m, 0, none⟩)]).cell 0
        rw [World.size_alloc] at this
        exact this
      have CA := hid (allF_any (some ⟨m, 0, none⟩) (wr.alloc (.cells #[.slice none 0 0] 51)))
      clear hmap hbw HF
      go_wp2_with fail
      refine CA.out.mono ?_; rintro e W3 ⟨rfl, rfl⟩
      rw [World.size_alloc]
      generalize hW3 : ((wr.alloc (.cells #[.slice none 0 0] 51)).alloc (.cells #[.pointer (some ⟨m, 0, none⟩)] 122)) = W3 at HMP HBW HBO HQ ⊢
      have hz3 : W3.heap.size = wr.heap.size + 2 := by rw [← hW3, World.size_alloc, World.size_alloc]
      clear CA hW3
      go_wp2_with fail
      obtain ⟨F, hF⟩ : ∃ F : Fin ([id] : List ByteArray).length → Fc, F = fun j => ([⟨id, x.height, pa, 0, pc⟩] : List Fc).getD j.1 noFc := ⟨_, rfl⟩
      have HFF := hid hF
      clear hF
      have hown0 : W3.ownsRow w.heap.size 94 3 (.slice none 0 0) 0 [] := World.ownsRow_nil _ _ _ _
      refine (wpIn_wide (n := 5)).1 ?_
      generalize hA0 : Act.mk _ _ = A0
      refine wpIn_rangeFunc_ownH (F := Fence.wide) (n := 5) rfl (by omega) (gf := 106) (lb := #[.pointer (some ⟨wr.heap.size + 1, 0, none⟩)]) (by subst hA0; rfl) trivial (enters_of Tryz.func106 (by kernel_rfl) rfl)
        (allStopsF (5 - 1) (wr.heap.size + 1) m W3.heap.size kv fv [id] [⟨id, x.height, pa, 0, pc⟩] W3 (by omega) HQ.out HMP.out (Nat.le_refl _)) keepC_t keepC_b (Below.refl _ _) (fun _ => rfl)
        (fun pre W => (∃ v, Boxed W wr.heap.size 51 v ∧ W.ownsRow w.heap.size 94 3 v pre.length (fvals (pre.map F)) ∧ (pre = [] → v = .slice none 0 0)) ∧ Below w.heap.size w W)
        (fun _ _ _ => False)
        (OwnFrom.and (Own.from (holdsRow_own w.heap.size wr.heap.size 51 94 3 (fun pre : List (Fin ([id] : List ByteArray).length) => pre.length) (fun pre => fvals (pre.map F)) (fun pre v => pre = [] → v = .slice none 0 0)) _) (ownFrom_below (Nat.le_refl _) (by omega)))
        (fun _ _ _ _ _ hs _ _ => hs)
        ⟨⟨_, HBO.out, hown0, fun _ => rfl⟩, HBW.out⟩
        (fun y a' W => ∃ bx, Blk W bx 94 (fcs (F y)).toArray ∧ a' = { tmps := ((A0.tmps.setIfInBounds 72 (.string (([id] : List ByteArray).getD y.1 ByteArray.empty))).setIfInBounds 73 (.agg (fcs (F y)).toArray)).setIfInBounds 18 (.pointer (some ⟨bx, 0, none⟩)), defers := [] })
        (fun y a' _ X Y row hs hg hr => by
          obtain ⟨bx, h1, h2⟩ := hs
          refine ⟨bx, ?_, h2⟩
          have hne : some bx ≠ row := fun e => by
            obtain ⟨o, ho, hc⟩ := (hr bx e.symm).2
            rw [show X.heap[bx]? = _ from h1] at ho; cases ho; cases hc
          exact (hg.block bx (Blk.lt h1) hne).trans h1)
        ?assign ?body ?done ?stop
      case assign =>
        rintro l pre y W K ⟨⟨v, hv, hrow, hnil⟩, hB1⟩ hK
        have hy : ([⟨id, x.height, pa, 0, pc⟩] : List Fc).getD y.1 noFc = F y := by rw [HFF.out]
        unfold encsF
        rw [hy]
        unfold fcs
        obtain ⟨bx, hbx⟩ : ∃ bx, W.heap.size = bx := ⟨_, rfl⟩
        have HK := hid hK
        have HY := hid hy
        have HBX := hid hbx
        have HS1 := hid hB1.size
        clear hK hy
        subst hA0
        gi_wp2
        refine HK.out _ _ ((KeepsOthers.alloc _ _).from _) ⟨by simp, fun k C t fz hk e => (Below.heap_alloc W _ k (Array.getElem?_eq_some_iff.1 e).1).trans e⟩ ⟨⟨v, hv.alloc _, hrow.alloc _, hnil⟩, hB1.alloc HS1.out _⟩ ⟨bx, ?_, by simp [fcs]⟩
        have := Blk.new W 94 #[.string (F y).id, .int .i64 (F y).h, .slice (F y).pa (F y).pn (F y).pc]
        rw [HBX.out] at this
        exact this
      case body =>
        rintro l pre y a' W hl hlo ⟨⟨v, hv, hrow, hnil⟩, hB⟩ ⟨bx, hbx, rfl⟩ hlt
        have hpre : pre = [] := List.length_eq_zero_iff.1 (by have h : pre.length < 1 := hlt; omega)
        have hv0 := hnil hpre
        subst hv0
        obtain ⟨i0, hi0, hz0, hz1, hz2⟩ := info_parts Tryz.infoFact
        have k0 : W.cell? ⟨bx, 0, none⟩ = some (.string (F y).id) := Blk.cell hbx 0
        have k1 : W.cell? ⟨bx, 1, none⟩ = some (.int .i64 (F y).h) := Blk.cell hbx 1
        have k2 : W.cell? ⟨bx, 2, none⟩ = some (.slice (F y).pa (F y).pn (F y).pc) := Blk.cell hbx 2
        have hc := hv.cell
        have hfz := hv.frozen
        have hsz := hB.size
        subst hpre
        unfold fcs
        subst hA0
        have hrow' : W.ownsRow w.heap.size 94 3 (.slice none 0 0) 0 [] := World.ownsRow_nil _ _ _ _
        gi_wp2_with (gi_at_builtin; refine wpListIn_append_own _ rfl _ _ 51 rfl w.heap.size 94 i0 (.agg #[.string ⟨#[]⟩, .int .i64 0, .slice none 0 0]) 3 48 Tryz.underlying51 hi0 hz0 hz1 hz2 rfl (by decide) (.slice none 0 0) _ _ rfl (hrow'.alloc _) ⟨W.heap.size, 0, none⟩ 1 1 [.string (F y).id, .int .i64 (F y).h, .slice (F y).pa (F y).pn (F y).pc] rfl rfl (cellBlk3 (Blk.new _ _ _)) (one3 rfl rfl rfl) (by unfold maxLen; omega) (by omega) (by simp; omega) ?_; intro v' w1 hown' hgrow _; obtain ⟨g', cap', rfl⟩ := ownsRow_succ hown'; obtain ⟨hv1, hv2, hr2, hk2, hb2⟩ := hv.appended (by decide) hrow' hB.size hsr hown' hgrow; have hc1 := hv1.cell; have hf1 := hv1.frozen)
        refine ⟨hk2.from _, ⟨?_, fun k C t fz hk e => ?_⟩, ⟨_, hv2, hr2, fun h => by cases h⟩, hB.trans hb2⟩
        · have h1 := hgrow.size
          rw [World.size_alloc] at h1
          have h2 : (w1.setCell ⟨wr.heap.size, 0, none⟩ (.slice (some ⟨g', 0, none⟩) (0 + 1) cap')).heap.size = w1.heap.size := by simp [World.setCell]
          have h3 : W.heap.size ≤ (w1.setCell ⟨wr.heap.size, 0, none⟩ (.slice (some ⟨g', 0, none⟩) (0 + 1) cap')).heap.size := by omega
          exact h3
        · have hl := (Array.getElem?_eq_some_iff.1 e).1
          have e1 := (Below.heap_alloc W (.cells #[.string (F y).id, .int .i64 (F y).h, .slice (F y).pa (F y).pn (F y).pc] 94) k hl).trans e
          have e2 := (hgrow.block k (by rw [World.size_alloc]; omega) (by simp [Value.ownBlock])).trans e1
          exact (Below.heap_setCell _ _ _ k (fun e => by have e : k = wr.heap.size := e; omega)).trans e2
      case done =>
        rintro D xs W hD rfl ⟨⟨v, hv, hrow, -⟩, hB⟩ hK
        have hrow : W.ownsRow w.heap.size 94 3 v (0 + 1) (fvals [⟨id, x.height, pa, 0, pc⟩]) := by
          have h := hrow
          rw [HFF.out] at h
          exact h
        obtain ⟨g', cap', rfl⟩ := ownsRow_succ hrow
        have hc := hv.cell
        have hK2 := hid hK
        have HROW := hid hrow
        have HBB := hid hB
        subst hA0
        clear hK hrow hB
        go_wp2
        refine ⟨by simp, .inl ⟨_, _, rfl, run_takeDeferred hK2.out, ?_⟩⟩
        exact ⟨_, results_tmp2 rfl _ _ _, _, _, pa, pc, rfl, ownsRow_putObj HROW.out _ hK2.out rfl, HBB.out.trans (belowK_b (w := w) (Nat.le_refl _) W D _ _ (by omega) hK2.out rfl rfl)⟩
      case stop =>
        rintro D c pre W _ _ h _
        exact h.elim
end Go.Proofs.YtlenfiiocmchdaaGreatDoor
/- path.Compare: it lays blocks and turns nothing. -/
namespace Go.Proofs.YtlenfiiocmchdaaGreatDoor
open Go.RowKit Go.Sort Pap
set_option linter.unusedVariables false

/-- blocks laid; nothing else -/
def Lays (w w' : World) : Prop := ∃ os, w' = grow w os
theorem Lays.refl (w : World) : Lays w w := ⟨#[], by simp [grow]⟩
theorem Lays.trans {a b c : World} (h : Lays a b) (k : Lays b c) : Lays a c := by
  obtain ⟨os, rfl⟩ := h
  obtain ⟨ps, rfl⟩ := k
  exact ⟨os ++ ps, by simp [grow, Array.append_assoc]⟩
theorem Lays.alloc {a b : World} (h : Lays a b) (o : Obj) : Lays a (b.alloc o) := by
  obtain ⟨os, rfl⟩ := h
  exact ⟨os.push o, by simp [grow, World.alloc]⟩
theorem Lays.below {a b : World} (h : Lays a b) : Below a.heap.size a b := by
  obtain ⟨os, rfl⟩ := h
  exact ⟨rfl, rfl, rfl, by simp [grow], fun k hk => heap_grow_old _ _ hk⟩
set_option maxHeartbeats 1000000 in
theorem indexFunc_still (g : Nat) (lb : Array Value) (eg : ∀ args w, (callFunc g args).run Tryz.prog w = .ok (.enter g args) w) (p : ByteArray → Bool) (a : Option Addr) (n c : Nat) (l : List ByteArray) (w : World) (hS : StrsAt w a n l)
    (hp : ∀ x ∈ l, Calls Tryz.prog g (#[.string x] ++ lb) w fun e w' => e = .returned (.bool (p x)) ∧ w = w') :
    Calls Tryz.prog 221 #[.slice a n c, .func (.func g) #[] lb] w fun e w' => e = .returned (.int .i64 (idxP p l)) ∧ w = w' := by
  have hl := hS.1
  have hm := hS.2.1
  have HP := hid hp; clear hp
  go_enter Tryz.func221, Tryz.ntmps221
  go_wp2
  go_loopw [8] (fun i wr => ∃ k : Nat, k ≤ n ∧ i = .int .i64 k ∧ w = wr ∧ Hid (∀ j, j < k → p (l.getD j ByteArray.empty) = false)) (fun i _ => n - (intOf i).toNat)
  case atStart => exact ⟨0, by omega, rfl, rfl, fun j hj => absurd hj (Nat.not_lt_zero _)⟩
  case round =>
    obtain ⟨k, hk, rfl, rfl, HK⟩ := hrel
    by_cases hlt : k < n
    · have hSr := hS
      obtain ⟨b, off, rfl, hc⟩ := hSr.2.2.resolve_left (by omega)
      have hck := hc k hlt
      have hmem : l.getD k ByteArray.empty ∈ l := by rw [List.getD_eq_getElem?_getD, List.getElem?_eq_getElem (by omega)]; exact List.getElem_mem _
      obtain ⟨x, hx⟩ : ∃ x, l.getD k ByteArray.empty = x := ⟨_, rfl⟩
      rw [hx] at hck hmem
      have cS := HP.out x hmem
      have HXE := hid hx
      clear hx hc
      cases hpx : p x
      · rw [hpx] at cS
        have HPX := hid hpx; clear hpx
        have CS := hid cS; clear cS
        go_wp2_with (first | (go_at_fn g; refine CS.out.mono ?_; rintro e w1 ⟨rfl, rfl⟩))
        go_roundw
        case rel => exact ⟨k + 1, by omega, by go_num, by first | rfl | trivial, upto_succ HK.out (by rw [HXE.out]; exact HPX.out)⟩
        case measure => simp [intOf]; omega
      · rw [hpx] at cS
        have HR : Hid (idxP p l = (k : Int)) := idxP_hit (by omega) HK.out (by rw [HXE.out]; exact hpx)
        clear hpx
        have CS := hid cS; clear cS
        go_wp2_with (first | (go_at_fn g; refine CS.out.mono ?_; rintro e w1 ⟨rfl, rfl⟩))
        go_ret
        exact ⟨ret_int (by rw [HR.out]), rfl⟩
    · have HR : Hid (idxP p l = -1) := idxP_miss (fun j hj => HK.out j (by omega))
      go_wp2
      go_ret
      exact ⟨ret_int (by rw [HR.out]), rfl⟩
theorem containsFunc_still (g : Nat) (lb : Array Value) (eg : ∀ args w, (callFunc g args).run Tryz.prog w = .ok (.enter g args) w) (p : ByteArray → Bool) (a : Option Addr) (n c : Nat) (l : List ByteArray) (w : World) (hS : StrsAt w a n l)
    (hp : ∀ x ∈ l, Calls Tryz.prog g (#[.string x] ++ lb) w fun e w' => e = .returned (.bool (p x)) ∧ w = w') :
    Calls Tryz.prog 162 #[.slice a n c, .func (.func g) #[] lb] w fun e w' => e = .returned (.bool (l.any p)) ∧ w = w' := by
  have c := indexFunc_still g lb eg p a n c l w hS hp
  rw [← idxP_any]
  obtain ⟨I, hI⟩ : ∃ I, idxP p l = I := ⟨_, rfl⟩
  rw [hI] at c ⊢
  have C := hid c; clear c hI hp
  go_enter Tryz.func162, Tryz.ntmps162
  go_wp2_with (go_at_call 221; refine C.out.mono ?_; rintro e w1 ⟨rfl, rfl⟩)
  go_ret
  exact ⟨rfl, rfl⟩

set_option maxHeartbeats 1000000 in
set_option maxRecDepth 100000 in
theorem check_still (a : Option Addr) (n c : Nat) (l : List ByteArray) (w : World) (hS : StrsAt w a n l) :
    Calls Tryz.prog 99 #[.slice a n c] w fun e w' => e = .returned (.int .i64 (checkE (ls l))) ∧ w = w' := by
  have hl := hS.1
  have cc := containsFunc_still 160 #[] (fun args w => rfl) (fun x => !goodL x.data.toList) a n c l w hS
    (fun x _ => checkClos_any x w)
  by_cases h0 : n = 0
  · have HX : Hid (checkE (ls l) = 30) := by
      unfold Hid checkE; rw [if_pos (.inl (List.length_eq_zero_iff.1 (by rw [ls_length]; omega)))]
    have hb : ((n : Int) == 0) = true := by simp; omega
    clear cc
    go_enter Tryz.func99, Tryz.ntmps99
    go_wp2
    go_ret
    exact ⟨ret_int (by rw [HX.out]), rfl⟩
  · have hb : ((n : Int) == 0) = false := by simp; omega
    by_cases hany : l.any (fun x => !goodL x.data.toList) = true
    · have HX : Hid (checkE (ls l) = 30) := by unfold Hid checkE; rw [if_pos (.inr ((any_bad l).1 hany))]
      rw [hany] at cc
      have CC := hid cc; clear cc hany
      go_enter Tryz.func99, Tryz.ntmps99
      go_wp2_with (go_at_call 162; refine CC.out.mono ?_; rintro e w1 ⟨rfl, rfl⟩)
      go_ret
      exact ⟨ret_int (by rw [HX.out]), rfl⟩
    · have hf : l.any (fun x => !goodL x.data.toList) = false := by simpa using hany
      have hno : ¬ (ls l = [] ∨ ∃ x ∈ ls l, goodL x = false) := by
        rintro (h | h)
        · have := congrArg List.length h; rw [ls_length] at this; simp at this; rw [this] at hl; simp at hl; omega
        · exact hany ((any_bad l).2 h)
      rw [hf] at cc
      have CC := hid cc; clear cc hany hf
      by_cases h64 : 64 < n
      · have HX : Hid (checkE (ls l) = 33) := by unfold Hid checkE; rw [if_neg hno, if_pos (by rw [ls_length]; omega)]
        have hn : (64 : Int) < n := by omega
        clear hno
        go_enter Tryz.func99, Tryz.ntmps99
        go_wp2_with (go_at_call 162; refine CC.out.mono ?_; rintro e w1 ⟨rfl, rfl⟩)
        go_ret
        exact ⟨ret_int (by rw [HX.out]), rfl⟩
      · have HX : Hid (checkE (ls l) = 0) := by unfold Hid checkE; rw [if_neg hno, if_neg (by rw [ls_length]; omega)]
        have hn : ¬ (64 : Int) < n := by omega
        clear hno
        go_enter Tryz.func99, Tryz.ntmps99
        go_wp2_with (go_at_call 162; refine CC.out.mono ?_; rintro e w1 ⟨rfl, rfl⟩)
        go_ret
        exact ⟨ret_int (by rw [HX.out]), rfl⟩


set_option maxHeartbeats 1000000 in
theorem splitX_any (s : ByteArray) (w : World) (hs : s.size < 4294967281) (hm : MaxAt w) :
    Calls Tryz.prog 54 #[.string s] w fun e w' => ∃ v, e = .returned (.tuple #[v, .int .i64 (splitE s.data.toList)]) ∧ SplitsC s v w' ∧ Lays w w' := by
  obtain ⟨m, hm⟩ := hm
  have cS := Tryz.strings_Split s slash m w hs hm (by decide)
  have hlen : (Lib.splitB slash 0 (Lib.countB s slash) s).length = Lib.countB s slash + 1 := Lib.splitB_all slash (by decide) 0 _ s rfl
  have hls := splitB_pieces s
  have hcl := Lib.countB_le slash (by decide) s.size s (Nat.le_refl _)
  obtain ⟨l, hl⟩ : ∃ l, Lib.splitB slash 0 (Lib.countB s slash) s = l := ⟨_, rfl⟩
  rw [hl] at cS hlen hls
  obtain ⟨k, hk⟩ : ∃ k, Lib.countB s slash = k := ⟨_, rfl⟩
  rw [hk] at cS hlen hcl
  have hlm : l.length ≤ 9223372036854775807 := by omega
  have hS := strs_alloc w l 9 hlm
  have hbel : Lays w (w.alloc (.cells (l.map Value.string).toArray 9)) := Lays.alloc (Lays.refl _) _
  rw [← hlen] at cS
  obtain ⟨w1, hw1⟩ : ∃ w1, w.alloc (.cells (l.map Value.string).toArray 9) = w1 := ⟨_, rfl⟩
  rw [hw1] at cS hS hbel
  obtain ⟨q, hq⟩ : ∃ q, w.heap.size = q := ⟨_, rfl⟩
  have hS' := hS
  rw [hq] at cS hS
  have cC := check_still (some ⟨q, 0, none⟩) l.length l.length l w1 hS
  have hE : checkE (ls l) = splitE s.data.toList := by unfold splitE ls; rw [hls]
  rw [hE] at cC
  have HL : Hid (ls l = pieces s.data.toList) := hls
  obtain ⟨E, hEE⟩ : ∃ E, splitE s.data.toList = E := ⟨_, rfl⟩
  rw [hEE] at cC
  have HEE := hid hEE
  have CS := hid cS; have CC := hid cC
  clear cS cC hlen hls hl hk hcl hE hEE hw1 hm hS' hq
  by_cases h0 : E = 0
  · subst h0
    go_enter Tryz.func54, Tryz.ntmps54
    go_wp2_with (first
      | (go_at_call 98; refine CS.out.mono ?_; rintro e w2 ⟨rfl, hw⟩; obtain rfl := hw.symm)
      | (go_at_call 99; refine CC.out.mono ?_; rintro e w2 ⟨rfl, rfl⟩))
    go_ret2
    exact ⟨_, by rw [HEE.out]; rfl, ⟨_, l, rfl, hS, by unfold namesOf; rw [if_pos HEE.out]; exact HL.out, fun h => absurd HEE.out h⟩, hbel⟩
  · have e1 : (E != 0) = true := by simpa using h0
    have e2 : (E == 0) = false := by simpa using h0
    have H0 := hid h0; clear h0
    go_enter Tryz.func54, Tryz.ntmps54
    go_wp2_with (first
      | (go_at_call 98; refine CS.out.mono ?_; rintro e w2 ⟨rfl, hw⟩; obtain rfl := hw.symm)
      | (go_at_call 99; refine CC.out.mono ?_; rintro e w2 ⟨rfl, rfl⟩))
    go_ret2
    exact ⟨_, by rw [HEE.out]; rfl, ⟨none, [], rfl, ⟨rfl, by simp, .inl rfl⟩, by unfold namesOf; rw [if_neg (by rw [HEE.out]; exact H0.out)]; rfl, fun _ => rfl⟩, hbel⟩

set_option maxHeartbeats 1000000 in
theorem compareX_any (a b : ByteArray) (w : World) (ha : a.size < 4294967281) (hb : b.size < 4294967281) (hm : MaxAt w) :
    Calls Tryz.prog 37 #[.string a, .string b] w fun e w' => e = .returned (.int .i64 (compareR a.data.toList b.data.toList)) ∧ Lays w w' := by
  have HM := hid hm
  have HB := Lays.refl w
  have HT : True := trivial
  clear hm
  by_cases h1 : splitE a.data.toList = 0
  · by_cases h2 : splitE b.data.toList = 0
    · have HR : Hid (compareR a.data.toList b.data.toList = cmpP (pieces a.data.toList) (pieces b.data.toList)) := by unfold Hid compareR; rw [if_pos ⟨h1, h2⟩]
      have H1 := hid h1
      have H2 := hid h2
      have f1 : (splitE a.data.toList != 0) = false := by simp [h1]
      have f2 : (splitE b.data.toList != 0) = false := by simp [h2]
      clear h1 h2
      go_enter Tryz.func37, Tryz.ntmps37
      go_wp2_with (first
        | (go_at_call 54; refine (splitX_any _ _ (by assumption) (HM.out.later HB.below)).mono ?_; rintro e w1 ⟨v, rfl, hv, hb1⟩; replace HB := Lays.trans HB hb1; replace HT := And.intro HT (And.intro (hid hv) (hid hb1)); clear hv hb1)
        | (go_at_call 80; obtain ⟨⟨-, K1, B1⟩, K2, B2⟩ := HT; obtain ⟨p1, l1, rfl, hs1, hn1, -⟩ := K1.out; obtain ⟨p2, l2, rfl, hs2, hn2, -⟩ := K2.out
           refine (slicesCompare_any _ _ _ _ _ _ _ _ _ (hs1.later B2.out.below) hs2).mono ?_; rintro e w3 ⟨rfl, rfl⟩))
      go_ret
      exact ⟨ret_int (by rw [HR.out]; unfold namesOf; rw [if_pos H1.out, if_pos H2.out]), HB⟩
    · have HR : Hid (compareR a.data.toList b.data.toList = 0) := by unfold Hid compareR; rw [if_neg (fun e => h2 e.2)]
      have f1 : (splitE a.data.toList != 0) = false := by simp [h1]
      have f2 : (splitE b.data.toList != 0) = true := by simp [h2]
      clear h1 h2
      go_enter Tryz.func37, Tryz.ntmps37
      go_wp2_with (go_at_call 54; refine (splitX_any _ _ (by assumption) (HM.out.later HB.below)).mono ?_; rintro e w1 ⟨v, rfl, hv, hb1⟩; replace HB := Lays.trans HB hb1; clear hv hb1)
      go_ret
      exact ⟨ret_int (by rw [HR.out]), HB⟩
  · have HR : Hid (compareR a.data.toList b.data.toList = 0) := by unfold Hid compareR; rw [if_neg (fun e => h1 e.1)]
    have f1 : (splitE a.data.toList != 0) = true := by simp [h1]
    clear h1
    go_enter Tryz.func37, Tryz.ntmps37
    go_wp2_with (go_at_call 54; refine (splitX_any _ _ (by assumption) (HM.out.later HB.below)).mono ?_; rintro e w1 ⟨v, rfl, hv, hb1⟩; replace HB := Lays.trans HB hb1; clear hv hb1)
    go_ret
    exact ⟨ret_int (by rw [HR.out]), HB⟩


end Go.Proofs.YtlenfiiocmchdaaGreatDoor
/- Own slices of structs sorted by a function. -/
namespace Go.Proofs.YtlenfiiocmchdaaGreatDoor
open Go.RowKit Go.Sort Go.Shelf
set_option linter.unusedVariables false
set_option linter.unusedSimpArgs false

section
variable {α : Type} [Inhabited α]
theorem flat_get (enc : α → List Value) (k : Nat) (hk0 : 0 < k) (hk : ∀ x, (enc x).length = k) : ∀ (l : List α) (j : Nat), j < l.length * k → (l.flatMap enc)[j]! = (enc (l[j / k]!))[j % k]!
  | [], j, h => by simp at h
  | a :: r, j, h => by
    rw [List.flatMap_cons]
    by_cases hj : j < k
    · have e1 : j / k = 0 := Nat.div_eq_of_lt hj
      have e2 : j % k = j := Nat.mod_eq_of_lt hj
      rw [e1, e2]
      have hja : j < (enc a).length := by rw [hk]; exact hj
      rw [getElem!_pos _ j (by rw [List.length_append]; omega), List.getElem_append_left hja]
      simp [hja]
    · obtain ⟨i, rfl⟩ : ∃ i, j = k + i := ⟨j - k, by omega⟩
      have hr : i < r.length * k := by rw [List.length_cons, Nat.succ_mul] at h; omega
      have ih := flat_get enc k hk0 hk r i hr
      have e1 : (k + i) / k = i / k + 1 := by rw [Nat.add_comm, Nat.add_div_right _ hk0]
      have e2 : (k + i) % k = i % k := by rw [Nat.add_mod_left]
      rw [e1, e2]
      have hlen : i < (r.flatMap enc).length := by
        have : (r.flatMap enc).length = r.length * k := by
          clear ih hr h e1 e2
          induction r with
          | nil => simp
          | cons b t ih => rw [List.flatMap_cons, List.length_append, hk, ih, List.length_cons, Nat.succ_mul]; omega
        omega
      rw [getElem!_pos _ (k + i) (by rw [List.length_append, hk]; omega), List.getElem_append_right (by rw [hk]; omega)]
      rw [getElem!_pos _ i hlen] at ih
      have e3 : (a :: r)[i / k + 1]! = r[i / k]! := rfl
      rw [e3, ← ih]
      congr 1
      rw [hk]; omega
theorem flat_len {β : Type} (enc : β → List Value) (k : Nat) (hk : ∀ x, (enc x).length = k) : ∀ l : List β, (l.flatMap enc).length = l.length * k
  | [] => by simp
  | b :: t => by rw [List.flatMap_cons, List.length_append, hk, flat_len enc k hk t, List.length_cons, Nat.succ_mul]; omega
theorem flatK_eq (enc : α → List Value) (k : Nat) (hk0 : 0 < k) (hk : ∀ x, (enc x).length = k) (d : Array α) : flatK enc k d = (d.toList.flatMap enc).toArray := by
  refine ext_get! (by simp [flat_len enc k hk]) fun t ht => ?_
  have ht' : t < d.size * k := by simpa using ht
  have hq : t / k < d.size := Nat.div_lt_of_lt_mul (by rw [Nat.mul_comm]; exact ht')
  have h := flat_get enc k hk0 hk d.toList t (by simpa using ht')
  rw [get_flatK _ _ _ t ht']
  have e1 : (d.toList.flatMap enc).toArray[t]! = (d.toList.flatMap enc)[t]! := by simp
  rw [e1, h]
  simp [hq]
theorem own_sortedK {w : World} {B g n cap k q : Nat} {e : TypeId} {xs ys : List Value} {os : Array Obj} (h : w.ownsRow B e k (.slice (some ⟨g, 0, none⟩) n cap) n xs) (hy : ys.length = n * k) :
    (grow (putRow id (Sort.ahead w q) g 0 ys.toArray) os).ownsRow B e k (.slice (some ⟨g, 0, none⟩) n cap) n ys := by
  rcases h.2 with ⟨e0, _⟩ | ⟨g', cap', cur, e0, hb, hg, hn, hm, hs, ht⟩
  · cases e0
  · injection e0 with e1 _ e3
    injection e1 with e1
    injection e1 with e1
    subst e1; subst e3
    have hlt : g < w.heap.size := (Array.getElem?_eq_some_iff.1 hg).1
    refine ⟨hy, .inr ⟨g, cap, putCells id 0 ys.toArray cur, rfl, hb, ?_, hn, hm, by simpa [putCells] using hs, ?_⟩⟩
    · rw [heap_grow_old _ _ (by simpa [putRow, mapBlock, Sort.ahead] using hlt)]
      simp [putRow, mapBlock, Sort.ahead, Array.getElem?_modify, hg, onCells]
    · have hle : n * k ≤ cur.size := by rw [hs]; exact Nat.mul_le_mul_right _ hn
      apply List.ext_getElem?
      intro j
      rw [List.getElem?_take, Array.getElem?_toList]
      by_cases hj : j < n * k
      · have hjc : j < cur.size := by omega
        simp only [if_pos hj, putCells, Array.getElem?_mapIdx, Array.getElem?_eq_getElem hjc, Option.map_some]
        rw [if_pos (by simp; omega), List.getElem?_eq_getElem (by omega)]
        simp [getElem!_pos, show j < ys.length by omega]
      · rw [if_neg hj, List.getElem?_eq_none (by omega)]
theorem holds_flat {w : World} {B g n cap k : Nat} {e : TypeId} {xs : List Value} (h : w.ownsRow B e k (.slice (some ⟨g, 0, none⟩) n cap) n xs) : Holds id w g 0 xs.toArray := by
  rcases h.2 with ⟨e0, _⟩ | ⟨g', cap', cur, e0, hb, hg, hn, hm, hs, ht⟩
  · cases e0
  · injection e0 with e1 _ e3
    injection e1 with e1
    injection e1 with e1
    subst e1
    intro j hj
    have hj' : j < xs.length := by simpa using hj
    refine ⟨?_, by simp [World.frozen?, hg]⟩
    have e1 : (cur.toList.take (n * k))[j]? = xs[j]? := by rw [ht]
    have hl := h.1
    rw [List.getElem?_take, if_pos (by omega), Array.getElem?_toList, List.getElem?_eq_getElem hj'] at e1
    simp only [World.cell?, hg, Nat.zero_add]
    simp only [Option.isSome_none, Bool.false_eq_true, if_false]
    rw [e1]
    simp [getElem!_pos, hj']
theorem grownBy_sortedK {w : World} {g n : Nat} {os : Array Obj} (d : Array Value) : w.grownBy (grow (putRow id (Sort.ahead w n) g 0 d) os) (some g) := by
  refine ⟨rfl, rfl, rfl, by simp, fun k hk hne => ?_⟩
  rw [heap_grow_old _ _ (by simpa using hk)]
  have : g ≠ k := fun e => hne (by rw [e])
  simp [putRow, mapBlock, Sort.ahead, Array.getElem?_modify, this]
/-- what sorting by a function leaves of an own slice of structs -/
def SortKOut (B : Nat) (e0 : TypeId) (k : Nat) (enc : α → List Value) (w : World) (v : Value) (n : Nat) (l : List α) (e : Ending) (w' : World) : Prop :=
  e = .returned (.tuple #[]) ∧ w'.ownsRow B e0 k v n (l.flatMap enc) ∧ w.grownBy w' v.ownBlock
theorem sortK_own {P : Program} {ρ : Ren} (L : SlLaysF0.n6 P ρ) (k : Nat) (hk0 : 0 < k) (aE : ∀ w, (isAgg (ρ.t 24)).run P w = .ok true w) (zE : ∀ w, (Go.sizeOf (ρ.t 24)).run P w = .ok k w)
    (enc : α → List Value) (hk : ∀ x, (enc x).length = k) (h1 : ∀ x, ∀ v ∈ enc x, v.oneCell' = true) (cf : α → α → Int) (hO : SWO (ltOf cf)) (hT : ∀ x y, (ltOf cf) x y = false → (ltOf cf) y x = false → x = y) (g : Nat) (cb : Array Value) (B n : Nat) (v : Value) (l : List α) (w : World)
    (eg : ∀ args w, (callFunc g args).run P w = .ok (.enter g args) w) (hcmp : ∀ W, w.grownBy W v.ownBlock → ∀ x y : α, Calls P g (#[.agg (enc x).toArray, .agg (enc y).toArray] ++ cb) W fun e w' => e = .returned (.int .i64 (cf x y)) ∧ ∃ q os', w' = grow (W.drewN q) os')
    (h : w.ownsRow B (ρ.t 24) k v n (l.flatMap enc)) (hn : n ≤ 1000000) :
    Calls P (ρ.f 6) #[v, .func (.func g) #[] cb] w (SortKOut B (ρ.t 24) k enc w v n (l.mergeSort fun x y => !(ltOf cf) y x)) := by
  have hl : l.length = n := by
    have := h.1
    rw [flat_len enc k hk] at this
    exact Nat.eq_of_mul_eq_mul_right hk0 this
  have h0 := h
  rcases h.2 with ⟨rfl, hz⟩ | ⟨gb, cap, cur, rfl, hb, hg, hn1, hc, hs, ht⟩
  · subst hz
    have hl0 : l = [] := List.length_eq_zero_iff.1 hl
    subst hl0
    refine (AnyF.slices_SortFunc_none L none 0 _ w).mono ?_
    rintro e w' ⟨rfl, rfl⟩
    refine ⟨rfl, ?_, ⟨rfl, rfl, rfl, Nat.le_refl _, fun _ _ _ => rfl⟩⟩
    rw [List.mergeSort_nil]; exact World.ownsRow_nil _ _ _ _
  · have hlt : gb < w.heap.size := (Array.getElem?_eq_some_iff.1 hg).1
    have hH : HoldsK enc k w gb 0 l.toArray := by
      unfold HoldsK
      rw [flatK_eq enc k hk0 hk]
      exact holds_flat h0
    have hsz : l.toArray.size = n := by simpa using hl
    have hS := AnyQ.slices_SortFunc_total L k aE zE enc hk h1 cf hO g cb gb 0 cap l.toArray w eg (fun m os dk hdk x y => hcmp _ (by unfold sortWorldK putRowK; exact grownBy_sortedK _) x y) hH hlt (by rw [hsz]; omega) hT
    rw [hsz] at hS
    refine hS.mono ?_
    rintro e w' ⟨rfl, q, os, rfl⟩
    unfold sortWorldK putRowK
    rw [flatK_eq enc k hk0 hk]
    refine ⟨rfl, own_sortedK h0 ?_, grownBy_sortedK _⟩
    rw [flat_len enc k hk]
    simp [List.length_mergeSort, hl]
end
end Go.Proofs.YtlenfiiocmchdaaGreatDoor
/-
  DERIVED: THE SHELF's CONTRACTS AT THIS DUMP, IN PLAIN WORDS (tools/lay-plain.mjs out of 'TryzLayT.lean', which tools/lay-shelf.mjs wrote): THE SAME DECLARATIONS UNDER THE SAME NAMES: 'import', 'namespace', 'open', 'def', 'theorem' AND NOTHING ELSE: no command of the shelf's: FOR A HAND-IN. Each laying: the table of numbers ('.._ren') and one theorem, a field a fact of the dump's own or the kernel's comparison; each contract: ONE APPLICATION.
-/
namespace Go.Proofs
open Go.Shelf
def Tryz.sortF58_ren : Go.Shelf.Ren := ⟨fun | 6 => 58 | 15 => 102 | 14 => 101 | 28 => 171 | 29 => 172 | 20 => 163 | 21 => 164 | 22 => 165 | 23 => 166 | 24 => 167 | 25 => 168 | 26 => 169 | 27 => 170 | 46 => 222 | 47 => 223 | 48 => 224 | 49 => 225 | 50 => 226 | 57 => 252 | n => n, fun | 22 => 45 | 24 => 50 | 25 => 120 | 3 => 3 | 39 => 64 | 0 => 0 | 53 => 207 | 55 => 246 | 4 => 4 | 46 => 239 | 45 => 238 | 50 => 149 | 5 => 5 | 9 => 9 | 66 => 285 | 70 => 289 | 76 => 310 | 77 => 311 | n => n, fun | n => n⟩
theorem Tryz.sortF58 : Go.Proofs.SlLaysF0.n6 Tryz.prog Tryz.sortF58_ren := {
  mixed := by kernel_rfl
  f6 := ⟨Tryz.f58.name, by decide, Tryz.func58.trans (congrArg some (by kernel_rfl))⟩
  f14 := ⟨Tryz.f101.name, by decide, Tryz.func101.trans (congrArg some (by kernel_rfl))⟩
  f15 := Tryz.func102.trans (congrArg some (by kernel_rfl))
  f20 := ⟨Tryz.f163.name, by decide, Tryz.func163.trans (congrArg some (by kernel_rfl))⟩
  f21 := ⟨Tryz.f164.name, by decide, Tryz.func164.trans (congrArg some (by kernel_rfl))⟩
  f22 := ⟨Tryz.f165.name, by decide, Tryz.func165.trans (congrArg some (by kernel_rfl))⟩
  f23 := ⟨Tryz.f166.name, by decide, Tryz.func166.trans (congrArg some (by kernel_rfl))⟩
  f24 := ⟨Tryz.f167.name, by decide, Tryz.func167.trans (congrArg some (by kernel_rfl))⟩
  f25 := ⟨Tryz.f168.name, by decide, Tryz.func168.trans (congrArg some (by kernel_rfl))⟩
  f26 := ⟨Tryz.f169.name, by decide, Tryz.func169.trans (congrArg some (by kernel_rfl))⟩
  f27 := ⟨Tryz.f170.name, by decide, Tryz.func170.trans (congrArg some (by kernel_rfl))⟩
  f28 := Tryz.func171.trans (congrArg some (by kernel_rfl))
  f29 := Tryz.func172.trans (congrArg some (by kernel_rfl))
  f46 := ⟨Tryz.f222.name, by decide, Tryz.func222.trans (congrArg some (by kernel_rfl))⟩
  f47 := Tryz.func223.trans (congrArg some (by kernel_rfl))
  f48 := Tryz.func224.trans (congrArg some (by kernel_rfl))
  f49 := ⟨Tryz.f225.name, by decide, Tryz.func225.trans (congrArg some (by kernel_rfl))⟩
  f50 := ⟨Tryz.f226.name, by decide, Tryz.func226.trans (congrArg some (by kernel_rfl))⟩
  f57 := ⟨Tryz.f252.name, by decide, Tryz.func252.trans (congrArg some (by kernel_rfl))⟩
  t0 := Tryz.underlying0
  a0 := Tryz.isAgg0
  z0 := Tryz.sizeOf0
  v0 := Tryz.zeroValue0
  t3 := Tryz.underlying3
  a3 := Tryz.isAgg3
  z3 := Tryz.sizeOf3
  v3 := Tryz.zeroValue3
  t4 := Tryz.underlying4
  a4 := Tryz.isAgg4
  z4 := Tryz.sizeOf4
  v4 := Tryz.zeroValue4
  t5 := Tryz.underlying5
  a5 := Tryz.isAgg5
  z5 := Tryz.sizeOf5
  v5 := Tryz.zeroValue5
  t9 := Tryz.underlying9
  a9 := Tryz.isAgg9
  z9 := Tryz.sizeOf9
  v9 := Tryz.zeroValue9
  t22 := Tryz.underlying45
  a22 := Tryz.isAgg45
  z22 := Tryz.sizeOf45
  v22 := Tryz.zeroValue45
  t25 := Tryz.underlying120
  a25 := Tryz.isAgg120
  z25 := Tryz.sizeOf120
  v25 := Tryz.zeroValue120
  t39 := Tryz.underlying64
  a39 := Tryz.isAgg64
  z39 := Tryz.sizeOf64
  v39 := Tryz.zeroValue64
  t45 := Tryz.underlying238
  a45 := Tryz.isAgg238
  z45 := Tryz.sizeOf238
  v45 := Tryz.zeroValue238
  t46 := Tryz.underlying239
  a46 := Tryz.isAgg239
  z46 := Tryz.sizeOf239
  v46 := Tryz.zeroValue239
  t50 := Tryz.underlying149
  a50 := Tryz.isAgg149
  z50 := Tryz.sizeOf149
  v50 := Tryz.zeroValue149
  t53 := Tryz.underlying207
  a53 := Tryz.isAgg207
  z53 := Tryz.sizeOf207
  v53 := Tryz.zeroValue207
  t55 := Tryz.underlying246
  a55 := Tryz.isAgg246
  z55 := Tryz.sizeOf246
  v55 := Tryz.zeroValue246
  t66 := Tryz.underlying285
  a66 := Tryz.isAgg285
  z66 := Tryz.sizeOf285
  v66 := Tryz.zeroValue285
  t70 := Tryz.underlying289
  a70 := Tryz.isAgg289
  z70 := Tryz.sizeOf289
  v70 := Tryz.zeroValue289
  t76 := Tryz.underlying310
  a76 := Tryz.isAgg310
  z76 := Tryz.sizeOf310
  v76 := Tryz.zeroValue310
  t77 := Tryz.underlying311
  a77 := Tryz.isAgg311
  z77 := Tryz.sizeOf311
  v77 := Tryz.zeroValue311 }
def Tryz.sortF175_ren : Go.Shelf.Ren := ⟨fun | 6 => 175 | 15 => 102 | 14 => 228 | 28 => 171 | 29 => 172 | 20 => 254 | 21 => 255 | 22 => 256 | 23 => 257 | 24 => 258 | 25 => 259 | 26 => 260 | 27 => 261 | 46 => 281 | 47 => 223 | 48 => 224 | 49 => 282 | 50 => 283 | 57 => 289 | n => n, fun | 22 => 51 | 24 => 94 | 25 => 170 | 3 => 3 | 39 => 64 | 0 => 0 | 53 => 207 | 55 => 246 | 4 => 4 | 46 => 239 | 45 => 238 | 50 => 149 | 5 => 5 | 9 => 9 | 66 => 285 | 70 => 289 | 76 => 310 | 77 => 311 | n => n, fun | n => n⟩
theorem Tryz.sortF175 : Go.Proofs.SlLaysF0.n6 Tryz.prog Tryz.sortF175_ren := {
  mixed := by kernel_rfl
  f6 := ⟨Tryz.f175.name, by decide, Tryz.func175.trans (congrArg some (by kernel_rfl))⟩
  f14 := ⟨Tryz.f228.name, by decide, Tryz.func228.trans (congrArg some (by kernel_rfl))⟩
  f15 := Tryz.func102.trans (congrArg some (by kernel_rfl))
  f20 := ⟨Tryz.f254.name, by decide, Tryz.func254.trans (congrArg some (by kernel_rfl))⟩
  f21 := ⟨Tryz.f255.name, by decide, Tryz.func255.trans (congrArg some (by kernel_rfl))⟩
  f22 := ⟨Tryz.f256.name, by decide, Tryz.func256.trans (congrArg some (by kernel_rfl))⟩
  f23 := ⟨Tryz.f257.name, by decide, Tryz.func257.trans (congrArg some (by kernel_rfl))⟩
  f24 := ⟨Tryz.f258.name, by decide, Tryz.func258.trans (congrArg some (by kernel_rfl))⟩
  f25 := ⟨Tryz.f259.name, by decide, Tryz.func259.trans (congrArg some (by kernel_rfl))⟩
  f26 := ⟨Tryz.f260.name, by decide, Tryz.func260.trans (congrArg some (by kernel_rfl))⟩
  f27 := ⟨Tryz.f261.name, by decide, Tryz.func261.trans (congrArg some (by kernel_rfl))⟩
  f28 := Tryz.func171.trans (congrArg some (by kernel_rfl))
  f29 := Tryz.func172.trans (congrArg some (by kernel_rfl))
  f46 := ⟨Tryz.f281.name, by decide, Tryz.func281.trans (congrArg some (by kernel_rfl))⟩
  f47 := Tryz.func223.trans (congrArg some (by kernel_rfl))
  f48 := Tryz.func224.trans (congrArg some (by kernel_rfl))
  f49 := ⟨Tryz.f282.name, by decide, Tryz.func282.trans (congrArg some (by kernel_rfl))⟩
  f50 := ⟨Tryz.f283.name, by decide, Tryz.func283.trans (congrArg some (by kernel_rfl))⟩
  f57 := ⟨Tryz.f289.name, by decide, Tryz.func289.trans (congrArg some (by kernel_rfl))⟩
  t0 := Tryz.underlying0
  a0 := Tryz.isAgg0
  z0 := Tryz.sizeOf0
  v0 := Tryz.zeroValue0
  t3 := Tryz.underlying3
  a3 := Tryz.isAgg3
  z3 := Tryz.sizeOf3
  v3 := Tryz.zeroValue3
  t4 := Tryz.underlying4
  a4 := Tryz.isAgg4
  z4 := Tryz.sizeOf4
  v4 := Tryz.zeroValue4
  t5 := Tryz.underlying5
  a5 := Tryz.isAgg5
  z5 := Tryz.sizeOf5
  v5 := Tryz.zeroValue5
  t9 := Tryz.underlying9
  a9 := Tryz.isAgg9
  z9 := Tryz.sizeOf9
  v9 := Tryz.zeroValue9
  t22 := Tryz.underlying51
  a22 := Tryz.isAgg51
  z22 := Tryz.sizeOf51
  v22 := Tryz.zeroValue51
  t25 := Tryz.underlying170
  a25 := Tryz.isAgg170
  z25 := Tryz.sizeOf170
  v25 := Tryz.zeroValue170
  t39 := Tryz.underlying64
  a39 := Tryz.isAgg64
  z39 := Tryz.sizeOf64
  v39 := Tryz.zeroValue64
  t45 := Tryz.underlying238
  a45 := Tryz.isAgg238
  z45 := Tryz.sizeOf238
  v45 := Tryz.zeroValue238
  t46 := Tryz.underlying239
  a46 := Tryz.isAgg239
  z46 := Tryz.sizeOf239
  v46 := Tryz.zeroValue239
  t50 := Tryz.underlying149
  a50 := Tryz.isAgg149
  z50 := Tryz.sizeOf149
  v50 := Tryz.zeroValue149
  t53 := Tryz.underlying207
  a53 := Tryz.isAgg207
  z53 := Tryz.sizeOf207
  v53 := Tryz.zeroValue207
  t55 := Tryz.underlying246
  a55 := Tryz.isAgg246
  z55 := Tryz.sizeOf246
  v55 := Tryz.zeroValue246
  t66 := Tryz.underlying285
  a66 := Tryz.isAgg285
  z66 := Tryz.sizeOf285
  v66 := Tryz.zeroValue285
  t70 := Tryz.underlying289
  a70 := Tryz.isAgg289
  z70 := Tryz.sizeOf289
  v70 := Tryz.zeroValue289
  t76 := Tryz.underlying310
  a76 := Tryz.isAgg310
  z76 := Tryz.sizeOf310
  v76 := Tryz.zeroValue310
  t77 := Tryz.underlying311
  a77 := Tryz.isAgg311
  z77 := Tryz.sizeOf311
  v77 := Tryz.zeroValue311 }
end Go.Proofs
/- How commits stand: order.Compare; facts sorted. -/
namespace Go.Proofs.YtlenfiiocmchdaaGreatDoor
open Go.RowKit Book Pap Go.Sort
set_option linter.unusedVariables false
set_option linter.unusedSimpArgs false

def valF (f : Fc) : Value := .agg (fcs f).toArray
/-- a number, or the next one -/
def orZ (x y : Int) : Int := if x ≠ 0 then x else y
def cmpZ (f g : Fc) : Int := orZ (Lib.compareInt f.h g.h) (Lib.compareBytes f.id.data.toList g.id.data.toList)
/-- nothing that lay has turned; orders may be drawn -/
def LaysD (w w' : World) : Prop := ∃ q os, w' = grow (w.drewN q) os
theorem LaysD.refl (w : World) : LaysD w w := ⟨0, #[], by simp [grow, World.drewN]⟩
set_option maxRecDepth 100000 in
set_option maxHeartbeats 2000000 in
theorem or_any (x y : Int) (b : Nat) (w : World) (h : Blk w b 3 #[.int .i64 x, .int .i64 y]) : Calls Tryz.prog 148 #[.slice (some ⟨b, 0, none⟩) 2 2] w fun e w' => e = .returned (.int .i64 (orZ x y)) ∧ w = w' := by
  have k0 : w.cell? ⟨b, 0, none⟩ = some (.int .i64 x) := Blk.cell h 0
  have k1 : w.cell? ⟨b, 1, none⟩ = some (.int .i64 y) := Blk.cell h 1
  clear h
  by_cases hx : x = 0
  · have HR : Hid (orZ x y = y) := by unfold Hid orZ; rw [if_neg (by simp [hx])]
    have q0 : (x != 0) = false := by simp [hx]
    have q0' : (x == 0) = true := by simp [hx]
    clear hx
    by_cases hy : y = 0
    · have q1 : (y != 0) = false := by simp [hy]
      have q1' : (y == 0) = true := by simp [hy]
      have HY := hid hy
      clear hy
      go_enter Tryz.func148, Tryz.ntmps148
      go_wp2
      go_loopw [8] (fun iv wr => ∃ k : Nat, k ≤ 2 ∧ iv = .int .i64 k ∧ w = wr) (fun iv _ => 2 - (intOf iv).toNat)
      case atStart => exact ⟨0, by omega, rfl, rfl⟩
      case round =>
        obtain ⟨k, hk, rfl, rfl⟩ := hrel
        rcases (by omega : k = 0 ∨ k = 1 ∨ k = 2) with rfl | rfl | rfl
        · go_wp2
          go_roundw
          case rel => first | exact ⟨1, by omega, by first | rfl | go_num, trivial⟩ | exact ⟨1, by omega, by first | rfl | go_num, rfl⟩
          case measure => simp [intOf]
        · go_wp2
          go_roundw
          case rel => first | exact ⟨2, by omega, by first | rfl | go_num, trivial⟩ | exact ⟨2, by omega, by first | rfl | go_num, rfl⟩
          case measure => simp [intOf]
        · go_wp2
          go_ret
          rw [HR.out, HY.out]
          exact ⟨rfl, rfl⟩
    · have q1 : (y != 0) = true := by simp [hy]
      have q1' : (y == 0) = false := by simp [hy]
      clear hy
      go_enter Tryz.func148, Tryz.ntmps148
      go_wp2
      go_loopw [8] (fun iv wr => ∃ k : Nat, k ≤ 1 ∧ iv = .int .i64 k ∧ w = wr) (fun iv _ => 2 - (intOf iv).toNat)
      case atStart => exact ⟨0, by omega, rfl, rfl⟩
      case round =>
        obtain ⟨k, hk, rfl, rfl⟩ := hrel
        rcases (by omega : k = 0 ∨ k = 1) with rfl | rfl
        · go_wp2
          go_roundw
          case rel => first | exact ⟨1, by omega, by first | rfl | go_num, trivial⟩ | exact ⟨1, by omega, by first | rfl | go_num, rfl⟩
          case measure => simp [intOf]
        · go_wp2
          go_ret
          rw [HR.out]
          exact ⟨rfl, rfl⟩
  · have HR : Hid (orZ x y = x) := by unfold Hid orZ; rw [if_pos hx]
    have q0 : (x != 0) = true := by simp [hx]
    have q0' : (x == 0) = false := by simp [hx]
    clear hx
    go_enter Tryz.func148, Tryz.ntmps148
    go_wp2
    go_loopw [8] (fun iv wr => iv = .int .i64 0 ∧ w = wr) (fun iv _ => 2 - (intOf iv).toNat)
    case atStart => exact ⟨rfl, rfl⟩
    case round =>
      obtain ⟨rfl, rfl⟩ := hrel
      go_wp2
      go_ret
      rw [HR.out]
      exact ⟨rfl, rfl⟩
set_option maxRecDepth 100000 in
set_option maxHeartbeats 4000000 in
theorem ordcmp_any (f g : Fc) (w : World) : Calls Tryz.prog 95 #[valF f, valF g] w fun e w' => e = .returned (.int .i64 (cmpZ f g)) ∧ LaysD w w' := by
  have e1 : valF f = .agg #[.string f.id, .int .i64 f.h, .slice f.pa f.pn f.pc] := rfl
  have e2 : valF g = .agg #[.string g.id, .int .i64 g.h, .slice g.pa g.pn g.pc] := rfl
  rw [e1, e2]
  clear e1 e2
  have HLY : Hid (Lays w ((w.alloc (.cells #[.string f.id, .int .i64 f.h, .slice f.pa f.pn f.pc] 94)).alloc (.cells #[.string g.id, .int .i64 g.h, .slice g.pa g.pn g.pc] 94))) := ((Lays.refl w).alloc _).alloc _
  have HXB : Hid (Blk ((w.alloc (.cells #[.string f.id, .int .i64 f.h, .slice f.pa f.pn f.pc] 94)).alloc (.cells #[.string g.id, .int .i64 g.h, .slice g.pa g.pn g.pc] 94)) w.heap.size 94 #[.string f.id, .int .i64 f.h, .slice f.pa f.pn f.pc]) := Blk.alloc (Blk.new w _ _) _
  have HYB : Hid (Blk ((w.alloc (.cells #[.string f.id, .int .i64 f.h, .slice f.pa f.pn f.pc] 94)).alloc (.cells #[.string g.id, .int .i64 g.h, .slice g.pa g.pn g.pc] 94)) (w.heap.size + 1) 94 #[.string g.id, .int .i64 g.h, .slice g.pa g.pn g.pc]) := by
    have h := Blk.new (w.alloc (.cells #[.string f.id, .int .i64 f.h, .slice f.pa f.pn f.pc] 94)) 94 #[.string g.id, .int .i64 g.h, .slice g.pa g.pn g.pc]
    rw [World.size_alloc] at h; exact h
  have HC1 := hid (Tryz.cmp_Compare_int f.h g.h)
  have HC2 := hid (Tryz.strings_Compare f.id g.id)
  have HCZ : Hid (cmpZ f g = orZ (Lib.compareInt f.h g.h) (Lib.compareBytes f.id.data.toList g.id.data.toList)) := rfl
  generalize Lib.compareInt f.h g.h = c1 at HC1 HCZ
  generalize Lib.compareBytes f.id.data.toList g.id.data.toList = c2 at HC2 HCZ
  go_enter Tryz.func95, Tryz.ntmps95
  go_upto_region 1 with fail
  generalize ((w.alloc (.cells #[.string f.id, .int .i64 f.h, .slice f.pa f.pn f.pc] 94)).alloc (.cells #[.string g.id, .int .i64 g.h, .slice g.pa g.pn g.pc] 94)) = w2 at HLY HXB HYB ⊢
  generalize hg1 : w.heap.size + 1 = g1 at HYB ⊢
  generalize w.heap.size = g0 at HXB hg1 ⊢
  clear hg1
  have k0 : w2.cell? ⟨g0, 0, none⟩ = some (.string f.id) := Blk.cell HXB.out 0
  have k1 : w2.cell? ⟨g0, 1, none⟩ = some (.int .i64 f.h) := Blk.cell HXB.out 1
  have k2 : w2.cell? ⟨g1, 0, none⟩ = some (.string g.id) := Blk.cell HYB.out 0
  have k3 : w2.cell? ⟨g1, 1, none⟩ = some (.int .i64 g.h) := Blk.cell HYB.out 1
  go_wp2_with fail
  refine wp_region_tail_drew 10 (by kernel_rfl) (by kernel_rfl) ?_
  simp only [List.take_succ_cons, List.take_zero, List.drop_succ_cons, List.drop_zero]
  repeat (first
    | go_big_quiet_step (first
      | (go_at_call 149; exact Calls.quiet_of_same (HC1.out _))
      | (go_at_call 150; exact Calls.quiet_of_same (HC2.out _)))
    | quiet_step (fail))
  refine wpQuiet_nil ?_
  intro _ hw'
  obtain ⟨nq, hw''⟩ := hw'
  subst hw''
  have HO := hid (or_any c1 c2 (w2.drewN nq).heap.size ((w2.drewN nq).alloc (.cells #[.int .i64 c1, .int .i64 c2] 3)) (Blk.new _ _ _))
  have HE : Hid (LaysD w ((w2.drewN nq).alloc (.cells #[.int .i64 c1, .int .i64 c2] 3))) := by
    obtain ⟨os, hos⟩ := HLY.out
    exact ⟨nq, os.push (.cells #[.int .i64 c1, .int .i64 c2] 3), by rw [hos]; simp [grow, World.alloc, World.drewN]⟩
  clear k0 k1 k2 k3
  go_wp2_with fail
  refine HO.out.mono ?_; rintro e w3 ⟨rfl, rfl⟩
  go_wp2_with fail
  go_ret
  rw [HCZ.out]
  exact ⟨rfl, HE.out⟩
set_option maxRecDepth 100000 in
set_option maxHeartbeats 4000000 in
/-- the greater one first -/
theorem met1_any (f g : Fc) (w : World) : Calls Tryz.prog 176 #[valF f, valF g] w fun e w' => e = .returned (.int .i64 (cmpZ g f)) ∧ LaysD w w' := by
  have e1 : valF f = .agg #[.string f.id, .int .i64 f.h, .slice f.pa f.pn f.pc] := rfl
  have e2 : valF g = .agg #[.string g.id, .int .i64 g.h, .slice g.pa g.pn g.pc] := rfl
  have e3 : (.agg #[.string g.id, .int .i64 g.h, .slice g.pa g.pn g.pc] : Value) = valF g := rfl
  have e4 : (.agg #[.string f.id, .int .i64 f.h, .slice f.pa f.pn f.pc] : Value) = valF f := rfl
  have HE3 := hid e3
  have HE4 := hid e4
  rw [e1, e2]
  clear e1 e2 e3 e4
  have HXB : Hid (Blk ((w.alloc (.cells #[.string f.id, .int .i64 f.h, .slice f.pa f.pn f.pc] 94)).alloc (.cells #[.string g.id, .int .i64 g.h, .slice g.pa g.pn g.pc] 94)) w.heap.size 94 #[.string f.id, .int .i64 f.h, .slice f.pa f.pn f.pc]) := Blk.alloc (Blk.new w _ _) _
  have HYB : Hid (Blk ((w.alloc (.cells #[.string f.id, .int .i64 f.h, .slice f.pa f.pn f.pc] 94)).alloc (.cells #[.string g.id, .int .i64 g.h, .slice g.pa g.pn g.pc] 94)) (w.heap.size + 1) 94 #[.string g.id, .int .i64 g.h, .slice g.pa g.pn g.pc]) := by
    have h := Blk.new (w.alloc (.cells #[.string f.id, .int .i64 f.h, .slice f.pa f.pn f.pc] 94)) 94 #[.string g.id, .int .i64 g.h, .slice g.pa g.pn g.pc]
    rw [World.size_alloc] at h; exact h
  have HLY : Hid (Lays w ((w.alloc (.cells #[.string f.id, .int .i64 f.h, .slice f.pa f.pn f.pc] 94)).alloc (.cells #[.string g.id, .int .i64 g.h, .slice g.pa g.pn g.pc] 94))) := ((Lays.refl w).alloc _).alloc _
  have HC := hid (ordcmp_any g f)
  rw [← HE3.out, ← HE4.out] at HC
  go_enter Tryz.func176, Tryz.ntmps176
  go_upto_region 1 with fail
  generalize ((w.alloc (.cells #[.string f.id, .int .i64 f.h, .slice f.pa f.pn f.pc] 94)).alloc (.cells #[.string g.id, .int .i64 g.h, .slice g.pa g.pn g.pc] 94)) = w2 at HLY HXB HYB ⊢
  generalize hg1 : w.heap.size + 1 = g1 at HYB ⊢
  generalize w.heap.size = g0 at HXB hg1 ⊢
  clear hg1
  have k0 : w2.cell? ⟨g0, 0, none⟩ = some (.string f.id) := Blk.cell HXB.out 0
  have k1 : w2.cell? ⟨g0, 1, none⟩ = some (.int .i64 f.h) := Blk.cell HXB.out 1
  have k2 : w2.cell? ⟨g0, 2, none⟩ = some (.slice f.pa f.pn f.pc) := Blk.cell HXB.out 2
  have k3 : w2.cell? ⟨g1, 0, none⟩ = some (.string g.id) := Blk.cell HYB.out 0
  have k4 : w2.cell? ⟨g1, 1, none⟩ = some (.int .i64 g.h) := Blk.cell HYB.out 1
  have k5 : w2.cell? ⟨g1, 2, none⟩ = some (.slice g.pa g.pn g.pc) := Blk.cell HYB.out 2
  go_wp2_with fail
  refine (HC.out w2).mono ?_; rintro e w3 ⟨rfl, hl⟩
  have HL : Hid (LaysD w w3) := by
    obtain ⟨os, hos⟩ := HLY.out
    obtain ⟨q, os', h⟩ := hl
    exact ⟨q, os ++ os', by rw [h, hos]; simp [grow, World.drewN, Array.append_assoc]⟩
  clear hl
  go_wp2_with fail
  go_ret
  exact ⟨rfl, HL.out⟩
end Go.Proofs.YtlenfiiocmchdaaGreatDoor
/- Facts as a book; a commit without parents told by itself: order.read, met, isRight, Log; snap.Log. -/
namespace Go.Proofs.YtlenfiiocmchdaaGreatDoor
open Go.RowKit Book Pap Ojt Sn
set_option linter.unusedVariables false
set_option linter.unusedSimpArgs false

def FcsAt (w : World) (a : Option Addr) (n : Nat) (l : List Fc) : Prop :=
  l.length = n ∧ n ≤ 1000000 ∧ (n = 0 ∨ ∃ b off, a = some ⟨b, off, none⟩ ∧ ∀ j, j < n → w.cell? ⟨b, off + j * 3, none⟩ = some (.string (l.getD j noFc).id) ∧ w.cell? ⟨b, off + j * 3 + 1, none⟩ = some (.int .i64 (l.getD j noFc).h) ∧ w.cell? ⟨b, off + j * 3 + 2, none⟩ = some (.slice (l.getD j noFc).pa (l.getD j noFc).pn (l.getD j noFc).pc))
theorem FcsAt.later {w w' : World} {a : Option Addr} {n : Nat} {l : List Fc} (h : FcsAt w a n l) (hb : Below w.heap.size w w') : FcsAt w' a n l := by
  obtain ⟨h1, h2, h3⟩ := h
  refine ⟨h1, h2, h3.imp id ?_⟩
  rintro ⟨b, off, ha, hc⟩
  refine ⟨b, off, ha, fun j hj => ?_⟩
  obtain ⟨c0, c1, c2⟩ := hc j hj
  exact ⟨(hb.cell (World.block_lt_of_cell? w _ c0)).trans c0, (hb.cell (World.block_lt_of_cell? w _ c1)).trans c1, (hb.cell (World.block_lt_of_cell? w _ c2)).trans c2⟩
theorem own_fcs {w : World} {B : Nat} {v : Value} {n : Nat} {l : List Fc} (h : w.ownsRow B 94 3 v n (fvals l)) (hm : n ≤ 1000000) : ∃ a c, v = .slice a n c ∧ FcsAt w a n l := by
  have h' := h
  have hl := fvals_length l
  have hln : l.length = n := by have := h.1; omega
  rcases h.2 with ⟨rfl, h0⟩ | ⟨g, cap, cur, rfl, hb, hg, hn, hc, hsz, htk⟩
  · exact ⟨none, 0, by rw [h0], hln, hm, .inl h0⟩
  · refine ⟨_, _, rfl, hln, hm, .inr ⟨g, 0, rfl, fun j hj => ?_⟩⟩
    have hj' : j < l.length := by omega
    have c0 := h'.cellAt (j * 3 + 0) (by omega)
    have c1 := h'.cellAt (j * 3 + 1) (by omega)
    have c2 := h'.cellAt (j * 3 + 2) (by omega)
    rw [fvals_get l j 0 hj' (by omega)] at c0
    rw [fvals_get l j 1 hj' (by omega)] at c1
    rw [fvals_get l j 2 hj' (by omega)] at c2
    rw [Nat.zero_add]
    exact ⟨c0, c1, c2⟩
/-! a Go map of facts -/
def datA : Option Addr → DataW Unit
  | none => .nil
  | some ⟨b, o, s⟩ => .agg [.lit (.int .i64 b), .lit (.int .i64 o), match s with | none => .nil | some k => .lit (.int .i64 k)]
theorem datA_inj (x y : Option Addr) (h : datA x = datA y) : x = y := by
  rcases x with _ | ⟨b, o, s⟩ <;> rcases y with _ | ⟨b', o', s'⟩
  · rfl
  · cases h
  · cases h
  · unfold datA at h
    injection h with h
    injection h with h1 h
    injection h with h2 h
    injection h with h3 _
    injection h1 with h1
    injection h1 with _ h1
    injection h2 with h2
    injection h2 with _ h2
    have e1 : b = b' := by omega
    have e2 : o = o' := by omega
    have e3 : s = s' := by
      rcases s with _ | k <;> rcases s' with _ | k'
      · rfl
      · cases h3
      · cases h3
      · injection h3 with h3
        injection h3 with _ h3
        have : k = k' := by omega
        rw [this]
    rw [e1, e2, e3]
def datF (f : Fc) : DataW Unit := .agg [datS f.id, .lit (.int .i64 f.h), datA f.pa, .lit (.int .i64 f.pn), .lit (.int .i64 f.pc)]
theorem valF_inj (x y : Fc) (h : valF x = valF y) : x = y := by
  obtain ⟨a, b, c, d, e⟩ := x
  obtain ⟨a', b', c', d', e'⟩ := y
  simp [valF, fcs] at h
  obtain ⟨h1, h2, h3, h4, h5⟩ := h
  subst h1 h2 h3 h4 h5; rfl
theorem datF_inj (x y : Fc) (h : datF x = datF y) : x = y := by
  obtain ⟨a, b, c, d, e⟩ := x
  obtain ⟨a', b', c', d', e'⟩ := y
  unfold datF at h
  injection h with h
  injection h with h1 h
  injection h with h2 h
  injection h with h3 h
  injection h with h4 h
  injection h with h5 _
  have e1 := datS_inj _ _ h1
  have e3 := datA_inj _ _ h3
  injection h2 with h2
  injection h2 with _ h2
  injection h4 with h4
  injection h4 with _ h4
  injection h5 with h5
  injection h5 with _ h5
  simp only at e1 e3 h2 h4 h5
  have e4 : d = d' := by omega
  have e5 : e = e' := by omega
  rw [e1, h2, e3, e4, e5]
abbrev FcMap := MapFn (α := Fc) Tryz.prog 9 valF datF
theorem zeroFc (w : World) : (zeroValue 94).run Tryz.prog w = .ok (valF noFc) w := by
  obtain ⟨i, hi, hz, -⟩ := info_parts Tryz.infoFact
  have e : valF noFc = .agg #[.string ⟨#[]⟩, .int .i64 0, .slice none 0 0] := rfl
  simp [zeroValue, typeInfo, hi, hz, e]
theorem fcMap_get2 {w : World} {m n : Nat} {f : ByteArray → Option Fc} (h : FcMap w m n f) (s : ByteArray) (hs : s.size ≤ maxLen) : (Instr.lookup 183 (.map (some m)) (.string s) true).run Tryz.prog w = .ok (.tuple #[valF ((f s).getD noFc), .bool (f s).isSome]) w :=
  MapFn.get2 Tryz.underlying9 Tryz.underlying183 valF_inj datF_inj (z0 := noFc) zeroFc h s hs
/-- facts by their ids -/
def tabF (l : List Fc) : ByteArray → Option Fc := fun q => l.find? (fun f => decide (f.id = q))
theorem tabF_snoc {l : List Fc} {f : Fc} (h : f.id ∉ l.map (·.id)) : tabF (l ++ [f]) = fun q => if q = f.id then some f else tabF l q := by
  funext q
  unfold tabF
  rw [List.find?_append]
  by_cases hq : q = f.id
  · subst hq
    rw [if_pos rfl]
    have : l.find? (fun g => decide (g.id = f.id)) = none := List.find?_eq_none.2 (fun g hg => by
      simp only [decide_eq_true_eq]
      exact fun e => h (List.mem_map.2 ⟨g, hg, e⟩))
    rw [this]
    simp
  · rw [if_neg hq]
    have : [f].find? (fun g => decide (g.id = q)) = none := List.find?_eq_none.2 (fun g hg => by
      rw [List.mem_singleton.1 hg]
      simp only [decide_eq_true_eq]
      exact fun e => hq e.symm)
    rw [this]
    cases l.find? (fun g => decide (g.id = q)) <;> rfl
theorem tabF_none {l : List Fc} {q : ByteArray} (h : q ∉ l.map (·.id)) : tabF l q = none := List.find?_eq_none.2 (fun g hg => by
  simp only [decide_eq_true_eq]
  exact fun e => h (List.mem_map.2 ⟨g, hg, e⟩))
set_option maxRecDepth 100000 in
set_option maxHeartbeats 8000000 in
theorem read_any (a : Option Addr) (n c : Nat) (l : List Fc) (w : World) (h : FcsAt w a n l) (hnd : (l.map (·.id)).Nodup) (hsz : ∀ f ∈ l, f.id.size ≤ maxLen) :
    Calls Tryz.prog 110 #[.slice a n c] w fun e w' => ∃ m, e = .returned (.tuple #[.map (some m), .int .i64 0]) ∧ FcMap w' m n (tabF l) ∧ w.heap.size ≤ m ∧ Below w.heap.size w w' := by
  have hmk : ∀ (T : TypeId) (W : World), (Instr.makeMap T none).run Tryz.prog W = .ok (.map (some W.heap.size)) (W.alloc (.map #[] 0)) := fun T W => run_makeMap T W
  have HF := hid h
  have HL := hid h.1
  have hn6 := h.2.1
  have HND := hid hnd
  have HSZ := hid hsz
  have HC0 : Hid (FcMap (w.alloc (.map #[] 0)) w.heap.size 0 (tabF [])) := MapFn.made w
  have HB0 : Hid (Below w.heap.size w (w.alloc (.map #[] 0))) := (Below.refl _ _).alloc (Nat.le_refl _) _
  clear h hnd hsz
  go_enter Tryz.func110, Tryz.ntmps110
  go_upto_region 2 with fail
  generalize (w.alloc (.map #[] 0)) = w1 at HC0 HB0 ⊢
  generalize hm : w.heap.size = m at HC0 HB0 ⊢
  have HM := hid hm
  clear hm
  go_wp2_with fail
  go_loopw [12] (fun iv wr => ∃ i : Nat, i ≤ n ∧ iv = .int .i64 i ∧ Hid (FcMap wr m i (tabF (l.take i))) ∧ Hid (Below m w wr)) (fun iv _ => n - (intOf iv).toNat)
  case atStart => exact ⟨0, Nat.zero_le _, rfl, HC0, HB0⟩
  case round =>
    obtain ⟨i, hi, rfl, HC, HB⟩ := hrel
    have hszr := HB.out.size
    rw [HM.out] at hszr
    by_cases hlt : i < n
    · have ci : (i : Int) < n := by omega
      have ci0 : (0 : Int) ≤ (i : Int) := by omega
      obtain ⟨-, -, h3⟩ := HF.out.later (by rw [HM.out]; exact HB.out)
      obtain ⟨eb, eoff, rfl, hcell⟩ := h3.resolve_left (by omega)
      obtain ⟨q0, q1, q2⟩ := hcell i hlt
      have hil : i < l.length := by rw [HL.out]; exact hlt
      have hT : l.take (i + 1) = l.take i ++ [l.getD i noFc] := by
        rw [List.take_succ_eq_append_getElem hil, List.getD_eq_getElem?_getD, List.getElem?_eq_getElem hil]; rfl
      have hin : (l.getD i noFc).id ∉ (l.take i).map (·.id) := by
        have h1 := HND.out
        rw [← List.take_append_drop (i + 1) l, hT, List.map_append, List.map_append] at h1
        have h2 := (List.nodup_append.1 h1).1
        have h3 := (List.nodup_append.1 h2).2.2
        exact fun hh => h3 _ hh _ (by simp) rfl
      have HT2 : Hid (tabF (l.take (i + 1)) = fun q => if q = (l.getD i noFc).id then some (l.getD i noFc) else tabF (l.take i) q) := by
        show _ = _
        rw [hT]; exact tabF_snoc hin
      have hno := tabF_none hin
      have hids := HSZ.out (l.getD i noFc) (by rw [List.getD_eq_getElem?_getD, List.getElem?_eq_getElem hil]; exact List.getElem_mem hil)
      obtain ⟨f, hf⟩ : ∃ f, l.getD i noFc = f := ⟨_, rfl⟩
      rw [hf] at q0 q1 q2 HT2 hno hids
      have HNO := hid hno
      obtain ⟨fi, fh, fa, fn, fc⟩ := f
      simp only at q0 q1 q2 hids
      clear hf hcell h3 hT hin hil hno
      go_upto_region 5 with fail
      have HX1 : Hid (Blk (wr.alloc (.cells #[.string fi, .int .i64 fh, .slice fa fn fc] 94)) wr.heap.size 94 #[.string fi, .int .i64 fh, .slice fa fn fc]) := Blk.new wr _ _
      have HC1 : Hid (FcMap (wr.alloc (.cells #[.string fi, .int .i64 fh, .slice fa fn fc] 94)) m i (tabF (l.take i))) := HC.out.later ((Below.refl _ _).alloc (Nat.le_refl _) _)
      have HB1 : Hid (Below m w (wr.alloc (.cells #[.string fi, .int .i64 fh, .slice fa fn fc] 94))) := HB.out.alloc hszr _
      have hs1 : m ≤ (wr.alloc (.cells #[.string fi, .int .i64 fh, .slice fa fn fc] 94)).heap.size := by rw [World.size_alloc]; omega
      clear q0 q1 q2 HC HB
      generalize (wr.alloc (.cells #[.string fi, .int .i64 fh, .slice fa fn fc] 94)) = w4 at HX1 HC1 HB1 hs1 ⊢
      generalize wr.heap.size = g4 at HX1 ⊢
      have k0 : w4.cell? ⟨g4, 0, none⟩ = some (.string fi) := Blk.cell HX1.out 0
      have hlk := fcMap_get2 HC1.out fi hids
      have HNO' : tabF (l.take i) fi = none := HNO.out
      rw [HNO'] at hlk
      have ev : valF ((none : Option Fc).getD noFc) = .agg #[.string ⟨#[]⟩, .int .i64 0, .slice none 0 0] := rfl
      rw [ev] at hlk
      simp only [Option.isSome_none] at hlk
      clear ev HNO' HNO
      go_upto_region 6 with fail
      have HX5 : Hid (Blk (w4.alloc (.cells #[.string ⟨#[]⟩, .int .i64 0, .slice none 0 0] 94)) g4 94 #[.string fi, .int .i64 fh, .slice fa fn fc]) := Blk.alloc HX1.out _
      have HC5 : Hid (FcMap (w4.alloc (.cells #[.string ⟨#[]⟩, .int .i64 0, .slice none 0 0] 94)) m i (tabF (l.take i))) := HC1.out.later ((Below.refl _ _).alloc (Nat.le_refl _) _)
      have HB5 : Hid (Below m w (w4.alloc (.cells #[.string ⟨#[]⟩, .int .i64 0, .slice none 0 0] 94))) := HB1.out.alloc hs1 _
      have hs5 : m ≤ (w4.alloc (.cells #[.string ⟨#[]⟩, .int .i64 0, .slice none 0 0] 94)).heap.size := by rw [World.size_alloc]; omega
      clear hlk k0 HX1 HC1 HB1 hs1
      generalize (w4.alloc (.cells #[.string ⟨#[]⟩, .int .i64 0, .slice none 0 0] 94)) = w5 at HX5 HC5 HB5 hs5 ⊢
      have k0 : w5.cell? ⟨g4, 0, none⟩ = some (.string fi) := Blk.cell HX5.out 0
      have k1 : w5.cell? ⟨g4, 1, none⟩ = some (.int .i64 fh) := Blk.cell HX5.out 1
      have k2 : w5.cell? ⟨g4, 2, none⟩ = some (.slice fa fn fc) := Blk.cell HX5.out 2
      have him : i < maxLen := by unfold maxLen; omega
      go_wp2_with (first
        | (at_mapUpdate; refine wpList_mapFn_set rfl (.tmp 24) (.tmp 26) (.tmp 27) 183 rfl Tryz.underlying9 Tryz.underlying183 valF_inj HC5.out him fi hids ⟨fi, fh, fa, fn, fc⟩ rfl rfl rfl ?_; intro w6 hm6 hg6; have HM6 := hid hm6; have HG6 := hid hg6; clear hm6 hg6)
        | go_in)
      have HM7 : Hid (FcMap w6 m (i + 1) (tabF (l.take (i + 1)))) := by
        show FcMap _ _ _ _
        rw [HT2.out]; exact HM6.out
      have HB7 : Hid (Below m w w6) := HB5.out.grown HG6.out hs5 (fun j hj => by cases hj; exact Nat.le_refl _)
      go_roundw
      case rel => first | exact ⟨i + 1, by omega, by go_num, HM7, HB7⟩ | ((repeat apply Exists.intro); exact ⟨⟨i + 1, by omega, by go_num, HM7, HB7⟩, rfl⟩)
      case measure => simp [intOf]; omega
    · obtain rfl : i = n := by omega
      have ci : ¬ (i : Int) < i := by omega
      have HE : Hid (FcMap wr m i (tabF l)) := by
        have h := HC.out
        rw [List.take_of_length_le (by rw [HL.out]; exact Nat.le_refl _)] at h; exact h
      go_wp2_with fail
      go_ret2
      rw [HM.out]
      exact ⟨m, rfl, HE.out, Nat.le_refl _, HB.out⟩
end Go.Proofs.YtlenfiiocmchdaaGreatDoor
/- A commit without parents told by itself: isRight, met, Log; snap.Log. -/
namespace Go.Proofs.YtlenfiiocmchdaaGreatDoor
open Go.RowKit Book Pap Ojt Sn Go.Sort
set_option linter.unusedVariables false
set_option linter.unusedSimpArgs false

set_option maxRecDepth 100000 in
set_option maxHeartbeats 4000000 in
theorem isRight0_any (mv : Value) (f : Fc) (hf : f.pn = 0) (w : World) : Calls Tryz.prog 112 #[mv, valF f] w fun e w' => e = .returned (.bool (f.h == 0)) ∧ Below w.heap.size w w' := by
  obtain ⟨fi, fh, fa, fn, fc⟩ := f
  simp only at hf ⊢
  subst hf
  have e1 : valF ⟨fi, fh, fa, 0, fc⟩ = .agg #[.string fi, .int .i64 fh, .slice fa 0 fc] := rfl
  rw [e1]
  clear e1
  have HX : Hid (Blk (w.alloc (.cells #[.string fi, .int .i64 fh, .slice fa 0 fc] 94)) w.heap.size 94 #[.string fi, .int .i64 fh, .slice fa 0 fc]) := Blk.new w _ _
  have HB : Hid (Below w.heap.size w (w.alloc (.cells #[.string fi, .int .i64 fh, .slice fa 0 fc] 94))) := (Below.refl _ _).alloc (Nat.le_refl _) _
  have HH := hid (fun W => objheight_any none 0 0 [] W ⟨rfl, .inl rfl⟩ (by omega) (fun z hz => by cases hz))
  have e0 : heightL [] = 0 := rfl
  rw [e0] at HH
  clear e0
  go_enter Tryz.func112, Tryz.ntmps112
  go_upto_region 1 with fail
  generalize (w.alloc (.cells #[.string fi, .int .i64 fh, .slice fa 0 fc] 94)) = w1 at HX HB ⊢
  generalize hg : w.heap.size = g at HX HB ⊢
  have k1 : w1.cell? ⟨g, 1, none⟩ = some (.int .i64 fh) := Blk.cell HX.out 1
  have k2 : w1.cell? ⟨g, 2, none⟩ = some (.slice fa 0 fc) := Blk.cell HX.out 2
  go_wp2_with fail
  go_loopw [11, 5] (fun iv hv wr => iv = .int .i64 0 ∧ hv = .slice none 0 0 ∧ w1 = wr) (fun iv _ _ => 0)
  case atStart => exact ⟨rfl, rfl, rfl⟩
  case round =>
    obtain ⟨rfl, rfl, rfl⟩ := hrel
    go_wp2_with fail
    go_quiet (first | (go_at_call 75; exact Calls.quiet_of_same ((HH.out _).mono fun _ _ h => ⟨h.1, h.2.symm⟩)))
    go_wp2_with fail
    go_ret
    exact ⟨rfl, by rw [hg]; exact below_drewN HB.out _⟩
theorem compareBytes_self : ∀ l : List UInt8, Lib.compareBytes l l = 0
  | [] => rfl
  | a :: l => by
    have h : ¬ a < a := UInt8.lt_irrefl a
    rw [Lib.compareBytes, if_neg h, if_neg h, compareBytes_self l]
theorem cmpZ_self (f : Fc) : cmpZ f f = 0 := by
  unfold cmpZ orZ
  rw [compareBytes_self]
  have : Lib.compareInt f.h f.h = 0 := by unfold Lib.compareInt; simp
  rw [this]; rfl
/-- one fact sorted -/
theorem sort1_any (f : Fc) (B : Nat) (v : Value) (w : World) (h : w.ownsRow B 94 3 v 1 (fvals [f])) :
    Calls Tryz.prog 175 #[v, .func (.func 176) #[] #[]] w fun e w' => e = .returned (.tuple #[]) ∧ w'.ownsRow B 94 3 v 1 (fvals [f]) ∧ w.grownBy w' v.ownBlock := by
  have hc : ∀ x y : Unit, (fun _ _ => cmpZ f f : Unit → Unit → Int) x y = 0 := fun _ _ => cmpZ_self f
  have hSW : Go.Sort.SWO (Go.Proofs.ltOf (fun _ _ : Unit => cmpZ f f)) := by
    refine ⟨fun x => ?_, fun x y z h1 h2 => ?_, fun x y z h1 h2 => ?_⟩
    · simp [ltOf, cmpZ_self]
    · unfold ltOf at *
      simp only [cmpZ_self, decide_eq_true_eq] at *
      omega
    · unfold ltOf at *
      simp only [cmpZ_self] at *
      decide
  refine (sortK_own Tryz.sortF175 3 (by decide) Tryz.isAgg94 Tryz.sizeOf94 (fun _ : Unit => fcs f) (fun x => rfl) (fun x u hu => by simp [fcs] at hu; rcases hu with rfl | rfl | rfl <;> rfl) (fun _ _ => cmpZ f f) hSW (fun _ _ _ _ => rfl) 176 #[] B 1 v [()] w
    (enters_of Tryz.func176 (by kernel_rfl) rfl) (fun W hg x y => ?_) h (by omega)).mono ?_
  · refine (met1_any f f W).mono ?_
    rintro e w' ⟨rfl, q, os, rfl⟩
    exact ⟨rfl, q, os, rfl⟩
  · rintro e w' ⟨rfl, h1, h2⟩
    refine ⟨rfl, ?_, h2⟩
    have : ([()] : List Unit).mergeSort (fun x y => !(ltOf (fun _ _ : Unit => cmpZ f f)) y x) = [()] := by simp
    rw [this] at h1
    exact h1
abbrev BoMap := MapFn (α := Bool) Tryz.prog 9 Value.bool (fun b => DataW.lit (.bool b))
theorem valB_inj (x y : Bool) (h : Value.bool x = Value.bool y) : x = y := by injection h
theorem wpList_mapFn_ins {α : Type} {P : Program} {k : TypeId} {val : α → Value} {dat : α → DataW Unit} {w : World} {m n : Nat} {f : ByteArray → Option α} {ops : Array Oper} {rest : List Oper} {o : Oper} {a : Act} {Q : Exit → Act → World → Prop} (hg : o.guard = none) (mo xo vo : Operand) (t : TypeId) (hop : o.op = Op.insert t mo xo vo)
    (hk : P.underlying k = some .string) {e : TypeId} (ht : P.underlying t = some (.map k e)) (hi : ∀ x y, val x = val y → x = y) (h : MapFn P k val dat w m n f) (hn : n < maxLen) (s : ByteArray) (hs : s.size ≤ maxLen) (x : α)
    (hm : a.eval mo = .map (some m)) (hx : a.eval xo = .string s) (hv : a.eval vo = val x)
    (hK : ∀ w', MapFn P k val dat w' m (n + 1) (fun q => if q = s then some x else f q) → w.grownBy w' (some m) → wpList P ops Q rest (a.put o.dst undef) w') :
    wpList P ops Q (o :: rest) a w := by
  refine wpList_plain hg fun K' hK' => ?_
  obtain ⟨w', hrun, r1, r2⟩ := h.set hk ht hi hn s hs x
  unfold Oper.wp
  simp [execOp, hop, hm, hx, hv, hrun, Result.andThen]
  exact hK' _ _ (hK w' r1 r2)
set_option maxRecDepth 100000 in
set_option maxHeartbeats 8000000 in
theorem met0_any (m : Nat) (f : Fc) (hf : f.pn = 0) (hsz : f.id.size ≤ maxLen) (w : World) (h : FcMap w m 1 (tabF [f])) :
    Calls Tryz.prog 111 #[.map (some m), .string f.id] w fun e w' => ∃ a c, e = .returned (.tuple #[.slice a 1 c, .int .i64 0]) ∧ w'.ownsRow w.heap.size 94 3 (.slice a 1 c) 1 (fvals [f]) ∧ Below w.heap.size w w' := by
  have hmk : ∀ (T : TypeId) (W : World), (Instr.makeMap T none).run Tryz.prog W = .ok (.map (some W.heap.size)) (W.alloc (.map #[] 0)) := fun T W => run_makeMap T W
  have hlk := fcMap_get2 h f.id hsz
  have ht : tabF [f] f.id = some f := by unfold tabF; simp
  rw [ht] at hlk
  obtain ⟨fi, fh, fa, fn, fc⟩ := f
  simp only at hf hsz hlk ⊢
  subst hf
  have ev : valF ((some (⟨fi, fh, fa, 0, fc⟩ : Fc)).getD noFc) = .agg #[.string fi, .int .i64 fh, .slice fa 0 fc] := rfl
  rw [ev] at hlk
  simp only [Option.isSome_some] at hlk
  clear ev ht h
  have HX : Hid (Blk (w.alloc (.cells #[.string fi, .int .i64 fh, .slice fa 0 fc] 94)) w.heap.size 94 #[.string fi, .int .i64 fh, .slice fa 0 fc]) := Blk.new w _ _
  have HB : Hid (Below w.heap.size w (w.alloc (.cells #[.string fi, .int .i64 fh, .slice fa 0 fc] 94))) := (Below.refl _ _).alloc (Nat.le_refl _) _
  go_enter Tryz.func111, Tryz.ntmps111
  go_upto_region 2 with fail
  generalize (w.alloc (.cells #[.string fi, .int .i64 fh, .slice fa 0 fc] 94)) = w1 at HX HB ⊢
  clear hlk
  have hgl : w.heap.size ≤ w1.heap.size := HB.out.size
  have hg1 : w.heap.size < w1.heap.size := Blk.lt HX.out
  have HM2 : Hid (BoMap (w1.alloc (.map #[] 0)) w1.heap.size 0 (fun _ => none)) := MapFn.made w1
  have HX2 : Hid (Blk (w1.alloc (.map #[] 0)) w.heap.size 94 #[.string fi, .int .i64 fh, .slice fa 0 fc]) := Blk.alloc HX.out _
  have HB2 : Hid (Below w.heap.size w (w1.alloc (.map #[] 0))) := HB.out.alloc hgl _
  generalize hg : w.heap.size = g at HX HX2 hgl hg1 HB2 ⊢
  go_upto_region 5 with (first
    | (refine wpList_mapFn_ins rfl (.tmp 23) (.tmp 24) (.const (.bool true)) 248 rfl Tryz.underlying9 Tryz.underlying248 valB_inj HM2.out (by unfold maxLen; omega) fi hsz true rfl rfl rfl ?_; intro w6 hm6 hg6; have HG6 := hid hg6; clear hm6 hg6)
    | go_in)
  have HX6 : Hid (Blk w6 g 94 #[.string fi, .int .i64 fh, .slice fa 0 fc]) := (HG6.out.block g (by rw [World.size_alloc]; omega) (by intro e; cases e; omega)).trans HX2.out
  have HB6 : Hid (Below g w w6) := HB2.out.grown HG6.out (by rw [World.size_alloc]; omega) (fun j hj => by cases hj; exact hgl)
  have hs6 : g ≤ w6.heap.size := by have := HG6.out.size; rw [World.size_alloc] at this; omega
  clear HG6 HM2 HX2 HB2 HX HB
  have k0 : w6.cell? ⟨g, 0, none⟩ = some (.string fi) := Blk.cell HX6.out 0
  have k1 : w6.cell? ⟨g, 1, none⟩ = some (.int .i64 fh) := Blk.cell HX6.out 1
  have k2 : w6.cell? ⟨g, 2, none⟩ = some (.slice fa 0 fc) := Blk.cell HX6.out 2
  go_upto_region 6 with fail
  have hl6 : w6.heap.size < (w6.alloc (.cells #[.string fi, .int .i64 fh, .slice fa 0 fc] 94)).heap.size := by rw [World.size_alloc]; omega
  have HX7 : Hid (Blk (w6.alloc (.cells #[.string fi, .int .i64 fh, .slice fa 0 fc] 94)) w6.heap.size 94 #[.string fi, .int .i64 fh, .slice fa 0 fc]) := Blk.new w6 _ _
  have HB7 : Hid (Below g w (w6.alloc (.cells #[.string fi, .int .i64 fh, .slice fa 0 fc] 94))) := HB6.out.alloc hs6 _
  generalize (w6.alloc (.cells #[.string fi, .int .i64 fh, .slice fa 0 fc] 94)) = w7 at HX7 HB7 hl6 ⊢
  generalize w6.heap.size = e7 at HX7 hs6 hl6 ⊢
  clear k0 k1 k2 HX6 HB6
  have k2 : w7.cell? ⟨e7, 2, none⟩ = some (.slice fa 0 fc) := Blk.cell HX7.out 2
  have HOWN : Hid (w7.ownsRow g 94 3 (.slice (some ⟨e7, 0, none⟩) 1 1) 1 (fvals [⟨fi, fh, fa, 0, fc⟩])) :=
    ⟨rfl, .inr ⟨e7, 1, _, rfl, hs6, HX7.out, Nat.le_refl _, by unfold maxLen; omega, rfl, rfl⟩⟩
  go_wp2_with fail
  go_loopw [10, 9] (fun iv av wr => ∃ k : Nat, k ≤ 1 ∧ iv = .int .i64 k ∧ av = .slice (some ⟨e7, 0, none⟩) 1 1 ∧ w7 = wr) (fun iv _ _ => 1 - (intOf iv).toNat)
  case atStart => exact ⟨0, by omega, rfl, rfl, rfl⟩
  case round =>
    obtain ⟨k, hk, rfl, rfl, rfl⟩ := hrel
    rcases (by omega : k = 0 ∨ k = 1) with rfl | rfl
    · go_wp2_with fail
      go_loopw [40, 9] (fun jv av wr => jv = .int .i64 0 ∧ av = .slice (some ⟨e7, 0, none⟩) 1 1 ∧ w7 = wr) (fun _ _ _ => 0)
      case atStart => exact ⟨rfl, rfl, rfl⟩
      case round =>
        obtain ⟨rfl, rfl, rfl⟩ := hrel
        go_wp2_with fail
        go_roundw
        case rel => first | exact ⟨1, by omega, by first | rfl | go_num, rfl, by first | rfl | trivial⟩ | exact ⟨⟨1, by omega, by first | rfl | go_num, rfl, by first | rfl | trivial⟩, rfl⟩
        case measure => simp [intOf]
    · have HSO := hid (sort1_any ⟨fi, fh, fa, 0, fc⟩ g _ w7 HOWN.out)
      go_wp2_with fail
      refine HSO.out.mono ?_; rintro e w9 ⟨rfl, ho9, hg9⟩
      have HO9 := hid ho9
      have HB9 : Hid (Below g w w9) := HB7.out.grown hg9 (Nat.le_trans hs6 (Nat.le_of_lt hl6)) (fun j hj => by cases hj; exact hs6)
      clear ho9 hg9 HSO
      go_wp2_with fail
      go_ret2
      rw [hg]
      exact ⟨_, _, rfl, HO9.out, HB9.out⟩
set_option maxRecDepth 100000 in
set_option maxHeartbeats 8000000 in
theorem log0_any (a : Option Addr) (c : Nat) (f : Fc) (hf : f.pn = 0) (hh : f.h = 0) (hsz : f.id.size ≤ maxLen) (w : World) (h : FcsAt w a 1 [f]) :
    Calls Tryz.prog 69 #[.slice a 1 c, .string f.id] w fun e w' => ∃ a' c', e = .returned (.tuple #[.slice a' 1 c', .int .i64 0]) ∧ w'.ownsRow w.heap.size 9 1 (.slice a' 1 c') 1 (svals [f.id]) ∧ Below w.heap.size w w' := by
  obtain ⟨i0, hi0, hz0, hz1, hz2⟩ := info_parts Tryz.infoS
  have HR := hid (read_any a 1 c [f] w h (by simp) (fun g hg => by rw [List.mem_singleton.1 hg]; exact hsz))
  have HFN := hid hf
  have HHH := hid hh
  clear h
  go_enter Tryz.func69, Tryz.ntmps69
  go_wp2_with fail
  refine HR.out.mono ?_; rintro e w1 ⟨m, rfl, hm1, hml, hb1⟩
  have HM1 := hid hm1
  have HB1 := hid hb1
  have hs1 : w.heap.size ≤ w1.heap.size := hb1.size
  have HME := hid (met0_any m f hf hsz w1 hm1)
  clear hm1 hb1 HR hf hh
  go_wp2_with fail
  refine HME.out.mono ?_; rintro e w2 ⟨fa, fc, rfl, ho2, hb2⟩
  have HB2 : Hid (Below w.heap.size w w2) := HB1.out.trans (hb2.mono hs1)
  obtain ⟨fa', fc', hfe, hF⟩ := own_fcs ho2 (by omega)
  injection hfe with e1 e2 e3
  subst e1; subst e3
  obtain ⟨b, off, rfl, hc⟩ := hF.2.2.resolve_left (by omega)
  obtain ⟨q0, q1, q2⟩ := hc 0 (by omega)
  have g0 : ([f] : List Fc).getD 0 noFc = f := rfl
  rw [g0] at q0 q1 q2
  have hs2 : w.heap.size ≤ w2.heap.size := HB2.out.size
  have HQ : Hid (w2.cell? ⟨b, off, none⟩ = some (.string f.id) ∧ w2.cell? ⟨b, off + 1, none⟩ = some (.int .i64 f.h) ∧ w2.cell? ⟨b, off + 2, none⟩ = some (.slice f.pa f.pn f.pc)) := by
    refine ⟨?_, ?_, ?_⟩
    · simpa using q0
    · simpa using q1
    · simpa using q2
  clear q0 q1 q2 hc hF ho2 hb2 HME HM1 HB1 g0 e2
  go_wp2_with fail
  go_loopw [31, 9] (fun iv sv wr => ∃ k : Nat, k ≤ 1 ∧ iv = .int .i64 k ∧ Hid (Below w2.heap.size w2 wr) ∧ ((k = 0 ∧ sv = .slice none 0 0) ∨ (k = 1 ∧ ∃ sa sc, sv = .slice sa 1 sc ∧ Hid (wr.ownsRow w.heap.size 9 1 (.slice sa 1 sc) 1 (svals [f.id]))))) (fun iv _ _ => 1 - (intOf iv).toNat)
  case atStart => exact ⟨0, by omega, rfl, Below.refl _ _, .inl ⟨rfl, rfl⟩⟩
  case round =>
    obtain ⟨k, hk, rfl, HBR, ⟨rfl, rfl⟩ | ⟨rfl, sa, sc, rfl, HO⟩⟩ := hrel
    · obtain ⟨c0, c1, c2⟩ := HQ.out
      have q0 := (HBR.out.cell (World.block_lt_of_cell? w2 _ c0)).trans c0
      have q1 := (HBR.out.cell (World.block_lt_of_cell? w2 _ c1)).trans c1
      have q2 := (HBR.out.cell (World.block_lt_of_cell? w2 _ c2)).trans c2
      have hsr := HBR.out.size
      clear c0 c1 c2
      go_upto_region 11 with fail
      have HX : Hid (Blk (wr.alloc (.cells #[.string f.id, .int .i64 f.h, .slice f.pa f.pn f.pc] 94)) wr.heap.size 94 #[.string f.id, .int .i64 f.h, .slice f.pa f.pn f.pc]) := Blk.new wr _ _
      have HBX : Hid (Below w2.heap.size w2 (wr.alloc (.cells #[.string f.id, .int .i64 f.h, .slice f.pa f.pn f.pc] 94))) := HBR.out.alloc hsr _
      clear q0 q1 q2 HBR
      generalize (wr.alloc (.cells #[.string f.id, .int .i64 f.h, .slice f.pa f.pn f.pc] 94)) = w4 at HX HBX ⊢
      generalize wr.heap.size = g4 at HX hsr ⊢
      have k0 : w4.cell? ⟨g4, 0, none⟩ = some (.string f.id) := Blk.cell HX.out 0
      have k1 : w4.cell? ⟨g4, 1, none⟩ = some (.int .i64 f.h) := Blk.cell HX.out 1
      have k2 : w4.cell? ⟨g4, 2, none⟩ = some (.slice f.pa f.pn f.pc) := Blk.cell HX.out 2
      have HIR : Hid (Calls Tryz.prog 112 #[.map (some m), .agg #[.string f.id, .int .i64 f.h, .slice f.pa f.pn f.pc]] w4 fun e w' => e = .returned (.bool true) ∧ Below w4.heap.size w4 w') := by
        have h := isRight0_any (.map (some m)) f HFN.out w4
        rw [HHH.out] at h
        exact h
      go_wp2_with fail
      refine HIR.out.mono ?_; rintro e w5 ⟨rfl, hb5⟩
      have HX5 : Hid (Blk w5 g4 94 #[.string f.id, .int .i64 f.h, .slice f.pa f.pn f.pc]) := (hb5.block g4 (Blk.lt HX.out)).trans HX.out
      have HB5 : Hid (Below w2.heap.size w2 w5) := below_then HBX.out hb5
      have hs5 := HB5.out.size
      have k0' : w5.cell? ⟨g4, 0, none⟩ = some (.string f.id) := Blk.cell HX5.out 0
      clear k0 k1 k2 hb5 HIR HX HBX
      go_wp2_with (first
        | (at_builtin; refine wpList_append_own _ rfl (.tmp 39) (.tmp 42) 56 rfl w.heap.size 9 i0 (.string ⟨#[]⟩) 1 16 Tryz.underlying56 hi0 hz0 hz1 hz2 rfl (by decide) (.slice none 0 0) _ _ rfl (World.ownsRow_nil _ _ _ _) ⟨w5.heap.size, 0, none⟩ 1 1 [.string f.id] rfl rfl (cellNew1 _ _ _) (one_bytes rfl) (by unfold maxLen; omega) (by omega) (by rw [World.size_alloc]; omega) ?_; intro v' w9 hown' hgrow _; have HOWN := hid hown'; have HGR := hid hgrow; clear hown' hgrow))
      obtain ⟨va', vc', rfl, hvc'⟩ := own_slice' HOWN.out
      have HB9 : Hid (Below w2.heap.size w2 w9) := (HB5.out.alloc hs5 _).grown HGR.out (by rw [World.size_alloc]; omega) (fun j hj => by cases hj)
      go_roundw
      case rel => first | exact ⟨1, by omega, by first | rfl | go_num, HB9, .inr ⟨rfl, va', vc', rfl, HOWN⟩⟩ | exact ⟨⟨1, by omega, by first | rfl | go_num, HB9, .inr ⟨rfl, va', vc', rfl, HOWN⟩⟩, rfl⟩
      case measure => simp [intOf]
    · go_wp2_with fail
      go_ret2
      exact ⟨_, _, rfl, HO.out, below_then HB2.out HBR.out⟩
set_option maxRecDepth 100000 in
set_option maxHeartbeats 8000000 in
/-- snap.Log of a commit without parents -/
theorem slog0_any (t : TypeId) (rv : Value) (G : Sw.Src) (hz : SrcSz G) (id : ByteArray) (x : Ob) (hx : lookK G id 3 21 = (x, 0)) (hp : x.pars = []) (hh : x.height = 0) (hsz : id.size ≤ maxLen) (w : World) (hs : SrcAt w t rv G) :
    Calls Tryz.prog 25 #[.iface t rv, .string id] w fun e w' => ∃ a c, e = .returned (.tuple #[.slice a 1 c, .int .i64 0]) ∧ StrsAt w' a 1 [id] ∧ Below w.heap.size w w' := by
  have HF := hid (factsR_any t rv G hz id x hx hp w hs)
  rw [hh] at HF
  clear hs hx hp hh
  go_enter Tryz.func25, Tryz.ntmps25
  go_wp2_with fail
  refine HF.out.mono ?_; rintro e w1 ⟨a, c, pa, pc, rfl, ho1, hb1⟩
  have HB1 := hid hb1
  have hs1 : w.heap.size ≤ w1.heap.size := hb1.size
  obtain ⟨a', c', hfe, hF⟩ := own_fcs ho1 (by omega)
  injection hfe with e1 e2 e3
  subst e1; subst e3
  have HL := hid (log0_any a c ⟨id, 0, pa, 0, pc⟩ rfl rfl hsz w1 hF)
  clear ho1 hb1 hF HF e2
  go_wp2_with fail
  refine HL.out.mono ?_; rintro e w2 ⟨sa, sc, rfl, ho2, hb2⟩
  obtain ⟨sa', sc', hse, hst⟩ := own_strs (l := [id]) ho2 (by simp)
  injection hse with e1 e2 e3
  subst e1; subst e3
  have HST := hid hst
  have HB2 : Hid (Below w.heap.size w w2) := below_then HB1.out hb2
  clear ho2 hb2 hst HL e2
  go_wp2_with fail
  go_ret2
  exact ⟨_, _, rfl, HST.out, HB2.out⟩
end Go.Proofs.YtlenfiiocmchdaaGreatDoor
