/- The shelf's map of Ptr, gone over: All. -/
import Derived.Test.YthjomknhbfplnaaShPtr
import Derived.Test.YthjomknhbfplnaaRound
import Derived.RangeFuncNested
import Derived.RangeFuncBound
import Derived.RangeFuncLeaves
import Derived.Shelf.Abstract
import Derived.Shelf.RegionOpen
import Derived.TacticsInMore
import Derived.LoopNIn
import Derived.LoopIn
import Derived.Deep.AppendLies
namespace Go.Proofs.Ythjomknhbfplnaa
open Go.RowKit
attribute [local go_sem] Oper.semAt_some
set_option linter.unusedVariables false

theorem allPtr_any (q : Option Addr) (w : World) : Calls Try.prog 43 #[.pointer q] w fun e w' => e = .returned (.func (.func 64) #[] #[.pointer (some ⟨w.heap.size, 0, none⟩)]) ∧ w' = w.alloc (.cells #[.pointer q] 53) := by
  go_enter Try.func43, Try.ntmps43
  go_wp2
  go_ret
  exact ⟨rfl, rfl⟩
/-- cells from n₀ on stay -/
def KeepC (n₀ : Nat) (A B : World) : Prop := A.heap.size ≤ B.heap.size ∧ ∀ k C t fz, n₀ ≤ k → A.heap[k]? = some (.cells C t fz) → B.heap[k]? = some (.cells C t fz)
theorem keepC_t {n₀ : Nat} {A B C : World} (h : KeepC n₀ A B) (k : KeepC n₀ B C) : KeepC n₀ A C := ⟨Nat.le_trans h.1 k.1, fun i c t fz hi e => k.2 i c t fz hi (h.2 i c t fz hi e)⟩
theorem keepC_b {n₀ : Nat} {w : World} (W : World) (l : Nat) (o o' : Obj) (_ : w.heap.size ≤ l) (h : W.heap[l]? = some o) (hc : o.isCells = false) (_ : o.isWalk = false) : KeepC n₀ W (W.putObj l o') := by
  refine ⟨by simp, fun k C t fz hk e => ?_⟩
  by_cases hkl : k = l
  · subst hkl; rw [h] at e; injection e with e; subst e; simp [Obj.isCells] at hc
  · rw [World.putObj_heap_other hkl]; exact e
theorem keepC_refl (n₀ : Nat) (A : World) : KeepC n₀ A A := ⟨Nat.le_refl _, fun _ _ _ _ _ e => e⟩
theorem keepC_only {F : Nat → Prop} {n₀ : Nat} {A B : World} (h : Only F A B) (hF : ∀ k, F k → k < n₀) : KeepC n₀ A B :=
  ⟨h.size, fun k C t fz hk e => (h.block k (Array.getElem?_eq_some_iff.1 e).1 (fun hf => by have := hF k hf; omega)).trans e⟩
theorem own_keepC {n₀ B e s n : Nat} {v : Value} {xs : List Value} {A W : World} (h : A.ownsRow B e s v n xs) (hB : n₀ ≤ B) (hk : KeepC n₀ A W) : W.ownsRow B e s v n xs := by
  refine ⟨h.1, h.2.imp id ?_⟩
  rintro ⟨g, cap, cur, hv, hb, hg, r⟩
  exact ⟨g, cap, cur, hv, hb, hk.2 _ _ _ _ (by omega) hg, r⟩

/-- what is handed to a round: the j-th name, the j-th value -/
def encsPtr (l : List ByteArray) (ps : List (Option Addr)) (j : Fin l.length) : Array Value := #[.string (l.getD j.1 ByteArray.empty), encPtr (ps.getD j.1 (none))]
set_option maxRecDepth 100000 in
set_option maxHeartbeats 4000000 in
theorem allStopsPtr (n Bm m n₀ : Nat) (ks vs : Value) (l : List ByteArray) (ps : List (Option Addr)) (w : World) (hn : 1 ≤ n) (hq : w.cell? ⟨Bm, 0, none⟩ = some (.pointer (some ⟨m, 0, none⟩))) (hm : MapIsPtr w m ks vs l ps) (hn0 : n₀ ≤ w.heap.size) :
    SeqStopsK Fence.wide n Try.prog 64 #[.pointer (some ⟨Bm, 0, none⟩)] (encsPtr l ps) (KeepC n₀) (fun xs => xs = List.finRange l.length) (fun pre => pre <+: List.finRange l.length) l.length w := by
  intro L J Jx W hW hJ hJx hY h0
  have hqW : W.cell? ⟨Bm, 0, none⟩ = some (.pointer (some ⟨m, 0, none⟩)) := (hW.cell (p := ⟨Bm, 0, none⟩) (World.block_lt_of_cell? _ _ hq)).trans hq
  obtain ⟨b1, b2, b3, b4, b5, b6⟩ := hm
  have oW : Only NoF w W := Only.of_below hW _
  have hmW : MapIsPtr W m ks vs l ps := ⟨b1.only oW (fun e => e), own_only b2 oW (fun _ _ e => e), own_only b3 oW (fun _ _ e => e), b4, b5, b6⟩
  have CC := hid (clonePtr vs ps.length (ps.map encPtr) W hmW.2.2.1 (encPtr_one ps) (by omega))
  have HK : Hid (∀ W1, Below W.heap.size W W1 → Calls Try.prog 59 #[.pointer (some ⟨m, 0, none⟩)] W1 fun e w' => ∃ v, e = .returned v ∧ w'.ownsRow W1.heap.size 9 1 v l.length (svals l) ∧ Below W1.heap.size W1 w') := fun W1 hb => by
    have o1 : Only NoF W W1 := Only.of_below hb _
    exact keysPtr m ks vs l ps W1 ⟨hmW.1.only o1 (fun e => e), own_only hmW.2.1 o1 (fun _ _ e => e), own_only hmW.2.2.1 o1 (fun _ _ e => e), b4, b5, b6⟩
  have c1 := hmW.1.cell 1
  simp at c1
  obtain ⟨va, vc, rfl, hvc⟩ := own_slice hmW.2.2.1
  have hHY := hid hY; have hHJ := hid hJ
  have hnW : n₀ ≤ W.heap.size := Nat.le_trans hn0 hW.size
  obtain ⟨zs, hzs⟩ : ∃ zs, List.finRange l.length = zs := ⟨_, rfl⟩
  have hzl : zs.length = l.length := by rw [← hzs, List.length_finRange]
  have HZ : Hid (∀ k, (hk : k < l.length) → ∃ h : k < zs.length, zs[k] = ⟨k, hk⟩) := fun k hk => ⟨by omega, by subst hzs; simp⟩
  rw [hzs]
  have HQM : Hid (∀ W1, Below W.heap.size W W1 → W1.cell? ⟨Bm, 0, none⟩ = some (.pointer (some ⟨m, 0, none⟩))) := fun W1 hb => (hb.cell (p := ⟨Bm, 0, none⟩) (World.block_lt_of_cell? _ _ hqW)).trans hqW
  have H0 := hid h0
  have hln : l.length ≤ 1000000 := b6
  have HB4 := hid b4
  have hpl : ps.length ≤ 1000000 := by omega
  have HZL := hid hzl
  clear hY hJ hJx hmW b1 b2 b3 b4 b5 oW hzs hW hq h0 hzl b6
  refine callsIn_of_wp Try.func64 rfl trivial ?_ rfl
  simp only [Try.ntmps64, List.size_toArray, List.length_cons, List.length_nil, Nat.reduceAdd, Nat.reduceSub, Array.replicate_succ, Array.replicate_zero, List.push_toArray, List.append_toArray, List.nil_append, List.cons_append]
  gi_wp2_with fail
  refine ⟨trivial, (callsIn_wide.2 CC.out).mono ?_⟩; rintro e W1 ⟨v1, rfl, o1, hb1⟩
  have q1 := HQM.out W1 hb1
  have HJ1 : Hid (J [] W1) := hHJ.out _ _ _ none H0.out ⟨hb1.os, hb1.tape, hb1.output, hb1.size, fun k hk _ => hb1.block k hk⟩ (fun _ e => by cases e)
  gi_wp2_with fail
  refine ⟨trivial, (callsIn_wide.2 (HK.out W1 hb1)).mono ?_⟩; rintro e W2 ⟨v2, rfl, o2, hb2⟩
  have HJ2 : Hid (J [] W2) := hHJ.out _ _ _ none HJ1.out ⟨hb2.os, hb2.tape, hb2.output, hb2.size, fun k hk _ => hb2.block k hk⟩ (fun _ e => by cases e)
  have V2 : W2.ownsRow W.heap.size 55 1 v1 ps.length (ps.map encPtr) := own_only o1 (Only.of_below hb2 NoF) (fun _ _ e => e)
  obtain ⟨a2, c2, rfl, hac2⟩ := own_slice o2
  obtain ⟨a1, c1', rfl, hac1⟩ := own_slice V2
  have hb1s := hb1.size
  have HV2 := hid V2; have HN2 := hid o2
  clear V2 o2 o1 hb1 hb2
  gi_wp2_with fail
  gi_loopw [16] (fun i wr => ∃ (k : Nat) (pre : List (Fin l.length)), k ≤ l.length ∧ i = .int .i64 k ∧ Hid (pre = zs.take k) ∧ J pre wr ∧ KeepC n₀ W2 wr) (fun i _ => l.length - (intOf i).toNat)
  case atStart => exact ⟨0, [], Nat.zero_le _, rfl, rfl, HJ2.out, keepC_refl _ _⟩
  case round =>
    obtain ⟨k, pre, hk, rfl, HP, hJs, hkp⟩ := hrel
    by_cases hlt : k < l.length
    · obtain ⟨h3, he⟩ := HZ.out k hlt
      have h1 := hlt
      have h2 : k < ps.length := by rw [HB4.out]; exact hlt
      have ck : wr.ownsRow W1.heap.size 9 1 (.slice a2 l.length c2) l.length (svals l) := own_keepC HN2.out (by omega) hkp
      have cv : wr.ownsRow W.heap.size 55 1 (.slice a1 ps.length c1') ps.length (ps.map encPtr) := own_keepC HV2.out hnW hkp
      obtain ⟨g2, d2, e2, _, _⟩ := ck.form (by omega)
      obtain ⟨g1, d1, e1, _, _⟩ := cv.form (by omega)
      injection e2 with e21 _ e22
      injection e1 with e11 _ e12
      subst e21 e22 e11 e12
      have hck := ck.cellAt k (by omega)
      have hcv := cv.cellAt k (by omega)
      have x1 : (svals l)[k]? = some (.string l[k]) := by unfold svals; rw [List.getElem?_map, List.getElem?_eq_getElem h1]; rfl
      have x2 : (ps.map encPtr)[k]? = some (encPtr ps[k]) := by rw [List.getElem?_map, List.getElem?_eq_getElem h2]; rfl
      rw [x1] at hck
      rw [x2] at hcv
      obtain ⟨fn, tmps, assign, body, hy, hR⟩ := hHY.out pre ⟨k, hlt⟩ wr hJs (by rw [HP.out, List.length_take, HZL.out]; omega)
      have hpre : pre ++ [⟨k, hlt⟩] = zs.take (k + 1) := by
        rw [HP.out, ← he, List.take_append_getElem h3]
      unfold encsPtr at hy
      have y1 : l.getD k ByteArray.empty = l[k] := by rw [List.getD_eq_getElem?_getD, List.getElem?_eq_getElem h1]; rfl
      have y2 : ps.getD k (none) = ps[k] := by rw [List.getD_eq_getElem?_getD, List.getElem?_eq_getElem h2]; rfl
      simp only [y1, y2] at hy
      obtain ⟨nk, hnk⟩ : ∃ nk, l[k] = nk := ⟨_, rfl⟩
      obtain ⟨pk, hpk⟩ : ∃ pk, ps[k] = pk := ⟨_, rfl⟩
      rw [hnk] at hck x1
      rw [hpk] at hcv x2
      rw [hnk, hpk] at hy
      unfold encPtr at hcv hy
      obtain ⟨j0, hj0⟩ : ∃ j0 : Fin l.length, ⟨k, hlt⟩ = j0 := ⟨_, rfl⟩
      rw [hj0] at hpre hR
      have HPR := hid hpre
      have hkp2 : k < ps.length := h2
      clear x1 x2 he hpre hnk hpk hJs y1 y2 hj0
      gi_wp2
      refine hR.mono ?_
      rintro e W3 (⟨rfl, hJ3, hk3⟩ | ⟨rfl, hJx3⟩)
      · have HJ3 := hid hJ3; have HK3 := hid hk3
        clear hJ3 hk3
        gi_wp2
        go_roundw
        case rel => exact ⟨k + 1, pre ++ [j0], by omega, by go_num, HPR.out, HJ3.out, keepC_t hkp HK3.out⟩
        case measure => simp [intOf]; omega
      · have HJ3 := hid hJx3
        clear hJx3
        gi_wp2
        refine bodyPost_ret (results_none rfl _ _ _) rfl ?_
        exact ⟨⟨_, rfl⟩, .inr ⟨pre ++ [j0], by rw [HPR.out]; exact List.take_prefix _ _, HJ3.out⟩⟩
    · obtain rfl : k = l.length := by omega
      have HPZ : Hid (pre = zs) := by unfold Hid; rw [HP.out, List.take_of_length_le (Nat.le_of_eq HZL.out)]
      gi_wp2
      go_end0
      exact ⟨⟨_, rfl⟩, .inl ⟨_, rfl, by rw [← HPZ.out]; exact hJs⟩⟩
end Go.Proofs.Ythjomknhbfplnaa
