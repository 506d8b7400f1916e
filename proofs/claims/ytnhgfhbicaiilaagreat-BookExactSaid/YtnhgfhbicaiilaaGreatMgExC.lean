/- Texts in a row: ReelD, ReelE, ReelEnts, ReelF, ReelG, ReelH, ReelOn, Round, AllPtr. -/
import Derived.Test.YtnhgfhbicaiilaaGreatMgExB
import Derived.Deep.Quiet
import Derived.StillTail
import Derived.OrdersIn
import Derived.OwnWalkIn
import Derived.RangeFuncCalls
import Derived.ControlIn
import Derived.RangeFuncNested
import Derived.RangeFuncBound
import Derived.RangeFuncLeaves
import Derived.Shelf.Abstract
import Derived.Shelf.RegionOpen
import Derived.TacticsInMore
import Derived.LoopNIn
import Derived.LoopIn
import Derived.Deep.AppendLies
/- The reel's calls that write: cut, Sync, Cut, Drop, Swap. -/
namespace Go.Proofs.YtnhgfhbicaiilaaGreat
open Go.RowKit Reel
set_option linter.unusedVariables false

set_option maxHeartbeats 2000000 in
theorem cut_mem (p m : Nat) (ks vs : Value) (R : List RM) (S : St) (i : Nat) (r : RM) (n : Nat) (w : World) (h : DMem w p m ks vs R S) (hi : R[i]? = some r) (hn : n ≤ r.t.bytes.length) (hu : r.t.bytes.length ≤ S.used) (hm : S.used ≤ 67108864) (hs : r.t.safe ≤ 67108864) :
    Calls Tryz.prog 62 #[.pointer (some ⟨p, 0, none⟩), .pointer (some ⟨r.b, 0, none⟩), .int .i64 n] w fun e w' => e = .returned (.tuple #[]) ∧ (∃ v', v'.ownBlock = r.v.ownBlock ∧ DMem w' p m ks vs (R.set i ⟨r.b, v', cutT r.t n⟩) { S with ts := S.ts.set i (cutT r.t n), used := S.used - (r.t.bytes.length - n) }) ∧ Only (fun k => k = p ∨ k = r.b) w w' := by
  have hmem : r ∈ R := by obtain ⟨_, rfl⟩ := List.getElem?_eq_some_iff.1 hi; exact List.getElem_mem _
  obtain ⟨c0, c1, c2, c3, c4, c5, c6⟩ := h.blk.cells
  have f1 := Blk.frozen h.blk 1
  have ht := h.tapes.1 r hmem
  obtain ⟨a, c, hv, hc⟩ := own_slice ht.2
  have d0 := ht.1.cell 0
  have d1 := ht.1.cell 1
  have g0 := ht.1.frozen 0
  have g1 := ht.1.frozen 1
  simp [hv] at d0 d1
  have hpr : p ≠ r.b := fun e => h.p_tape hmem (.inl e)
  obtain ⟨N, hN⟩ : ∃ N, r.t.bytes.length = N := ⟨_, rfl⟩
  have HFIN : ∀ k U : Int, U = ((S.used - (N - n) : Nat) : Int) → k = ((min r.t.safe n : Nat) : Int) → ∀ W, Only NoF w W →
      (∃ v', v'.ownBlock = r.v.ownBlock ∧ DMem (((W.setCell ⟨p, 1, none⟩ (.int .i64 U)).setCell ⟨r.b, 0, none⟩ (.slice a n c)).setCell ⟨r.b, 1, none⟩ (.int .i64 k)) p m ks vs (R.set i ⟨r.b, v', cutT r.t n⟩) { S with ts := S.ts.set i (cutT r.t n), used := S.used - (N - n) }) ∧ Only (fun k => k = p ∨ k = r.b) w (((W.setCell ⟨p, 1, none⟩ (.int .i64 U)).setCell ⟨r.b, 0, none⟩ (.slice a n c)).setCell ⟨r.b, 1, none⟩ (.int .i64 k)) := by
    intro k U hU hk W hW
    have h0 := h.only hW (fun _ _ e => e)
    have O1 : Only (· = p) W (W.setCell ⟨p, 1, none⟩ (.int .i64 U)) := (Only.refl (· = p) W).setCell (p := ⟨p, 1, none⟩) (.inl rfl) _
    have h1 : DMem (W.setCell ⟨p, 1, none⟩ (.int .i64 U)) p m ks vs R { S with used := S.used - (N - n) } := h0.own O1 (by
      have := Blk.set h0.blk 1 (.int .i64 U)
      unfold DBlk
      rw [← hU]
      simpa using this) rfl rfl
    have ht1 := h1.tapes.1 r hmem
    have O2 : Only (· = r.b) (W.setCell ⟨p, 1, none⟩ (.int .i64 U)) (((W.setCell ⟨p, 1, none⟩ (.int .i64 U)).setCell ⟨r.b, 0, none⟩ (.slice a n c)).setCell ⟨r.b, 1, none⟩ (.int .i64 k)) :=
      ((Only.refl (· = r.b) _).setCell (p := ⟨r.b, 0, none⟩) (.inl rfl) _).setCell (p := ⟨r.b, 1, none⟩) (.inl rfl) _
    have hb2 : Blk (((W.setCell ⟨p, 1, none⟩ (.int .i64 U)).setCell ⟨r.b, 0, none⟩ (.slice a n c)).setCell ⟨r.b, 1, none⟩ (.int .i64 k)) r.b 79 #[.slice a n c, .int .i64 k] := by
      have := (ht1.1.set 0 (.slice a n c)).set 1 (.int .i64 k)
      simpa using this
    have ho2 : (((W.setCell ⟨p, 1, none⟩ (.int .i64 U)).setCell ⟨r.b, 0, none⟩ (.slice a n c)).setCell ⟨r.b, 1, none⟩ (.int .i64 k)).ownsRow 0 5 1 (.slice a n c) n (bvals (r.t.bytes.take n)) := by
      have h3 := own_only ht1.2 O2 (fun k hk e => by subst e; exact ht1.v_ne_b ht1 hk)
      rw [hv] at h3
      have h4 := own_take h3 hn
      unfold bvals at h4 ⊢
      rwa [← List.map_take] at h4
    have hbk : (Value.slice a n c).ownBlock = r.v.ownBlock := by rw [hv]; cases a <;> rfl
    refine ⟨⟨.slice a n c, hbk, ?_⟩, (hW.mono (fun _ e => e.elim)).trans (O1.mono (fun i e => .inl e) |>.then (O2.mono (fun i e => .inr e))) (fun i e => .inl e)⟩
    have hl : (r.t.bytes.take n).length = n := by rw [List.length_take]; omega
    refine h1.tape hi (O2.mono (fun i e => .inl e)) (r' := ⟨r.b, .slice a n c, cutT r.t n⟩) ⟨?_, ?_⟩ rfl (.inl hbk)
    · show Blk _ r.b _ #[.slice a n c, .int .i64 ((min r.t.safe n : Nat) : Int)]
      rw [← hk]; exact hb2
    · show World.ownsRow _ 0 _ 1 (.slice a n c) (r.t.bytes.take n).length _
      rw [hl]; exact ho2
  rw [hN] at d0 hn hu hc ⊢
  have HF := hid HFIN
  clear HFIN h hi ht hv hN c0 c2 c3 c4 c5 c6
  have hs0 : (0 : Int) ≤ r.t.safe := by omega
  by_cases hsn : r.t.safe ≤ n
  · go_enter Tryz.func62, Tryz.ntmps62
    go_wp2
    go_region
    go_wp2
    go_end0
    exact ⟨rfl, HF.out _ _ (by omega) (by omega) _ (Only.refl _ w).drew⟩
  · have hsn' : n ≤ r.t.safe := by omega
    go_enter Tryz.func62, Tryz.ntmps62
    go_wp2
    go_region
    go_wp2
    go_end0
    exact ⟨rfl, HF.out _ _ (by omega) (by omega) _ (Only.refl _ w).drew⟩

def big : Nat := 4611686018427387904
theorem act_mem (p m : Nat) (ks vs : Value) (R : List RM) (S : St) (w : World) (n : Nat) (h : DMem w p m ks vs R S) (hd : S.down = false) (hf : S.Fits n) (hn : n < big) :
    Calls Tryz.prog 68 #[.pointer (some ⟨p, 0, none⟩)] w fun e w' => e = .returned (.int .i64 (actS S).2) ∧ DMem w' p m ks vs R (actS S).1 ∧ Only (· = p) w w' := by
  unfold big at hn
  refine (act_any p m S w h.blk hd (by have := hf.1; omega) (by have := hf.2.1; omega) hf.2.2).mono ?_
  rintro e w' ⟨rfl, h1, h2⟩
  obtain ⟨e1, e2, _⟩ := act_l S
  exact ⟨rfl, h.own h2 h1 e1 e2, h2⟩
theorem df_p {p m : Nat} {ks vs : Value} {R : List RM} : DF p m ks vs R p := .inl rfl
theorem df_r {p m : Nat} {ks vs : Value} {R : List RM} {r : RM} (h : r ∈ R) {k : Nat} (hk : TF r k) : DF p m ks vs R k := .inr (.inr ⟨r, h, hk⟩)
/-- the footprint behind a tape's change -/
theorem df_set {p m : Nat} {ks vs : Value} {R : List RM} {r r' : RM} {i B : Nat} (hi : R[i]? = some r) (hb : r'.b = r.b) (hv : r'.v.ownBlock = r.v.ownBlock ∨ ∃ g, B ≤ g ∧ r'.v.ownBlock = some g) {k : Nat} (hk : DF p m ks vs (R.set i r') k) : DF p m ks vs R k ∨ B ≤ k := by
  have hm : r ∈ R := by obtain ⟨_, rfl⟩ := List.getElem?_eq_some_iff.1 hi; exact List.getElem_mem _
  rcases hk with hk | hk | ⟨x, hx, hk⟩
  · exact .inl (.inl hk)
  · exact .inl (.inr (.inl hk))
  · rcases List.mem_or_eq_of_mem_set hx with hx | rfl
    · exact .inl (df_r hx hk)
    · rcases hk with hk | hk
      · exact .inl (df_r hm (.inl (hk.trans hb)))
      · rcases hv with hv | ⟨g, hg, hv⟩
        · rw [hv] at hk; exact .inl (df_r hm (.inr hk))
        · rw [hv] at hk; injection hk with hk; exact .inr (by omega)

set_option maxHeartbeats 2000000 in
theorem sync_any (p : Nat) (F : Nat → Prop) (S : St) (x : ByteArray) (w : World) (n : Nat) (h : DiskAt w p F S) (hf : S.Fits n) (hn : n < big) :
    Calls Tryz.prog 49 #[.pointer (some ⟨p, 0, none⟩), .string x] w fun e w' => e = .returned (.int .i64 (syncS S x).2) ∧ DiskAt w' p (grow F w w') (syncS S x).1 ∧ Only F w w' := by
  obtain ⟨hF, hok, m, ks, vs, R, h, hDF⟩ := h
  have HSAME : Hid (DiskAt w p (grow F w w) S ∧ Only F w w) := ⟨DiskAt.mk' hF (Only.refl _ _) hok h (fun k hk => .inl (hDF k hk)), Only.refl _ _⟩
  cases hd : S.down
  · cases hx : hasN S.l x
    · have e : syncS S x = (S, 12) := by unfold syncS; rw [if_neg (by simp [hd]), at_no hx]
      rw [e]
      have C := hid (rfind_no p m ks vs R S x w h hd hx)
      clear h hd hx e hok hDF hf
      go_enter Tryz.func49, Tryz.ntmps49
      go_wp2_with (go_at_call 64; refine C.out.mono ?_; rintro e w' ⟨rfl, rfl⟩)
      go_ret
      exact ⟨rfl, HSAME.out⟩
    · obtain ⟨r, h1, h2, h3, h4⟩ := h.yes hx
      have C := hid (rfind_yes p m ks vs R S x r w h hd hx h4)
      have CA := act_mem p m ks vs R S w n h hd hf hn
      rcases act_err S with ea | ea
      · have e : syncS S x = (putT (actS S).1 x { r.t with safe := r.t.bytes.length }, 0) := by unfold syncS; rw [if_neg (by simp [hd]), h3]; simp [ea]
        rw [e]
        rw [ea] at CA
        have A := hid CA
        have HFIN : Hid (∀ w1, DMem w1 p m ks vs R (actS S).1 → Only (· = p) w w1 → (∃ a c, w1.cell? ⟨r.b, 0, none⟩ = some (.slice a r.t.bytes.length c)) ∧ (∃ k, w1.cell? ⟨r.b, 1, none⟩ = some (.int .i64 k)) ∧ w1.frozen? ⟨r.b, 1, none⟩ = false ∧
            DiskAt (w1.setCell ⟨r.b, 1, none⟩ (.int .i64 r.t.bytes.length)) p (grow F w (w1.setCell ⟨r.b, 1, none⟩ (.int .i64 r.t.bytes.length))) (putT (actS S).1 x { r.t with safe := r.t.bytes.length }) ∧ Only F w (w1.setCell ⟨r.b, 1, none⟩ (.int .i64 r.t.bytes.length))) := by
          intro w1 hm ho
          have ht := hm.tapes.1 r h2
          obtain ⟨a, c, hv, hc⟩ := own_slice ht.2
          have c0 := ht.1.cell 0
          simp only [hv] at c0
          refine ⟨⟨a, c, c0.trans rfl⟩, ⟨_, (ht.1.cell 1).trans rfl⟩, ht.1.frozen 1, ?_⟩
          have O : Only (· = r.b) w1 (w1.setCell ⟨r.b, 1, none⟩ (.int .i64 r.t.bytes.length)) := (Only.refl (· = r.b) w1).setCell (p := ⟨r.b, 1, none⟩) (.inl rfl) _
          have hm2 := hm.tape h1 (O.mono (fun i e => .inl e)) (r' := ⟨r.b, r.v, { r.t with safe := r.t.bytes.length }⟩) ⟨by simpa using ht.1.set 1 (.int .i64 r.t.bytes.length), own_only ht.2 O (fun k hk e => by subst e; exact ht.v_ne_b ht hk)⟩ rfl (.inl rfl)
          have OF : Only F w (w1.setCell ⟨r.b, 1, none⟩ (.int .i64 r.t.bytes.length)) := (ho.mono (fun i e => by subst e; exact hDF _ df_p)).then (O.mono (fun i e => by subst e; exact hDF _ (df_r h2 (.inl rfl))))
          have e1 : at_ (actS S).1 x = some r.t := by rw [at_act]; exact h3
          obtain ⟨l1, l2, l3, l4⟩ := act_l S
          have hput : putT (actS S).1 x { r.t with safe := r.t.bytes.length } = { (actS S).1 with ts := (actS S).1.ts.set (posOf S.l x) { r.t with safe := r.t.bytes.length } } := by
            rw [putT_has (by rw [l1]; exact hx), show posOf (actS S).1.l x = posOf S.l x by rw [l1]]
          refine ⟨DiskAt.mk' hF OF ?_ (by rw [hput]; exact hm2) (fun k hk => (df_set (B := w.heap.size) h1 (r' := ⟨r.b, r.v, { r.t with safe := r.t.bytes.length }⟩) rfl (.inl rfl) hk).imp (hDF k) id), OF⟩
          have := St.Ok.put (act_ok hok) e1 (t' := { r.t with safe := r.t.bytes.length }) (hok.each r.t (at_mem h3)).1 (Nat.le_refl _) S.used (by show S.used + _ = (actS S).1.used + _; rw [l3]) hok.most
          rw [hput] at this ⊢
          rw [← l3] at this
          exact this
        clear h hd hx e hok hDF hf h1 h2 h3 h4 CA ea
        go_enter Tryz.func49, Tryz.ntmps49
        go_wp2_with fail
        refine C.out.mono ?_; rintro e w' ⟨rfl, rfl⟩
        go_wp2_with fail
        refine A.out.mono ?_; rintro e w1 ⟨rfl, hm, ho⟩
        obtain ⟨⟨a, c, d0⟩, ⟨k, d1⟩, g1, hfin⟩ := HFIN.out w1 hm ho
        have HF := hid hfin
        clear hfin hm ho
        go_wp2_with fail
        go_ret
        exact ⟨rfl, HF.out⟩
      · have e : syncS S x = actS S := by unfold syncS; rw [if_neg (by simp [hd]), h3]; simp [ea]
        rw [e]
        rw [ea] at CA ⊢
        have A := hid CA
        have HFIN : Hid (∀ w1, DMem w1 p m ks vs R (actS S).1 → Only (· = p) w w1 → DiskAt w1 p (grow F w w1) (actS S).1 ∧ Only F w w1) := fun w1 hm ho => by
          have OF : Only F w w1 := ho.mono (fun i e => by subst e; exact hDF _ df_p)
          exact ⟨DiskAt.mk' hF OF (act_ok hok) hm (fun k hk => .inl (hDF k hk)), OF⟩
        clear h hd hx e hok hDF hf h1 h2 h3 h4 CA ea
        go_enter Tryz.func49, Tryz.ntmps49
        go_wp2_with fail
        refine C.out.mono ?_; rintro e w' ⟨rfl, rfl⟩
        go_wp2_with fail
        refine A.out.mono ?_; rintro e w1 ⟨rfl, hm, ho⟩
        have HF := hid (HFIN.out w1 hm ho)
        clear hm ho
        go_wp2_with fail
        go_ret
        exact ⟨rfl, HF.out⟩
  · have e : syncS S x = (S, 10) := by unfold syncS; rw [if_pos hd]
    rw [e]
    have C := hid (rfind_down p m ks vs R S x w h hd)
    clear h hd e hok hDF hf
    go_enter Tryz.func49, Tryz.ntmps49
    go_wp2_with (go_at_call 64; refine C.out.mono ?_; rintro e w' ⟨rfl, rfl⟩)
    go_ret
    exact ⟨rfl, HSAME.out⟩
end Go.Proofs.YtnhgfhbicaiilaaGreat
/- The reel's memory when a tape comes under a name, or goes. -/
namespace Go.Proofs.YtnhgfhbicaiilaaGreat
open Go.RowKit Reel
set_option linter.unusedVariables false

def putR (l : List ByteArray) (R : List RM) (x : ByteArray) (r : RM) : List RM := if hasN l x = true then R.set (posOf l x) r else R.take (posOf l x) ++ r :: R.drop (posOf l x)
def delR (l : List ByteArray) (R : List RM) (x : ByteArray) : List RM := if hasN l x = true then R.take (posOf l x) ++ R.drop (posOf l x + 1) else R
theorem putR_mem {l : List ByteArray} {R : List RM} {x : ByteArray} {r y : RM} (h : y ∈ putR l R x r) : y = r ∨ y ∈ R := by
  unfold putR at h
  split at h
  · exact (List.mem_or_eq_of_mem_set h).symm
  · rcases List.mem_append.1 h with h | h
    · exact .inr (List.mem_of_mem_take h)
    · rcases List.mem_cons.1 h with h | h
      · exact .inl h
      · exact .inr (List.mem_of_mem_drop h)
theorem delR_sub (l : List ByteArray) (R : List RM) (x : ByteArray) : (delR l R x).Sublist R := by
  unfold delR; split
  · exact del_sub R _
  · exact List.Sublist.refl _
theorem putR_tp (l : List ByteArray) (R : List RM) (x : ByteArray) (r : RM) : (putR l R x r).map tp = putVPtr l (R.map tp) x (tp r) := by
  unfold putR putVPtr
  split
  · rw [List.map_set]
  · rw [List.map_append, List.map_cons, List.map_take, List.map_drop]
theorem delR_tp (l : List ByteArray) (R : List RM) (x : ByteArray) : (delR l R x).map tp = delVPtr l (R.map tp) x := by
  unfold delR delVPtr
  split
  · rw [List.map_append, List.map_take, List.map_drop]
  · rfl
section
variable {w w' : World} {p m : Nat} {ks vs ks' vs' : Value} {R : List RM} {S : St} {x : ByteArray} {r : RM}
theorem Tapes.put (h : Tapes w R) (hr : TapeIs w r) (ha : ∀ y ∈ R, Apart r y) (l : List ByteArray) (x : ByteArray) : Tapes w (putR l R x r) := by
  refine ⟨fun y hy => (putR_mem hy).elim (fun e => by rw [e]; exact hr) (h.1 y), ?_⟩
  unfold putR
  split
  · refine List.pairwise_iff_getElem.2 fun j k hj hk hlt => ?_
    rw [List.getElem_set, List.getElem_set]
    have hj' : j < R.length := by simpa using hj
    have hk' : k < R.length := by simpa using hk
    split
    · rw [if_neg (by omega)]; exact ha _ (List.getElem_mem _)
    · split
      · exact (ha _ (List.getElem_mem _)).symm
      · exact List.pairwise_iff_getElem.1 h.2 j k hj' hk' hlt
  · have h0 : (R.take (posOf l x) ++ R.drop (posOf l x)).Pairwise Apart := by rw [List.take_append_drop]; exact h.2
    obtain ⟨h1, h2, h3⟩ := List.pairwise_append.1 h0
    refine List.pairwise_append.2 ⟨h1, List.pairwise_cons.2 ⟨fun y hy => ha y (List.mem_of_mem_drop hy), h2⟩, fun a hA b hB => ?_⟩
    rcases List.mem_cons.1 hB with rfl | hB
    · exact (ha a (List.mem_of_mem_take hA)).symm
    · exact h3 a hA b hB
theorem DMem.del (h : DMem w p m ks vs R S) (hm : MapIsPtr w' m ks' vs' (delN S.l x) (delVPtr S.l (R.map tp) x)) (ho : Only (MapF m ks vs) w w') : DMem w' p m ks' vs' (delR S.l R x) (delT S x) := by
  refine ⟨Blk.only h.blk ho h.p_map, by rw [delR_tp]; exact hm, (h.tapes.only ho (fun r hr => h.map_tape hr)).sub (delR_sub _ _ _), ?_⟩
  show (if hasN S.l x = true then _ else _) = _
  unfold delR
  split
  · rw [h.ts, List.map_append, List.map_take, List.map_drop]
  · exact h.ts
theorem tape_map (ht : TapeIs w r) (h : DMem w p m ks vs R S) : ∀ k, TF r k → ¬ MapF m ks vs k := by
  rintro k (rfl | hk) (e | e | e)
  · exact Blk.ne ht.1 h.map.1 (by decide) e
  · exact own_blk_ne h.map.2.1 ht.1 (by decide) e
  · exact own_blk_ne h.map.2.2.1 ht.1 (by decide) e
  · subst e; exact own_blk_ne ht.2 h.map.1 (by decide) hk
  · exact own_ne ht.2 h.map.2.1 (by decide) hk e
  · exact own_ne ht.2 h.map.2.2.1 (by decide) hk e
theorem DMem.put (h : DMem w p m ks vs R S) (ht : TapeIs w r) (ha : ∀ y ∈ R, Apart r y) (hm : MapIsPtr w' m ks' vs' (putN S.l x) (putVPtr S.l (R.map tp) x (tp r))) (ho : Only (MapF m ks vs) w w') : DMem w' p m ks' vs' (putR S.l R x r) (putT S x r.t) := by
  refine ⟨Blk.only h.blk ho h.p_map, by rw [putR_tp]; exact hm, (h.tapes.only ho (fun r hr => h.map_tape hr)).put (ht.only ho (tape_map ht h)) ha _ _, ?_⟩
  show (if hasN S.l x = true then _ else _) = _
  unfold putR
  split
  · rw [h.ts, List.map_set]
  · rw [h.ts, List.map_append, List.map_cons, List.map_take, List.map_drop]
theorem df_del {B : Nat} (hf : ∀ k, MapF m ks' vs' k → MapF m ks vs k ∨ B ≤ k) {k : Nat} (hk : DF p m ks' vs' (delR S.l R x) k) : DF p m ks vs R k ∨ B ≤ k := by
  rcases hk with hk | hk | ⟨y, hy, hk⟩
  · exact .inl (.inl hk)
  · exact (hf k hk).imp (fun h => .inr (.inl h)) id
  · exact .inl (.inr (.inr ⟨y, (delR_sub _ _ _).subset hy, hk⟩))
theorem df_put {B : Nat} {l : List ByteArray} (hf : ∀ k, MapF m ks' vs' k → MapF m ks vs k ∨ B ≤ k) {k : Nat} (hk : DF p m ks' vs' (putR l R x r) k) : DF p m ks vs R k ∨ TF r k ∨ B ≤ k := by
  rcases hk with hk | hk | ⟨y, hy, hk⟩
  · exact .inl (.inl hk)
  · exact (hf k hk).imp (fun h => .inr (.inl h)) .inr
  · rcases putR_mem hy with rfl | hy
    · exact .inr (.inl hk)
    · exact .inl (.inr (.inr ⟨y, hy, hk⟩))
end

/-- the way on where nothing is done, in one word -/
theorem DiskAt.same {w : World} {p : Nat} {F : Nat → Prop} {S : St} (h : DiskAt w p F S) : DiskAt w p (grow F w w) S ∧ Only F w w :=
  ⟨h.mono (fun _ => .inl) (fun k hk => hk.elim (h.1 k) (fun e => e.2)), Only.refl _ _⟩
/-- the way on where an act alone is done -/
theorem DiskAt.acted {w w' : World} {p m : Nat} {ks vs : Value} {R : List RM} {F : Nat → Prop} {S' : St} (hF : ∀ k, F k → k < w.heap.size) (hDF : ∀ k, DF p m ks vs R k → F k) (hok : S'.Ok) (hm : DMem w' p m ks vs R S') (ho : Only (· = p) w w') : DiskAt w' p (grow F w w') S' ∧ Only F w w' := by
  have OF : Only F w w' := ho.mono (fun i e => by subst e; exact hDF _ df_p)
  exact ⟨DiskAt.mk' hF OF hok hm (fun k hk => .inl (hDF k hk)), OF⟩

set_option maxHeartbeats 4000000 in
theorem cut_any (p : Nat) (F : Nat → Prop) (S : St) (x : ByteArray) (k : Int) (w : World) (n : Nat) (h : DiskAt w p F S) (hf : S.Fits n) (hn : n < big) (hk1 : -9223372036854775808 ≤ k) (hk2 : k ≤ 9223372036854775807) :
    Calls Tryz.prog 38 #[.pointer (some ⟨p, 0, none⟩), .string x, .int .i64 k] w fun e w' => e = .returned (.int .i64 (cutS S x k).2) ∧ DiskAt w' p (grow F w w') (cutS S x k).1 ∧ Only F w w' := by
  have HSAME := hid h.same
  obtain ⟨hF, hok, m, ks, vs, R, h, hDF⟩ := h
  cases hd : S.down
  · cases hx : hasN S.l x
    · have e : cutS S x k = (S, 12) := by unfold cutS; rw [if_neg (by simp [hd]), at_no hx]
      rw [e]
      have C := hid (rfind_no p m ks vs R S x w h hd hx)
      clear h hd hx e hok hDF hf
      go_enter Tryz.func38, Tryz.ntmps38
      go_wp2_with (go_at_call 64; refine C.out.mono ?_; rintro e w' ⟨rfl, rfl⟩)
      go_ret
      exact ⟨rfl, HSAME.out⟩
    · obtain ⟨r, h1, h2, h3, h4⟩ := h.yes hx
      have C := hid (rfind_yes p m ks vs R S x r w h hd hx h4)
      have ht := h.tapes.1 r h2
      obtain ⟨a, c, hv, hc⟩ := own_slice ht.2
      have d0 := ht.1.cell 0
      simp [hv] at d0
      have hlen := (hok.each r.t (at_mem h3)).1
      have hsafe := (hok.each r.t (at_mem h3)).2
      by_cases hb : k < 0 ∨ (r.t.bytes.length : Int) < k
      · have e : cutS S x k = (S, 1) := by unfold cutS; rw [if_neg (by simp [hd]), h3]; exact if_pos hb
        rw [e]
        obtain ⟨N, hN⟩ : ∃ N, r.t.bytes.length = N := ⟨_, rfl⟩
        rw [hN] at hb d0 hlen
        clear h hd hx e hok hDF hf h1 h2 h3 h4 ht hv hN hc hsafe
        rcases hb with hb | hb
        · go_enter Tryz.func38, Tryz.ntmps38
          go_wp2_with (go_at_call 64; refine C.out.mono ?_; rintro e w' ⟨rfl, rfl⟩)
          go_ret
          exact ⟨rfl, HSAME.out⟩
        · have hb0 : 0 ≤ k := by omega
          go_enter Tryz.func38, Tryz.ntmps38
          go_wp2_with (go_at_call 64; refine C.out.mono ?_; rintro e w' ⟨rfl, rfl⟩)
          go_ret
          exact ⟨rfl, HSAME.out⟩
      · have CA := act_mem p m ks vs R S w n h hd hf hn
        obtain ⟨k', rfl⟩ := Int.eq_ofNat_of_zero_le (show 0 ≤ k by omega)
        have hkl : k' ≤ r.t.bytes.length := by omega
        rcases act_err S with ea | ea
        · have e : cutS S x (k' : Int) = ({ putT (actS S).1 x (cutT r.t k') with used := S.used - (r.t.bytes.length - k') }, 0) := by
            unfold cutS; rw [if_neg (by simp [hd]), h3]; simp [ea]; omega
          rw [e]
          rw [ea] at CA
          have A := hid CA
          have hused : r.t.bytes.length ≤ S.used := by rw [hok.used]; exact Reel.size_mem (at_mem h3)
          have hmost := hok.most
          obtain ⟨l1, l2, l3, l4⟩ := act_l S
          have CC : Hid (∀ w1, DMem w1 p m ks vs R (actS S).1 → Calls Tryz.prog 62 #[.pointer (some ⟨p, 0, none⟩), .pointer (some ⟨r.b, 0, none⟩), .int .i64 k'] w1 fun e w' => e = .returned (.tuple #[]) ∧ (∃ v', v'.ownBlock = r.v.ownBlock ∧ DMem w' p m ks vs (R.set (posOf S.l x) ⟨r.b, v', cutT r.t k'⟩) { (actS S).1 with ts := (actS S).1.ts.set (posOf S.l x) (cutT r.t k'), used := S.used - (r.t.bytes.length - k') }) ∧ Only (fun k => k = p ∨ k = r.b) w1 w') := fun w1 hm => by
            have := cut_mem p m ks vs R (actS S).1 (posOf S.l x) r k' w1 hm h1 hkl (by rw [l3]; exact hused) (by rw [l3]; exact hmost) (by omega)
            rw [l3] at this; exact this
          have HFIN : Hid (∀ w1 w2, Only (· = p) w w1 → (∃ v', v'.ownBlock = r.v.ownBlock ∧ DMem w2 p m ks vs (R.set (posOf S.l x) ⟨r.b, v', cutT r.t k'⟩) { (actS S).1 with ts := (actS S).1.ts.set (posOf S.l x) (cutT r.t k'), used := S.used - (r.t.bytes.length - k') }) → Only (fun k => k = p ∨ k = r.b) w1 w2 →
              DiskAt w2 p (grow F w w2) { putT (actS S).1 x (cutT r.t k') with used := S.used - (r.t.bytes.length - k') } ∧ Only F w w2) := by
            rintro w1 w2 o1 ⟨v', hv', hm⟩ o2
            have OF : Only F w w2 := (o1.mono (fun i e => by subst e; exact hDF _ df_p)).then (o2.mono (fun i e => by
              rcases e with rfl | rfl
              · exact hDF _ df_p
              · exact hDF _ (df_r h2 (.inl rfl))))
            have hput : putT (actS S).1 x (cutT r.t k') = { (actS S).1 with ts := (actS S).1.ts.set (posOf S.l x) (cutT r.t k') } := by
              rw [putT_has (by rw [l1]; exact hx), show posOf (actS S).1.l x = posOf S.l x by rw [l1]]
            have hl : (cutT r.t k').bytes.length = k' := by unfold cutT; rw [List.length_take]; omega
            have hok2 := St.Ok.put (act_ok hok) (by rw [at_act]; exact h3) (t' := cutT r.t k') (by rw [hl]; omega) (by rw [hl]; unfold cutT; exact Nat.min_le_right _ _) (S.used - (r.t.bytes.length - k')) (by rw [l3, hl]; omega) (by omega)
            refine ⟨DiskAt.mk' hF OF hok2 (by rw [hput]; exact hm) (fun k hk => (df_set (B := w.heap.size) h1 (r' := ⟨r.b, v', cutT r.t k'⟩) rfl (.inl hv') hk).imp (hDF k) id), OF⟩
          have g1 : (k' : Int) ≤ r.t.bytes.length := by omega
          have HCP : Hid (∀ w1, DMem w1 p m ks vs R (actS S).1 → True) := fun _ _ => trivial
          obtain ⟨N, hN⟩ : ∃ N, r.t.bytes.length = N := ⟨_, rfl⟩
          rw [hN] at d0 hlen g1
          clear h hd hx e hok hDF hf h1 h2 h3 h4 ht hv hc hsafe CA ea hused hkl hb HSAME
          go_enter Tryz.func38, Tryz.ntmps38
          go_wp2_with fail
          refine C.out.mono ?_; rintro e w' ⟨rfl, rfl⟩
          go_wp2_with fail
          refine A.out.mono ?_; rintro e w1 ⟨rfl, hm, ho⟩
          have HM := hid hm; have HO := hid ho
          clear hm ho
          go_wp2_with fail
          refine (CC.out w1 HM.out).mono ?_; rintro e w2 ⟨rfl, hm2, ho2⟩
          have HF := hid (HFIN.out w1 w2 HO.out hm2 ho2)
          clear hm2 ho2
          go_wp2_with fail
          go_ret
          exact ⟨rfl, HF.out⟩
        · have e : cutS S x (k' : Int) = actS S := by unfold cutS; rw [if_neg (by simp [hd]), h3]; simp [ea]; omega
          rw [e]
          rw [ea] at CA ⊢
          have A := hid CA
          have HFIN : Hid (∀ w1, DMem w1 p m ks vs R (actS S).1 → Only (· = p) w w1 → DiskAt w1 p (grow F w w1) (actS S).1 ∧ Only F w w1) := fun w1 hm ho => DiskAt.acted hF hDF (act_ok hok) hm ho
          have g1 : (k' : Int) ≤ r.t.bytes.length := by omega
          obtain ⟨N, hN⟩ : ∃ N, r.t.bytes.length = N := ⟨_, rfl⟩
          rw [hN] at d0 hlen g1
          clear h hd hx e hok hDF hf h1 h2 h3 h4 ht hv hN hc hsafe CA ea hkl hb
          go_enter Tryz.func38, Tryz.ntmps38
          go_wp2_with fail
          refine C.out.mono ?_; rintro e w' ⟨rfl, rfl⟩
          go_wp2_with fail
          refine A.out.mono ?_; rintro e w1 ⟨rfl, hm, ho⟩
          have HF := hid (HFIN.out w1 hm ho)
          clear hm ho
          go_wp2_with fail
          go_ret
          exact ⟨rfl, HF.out⟩
  · have e : cutS S x k = (S, 10) := by unfold cutS; rw [if_pos hd]
    rw [e]
    have C := hid (rfind_down p m ks vs R S x w h hd)
    clear h hd e hok hDF hf
    go_enter Tryz.func38, Tryz.ntmps38
    go_wp2_with (go_at_call 64; refine C.out.mono ?_; rintro e w' ⟨rfl, rfl⟩)
    go_ret
    exact ⟨rfl, HSAME.out⟩

theorem DMem.used {w : World} {p m : Nat} {ks vs : Value} {R : List RM} {S : St} (h : DMem w p m ks vs R S) (U : Nat) (u : Int) (hu : u = U) : DMem (w.setCell ⟨p, 1, none⟩ (.int .i64 u)) p m ks vs R { S with used := U } ∧ Only (· = p) w (w.setCell ⟨p, 1, none⟩ (.int .i64 u)) := by
  have O : Only (· = p) w (w.setCell ⟨p, 1, none⟩ (.int .i64 u)) := (Only.refl (· = p) w).setCell (p := ⟨p, 1, none⟩) (.inl rfl) _
  refine ⟨h.own O ?_ rfl rfl, O⟩
  have := Blk.set h.blk 1 (.int .i64 u)
  unfold DBlk
  rw [← hu]
  simpa using this
theorem DMem.drew {w : World} {p m : Nat} {ks vs : Value} {R : List RM} {S : St} (h : DMem w p m ks vs R S) : DMem w.drew p m ks vs R S := h.only (Only.refl NoF w).drew (fun _ _ e => e)

set_option maxHeartbeats 4000000 in
theorem drop_any (p : Nat) (F : Nat → Prop) (S : St) (x : ByteArray) (w : World) (n : Nat) (h : DiskAt w p F S) (hf : S.Fits n) (hn : n < big) :
    Calls Tryz.prog 36 #[.pointer (some ⟨p, 0, none⟩), .string x] w fun e w' => e = .returned (.int .i64 (dropS S x).2) ∧ DiskAt w' p (grow F w w') (dropS S x).1 ∧ Only F w w' := by
  have HSAME := hid h.same
  obtain ⟨hF, hok, m, ks, vs, R, h, hDF⟩ := h
  cases hd : S.down
  · cases hx : hasN S.l x
    · have e : dropS S x = (S, 12) := by unfold dropS; rw [if_neg (by simp [hd]), at_no hx]
      rw [e]
      have C := hid (rfind_no p m ks vs R S x w h hd hx)
      clear h hd hx e hok hDF hf
      go_enter Tryz.func36, Tryz.ntmps36
      go_wp2_with (go_at_call 64; refine C.out.mono ?_; rintro e w' ⟨rfl, rfl⟩)
      go_ret
      exact ⟨rfl, HSAME.out⟩
    · obtain ⟨r, h1, h2, h3, h4⟩ := h.yes hx
      have C := hid (rfind_yes p m ks vs R S x r w h hd hx h4)
      have CA := act_mem p m ks vs R S w n h hd hf hn
      rcases act_err S with ea | ea
      · have e : dropS S x = ({ delT (actS S).1 x with used := S.used - r.t.bytes.length }, 0) := by
          unfold dropS; rw [if_neg (by simp [hd]), h3]; simp [ea]
        rw [e]
        rw [ea] at CA
        have A := hid CA
        obtain ⟨l1, l2, l3, l4⟩ := act_l S
        have hused : r.t.bytes.length ≤ S.used := by rw [hok.used]; exact Reel.size_mem (at_mem h3)
        have hmost := hok.most
        have hlen := (hok.each r.t (at_mem h3)).1
        obtain ⟨N, hN⟩ : ∃ N, r.t.bytes.length = N := ⟨_, rfl⟩
        have HC : Hid (∀ w1, DMem w1 p m ks vs R (actS S).1 → (∃ a c, w1.cell? ⟨r.b, 0, none⟩ = some (.slice a N c)) ∧ w1.cell? ⟨p, 1, none⟩ = some (.int .i64 S.used) ∧ w1.cell? ⟨p, 0, none⟩ = some (.pointer (some ⟨m, 0, none⟩)) ∧ w1.frozen? ⟨p, 1, none⟩ = false ∧ p ≠ r.b) := fun w1 hm => by
          have ht := hm.tapes.1 r h2
          obtain ⟨a, c, hv, hc⟩ := own_slice ht.2
          have c0 := ht.1.cell 0
          simp only [hv] at c0
          obtain ⟨q0, q1, -⟩ := hm.blk.cells
          rw [l3] at q1
          exact ⟨⟨a, c, by rw [← hN]; exact c0.trans rfl⟩, q1, q0, Blk.frozen hm.blk 1, fun e => hm.p_tape h2 (.inl e)⟩
        have HD : Hid (∀ w1, DMem w1 p m ks vs R (actS S).1 → Calls Tryz.prog 77 #[.pointer (some ⟨m, 0, none⟩), .string x] (w1.drew.setCell ⟨p, 1, none⟩ (.int .i64 ((S.used : Int) - N))) fun e w' => e = .returned (.bool (hasN S.l x)) ∧ ∃ ks' vs', MapIsPtr w' m ks' vs' (delN S.l x) (delVPtr S.l (R.map tp) x) ∧ Only (MapF m ks vs) (w1.drew.setCell ⟨p, 1, none⟩ (.int .i64 ((S.used : Int) - N))) w' ∧ (∀ k, MapF m ks' vs' k → MapF m ks vs k)) := fun w1 hm => by
          have h5 := (hm.drew.used (S.used - N) ((S.used : Int) - N) (by omega)).1.map
          have := delPtr_any m ks vs _ (R.map tp) x _ h5
          rw [l1] at this; exact this
        have HFIN : Hid (∀ w1 w3 ks' vs', DMem w1 p m ks vs R (actS S).1 → Only (· = p) w w1 → MapIsPtr w3 m ks' vs' (delN S.l x) (delVPtr S.l (R.map tp) x) → Only (MapF m ks vs) (w1.drew.setCell ⟨p, 1, none⟩ (.int .i64 ((S.used : Int) - N))) w3 → (∀ k, MapF m ks' vs' k → MapF m ks vs k) →
            DiskAt w3 p (grow F w w3) { delT (actS S).1 x with used := S.used - N } ∧ Only F w w3) := by
          intro w1 w3 ks' vs' hm ho hm3 ho3 hf3
          obtain ⟨h5, o5⟩ := hm.drew.used (S.used - N) ((S.used : Int) - N) (by omega)
          have o4 : Only F w w1.drew := (ho.mono (fun i e => by subst e; exact hDF _ df_p)).drew
          have o6 := o4.then (o5.mono (fun i e => by subst e; exact hDF _ df_p))
          have OF : Only F w w3 := o6.then (ho3.mono (fun i e => hDF _ (.inr (.inl e))))
          have hm6 := h5.del (x := x) (by show MapIsPtr w3 m ks' vs' (delN (actS S).1.l x) (delVPtr (actS S).1.l (R.map tp) x); rw [l1]; exact hm3) ho3
          have hok2 := St.Ok.del (act_ok hok) (by rw [at_act]; exact h3) (S.used - N) (by rw [l3, hN]; omega)
          exact ⟨DiskAt.mk' hF OF hok2 hm6 (fun k hk => (df_del (B := w.heap.size) (fun k hk => .inl (hf3 k hk)) hk).imp (hDF k) id), OF⟩
        rw [hN] at hused hlen ⊢
        clear h hd hx e hok hDF hf h1 h2 h3 h4 CA ea HSAME hN
        go_enter Tryz.func36, Tryz.ntmps36
        go_wp2_with fail
        refine C.out.mono ?_; rintro e w' ⟨rfl, rfl⟩
        go_wp2_with fail
        refine A.out.mono ?_; rintro e w1 ⟨rfl, hm, ho⟩
        obtain ⟨⟨a, c, d0⟩, q1, q0, f1, hpr⟩ := HC.out w1 hm
        have HM := hid hm; have HO := hid ho
        clear hm ho
        go_wp2_with fail
        go_region
        go_wp2_with fail
        refine (HD.out w1 HM.out).mono ?_; rintro e w3 ⟨rfl, ks', vs', hm3, ho3, hf3⟩
        have HF := hid (HFIN.out w1 w3 ks' vs' HM.out HO.out hm3 ho3 hf3)
        clear hm3 ho3 hf3
        go_wp2_with fail
        go_ret
        exact ⟨rfl, HF.out⟩
      · have e : dropS S x = actS S := by unfold dropS; rw [if_neg (by simp [hd]), h3]; simp [ea]
        rw [e]
        rw [ea] at CA ⊢
        have A := hid CA
        have HFIN : Hid (∀ w1, DMem w1 p m ks vs R (actS S).1 → Only (· = p) w w1 → DiskAt w1 p (grow F w w1) (actS S).1 ∧ Only F w w1) := fun w1 hm ho => DiskAt.acted hF hDF (act_ok hok) hm ho
        clear h hd hx e hok hDF hf h1 h2 h3 h4 CA ea
        go_enter Tryz.func36, Tryz.ntmps36
        go_wp2_with fail
        refine C.out.mono ?_; rintro e w' ⟨rfl, rfl⟩
        go_wp2_with fail
        refine A.out.mono ?_; rintro e w1 ⟨rfl, hm, ho⟩
        have HF := hid (HFIN.out w1 hm ho)
        clear hm ho
        go_wp2_with fail
        go_ret
        exact ⟨rfl, HF.out⟩
  · have e : dropS S x = (S, 10) := by unfold dropS; rw [if_pos hd]
    rw [e]
    have C := hid (rfind_down p m ks vs R S x w h hd)
    clear h hd e hok hDF hf
    go_enter Tryz.func36, Tryz.ntmps36
    go_wp2_with (go_at_call 64; refine C.out.mono ?_; rintro e w' ⟨rfl, rfl⟩)
    go_ret
    exact ⟨rfl, HSAME.out⟩
end Go.Proofs.YtnhgfhbicaiilaaGreat
/- The reel's states as lists of names with their tapes: plain Lean. -/
namespace Go.Proofs.YtnhgfhbicaiilaaGreat.Reel
open Go.RowKit
set_option linter.unusedVariables false

def St.ents (S : St) : List (ByteArray × Spool) := S.l.zip S.ts
theorem zip_set {α β : Type} : ∀ (l : List α) (r : List β) (i : Nat) (b : β) (h : i < l.length), l.zip (r.set i b) = (l.zip r).set i (l[i], b)
  | [], _, _, _, h => absurd h (Nat.not_lt_zero _)
  | _ :: _, [], i, _, _ => by cases i <;> rfl
  | a :: l, c :: r, 0, b, _ => rfl
  | a :: l, c :: r, i + 1, b, h => by simp [zip_set l r i b (by simpa using h)]
theorem zip_take {α β : Type} : ∀ (l : List α) (r : List β) (i : Nat), (l.take i).zip (r.take i) = (l.zip r).take i
  | [], r, i => by simp
  | a :: l, [], i => by simp
  | a :: l, c :: r, 0 => rfl
  | a :: l, c :: r, i + 1 => by simp [zip_take l r i]
theorem zip_drop {α β : Type} : ∀ (l : List α) (r : List β) (i : Nat), (l.drop i).zip (r.drop i) = (l.zip r).drop i
  | [], r, i => by simp
  | a :: l, [], i => by simp
  | a :: l, c :: r, 0 => rfl
  | a :: l, c :: r, i + 1 => by simp [zip_drop l r i]
section
variable {S : St} {x y : ByteArray} {t u : Spool}
theorem ents_len (h : S.Ok) : S.ents.length = S.l.length := by unfold St.ents; simp [h.len]
theorem ents_fst (h : S.Ok) : S.ents.map (·.1) = S.l := by unfold St.ents; rw [List.map_fst_zip]; exact Nat.le_of_eq h.len.symm
theorem ents_snd (h : S.Ok) : S.ents.map (·.2) = S.ts := by unfold St.ents; rw [List.map_snd_zip]; exact Nat.le_of_eq h.len
theorem has_ents (h : S.Ok) : hasN S.l x = true ↔ ∃ t, (x, t) ∈ S.ents := by
  rw [hasN_iff]
  conv => lhs; rw [← ents_fst h]
  rw [List.mem_map]
  constructor
  · rintro ⟨⟨a, b⟩, h1, rfl⟩; exact ⟨b, h1⟩
  · rintro ⟨b, h1⟩; exact ⟨_, h1, rfl⟩
theorem rising_inj {l : List ByteArray} (hr : Rising l) {i j : Nat} (hi : i < l.length) (hj : j < l.length) (h : l[i] = l[j]) : i = j := by
  rcases Nat.lt_trichotomy i j with hlt | heq | hlt
  · have := List.pairwise_iff_getElem.1 hr i j hi hj hlt; rw [h, lt_irr] at this; cases this
  · exact heq
  · have := List.pairwise_iff_getElem.1 hr j i hj hi hlt; rw [h, lt_irr] at this; cases this
theorem pos_get {l : List ByteArray} (hr : Rising l) (hx : hasN l x = true) : ∃ h : posOf l x < l.length, l[posOf l x] = x := by
  obtain ⟨h1, h2⟩ := (posOf_mem hr x).2 (hasN_iff.1 hx)
  refine ⟨h1, ?_⟩
  rwa [List.getD_eq_getElem?_getD, List.getElem?_eq_getElem h1] at h2
theorem ents_get (i : Nat) (hi : i < S.ents.length) : ∃ (h1 : i < S.l.length) (h2 : i < S.ts.length), S.ents[i] = (S.l[i], S.ts[i]) := by
  have hi' : i < (S.l.zip S.ts).length := hi
  have hl : i < S.l.length := by rw [List.length_zip] at hi'; omega
  have ht : i < S.ts.length := by rw [List.length_zip] at hi'; omega
  refine ⟨hl, ht, ?_⟩
  show (S.l.zip S.ts)[i]'hi' = _
  rw [List.getElem_zip]
theorem at_iff (h : S.Ok) : at_ S y = some t ↔ (y, t) ∈ S.ents := by
  constructor
  · intro ha
    obtain ⟨h1, h2⟩ := at_some ha
    obtain ⟨h3, h4⟩ := pos_get h.rising h1
    obtain ⟨h5, h6⟩ := List.getElem?_eq_some_iff.1 h2
    have : S.ents[posOf S.l y]'(by rw [ents_len h]; exact h3) = (y, t) := by obtain ⟨_, _, e⟩ := ents_get (S := S) (posOf S.l y) (by rw [ents_len h]; exact h3); rw [e, h4, h6]
    rw [← this]; exact List.getElem_mem _
  · intro hm
    obtain ⟨i, hi, he⟩ := List.getElem_of_mem hm
    have hil := hi
    rw [ents_len h] at hil
    obtain ⟨_, _, e0⟩ := ents_get i hi
    rw [e0] at he
    injection he with e1 e2
    have hx : hasN S.l y = true := by rw [hasN_iff, ← e1]; exact List.getElem_mem _
    obtain ⟨h3, h4⟩ := pos_get h.rising hx
    have : posOf S.l y = i := rising_inj h.rising h3 hil (by rw [h4, e1])
    unfold at_
    rw [if_pos hx, this, List.getElem?_eq_getElem (by rw [h.len]; exact hil), e2]
theorem at_ext {S' : St} (h : S.Ok) (h' : S'.Ok) (x : ByteArray) (he : ∀ t, (x, t) ∈ S.ents ↔ (x, t) ∈ S'.ents) : at_ S x = at_ S' x := by
  cases ha : at_ S x with
  | some t => exact ((at_iff h').2 ((he t).1 ((at_iff h).1 ha))).symm
  | none =>
    cases hb : at_ S' x with
    | none => rfl
    | some t => rw [(at_iff h).2 ((he t).2 ((at_iff h').1 hb))] at ha; cases ha
theorem ents_put_has (h : S.Ok) (hx : hasN S.l x = true) : (putT S x t).ents = S.ents.set (posOf S.l x) (x, t) := by
  obtain ⟨h3, h4⟩ := pos_get h.rising hx
  rw [putT_has hx]
  unfold St.ents
  show S.l.zip (S.ts.set _ t) = _
  rw [zip_set _ _ _ _ h3, h4]
theorem ents_put_no (h : S.Ok) (hx : hasN S.l x = false) : (putT S x t).ents = S.ents.take (posOf S.l x) ++ (x, t) :: S.ents.drop (posOf S.l x) := by
  rw [putT_no hx]
  unfold St.ents
  show (S.l.take _ ++ x :: S.l.drop _).zip (S.ts.take _ ++ t :: S.ts.drop _) = _
  rw [List.zip_append (by have := h.len; simp [this]), List.zip_cons_cons, zip_take, zip_drop]
theorem ents_del (h : S.Ok) (hx : hasN S.l x = true) : (delT S x).ents = S.ents.take (posOf S.l x) ++ S.ents.drop (posOf S.l x + 1) := by
  rw [delT_has hx]
  unfold St.ents
  show (S.l.take _ ++ S.l.drop _).zip (S.ts.take _ ++ S.ts.drop _) = _
  rw [List.zip_append (by have := h.len; simp [this]), zip_take, zip_drop]
theorem del_mem (h : S.Ok) (hx : hasN S.l x = true) : (y, t) ∈ (delT S x).ents ↔ (y, t) ∈ S.ents ∧ y ≠ x := by
  rw [ents_del h hx]
  obtain ⟨h3, h4⟩ := pos_get h.rising hx
  have hl := ents_len h
  have he : S.ents = S.ents.take (posOf S.l x) ++ S.ents[posOf S.l x]'(by omega) :: S.ents.drop (posOf S.l x + 1) := by
    rw [← List.drop_eq_getElem_cons, List.take_append_drop]
  have hg : (S.ents[posOf S.l x]'(by omega)).1 = x := by obtain ⟨_, _, e⟩ := ents_get (S := S) (posOf S.l x) (by omega); rw [e]; exact h4
  have idx : ∀ (j : Nat) (hj : j < S.ents.length), (S.ents[j]).1 = x → j = posOf S.l x := fun j hj e => by
    refine rising_inj h.rising (by omega) h3 ?_
    obtain ⟨_, _, e0⟩ := ents_get j hj
    rw [h4, ← e, e0]
  constructor
  · intro hm
    refine ⟨by
      rw [he]
      rcases List.mem_append.1 hm with hm | hm
      · exact List.mem_append.2 (.inl hm)
      · exact List.mem_append.2 (.inr (List.mem_cons_of_mem _ hm)), ?_⟩
    rintro rfl
    rcases List.mem_append.1 hm with hm | hm
    · obtain ⟨j, hj, e⟩ := List.getElem_of_mem hm
      rw [List.length_take] at hj
      rw [List.getElem_take] at e
      have := idx j (by omega) (by rw [e])
      omega
    · obtain ⟨j, hj, e⟩ := List.getElem_of_mem hm
      rw [List.length_drop] at hj
      rw [List.getElem_drop] at e
      have := idx (posOf S.l y + 1 + j) (by omega) (by rw [e])
      omega
  · rintro ⟨hm, hne⟩
    rw [he] at hm
    rcases List.mem_append.1 hm with hm | hm
    · exact List.mem_append.2 (.inl hm)
    · rcases List.mem_cons.1 hm with hm | hm
      · rw [← hm] at hg; exact absurd hg hne
      · exact List.mem_append.2 (.inr hm)
theorem put_mem (h : S.Ok) : (y, u) ∈ (putT S x t).ents ↔ (y = x ∧ u = t) ∨ (y ≠ x ∧ (y, u) ∈ S.ents) := by
  cases hx : hasN S.l x
  · rw [ents_put_no h hx]
    have he : (y, u) ∈ S.ents ↔ (y, u) ∈ S.ents.take (posOf S.l x) ∨ (y, u) ∈ S.ents.drop (posOf S.l x) := by
      rw [← List.mem_append, List.take_append_drop]
    rw [List.mem_append, List.mem_cons, he]
    constructor
    · rintro (hm | hm | hm)
      · refine .inr ⟨?_, .inl hm⟩
        rintro rfl; rw [(has_ents h).2 ⟨_, List.mem_of_mem_take hm⟩] at hx; cases hx
      · injection hm with e1 e2; exact .inl ⟨e1, e2⟩
      · refine .inr ⟨?_, .inr hm⟩
        rintro rfl; rw [(has_ents h).2 ⟨_, List.mem_of_mem_drop hm⟩] at hx; cases hx
    · rintro (⟨rfl, rfl⟩ | ⟨_, hm | hm⟩)
      · exact .inr (.inl rfl)
      · exact .inl hm
      · exact .inr (.inr hm)
  · rw [ents_put_has h hx]
    obtain ⟨h3, h4⟩ := pos_get h.rising hx
    have hl := ents_len h
    rw [List.mem_iff_getElem]
    constructor
    · rintro ⟨j, hj0, e⟩
      have hj : j < S.ents.length := by rwa [List.length_set] at hj0
      rw [List.getElem_set] at e
      split at e
      · injection e with e1 e2; exact .inl ⟨e1.symm, e2.symm⟩
      · rename_i hne
        refine .inr ⟨?_, by rw [← e]; exact List.getElem_mem _⟩
        rintro rfl
        apply hne
        refine rising_inj h.rising h3 (by omega) ?_
        rw [h4]
        obtain ⟨_, _, e0⟩ := ents_get j hj
        rw [e0] at e
        injection e with e1 e2; exact e1.symm
    · rintro (⟨rfl, rfl⟩ | ⟨hne, hm⟩)
      · exact ⟨posOf S.l y, by rw [List.length_set]; omega, by rw [List.getElem_set, if_pos rfl]⟩
      · obtain ⟨j, hj, e⟩ := List.getElem_of_mem hm
        refine ⟨j, by rw [List.length_set]; exact hj, ?_⟩
        rw [List.getElem_set, if_neg, e]
        rintro rfl
        obtain ⟨_, _, e0⟩ := ents_get _ hj
        rw [e0] at e
        injection e with e1 e2
        exact hne (e1.symm.trans h4)
/-- what else stands there stays -/
theorem at_del (h : S.Ok) (hx : at_ S x = some u) (hne : y ≠ x) : at_ (delT S x) y = at_ S y := by
  have hx' := (at_some hx).1
  have hd : St.Ok { delT S x with used := S.used - u.bytes.length } := h.del hx _ (by have := size_mem (at_mem hx); rw [← h.used] at this; omega)
  have := at_ext (S := { delT S x with used := S.used - u.bytes.length }) hd h y (fun t => (del_mem h hx').trans ⟨fun h => h.1, fun h => ⟨h, hne⟩⟩)
  exact this
end
end Go.Proofs.YtnhgfhbicaiilaaGreat.Reel
/- The reel's calls that write, more: Swap, Append, New. -/
namespace Go.Proofs.YtnhgfhbicaiilaaGreat
open Go.RowKit Reel
set_option linter.unusedVariables false

theorem delR_apart {w : World} {R : List RM} {l : List ByteArray} {x : ByteArray} {r : RM} (h : Tapes w R) (hr : R[posOf l x]? = some r) (hx : hasN l x = true) : ∀ y ∈ delR l R x, Apart r y := by
  intro y hy
  unfold delR at hy
  rw [if_pos hx] at hy
  rcases List.mem_append.1 hy with hy | hy
  · obtain ⟨j, hj, e⟩ := List.getElem_of_mem hy
    rw [List.length_take] at hj
    rw [List.getElem_take] at e
    refine h.apart hr (r' := y) (j := j) ?_ (by omega)
    rw [List.getElem?_eq_getElem (by omega), e]
  · obtain ⟨j, hj, e⟩ := List.getElem_of_mem hy
    rw [List.length_drop] at hj
    rw [List.getElem_drop] at e
    refine h.apart hr (r' := y) (j := posOf l x + 1 + j) ?_ (by omega)
    rw [List.getElem?_eq_getElem (by omega), e]
theorem delN_le (l : List ByteArray) (x : ByteArray) : (delN l x).length ≤ l.length := by
  unfold delN; split
  · rw [List.length_append, List.length_take, List.length_drop]; omega
  · exact Nat.le_refl _
theorem swap_ok {S : St} {x yt : ByteArray} {t : Spool} (h : S.Ok) (hx : at_ S x = some t) (hn : isName yt = true) (hne : x ≠ yt) : St.Ok (putT { delT S x with used := S.used - lenAt S yt } yt t) := by
  have hlen := h.each t (at_mem hx)
  have hu : t.bytes.length ≤ S.used := by rw [h.used]; exact Reel.size_mem (at_mem hx)
  have hd : St.Ok { delT S x with used := S.used - t.bytes.length } := h.del hx _ (by omega)
  have hat : at_ { delT S x with used := S.used - t.bytes.length } yt = at_ S yt := at_del h hx (fun e => hne e.symm)
  have hx' := (at_some hx).1
  have hm := h.most
  cases ho : at_ S yt with
  | some t2 =>
    have hsum := hd.used
    have h2 : t2.bytes.length ≤ S.used - t.bytes.length := by
      have := Reel.size_mem (at_mem (hat.trans ho)); rw [← hsum] at this; exact this
    have hl : lenAt S yt = t2.bytes.length := by unfold lenAt; rw [ho]
    have := St.Ok.put hd (hat.trans ho) (t' := t) hlen.1 hlen.2 (S.used - lenAt S yt) (by rw [hl]; show _ = S.used - t.bytes.length + _; omega) (by omega)
    exact this
  | none =>
    have hl : lenAt S yt = 0 := by unfold lenAt; rw [ho]
    have hno0 := at_none hd (hat.trans ho)
    have hno : hasN (delT S x).l yt = false := hno0
    have hlt := ((posOf_mem h.rising x).2 (hasN_iff.1 hx')).1
    have := St.Ok.ins hd (x := yt) hno hn (by
      show (delT S x).l.length < 64
      rw [delT_has hx']
      have := h.few
      show (S.l.take _ ++ S.l.drop _).length < 64
      rw [List.length_append, List.length_take, List.length_drop]; omega) (t' := t) hlen.1 hlen.2 (S.used - lenAt S yt) (by rw [hl]; show _ = S.used - t.bytes.length + _; omega) (by omega)
    exact this

set_option maxHeartbeats 8000000 in
theorem swap_any (p : Nat) (F : Nat → Prop) (S : St) (x yt : ByteArray) (w : World) (n : Nat) (h : DiskAt w p F S) (hf : S.Fits n) (hn : n < big) (hto : yt.size ≤ 9223372036854775807) :
    Calls Tryz.prog 58 #[.pointer (some ⟨p, 0, none⟩), .string x, .string yt] w fun e w' => e = .returned (.int .i64 (swapS S x yt).2) ∧ DiskAt w' p (grow F w w') (swapS S x yt).1 ∧ Only F w w' := by
  have HSAME := hid h.same
  obtain ⟨hF, hok, m, ks, vs, R, h, hDF⟩ := h
  cases hd : S.down
  · cases hx : hasN S.l x
    · have e : swapS S x yt = (S, 12) := by unfold swapS; rw [if_neg (by simp [hd]), at_no hx]
      rw [e]
      have C := hid (rfind_no p m ks vs R S x w h hd hx)
      clear h hd hx e hok hDF hf
      go_enter Tryz.func58, Tryz.ntmps58
      go_wp2_with (go_at_call 64; refine C.out.mono ?_; rintro e w' ⟨rfl, rfl⟩)
      go_ret
      exact ⟨rfl, HSAME.out⟩
    · obtain ⟨r, h1, h2, h3, h4⟩ := h.yes hx
      have C := hid (rfind_yes p m ks vs R S x r w h hd hx h4)
      have CN := isName_any yt w hto
      cases hnm : isName yt
      · have e : swapS S x yt = (S, 1) := by unfold swapS; rw [if_neg (by simp [hd]), h3]; exact if_pos hnm
        rw [e]
        rw [hnm] at CN
        have N := hid CN
        clear h hd hx e hok hDF hf h1 h2 h3 h4 CN hnm
        go_enter Tryz.func58, Tryz.ntmps58
        go_wp2_with (first
          | (go_at_call 64; refine C.out.mono ?_; rintro e w' ⟨rfl, rfl⟩)
          | (go_at_call 65; refine N.out.mono ?_; rintro e w' ⟨rfl, rfl⟩))
        go_ret
        exact ⟨rfl, HSAME.out⟩
      · rw [hnm] at CN
        have N := hid CN
        clear CN
        have CA := act_mem p m ks vs R S w n h hd hf hn
        rcases act_err S with ea | ea
        · rw [ea] at CA
          have A := hid CA
          by_cases hxt : x = yt
          · have e : swapS S x yt = ((actS S).1, 0) := by
              unfold swapS; rw [if_neg (by simp [hd]), h3]; simp [ea, hnm, hxt]
            rw [e]
            have HFIN : Hid (∀ w1, DMem w1 p m ks vs R (actS S).1 → Only (· = p) w w1 → DiskAt w1 p (grow F w w1) (actS S).1 ∧ Only F w w1) := fun w1 hm ho => DiskAt.acted hF hDF (act_ok hok) hm ho
            have heq : (x.toList == yt.toList) = true := by rw [hxt]; simp
            subst hxt
            clear h hd hx e hok hDF hf h1 h2 h3 h4 CA ea hnm
            go_enter Tryz.func58, Tryz.ntmps58
            go_wp2_with fail
            refine C.out.mono ?_; rintro e w' ⟨rfl, rfl⟩
            go_wp2_with fail
            refine N.out.mono ?_; rintro e w' ⟨rfl, rfl⟩
            go_wp2_with fail
            refine A.out.mono ?_; rintro e w1 ⟨rfl, hm, ho⟩
            have HF := hid (HFIN.out w1 hm ho)
            clear hm ho
            go_wp2_with fail
            go_ret
            exact ⟨rfl, HF.out⟩
          · have e : swapS S x yt = (putT { delT (actS S).1 x with used := S.used - lenAt S yt } yt r.t, 0) := by
              unfold swapS; rw [if_neg (by simp [hd]), h3]; simp [ea, hnm, hxt]
            rw [e]
            have heq := bstr_ne hxt
            have heq2 : ¬ x.toList = yt.toList := by simpa using heq
            obtain ⟨l1, l2, l3, l4⟩ := act_l S
            have hmost := hok.most
            -- what is asked and done behind the act
            have HG : Hid (∀ w1, DMem w1 p m ks vs R (actS S).1 → Calls Tryz.prog 76 #[.pointer (some ⟨m, 0, none⟩), .string yt] w1 fun e w' => e = .returned (.tuple #[encPtr (getVPtr S.l (R.map tp) yt), .bool (hasN S.l yt)]) ∧ w1 = w') := fun w1 hm => by
              have := getPtr m ks vs _ (R.map tp) yt w1 hm.map
              rw [l1] at this; exact this
            have HREST : Hid (∀ (W2 : World) (U : Nat), DMem W2 p m ks vs R { (actS S).1 with used := U } → U = S.used - lenAt S yt → Only F w W2 →
                Calls Tryz.prog 77 #[.pointer (some ⟨m, 0, none⟩), .string x] W2 fun e w3 => e = .returned (.bool true) ∧
                  w3.cell? ⟨p, 0, none⟩ = some (.pointer (some ⟨m, 0, none⟩)) ∧
                  Calls Tryz.prog 67 #[.pointer (some ⟨m, 0, none⟩), .string yt, .pointer (some ⟨r.b, 0, none⟩)] w3 fun e w4 => (∃ b, e = .returned (.bool b)) ∧
                    DiskAt w4 p (grow F w w4) (putT { delT (actS S).1 x with used := S.used - lenAt S yt } yt r.t) ∧ Only F w w4) := by
              intro W2 U hm2 hU o2
              have CD := delPtr_any m ks vs _ (R.map tp) x W2 hm2.map
              refine CD.mono ?_
              rintro e w3 ⟨rfl, ks', vs', hm3, o3, f3⟩
              have hxl : hasN (actS S).1.l x = true := by rw [l1]; exact hx
              have hm4 : DMem w3 p m ks' vs' (delR (actS S).1.l R x) (delT { (actS S).1 with used := U } x) := hm2.del hm3 o3
              have ht3 : TapeIs w3 r := (hm2.tapes.1 r h2).only o3 (hm2.map_tape h2)
              have hap : ∀ y ∈ delR (actS S).1.l R x, Apart r y := delR_apart hm2.tapes (by rw [l1]; exact h1) hxl
              have CP := putPtr_any m ks' vs' _ ((delR (actS S).1.l R x).map tp) yt (tp r) w3 hm4.map (by
                have hr := (delN_rising hok.rising x)
                show (delN (actS S).1.l x).length < 1000000
                rw [l1]
                have := hok.few
                have := delN_le S.l x
                omega)
              refine ⟨by show _ = Ending.returned (.bool true); rw [show hasN ({ (actS S).1 with used := U } : St).l x = true from hxl], hm4.blk.cells.1, ?_⟩
              refine CP.mono ?_
              rintro e w4 ⟨rfl, ks2, vs2, hm5, o5, f5⟩
              refine ⟨⟨_, rfl⟩, ?_⟩
              have hm6 := hm4.put ht3 hap hm5 o5
              have OF3 : Only F w w3 := o2.then (o3.mono (fun i e => hDF _ (.inr (.inl e))))
              have OF4 : Only F w w4 := OF3.trans o5 (fun i e => by
                rcases e with e | e | e
                · exact .inl (hDF _ (.inr (.inl (.inl e))))
                · exact .inl (hDF _ (.inr (.inl (f3 _ (.inr (.inl e))))))
                · exact .inl (hDF _ (.inr (.inl (f3 _ (.inr (.inr e)))))))
              have hok2 : St.Ok (putT { delT (actS S).1 x with used := S.used - lenAt S yt } yt r.t) := by
                have hl : lenAt (actS S).1 yt = lenAt S yt := by unfold lenAt; rw [at_act]
                have := swap_ok (act_ok hok) (by rw [at_act]; exact h3) hnm hxt
                rw [hl, l3] at this; exact this
              subst hU
              refine ⟨DiskAt.mk' hF OF4 hok2 hm6 (fun k hk => ?_), OF4⟩
              rcases df_put (B := w.heap.size) (fun k hk => (f5 k hk).imp id (fun h => Nat.le_trans OF3.size h)) hk with hk | hk | hk
              · exact (df_del (B := w.heap.size) (fun k hk => .inl (f3 k hk)) hk).imp (hDF k) id
              · exact .inl (hDF _ (df_r h2 hk))
              · exact .inr hk
            have HO1 : Hid (∀ w1, Only (· = p) w w1 → Only F w w1) := fun w1 ho => ho.mono (fun i e => by subst e; exact hDF _ df_p)
            have HP : Hid (∀ u : Nat, u = p → F u) := fun u hu => by subst hu; exact hDF _ df_p
            cases hto2 : hasN S.l yt
            · have hl0 : lenAt S yt = 0 := by unfold lenAt; rw [at_no hto2]
              have hgv : getVPtr S.l (R.map tp) yt = none := by unfold getVPtr; rw [if_neg (by simp [hto2])]
              have HG2 : Hid (∀ w1, DMem w1 p m ks vs R (actS S).1 → Calls Tryz.prog 76 #[.pointer (some ⟨m, 0, none⟩), .string yt] w1 fun e w' => e = .returned (.tuple #[.pointer none, .bool false]) ∧ w1 = w') := fun w1 hm => by
                have := HG.out w1 hm
                rw [hgv, hto2] at this; exact this
              have HD : Hid (∀ w1, DMem w1 p m ks vs R (actS S).1 → Only F w w1 → Calls Tryz.prog 77 #[.pointer (some ⟨m, 0, none⟩), .string x] w1 fun e w3 => e = .returned (.bool true) ∧
                  w3.cell? ⟨p, 0, none⟩ = some (.pointer (some ⟨m, 0, none⟩)) ∧
                  Calls Tryz.prog 67 #[.pointer (some ⟨m, 0, none⟩), .string yt, .pointer (some ⟨r.b, 0, none⟩)] w3 fun e w4 => (∃ b, e = .returned (.bool b)) ∧
                    DiskAt w4 p (grow F w w4) (putT { delT (actS S).1 x with used := S.used - lenAt S yt } yt r.t) ∧ Only F w w4) := fun w1 hm ho =>
                HREST.out w1 S.used (by rw [← l3]; exact hm) (by rw [hl0]; omega) ho
              clear h hd hx e hok hDF hf h1 h2 h3 h4 CA ea hnm hxt HG HREST hl0 hgv hto2 HSAME
              go_enter Tryz.func58, Tryz.ntmps58
              go_wp2_with fail
              refine C.out.mono ?_; rintro e w' ⟨rfl, rfl⟩
              go_wp2_with fail
              refine N.out.mono ?_; rintro e w' ⟨rfl, rfl⟩
              go_wp2_with fail
              refine A.out.mono ?_; rintro e w1 ⟨rfl, hm, ho⟩
              have q0 := hm.blk.cells.1
              have HM := hid hm; have HO := hid (HO1.out w1 ho)
              clear hm ho
              go_wp2_with fail
              refine (HG2.out w1 HM.out).mono ?_; rintro e w' ⟨rfl, rfl⟩
              go_wp2_with fail
              refine (HD.out w1 HM.out HO.out).mono ?_; rintro e w3 ⟨rfl, q3, hput⟩
              have PUT := hid hput; clear hput
              go_wp2_with fail
              refine PUT.out.mono ?_; rintro e w4 ⟨⟨b, rfl⟩, hfin⟩
              have HF := hid hfin; clear hfin
              go_wp2_with fail
              go_ret
              exact ⟨rfl, HF.out⟩
            · obtain ⟨r2, k1, k2, k3, k4⟩ := h.yes hto2
              have hl0 : lenAt S yt = r2.t.bytes.length := by unfold lenAt; rw [k3]
              have hu2 : r2.t.bytes.length ≤ S.used := by rw [hok.used]; exact Reel.size_mem (at_mem k3)
              have hlen2 := (hok.each r2.t (at_mem k3)).1
              obtain ⟨N2, hN2⟩ : ∃ N2, r2.t.bytes.length = N2 := ⟨_, rfl⟩
              have HG2 : Hid (∀ w1, DMem w1 p m ks vs R (actS S).1 → Calls Tryz.prog 76 #[.pointer (some ⟨m, 0, none⟩), .string yt] w1 fun e w' => e = .returned (.tuple #[.pointer (some ⟨r2.b, 0, none⟩), .bool true]) ∧ w1 = w') := fun w1 hm => by
                have := HG.out w1 hm
                rw [k4, hto2] at this; exact this
              have HC : Hid (∀ w1, DMem w1 p m ks vs R (actS S).1 → (∃ a c, w1.cell? ⟨r2.b, 0, none⟩ = some (.slice a N2 c)) ∧ w1.cell? ⟨p, 1, none⟩ = some (.int .i64 S.used) ∧ w1.cell? ⟨p, 0, none⟩ = some (.pointer (some ⟨m, 0, none⟩)) ∧ w1.frozen? ⟨p, 1, none⟩ = false ∧ p ≠ r2.b) := fun w1 hm => by
                have ht := hm.tapes.1 r2 k2
                obtain ⟨a, c, hv, hc⟩ := own_slice ht.2
                have c0 := ht.1.cell 0
                simp only [hv] at c0
                obtain ⟨q0, q1, -⟩ := hm.blk.cells
                rw [l3] at q1
                exact ⟨⟨a, c, by rw [← hN2]; exact c0.trans rfl⟩, q1, q0, Blk.frozen hm.blk 1, fun e => hm.p_tape k2 (.inl e)⟩
              have HD : Hid (∀ w1, DMem w1 p m ks vs R (actS S).1 → Only F w w1 → Calls Tryz.prog 77 #[.pointer (some ⟨m, 0, none⟩), .string x] (w1.drew.setCell ⟨p, 1, none⟩ (.int .i64 ((S.used : Int) - N2))) fun e w3 => e = .returned (.bool true) ∧
                  w3.cell? ⟨p, 0, none⟩ = some (.pointer (some ⟨m, 0, none⟩)) ∧
                  Calls Tryz.prog 67 #[.pointer (some ⟨m, 0, none⟩), .string yt, .pointer (some ⟨r.b, 0, none⟩)] w3 fun e w4 => (∃ b, e = .returned (.bool b)) ∧
                    DiskAt w4 p (grow F w w4) (putT { delT (actS S).1 x with used := S.used - lenAt S yt } yt r.t) ∧ Only F w w4) := fun w1 hm ho => by
                obtain ⟨h5, o5⟩ := hm.drew.used (S.used - N2) ((S.used : Int) - N2) (by omega)
                exact HREST.out _ (S.used - N2) h5 (by rw [hl0, hN2]) (ho.drew.then (o5.mono (fun i e => HP.out i e)))
              rw [hN2] at hu2 hlen2
              clear h hd hx e hok hDF hf h1 h2 h3 h4 CA ea hnm hxt HG HREST hl0 hto2 k1 k2 k3 k4 hN2 HSAME
              go_enter Tryz.func58, Tryz.ntmps58
              go_wp2_with fail
              refine C.out.mono ?_; rintro e w' ⟨rfl, rfl⟩
              go_wp2_with fail
              refine N.out.mono ?_; rintro e w' ⟨rfl, rfl⟩
              go_wp2_with fail
              refine A.out.mono ?_; rintro e w1 ⟨rfl, hm, ho⟩
              obtain ⟨⟨a, c, d0⟩, q1, q0, f1, hpr⟩ := HC.out w1 hm
              have HM := hid hm; have HO := hid (HO1.out w1 ho)
              clear hm ho
              go_wp2_with fail
              refine (HG2.out w1 HM.out).mono ?_; rintro e w' ⟨rfl, rfl⟩
              go_wp2_with fail
              go_region
              go_wp2_with fail
              refine (HD.out w1 HM.out HO.out).mono ?_; rintro e w3 ⟨rfl, q3, hput⟩
              have PUT := hid hput; clear hput
              go_wp2_with fail
              refine PUT.out.mono ?_; rintro e w4 ⟨⟨b, rfl⟩, hfin⟩
              have HF := hid hfin; clear hfin
              go_wp2_with fail
              go_ret
              exact ⟨rfl, HF.out⟩
        · have e : swapS S x yt = actS S := by unfold swapS; rw [if_neg (by simp [hd]), h3]; simp [ea, hnm]
          rw [e]
          rw [ea] at CA ⊢
          have A := hid CA
          have HFIN : Hid (∀ w1, DMem w1 p m ks vs R (actS S).1 → Only (· = p) w w1 → DiskAt w1 p (grow F w w1) (actS S).1 ∧ Only F w w1) := fun w1 hm ho => DiskAt.acted hF hDF (act_ok hok) hm ho
          clear h hd hx e hok hDF hf h1 h2 h3 h4 CA ea hnm
          go_enter Tryz.func58, Tryz.ntmps58
          go_wp2_with fail
          refine C.out.mono ?_; rintro e w' ⟨rfl, rfl⟩
          go_wp2_with fail
          refine N.out.mono ?_; rintro e w' ⟨rfl, rfl⟩
          go_wp2_with fail
          refine A.out.mono ?_; rintro e w1 ⟨rfl, hm, ho⟩
          have HF := hid (HFIN.out w1 hm ho)
          clear hm ho
          go_wp2_with fail
          go_ret
          exact ⟨rfl, HF.out⟩
  · have e : swapS S x yt = (S, 10) := by unfold swapS; rw [if_pos hd]
    rw [e]
    have C := hid (rfind_down p m ks vs R S x w h hd)
    clear h hd e hok hDF hf
    go_enter Tryz.func58, Tryz.ntmps58
    go_wp2_with (go_at_call 64; refine C.out.mono ?_; rintro e w' ⟨rfl, rfl⟩)
    go_ret
    exact ⟨rfl, HSAME.out⟩
end Go.Proofs.YtnhgfhbicaiilaaGreat
/- The reel: Append, New. -/
namespace Go.Proofs.YtnhgfhbicaiilaaGreat
open Go.RowKit Reel
set_option linter.unusedVariables false

/-- bytes are wound on a tape -/
theorem app_step {W w1 : World} {p m : Nat} {ks vs v' : Value} {R : List RM} {S : St} {i : Nat} {r : RM} (h : DMem W p m ks vs R S) (hi : R[i]? = some r) (s : ByteArray) (hown : w1.ownsRow 0 5 1 v' (r.t.bytes ++ s.data.toList).length (bvals (r.t.bytes ++ s.data.toList)))
    (hg : W.grownBy w1 r.v.ownBlock) (hb : v'.ownBlock = r.v.ownBlock ∨ v'.ownBlock = some W.heap.size) (U : Nat) (u : Int) (hu : u = U) :
    (∃ a c, w1.cell? ⟨r.b, 0, none⟩ = some (.slice a r.t.bytes.length c)) ∧ w1.frozen? ⟨r.b, 0, none⟩ = false ∧ w1.cell? ⟨p, 1, none⟩ = some (.int .i64 S.used) ∧ w1.frozen? ⟨p, 1, none⟩ = false ∧ p ≠ r.b ∧
    DMem ((w1.setCell ⟨r.b, 0, none⟩ v').setCell ⟨p, 1, none⟩ (.int .i64 u)) p m ks vs (R.set i ⟨r.b, v', { r.t with bytes := r.t.bytes ++ s.data.toList }⟩) { S with ts := S.ts.set i { r.t with bytes := r.t.bytes ++ s.data.toList }, used := U } ∧
    Only (fun k => TF r k ∨ k = p) W ((w1.setCell ⟨r.b, 0, none⟩ v').setCell ⟨p, 1, none⟩ (.int .i64 u)) := by
  have hm : r ∈ R := by obtain ⟨_, rfl⟩ := List.getElem?_eq_some_iff.1 hi; exact List.getElem_mem _
  have ht := h.tapes.1 r hm
  have B1 : Blk w1 r.b 79 #[r.v, .int .i64 r.t.safe] := ht.1.grown hg (fun e => ht.v_ne_b ht e.symm)
  have hpr : p ≠ r.b := fun e => h.p_tape hm (.inl e)
  have P1 : Blk w1 p _ _ := Blk.grown h.blk hg (fun e => h.p_tape hm (.inr e.symm))
  obtain ⟨a, c, hv, hc⟩ := own_slice ht.2
  have O1 : Only (TF r) W w1 := (Only.refl (TF r) W).grown hg (fun k hk => .inl (.inr hk))
  have O2 : Only (TF r) W (w1.setCell ⟨r.b, 0, none⟩ v') := O1.setCell (p := ⟨r.b, 0, none⟩) (.inl (.inl rfl)) _
  have Or : Only (· = r.b) w1 (w1.setCell ⟨r.b, 0, none⟩ v') := (Only.refl (· = r.b) w1).setCell (p := ⟨r.b, 0, none⟩) (.inl rfl) _
  have hT : TapeIs (w1.setCell ⟨r.b, 0, none⟩ v') ⟨r.b, v', { r.t with bytes := r.t.bytes ++ s.data.toList }⟩ := by
    refine ⟨by simpa using B1.set 0 v', own_only hown Or (fun k hk e => ?_)⟩
    subst e
    rcases hb with hb | hb
    · rw [hb] at hk; exact ht.v_ne_b ht hk
    · rw [hb] at hk; injection hk with hk; have := ht.1.lt; omega
  have h2 := h.tape hi O2 (r' := ⟨r.b, v', { r.t with bytes := r.t.bytes ++ s.data.toList }⟩) hT rfl (hb.imp id (fun e => ⟨_, Nat.le_refl _, e⟩))
  obtain ⟨h3, O3⟩ := h2.used U u hu
  refine ⟨⟨a, c, by have := B1.cell 0; rw [hv] at this; exact this.trans rfl⟩, B1.frozen 0, (P1.cell 1).trans rfl, P1.frozen 1, hpr, h3, (O2.mono (fun i e => .inl e)).then (O3.mono (fun i e => .inr e))⟩
theorem putR_get {w : World} {p m : Nat} {ks vs : Value} {R : List RM} {S : St} {x : ByteArray} {r : RM} (h : DMem w p m ks vs R S) (hx : hasN S.l x = false) : (putR S.l R x r)[posOf S.l x]? = some r := by
  unfold putR
  rw [if_neg (by simp [hx])]
  have := posOf_le S.l x
  have hl := h.len
  rw [List.getElem?_append_right (by rw [List.length_take]; omega), List.length_take, Nat.min_eq_left (by omega)]
  simp
theorem put_put {S : St} {x : ByteArray} (h : S.Ok) (hx : hasN S.l x = false) (t u : Spool) : { putT S x t with ts := (putT S x t).ts.set (posOf S.l x) u } = putT S x u := by
  have := posOf_le S.l x
  have hl := h.len
  have key : (S.ts.take (posOf S.l x) ++ t :: S.ts.drop (posOf S.l x)).set (posOf S.l x) u = S.ts.take (posOf S.l x) ++ u :: S.ts.drop (posOf S.l x) := by
    rw [List.set_append_right _ _ (by rw [List.length_take]; omega), List.length_take, Nat.min_eq_left (by omega)]
    simp
  rw [putT_no hx, putT_no hx]
  exact congrArg (fun q => ({ S with l := S.l.take (posOf S.l x) ++ x :: S.l.drop (posOf S.l x), ts := q } : St)) key

set_option maxHeartbeats 8000000 in
theorem append_any (p : Nat) (F : Nat → Prop) (S : St) (x s : ByteArray) (w : World) (n : Nat) (h : DiskAt w p F S) (hf : S.Fits n) (hn : n < big) (hxs : x.size ≤ 9223372036854775807) (hss : s.size ≤ 140737488355328) :
    Calls Tryz.prog 23 #[.pointer (some ⟨p, 0, none⟩), .string x, .string s] w fun e w' => e = .returned (.int .i64 (appendS S x s).2) ∧ DiskAt w' p (grow F w w') (appendS S x s).1 ∧ Only F w w' := by
  have HSAME := hid h.same
  have HSAMED : Hid (DiskAt w.drew p (grow F w w.drew) S ∧ Only F w w.drew) := by
    obtain ⟨hF, hok, m, ks, vs, R, h, hDF⟩ := h
    exact ⟨DiskAt.mk' hF (Only.refl F w).drew hok h.drew (fun k hk => .inl (hDF k hk)), (Only.refl F w).drew⟩
  obtain ⟨hF, hok, m, ks, vs, R, h, hDF⟩ := h
  have hmost := hok.most
  have hroom := hok.room
  cases hd : S.down
  · have CN := isName_any x w hxs
    have hfew := hok.few
    cases hnm : isName x
    · have e : appendS S x s = (S, 1) := by unfold appendS; rw [if_neg (by simp [hd]), if_pos hnm]
      rw [e]
      rw [hnm] at CN
      have N := hid CN
      cases hx : hasN S.l x
      · have C := hid (rfind_no p m ks vs R S x w h hd hx)
        clear h hd hx e hok hDF hf CN hnm hfew HSAMED
        go_enter Tryz.func23, Tryz.ntmps23
        go_wp2_with (first
          | (go_at_call 64; refine C.out.mono ?_; rintro e w' ⟨rfl, rfl⟩)
          | (go_at_call 65; refine N.out.mono ?_; rintro e w' ⟨rfl, rfl⟩))
        go_ret
        exact ⟨rfl, HSAME.out⟩
      · obtain ⟨r, h1, h2, h3, h4⟩ := h.yes hx
        have C := hid (rfind_yes p m ks vs R S x r w h hd hx h4)
        clear h hd hx e hok hDF hf CN hnm hfew h1 h2 h3 h4 HSAMED
        go_enter Tryz.func23, Tryz.ntmps23
        go_wp2_with (first
          | (go_at_call 64; refine C.out.mono ?_; rintro e w' ⟨rfl, rfl⟩)
          | (go_at_call 65; refine N.out.mono ?_; rintro e w' ⟨rfl, rfl⟩))
        go_ret
        exact ⟨rfl, HSAME.out⟩
    · rw [hnm] at CN
      have N := hid CN
      clear CN
      obtain ⟨c0, c1, c2, -, -, -, -⟩ := h.blk.cells
      by_cases hrm : S.room < S.used + s.size
      · have e : appendS S x s = (S, 11) := by unfold appendS; rw [if_neg (by simp [hd]), if_neg (by simp [hnm]), if_pos hrm]
        rw [e]
        have g1 : (S.room : Int) < (S.used : Int) + s.size := by omega
        cases hx : hasN S.l x
        · have C := hid (rfind_no p m ks vs R S x w h hd hx)
          clear h hd hx e hok hDF hf hnm hfew hrm c0 HSAME
          go_enter Tryz.func23, Tryz.ntmps23
          go_wp2_with (first
            | (go_at_call 64; refine C.out.mono ?_; rintro e w' ⟨rfl, rfl⟩)
            | (go_at_call 65; refine N.out.mono ?_; rintro e w' ⟨rfl, rfl⟩))
          go_region
          go_wp2_with fail
          go_ret
          exact ⟨rfl, HSAMED.out⟩
        · obtain ⟨r, h1, h2, h3, h4⟩ := h.yes hx
          have C := hid (rfind_yes p m ks vs R S x r w h hd hx h4)
          clear h hd hx e hok hDF hf hnm hfew hrm c0 h1 h2 h3 h4 HSAME
          go_enter Tryz.func23, Tryz.ntmps23
          go_wp2_with (first
            | (go_at_call 64; refine C.out.mono ?_; rintro e w' ⟨rfl, rfl⟩)
            | (go_at_call 65; refine N.out.mono ?_; rintro e w' ⟨rfl, rfl⟩))
          go_region
          go_wp2_with fail
          go_ret
          exact ⟨rfl, HSAMED.out⟩
      · have g1 : (S.used : Int) + s.size ≤ S.room := by omega
        have hsz : s.size ≤ 67108864 := by omega
        cases hx : hasN S.l x
        · have C := hid (rfind_no p m ks vs R S x w h hd hx)
          have CL : Hid (Calls Tryz.prog 66 #[.pointer (some ⟨m, 0, none⟩)] w.drew fun e w' => e = .returned (.int .i64 S.l.length) ∧ w.drew = w') := lenPtr m ks vs S.l (R.map tp) w.drew h.drew.map
          by_cases hbg : 4194304 < s.size
          · have e : appendS S x s = (S, 11) := by unfold appendS; rw [if_neg (by simp [hd]), if_neg (by simp [hnm]), if_neg hrm, at_no hx]; exact if_pos (.inl hbg)
            rw [e]
            have g2 : (4194304 : Int) < s.size := by omega
            clear h hd hx e hok hDF hf hnm hrm HSAME
            go_enter Tryz.func23, Tryz.ntmps23
            go_wp2_with (first
              | (go_at_call 64; refine C.out.mono ?_; rintro e w' ⟨rfl, rfl⟩)
              | (go_at_call 65; refine N.out.mono ?_; rintro e w' ⟨rfl, rfl⟩))
            go_region
            go_wp2_with fail
            go_ret
            exact ⟨rfl, HSAMED.out⟩
          · have g2 : (s.size : Int) ≤ 4194304 := by omega
            by_cases h64 : 64 ≤ S.l.length
            · have e : appendS S x s = (S, 11) := by unfold appendS; rw [if_neg (by simp [hd]), if_neg (by simp [hnm]), if_neg hrm, at_no hx]; exact if_pos (.inr h64)
              rw [e]
              have g3 : (64 : Int) ≤ S.l.length := by omega
              clear h hd hx e hok hDF hf hnm hrm HSAME
              go_enter Tryz.func23, Tryz.ntmps23
              go_wp2_with (first
                | (go_at_call 64; refine C.out.mono ?_; rintro e w' ⟨rfl, rfl⟩)
                | (go_at_call 65; refine N.out.mono ?_; rintro e w' ⟨rfl, rfl⟩))
              go_region
              go_wp2_with (go_at_call 66; refine CL.out.mono ?_; rintro e w' ⟨rfl, rfl⟩)
              go_ret
              exact ⟨rfl, HSAMED.out⟩
            · have e : appendS S x s = actS { putT S x ⟨s.data.toList, 0⟩ with used := S.used + s.size } := by
                unfold appendS; rw [if_neg (by simp [hd]), if_neg (by simp [hnm]), if_neg hrm, at_no hx]; exact if_neg (by omega)
              rw [e]
              have g3 : ¬ (64 : Int) ≤ S.l.length := by omega
              have hsl : s.data.toList.length = s.size := Array.length_toList
              have hok2 : St.Ok { putT S x ⟨s.data.toList, 0⟩ with used := S.used + s.size } := St.Ok.ins hok hx hnm (by omega) (t' := ⟨s.data.toList, 0⟩) (by show s.data.toList.length ≤ _; rw [hsl]; omega) (Nat.zero_le _) _ (by show _ = S.used + s.data.toList.length; rw [hsl]) (by omega)
              -- the new tape
              have hda : DMem ((w.alloc (.cells #[.slice none 0 0, .int .i64 0] 79)).drew) p m ks vs R S := h.only ((Only.refl NoF w).alloc _).drew (fun _ _ e => e)
              have htn : TapeIs ((w.alloc (.cells #[.slice none 0 0, .int .i64 0] 79)).drew) ⟨w.heap.size, .slice none 0 0, ⟨[], 0⟩⟩ := ⟨Blk.new w _ _, World.ownsRow_nil _ _ _ _⟩
              have hap : ∀ y ∈ R, Apart ⟨w.heap.size, .slice none 0 0, ⟨[], 0⟩⟩ y := fun y hy => by
                refine ⟨fun e => ?_, fun k hk => by cases hk⟩
                have := (h.tapes.1 y hy).lt y.b (.inl rfl)
                have e' : w.heap.size = y.b := e
                omega
              have CP := putPtr_any m ks vs S.l (R.map tp) x (tp ⟨w.heap.size, .slice none 0 0, ⟨[], 0⟩⟩) _ hda.map (by omega)
              have HP : Hid (Calls Tryz.prog 67 #[.pointer (some ⟨m, 0, none⟩), .string x, .pointer (some ⟨w.heap.size, 0, none⟩)] ((w.alloc (.cells #[.slice none 0 0, .int .i64 0] 79)).drew) fun e w2 => (∃ b, e = .returned (.bool b)) ∧ w2.cell? ⟨w.heap.size, 0, none⟩ = some (.slice none 0 0) ∧
                  (∀ v' w3, w3.ownsRow 0 5 1 v' ([] ++ s.data.toList).length (bvals ([] ++ s.data.toList)) → w2.grownBy w3 none → (v'.ownBlock = none ∨ v'.ownBlock = some w2.heap.size) →
                    (∃ a c, w3.cell? ⟨w.heap.size, 0, none⟩ = some (.slice a 0 c)) ∧ w3.frozen? ⟨w.heap.size, 0, none⟩ = false ∧ w3.cell? ⟨p, 1, none⟩ = some (.int .i64 S.used) ∧ w3.frozen? ⟨p, 1, none⟩ = false ∧ p ≠ w.heap.size ∧
                    Calls Tryz.prog 68 #[.pointer (some ⟨p, 0, none⟩)] ((w3.setCell ⟨w.heap.size, 0, none⟩ v').setCell ⟨p, 1, none⟩ (.int .i64 ((S.used : Int) + s.size))) fun e w5 => e = .returned (.int .i64 (actS { putT S x ⟨s.data.toList, 0⟩ with used := S.used + s.size }).2) ∧ DiskAt w5 p (grow F w w5) (actS { putT S x ⟨s.data.toList, 0⟩ with used := S.used + s.size }).1 ∧ Only F w w5)) := by
                refine CP.mono ?_
                rintro e w2 ⟨rfl, ks', vs', hm2, o2, f2⟩
                have hm3 : DMem w2 p m ks' vs' (putR S.l R x ⟨w.heap.size, .slice none 0 0, ⟨[], 0⟩⟩) (putT S x ⟨[], 0⟩) := hda.put htn hap hm2 o2
                have hget := putR_get (r := ⟨w.heap.size, .slice none 0 0, ⟨[], 0⟩⟩) hda hx
                have ht2 := hm3.tapes.1 _ (List.mem_of_getElem? hget)
                refine ⟨⟨_, rfl⟩, (ht2.1.cell 0).trans rfl, fun v' w3 hown hg hb => ?_⟩
                obtain ⟨q1, q2, q3, q4, q5, hm4, o4⟩ := app_step hm3 hget s hown hg hb (S.used + s.size) ((S.used : Int) + s.size) (by omega)
                refine ⟨q1, q2, q3, q4, q5, ?_⟩
                have hS : ({ putT S x ⟨[], 0⟩ with ts := (putT S x ⟨[], 0⟩).ts.set (posOf S.l x) ⟨[] ++ s.data.toList, 0⟩, used := S.used + s.size } : St) = { putT S x ⟨s.data.toList, 0⟩ with used := S.used + s.size } := by
                  have := put_put hok hx ⟨[], 0⟩ ⟨s.data.toList, 0⟩
                  rw [← this]; rfl
                have hm5 : DMem _ p m ks' vs' _ { putT S x ⟨s.data.toList, 0⟩ with used := S.used + s.size } := hS ▸ hm4
                refine (act_mem p m ks' vs' _ _ _ n hm5 hd hf hn).mono ?_
                rintro e w5 ⟨rfl, hm6, o6⟩
                have OF2 : Only F w w2 := ((Only.refl F w).alloc _).drew.trans o2 (fun i e => .inl (hDF _ (.inr (.inl e))))
                have OF4 : Only F w ((w3.setCell ⟨w.heap.size, 0, none⟩ v').setCell ⟨p, 1, none⟩ (.int .i64 ((S.used : Int) + s.size))) := OF2.trans o4 (fun i e => by
                  rcases e with (rfl | e) | rfl
                  · exact .inr (Nat.le_refl _)
                  · cases e
                  · exact .inl (hDF _ df_p))
                have OF5 : Only F w w5 := OF4.then (o6.mono (fun i e => by subst e; exact hDF _ df_p))
                refine ⟨rfl, DiskAt.mk' hF OF5 (act_ok hok2) hm6 (fun k hk => ?_), OF5⟩
                have hsz2 : w.heap.size ≤ w2.heap.size := OF2.size
                rcases df_set (B := w.heap.size) hget (r' := ⟨w.heap.size, v', ⟨[] ++ s.data.toList, 0⟩⟩) rfl (hb.imp id (fun e => ⟨_, hsz2, e⟩)) hk with hk | hk
                · rcases df_put (B := w.heap.size) (fun k hk => (f2 k hk).imp id (fun h => by simp at h; omega)) hk with hk | hk | hk
                  · exact .inl (hDF k hk)
                  · rcases hk with rfl | hk
                    · exact .inr (Nat.le_refl _)
                    · cases hk
                  · exact .inr hk
                · exact .inr hk
              have hpl : p < w.heap.size := Blk.lt h.blk
              have hpn : p ≠ w.heap.size := by omega
              clear h hd hx e hok hDF hf hnm hrm HSAME HSAMED hda htn hap CP hok2 hfew
              go_enter Tryz.func23, Tryz.ntmps23
              go_wp2_with (first
                | (go_at_call 64; refine C.out.mono ?_; rintro e w' ⟨rfl, rfl⟩)
                | (go_at_call 65; refine N.out.mono ?_; rintro e w' ⟨rfl, rfl⟩))
              go_region
              go_wp2_with fail
              refine CL.out.mono ?_; rintro e w' ⟨rfl, rfl⟩
              go_wp2_with fail
              refine HP.out.mono ?_; rintro e w2 ⟨⟨b, rfl⟩, d0, hrest⟩
              have HR := hid hrest; clear hrest
              go_wp2_with (refine wpList_append_str rfl (.tmp 86) (.tmp 87) rfl _ [] s rfl rfl (World.ownsRow_nil _ _ _ _) (by simp; omega) ?_; intro v' w3 hown hg hb; obtain ⟨⟨a, c, d1⟩, f0, q1, f1, hpr, hact⟩ := HR.out v' w3 hown hg hb; obtain ⟨va, vc, rfl, hvc⟩ := own_slice hown; have ACT := hid hact; clear hact hown hg hb)
              refine ACT.out.mono ?_; rintro e w5 ⟨rfl, hfin⟩
              have HF := hid hfin; clear hfin
              go_wp2_with fail
              go_ret
              exact ⟨rfl, HF.out⟩
        · obtain ⟨r, h1, h2, h3, h4⟩ := h.yes hx
          have C := hid (rfind_yes p m ks vs R S x r w h hd hx h4)
          have ht := h.tapes.1 r h2
          have hlen := (hok.each r.t (at_mem h3)).1
          have hsafe := (hok.each r.t (at_mem h3)).2
          obtain ⟨a0, c0', hv, hvc⟩ := own_slice ht.2
          have d0 := ht.1.cell 0
          simp [hv] at d0
          by_cases hbg : 4194304 < r.t.bytes.length + s.size
          · have e : appendS S x s = (S, 11) := by unfold appendS; rw [if_neg (by simp [hd]), if_neg (by simp [hnm]), if_neg hrm, h3]; exact if_pos hbg
            rw [e]
            obtain ⟨N0, hN⟩ : ∃ N0, r.t.bytes.length = N0 := ⟨_, rfl⟩
            rw [hN] at hbg hlen d0
            have g2 : (4194304 : Int) < (N0 : Int) + s.size := by omega
            clear h hd hx e hok hDF hf hnm hrm HSAME h1 h2 h3 h4 ht hv hN hsafe hvc
            go_enter Tryz.func23, Tryz.ntmps23
            go_wp2_with (first
              | (go_at_call 64; refine C.out.mono ?_; rintro e w' ⟨rfl, rfl⟩)
              | (go_at_call 65; refine N.out.mono ?_; rintro e w' ⟨rfl, rfl⟩))
            go_region
            go_wp2_with fail
            go_ret
            exact ⟨rfl, HSAMED.out⟩
          · have e : appendS S x s = actS { putT S x { r.t with bytes := r.t.bytes ++ s.data.toList } with used := S.used + s.size } := by
              unfold appendS; rw [if_neg (by simp [hd]), if_neg (by simp [hnm]), if_neg hrm, h3]; exact if_neg hbg
            rw [e]
            have hsl : s.data.toList.length = s.size := Array.length_toList
            have hok2 : St.Ok { putT S x { r.t with bytes := r.t.bytes ++ s.data.toList } with used := S.used + s.size } := St.Ok.put hok h3 (t' := { r.t with bytes := r.t.bytes ++ s.data.toList }) (by show (r.t.bytes ++ s.data.toList).length ≤ _; rw [List.length_append, hsl]; omega) (by show r.t.safe ≤ (r.t.bytes ++ s.data.toList).length; rw [List.length_append]; omega) _ (by show S.used + s.size + _ = S.used + (r.t.bytes ++ s.data.toList).length; rw [List.length_append, hsl]; omega) (by omega)
            have HR : Hid (∀ v' w3, w3.ownsRow 0 5 1 v' (r.t.bytes ++ s.data.toList).length (bvals (r.t.bytes ++ s.data.toList)) → w.drew.grownBy w3 r.v.ownBlock → (v'.ownBlock = r.v.ownBlock ∨ v'.ownBlock = some w.heap.size) →
                    (∃ a c, w3.cell? ⟨r.b, 0, none⟩ = some (.slice a r.t.bytes.length c)) ∧ w3.frozen? ⟨r.b, 0, none⟩ = false ∧ w3.cell? ⟨p, 1, none⟩ = some (.int .i64 S.used) ∧ w3.frozen? ⟨p, 1, none⟩ = false ∧ p ≠ r.b ∧
                    Calls Tryz.prog 68 #[.pointer (some ⟨p, 0, none⟩)] ((w3.setCell ⟨r.b, 0, none⟩ v').setCell ⟨p, 1, none⟩ (.int .i64 ((S.used : Int) + s.size))) fun e w5 => e = .returned (.int .i64 (actS { putT S x { r.t with bytes := r.t.bytes ++ s.data.toList } with used := S.used + s.size }).2) ∧ DiskAt w5 p (grow F w w5) (actS { putT S x { r.t with bytes := r.t.bytes ++ s.data.toList } with used := S.used + s.size }).1 ∧ Only F w w5) := by
              intro v' w3 hown hg hb
              obtain ⟨q1, q2, q3, q4, q5, hm4, o4⟩ := app_step h.drew h1 s hown hg hb (S.used + s.size) ((S.used : Int) + s.size) (by omega)
              refine ⟨q1, q2, q3, q4, q5, ?_⟩
              have hS : ({ S with ts := S.ts.set (posOf S.l x) { r.t with bytes := r.t.bytes ++ s.data.toList }, used := S.used + s.size } : St) = { putT S x { r.t with bytes := r.t.bytes ++ s.data.toList } with used := S.used + s.size } := by
                rw [putT_has hx]
              have hm5 : DMem _ p m ks vs _ { putT S x { r.t with bytes := r.t.bytes ++ s.data.toList } with used := S.used + s.size } := hS ▸ hm4
              refine (act_mem p m ks vs _ _ _ n hm5 hd hf hn).mono ?_
              rintro e w5 ⟨rfl, hm6, o6⟩
              have OF4 : Only F w ((w3.setCell ⟨r.b, 0, none⟩ v').setCell ⟨p, 1, none⟩ (.int .i64 ((S.used : Int) + s.size))) := (Only.refl F w).drew.then (o4.mono (fun i e => by
                rcases e with e | rfl
                · exact hDF _ (df_r h2 e)
                · exact hDF _ df_p))
              have OF5 : Only F w w5 := OF4.then (o6.mono (fun i e => by subst e; exact hDF _ df_p))
              exact ⟨rfl, DiskAt.mk' hF OF5 (act_ok hok2) hm6 (fun k hk => (df_set (B := w.heap.size) h1 (r' := ⟨r.b, v', { r.t with bytes := r.t.bytes ++ s.data.toList }⟩) rfl (hb.imp id (fun e => ⟨_, Nat.le_refl _, e⟩)) hk).imp (hDF k) id), OF5⟩
            have HOWN : Hid (w.drew.ownsRow 0 5 1 r.v r.t.bytes.length (bvals r.t.bytes)) := ht.2
            have hbd : r.t.bytes.length + s.size ≤ 4194304 := by omega
            rw [hv] at HR HOWN
            obtain ⟨L0, hL⟩ : ∃ L0, r.t.bytes = L0 := ⟨_, rfl⟩
            simp only [hL] at HR HOWN d0 hbd hlen ⊢
            have g2 : (L0.length : Int) + s.size ≤ 4194304 := by omega
            have HLEN : Hid ((L0 ++ s.data.toList).length = L0.length + s.size) := by unfold Hid; rw [List.length_append, hsl]
            clear h hd hx e hok hDF hf hnm hrm HSAME HSAMED h1 h2 h3 h4 ht hv hL hok2 hsafe hfew hbg hvc
            go_enter Tryz.func23, Tryz.ntmps23
            go_wp2_with (first
              | (go_at_call 64; refine C.out.mono ?_; rintro e w' ⟨rfl, rfl⟩)
              | (go_at_call 65; refine N.out.mono ?_; rintro e w' ⟨rfl, rfl⟩))
            go_region
            go_wp2_with (refine wpList_append_str rfl (.tmp 86) (.tmp 87) rfl _ L0 s rfl rfl HOWN.out (by omega) ?_; intro v' w3 hown hg hb; obtain ⟨⟨a, c, d1⟩, f0, q1, f1, hpr, hact⟩ := HR.out v' w3 hown hg hb; obtain ⟨va, vc, rfl, hvc⟩ := own_slice hown; rw [HLEN.out] at hact; have ACT := hid hact; clear hact hown hg hb)
            refine ACT.out.mono ?_; rintro e w5 ⟨rfl, hfin⟩
            have HF := hid hfin; clear hfin
            go_wp2_with fail
            go_ret
            exact ⟨rfl, HF.out⟩
  · have e : appendS S x s = (S, 10) := by unfold appendS; rw [if_pos hd]
    rw [e]
    have C := hid (rfind_down p m ks vs R S x w h hd)
    clear h hd e hok hDF hf
    go_enter Tryz.func23, Tryz.ntmps23
    go_wp2_with (go_at_call 64; refine C.out.mono ?_; rintro e w' ⟨rfl, rfl⟩)
    go_ret
    exact ⟨rfl, HSAME.out⟩
end Go.Proofs.YtnhgfhbicaiilaaGreat
/- The reel: New, and the small calls in the words of the whole disk. -/
namespace Go.Proofs.YtnhgfhbicaiilaaGreat
open Go.RowKit Reel
set_option linter.unusedVariables false

theorem shnew_any (w : World) : Calls Tryz.prog 31 #[] w fun e w' => e = .returned (.pointer (some ⟨w.heap.size, 0, none⟩)) ∧ w' = w.alloc (.cells #[.slice none 0 0, .slice none 0 0] 96) := by
  go_enter Tryz.func31, Tryz.ntmps31
  go_wp2
  go_ret
  exact ⟨rfl, rfl⟩
set_option maxHeartbeats 2000000 in
theorem new_any (n : Int) (w : World) : Calls Tryz.prog 5 #[.int .i64 n] w fun e w' => ∃ p, e = .returned (.pointer (some ⟨p, 0, none⟩)) ∧ w.heap.size ≤ p ∧ DiskAt w' p (grow NoF w w') (new n) ∧ Below w.heap.size w w' := by
  have HFIN : Hid (∀ W, W = (w.alloc (.cells #[.slice none 0 0, .slice none 0 0] 96)).alloc (.cells #[.pointer (some ⟨w.heap.size, 0, none⟩), .int .i64 0, .int .i64 0, .bool false, .int .i64 0, .int .i64 0, .int .i64 0] 55) →
      Calls Tryz.prog 21 #[.pointer (some ⟨w.heap.size + 1, 0, none⟩), .int .i64 n] W fun e w' => e = .returned (.tuple #[]) ∧ DiskAt w' (w.heap.size + 1) (grow NoF w w') (new n) ∧ Below w.heap.size w w') := by
    rintro W rfl
    have hz : (w.alloc (.cells #[.slice none 0 0, .slice none 0 0] 96)).heap.size = w.heap.size + 1 := by simp
    have B1 : Blk (w.alloc (.cells #[.slice none 0 0, .slice none 0 0] 96)) w.heap.size 96 #[.slice none 0 0, .slice none 0 0] := Blk.new w _ _
    have B2 := Blk.new (w.alloc (.cells #[.slice none 0 0, .slice none 0 0] 96)) 55 #[.pointer (some ⟨w.heap.size, 0, none⟩), .int .i64 0, .int .i64 0, .bool false, .int .i64 0, .int .i64 0, .int .i64 0]
    rw [hz] at B2
    have O0 : Only NoF w ((w.alloc (.cells #[.slice none 0 0, .slice none 0 0] 96)).alloc (.cells #[.pointer (some ⟨w.heap.size, 0, none⟩), .int .i64 0, .int .i64 0, .bool false, .int .i64 0, .int .i64 0, .int .i64 0] 55)) := ((Only.refl NoF w).alloc _).alloc _
    have hm : DMem _ (w.heap.size + 1) w.heap.size (.slice none 0 0) (.slice none 0 0) [] (new 0) := ⟨B2, ⟨B1.alloc _, World.ownsRow_nil _ _ _ _, World.ownsRow_nil _ _ _ _, rfl, List.Pairwise.nil, Nat.zero_le _⟩, ⟨fun r hr => (by cases hr), List.Pairwise.nil⟩, rfl⟩
    refine (room_any _ _ (new 0) n _ hm.blk).mono ?_
    rintro e w' ⟨rfl, hb, ho⟩
    have hm2 : DMem w' (w.heap.size + 1) w.heap.size (.slice none 0 0) (.slice none 0 0) [] (new n) := hm.own ho hb rfl rfl
    have OF : Only NoF w w' := O0.trans ho (fun i e => .inr (by omega))
    refine ⟨rfl, DiskAt.mk' (fun k e => e.elim) OF (new_ok n) hm2 ?_, OF.below0⟩
    rintro k (rfl | (rfl | h | h) | ⟨r, hr, _⟩)
    · exact .inr (by omega)
    · exact .inr (Nat.le_refl _)
    · cases h
    · cases h
    · cases hr
  go_enter Tryz.func5, Tryz.ntmps5
  go_wp2_with fail
  refine (shnew_any _).mono ?_; rintro e w1 ⟨rfl, rfl⟩
  go_wp2_with fail
  refine (HFIN.out _ rfl).mono ?_; rintro e w2 ⟨rfl, h1, h2⟩
  have H1 := hid h1; have H2 := hid h2
  clear h1 h2
  go_wp2_with fail
  go_ret
  exact ⟨_, rfl, by omega, H1.out, H2.out⟩

section
variable (p : Nat) (F : Nat → Prop) (S : St) (w : World)
theorem isdown_any (h : DiskAt w p F S) : Calls Tryz.prog 33 #[.pointer (some ⟨p, 0, none⟩)] w fun e w' => e = .returned (.bool S.down) ∧ w = w' := by
  obtain ⟨-, -, m, ks, vs, R, h, -⟩ := h; exact down_any p m S w h.blk
theorem nacts_any (h : DiskAt w p F S) : Calls Tryz.prog 25 #[.pointer (some ⟨p, 0, none⟩)] w fun e w' => e = .returned (.int .i64 S.acts) ∧ w = w' := by
  obtain ⟨-, -, m, ks, vs, R, h, -⟩ := h; exact acts_any p m S w h.blk
theorem nlife_any (h : DiskAt w p F S) : Calls Tryz.prog 39 #[.pointer (some ⟨p, 0, none⟩)] w fun e w' => e = .returned (.int .i64 S.life) ∧ w = w' := by
  obtain ⟨-, -, m, ks, vs, R, h, -⟩ := h; exact life_any p m S w h.blk
theorem doff_any (n : Nat) (h : DiskAt w p F S) (hf : S.Fits n) (hn : n < big) : Calls Tryz.prog 17 #[.pointer (some ⟨p, 0, none⟩)] w fun e w' => e = .returned (.tuple #[]) ∧ DiskAt w' p (grow F w w') (offS S) ∧ Only F w w' := by
  obtain ⟨hF, hok, m, ks, vs, R, h, hDF⟩ := h
  refine (off_any p m S w h.blk (by have := hf.2.1; unfold big at hn; omega)).mono ?_
  rintro e w' ⟨rfl, hb, ho⟩
  exact ⟨rfl, DiskAt.acted hF hDF (off_ok hok) (h.own ho hb (by unfold offS; split <;> rfl) (by unfold offS; split <;> rfl)) ho⟩
theorem darm_any (n : Int) (hn : n ≤ 9223372036854775807) (h : DiskAt w p F S) : Calls Tryz.prog 15 #[.pointer (some ⟨p, 0, none⟩), .int .i64 n] w fun e w' => e = .returned (.tuple #[]) ∧ DiskAt w' p (grow F w w') (armS S n) ∧ Only F w w' := by
  obtain ⟨hF, hok, m, ks, vs, R, h, hDF⟩ := h
  refine (arm_any p m S n w h.blk hn).mono ?_
  rintro e w' ⟨rfl, hb, ho⟩
  exact ⟨rfl, DiskAt.acted hF hDF (arm_ok hok n) (h.own ho hb rfl rfl) ho⟩
theorem droom_any (n : Int) (h : DiskAt w p F S) : Calls Tryz.prog 21 #[.pointer (some ⟨p, 0, none⟩), .int .i64 n] w fun e w' => e = .returned (.tuple #[]) ∧ DiskAt w' p (grow F w w') (roomS S n) ∧ Only F w w' := by
  obtain ⟨hF, hok, m, ks, vs, R, h, hDF⟩ := h
  refine (room_any p m S n w h.blk).mono ?_
  rintro e w' ⟨rfl, hb, ho⟩
  exact ⟨rfl, DiskAt.acted hF hDF (room_ok hok n) (h.own ho hb rfl rfl) ho⟩
end
end Go.Proofs.YtnhgfhbicaiilaaGreat
/- The power is back: plain Lean. -/
namespace Go.Proofs.YtnhgfhbicaiilaaGreat.Reel
open Go.RowKit
set_option linter.unusedVariables false

def fateOf (fs : List Int) (i : Nat) : Int := if fs = [] then 0 else fs.getD (i % fs.length) 0
/-- one tape is gone over: the tapes, and how many fates were drawn -/
def oneT (fs : List Int) (s : List Spool × Nat) (j : Nat) : List Spool × Nat :=
  match s.1[j]? with
  | none => s
  | some t => if t.bytes.length = t.safe then s else (s.1.set j (left t (fateOf fs s.2)), if fs = [] then s.2 else s.2 + 1)
def procT (fs : List Int) (ts : List Spool) (pre : List Nat) : List Spool × Nat := pre.foldl (oneT fs) (ts, 0)
theorem procT_snoc (fs : List Int) (ts : List Spool) (pre : List Nat) (j : Nat) : procT fs ts (pre ++ [j]) = oneT fs (procT fs ts pre) j := by unfold procT; rw [List.foldl_append]; rfl
theorem tear_len (l : List UInt8) : (tear l).length = l.length := by
  unfold tear
  cases h : l.reverse with
  | nil => have := congrArg List.length h; simp at this; simp [this]
  | cons c r => have := congrArg List.length h; simp at this; simp [this]
theorem kept_le (f : Int) (k : Nat) : (kept f k).1 ≤ k := by
  unfold kept
  split
  · exact Nat.min_le_right _ _
  · split
    · exact Nat.le_refl _
    · show (-f).toNat ≤ k; omega
theorem left_len (t : Spool) (f : Int) (h : t.safe ≤ t.bytes.length) : (left t f).bytes.length = t.safe + (kept f (t.bytes.length - t.safe)).1 ∧ (left t f).safe = (left t f).bytes.length := by
  have hk := kept_le f (t.bytes.length - t.safe)
  refine ⟨?_, rfl⟩
  unfold left
  show (if _ then tear _ else _ : List UInt8).length = _
  split
  · rw [tear_len, List.length_take]; omega
  · rw [List.length_take]; omega
theorem oneT_len (fs : List Int) (s : List Spool × Nat) (j : Nat) : (oneT fs s j).1.length = s.1.length := by
  unfold oneT; split
  · rfl
  · split
    · rfl
    · simp
theorem oneT_cnt (fs : List Int) (s : List Spool × Nat) (j : Nat) : (oneT fs s j).2 ≤ s.2 + 1 := by
  unfold oneT; split
  · omega
  · split
    · omega
    · show (if fs = [] then s.2 else s.2 + 1) ≤ _; split <;> omega
theorem procT_len (fs : List Int) (ts : List Spool) (pre : List Nat) : (procT fs ts pre).1.length = ts.length := by
  unfold procT
  suffices h : ∀ (pre : List Nat) (s : List Spool × Nat), (pre.foldl (oneT fs) s).1.length = s.1.length from h pre (ts, 0)
  intro pre
  induction pre with
  | nil => intro s; rfl
  | cons j r ih => intro s; rw [List.foldl_cons, ih, oneT_len]
theorem procT_cnt (fs : List Int) (ts : List Spool) (pre : List Nat) : (procT fs ts pre).2 ≤ pre.length := by
  unfold procT
  suffices h : ∀ (pre : List Nat) (s : List Spool × Nat), (pre.foldl (oneT fs) s).2 ≤ s.2 + pre.length by
    have := h pre (ts, 0); simpa using this
  intro pre
  induction pre with
  | nil => intro s; simp
  | cons j r ih => intro s; have h1 := ih (oneT fs s j); have h2 := oneT_cnt fs s j; simp only [List.foldl_cons, List.length_cons]; omega
/-- in order it is the whole -/
theorem procT_all (fs : List Int) (ts : List Spool) : (procT fs ts (List.range ts.length)).1 = onT fs 0 ts := by
  suffices h : ∀ (b a : List Spool) (i : Nat), (((List.range b.length).map (· + a.length)).foldl (oneT fs) (a ++ b, i)).1 = a ++ onT fs i b by
    have := h ts [] 0
    simpa [procT] using this
  intro b
  induction b with
  | nil => intro a i; simp [onT]
  | cons t r ih =>
    intro a i
    have e0 : (List.range (t :: r).length).map (· + a.length) = a.length :: (List.range r.length).map (· + (a.length + 1)) := by
      rw [List.length_cons, List.range_succ_eq_map, List.map_cons, List.map_map, Nat.zero_add]
      congr 1
      apply List.map_congr_left
      intro x _
      simp only [Function.comp]; omega
    rw [e0, List.foldl_cons]
    have hg : (a ++ t :: r)[a.length]? = some t := by simp
    by_cases ht : t.bytes.length = t.safe
    · have e1 : oneT fs (a ++ t :: r, i) a.length = (a ++ t :: r, i) := by unfold oneT; simp only [hg]; rw [if_pos ht]
      have h2 := ih (a ++ [t]) i
      rw [e1, List.length_append, List.length_singleton] at *
      rw [List.append_assoc, List.singleton_append] at h2
      rw [h2, onT, if_pos ht, List.append_assoc, List.singleton_append]
    · have e1 : oneT fs (a ++ t :: r, i) a.length = (a ++ left t (fateOf fs i) :: r, if fs = [] then i else i + 1) := by
        unfold oneT; simp only [hg]; rw [if_neg ht]
        rw [List.set_append_right _ _ (Nat.le_refl _), Nat.sub_self]; rfl
      have h2 := ih (a ++ [left t (fateOf fs i)]) (if fs = [] then i else i + 1)
      rw [e1]
      rw [List.length_append, List.length_singleton, List.append_assoc, List.singleton_append] at h2
      rw [h2, onT, if_neg ht, List.append_assoc, List.singleton_append]; rfl
/-- the state in the middle of it -/
def midS (S : St) (fs : List Int) (pre : List Nat) : St := { S with down := false, ts := (procT fs S.ts pre).1, used := size (procT fs S.ts pre).1 }
theorem midS_nil (S : St) (fs : List Int) (h : S.Ok) : midS S fs [] = { S with down := false } := by
  unfold midS procT
  show ({ S with down := false, ts := S.ts, used := size S.ts } : St) = _
  rw [← h.used]
theorem midS_all (S : St) (fs : List Int) (hd : S.down = true) : midS S fs (List.range S.ts.length) = onS S fs := by
  unfold midS onS; rw [if_neg (by simp [hd]), procT_all]
theorem size_set_le (ts : List Spool) (j : Nat) (h : j < ts.length) (t : Spool) (ht : t.bytes.length ≤ ts[j].bytes.length) : size (ts.set j t) ≤ size ts := by
  have := size_set ts j h t; omega
theorem oneT_ok {S : St} (h : S.Ok) (fs : List Int) (i j : Nat) : St.Ok { S with ts := (oneT fs (S.ts, i) j).1, used := size (oneT fs (S.ts, i) j).1 } := by
  unfold oneT
  cases hj : S.ts[j]? with
  | none => exact ⟨h.len, h.rising, h.few, rfl, by show size S.ts ≤ _; rw [← h.used]; exact h.most, h.room, h.each, h.names⟩
  | some t =>
    obtain ⟨hlt, rfl⟩ := List.getElem?_eq_some_iff.1 hj
    have he := h.each _ (List.getElem_mem hlt)
    simp only
    split
    · exact ⟨h.len, h.rising, h.few, rfl, by show size S.ts ≤ _; rw [← h.used]; exact h.most, h.room, h.each, h.names⟩
    · obtain ⟨l1, l2⟩ := left_len S.ts[j] (fateOf fs i) he.2
      have hk := kept_le (fateOf fs i) (S.ts[j].bytes.length - S.ts[j].safe)
      refine ⟨by simpa using h.len, h.rising, h.few, rfl, ?_, h.room, ?_, h.names⟩
      · show size (S.ts.set j _) ≤ _
        have := size_set_le S.ts j hlt (left S.ts[j] (fateOf fs i)) (by omega)
        have := h.most; have := h.used; omega
      · intro y hy
        rcases List.mem_or_eq_of_mem_set hy with hy | rfl
        · exact h.each y hy
        · exact ⟨by omega, Nat.le_of_eq l2⟩
theorem midS_ok {S : St} (h : S.Ok) (fs : List Int) (pre : List Nat) : (midS S fs pre).Ok := by
  suffices hh : ∀ (pre : List Nat) (ts : List Spool) (i : Nat), St.Ok { S with ts := ts, used := size ts } → St.Ok { S with ts := (pre.foldl (oneT fs) (ts, i)).1, used := size (pre.foldl (oneT fs) (ts, i)).1 } by
    have h1 := hh pre S.ts 0 ⟨h.len, h.rising, h.few, rfl, by show size S.ts ≤ _; rw [← h.used]; exact h.most, h.room, h.each, h.names⟩
    exact h1.with_ rfl rfl rfl h.room
  intro pre
  induction pre with
  | nil => intro ts i h; exact h
  | cons j r ih =>
    intro ts i h1
    rw [List.foldl_cons]
    have := oneT_ok h1 fs i j
    exact ih _ _ this
theorem on_ok {S : St} (h : S.Ok) (fs : List Int) : (onS S fs).Ok := by
  cases hd : S.down
  · unfold onS; rw [if_pos hd]; exact h
  · rw [← midS_all S fs hd]; exact midS_ok h fs _
end Go.Proofs.YtnhgfhbicaiilaaGreat.Reel
/- A region that draws its order, in a round of a loop over an iterator: what holds of it outside a round holds in one. No program. -/
namespace Go.Proofs.YtnhgfhbicaiilaaGreat
open Go.RowKit
set_option linter.unusedVariables false

abbrev inR (l : Nat) : Fence := Fence.wide.inRound l
theorem callsIn_inR {l n : Nat} {P : Program} {f : FuncId} {args : Array Value} {w : World} {R : Ending → World → Prop} (h : Calls P f args w R) : CallsIn (inR l) n P f args w R := CallsIn.inRound l (callsIn_wide.2 h)
def noDefer (ops : Array Oper) : Bool := ops.toList.all fun o => match o.op with | .defer _ => false | _ => true
theorem noDefer_spec {ops : Array Oper} (h : noDefer ops = true) {i : Nat} {o : Oper} (hi : ops[i]? = some o) : ∀ c, o.op ≠ .defer c := by
  intro c hc
  unfold noDefer at h
  rw [List.all_eq_true] at h
  have hm : o ∈ ops.toList := by
    rw [← Array.getElem?_toList] at hi
    exact List.mem_of_getElem? hi
  have := h o hm
  rw [hc] at this
  cases this
section
variable {l n : Nat} {P : Program} {ops : Array Oper} {md : Region.Mode} {Q : Exit → Act → World → Prop}
theorem rowsIn_inR {row : String} {args : Array Value} {w : World} {R : Value → World → Prop} (h : Rows P row args w R) : RowsIn (inR l) n P row args w R := by
  intro c cs _
  obtain ⟨v, w', hR, hs⟩ := h c cs
  exact ⟨v, w', hR, stepsIn_wide.2 hs⟩
theorem uponIn_of {o : Oper} {a : Act} {K K' : Act → World → Prop} (hK : ∀ a w, K a w → K' a w) : ∀ r, o.upon P a K Q r → o.uponIn (inR l) n P a K' Q r
  | .ok (.value v) w', h => hK _ _ h
  | .ok .skip w', h => hK _ _ h
  | .ok (.defer d) w', h => hK _ _ h
  | .ok (.enter f args) w', h => ⟨fun e => (by cases e), callsIn_inR (Calls.mono h (fun e w'' he => by cases e <;> first | exact hK _ _ he | exact he))⟩
  | .ok (.row row args) w', h => ⟨fun e => (by cases e), RowsIn.mono (rowsIn_inR h) (fun v w'' he => hK _ _ he)⟩
  | .ok (.round _ _ _ _ _) _, h => h.elim
  | .halt (.panic v) w', h => h
  | .halt .goexit _, h => h.elim
theorem operIn_of {o : Oper} {a : Act} {w : World} {K K' : Act → World → Prop} (hd : ∀ c, o.op ≠ .defer c) (hK : ∀ a w, K a w → K' a w) (h : o.wp P a w K Q) : o.wpIn (inR l) n P a w K' Q := by
  refine ⟨fun _ _ => trivial, ?_⟩
  show o.uponIn (inR l) n P a K' Q ((o.semAt (some l) a.eval).run P w)
  rw [Oper.semAt_eq _ _ _ hd]
  exact uponIn_of hK _ h
theorem opIn_of (hno : ¬ LetsOut Q) (hd : noDefer ops = true) {i : Nat} {a : Act} {w : World} {K K' : Act → World → Prop} (hK : ∀ a w, K a w → K' a w) (h : wpOp P ops Q i K a w) : wpOpIn (inR l) n P ops Q i K' a w := by
  unfold wpOp at h
  unfold wpOpIn
  split at h
  · rename_i e; rw [e]; exact hK _ _ h
  · rename_i o e
    rw [e]
    split at h
    · rename_i hw; simp only [hw, if_true]; exact operIn_of (noDefer_spec hd e) hK (h.resolve_right (fun e => hno e.2))
    · rename_i hw; simp only [hw, if_false, Bool.false_eq_true]; exact ⟨fun _ _ => trivial, hK _ _ h⟩
theorem anyIn_of (hno : ¬ LetsOut Q) (hd : noDefer ops = true) : ∀ (fuel : Nat) (listed : Array Bool) (a : Act) (w : World), wpAny P md ops Q fuel listed a w → wpAnyIn (inR l) n P md ops Q fuel listed a w
  | 0, _, _, _, h => h
  | fuel + 1, _, _, _, h => ⟨h.1, fun i hi => opIn_of hno hd (fun a w => anyIn_of hno hd fuel _ a w) (h.2 i hi)⟩
theorem regionIn_of (hno : ¬ LetsOut Q) {id : Nat} {a : Act} {w : World} (hm : P.follows .mixedOrders = true) (hd : noDefer ops = true)
    (h : wpAny P .any ops Q ops.size (Array.replicate ops.size false) a { w with drawn := w.drawn + 1 }) : (Code.region id ops true).wpIn (inR l) n P Q a w :=
  wpIn_region_any hm (anyIn_of hno hd _ _ _ _ h)
/-- it reads, and calls what leaves the world alone -/
theorem regionIn_quiet (hno : ¬ LetsOut Q) {C : World → Prop} {id : Nat} {a : Act} {w : World} {L : List Oper} (hm : P.follows .mixedOrders = true) (hd : noDefer L.toArray = true) (hB : Region.lexB .any L.toArray = true) (hC : C { w with drawn := w.drawn + 1 })
    (h : wpQuiet P L.toArray C (fun a' => ∀ w', C w' → Q .normal a' w') L a) : (Code.region id L.toArray true).wpIn (inR l) n P Q a w := by
  refine regionIn_of hno hm hd ?_
  simp only [Region.lexB, Bool.and_eq_true] at hB
  refine wpAny_of_quiet (Q := fun a' => ∀ w', C w' → Q .normal a' w') (fun _ w' hw' h => h w' hw') _ _ _ _ hC ?_
  have := wpAnyQ_lex (C := C) (md := .any) hB.1 L 0 (Array.replicate L.toArray.size false) a (by simp) (by simpa using hB.2) h
  simpa using this
/-- it reads, and ends in one thing that writes -/
theorem regionIn_tail (hno : ¬ LetsOut Q) {id : Nat} {a : Act} {w : World} {L : List Oper} (N : Nat) (hm : P.follows .mixedOrders = true) (hd : noDefer L.toArray = true) (hB : Region.lexTailB .any L.toArray N = true)
    (h : wpStill P L.toArray { w with drawn := w.drawn + 1 } (fun a' => wpList P L.toArray Q (L.drop N) a' { w with drawn := w.drawn + 1 }) (L.take N) a) : (Code.region id L.toArray true).wpIn (inR l) n P Q a w := by
  simp only [Region.lexTailB, Bool.and_eq_true, decide_eq_true_eq] at hB
  obtain ⟨⟨⟨⟨hsel, hn⟩, hs⟩, hc⟩, hlex⟩ := hB
  have hn' : N < L.length := by simpa using hn
  have htl : (L.take N).length = N := by simp; omega
  have hdl : (L.drop N).length = L.toArray.size - N := by simp
  have inv0 : HeadInv .any L.toArray N (Array.replicate L.toArray.size false) :=
    ⟨by simp, fun j oj _ hl => (by rw [getD_replicate_false] at hl; cases hl), fun t _ ht => getD_in (by simpa using ht) (getD_replicate_false _ _)⟩
  have H := wpAnyL_lex (md := .any) (g := L.toArray.size - N) hsel hs hc hn (L.take N) 0 _ a (fun j hj => by
    have hj' : j < N := by rw [htl] at hj; exact hj
    simp [hj']) (by simpa using htl) inv0 (by rw [htl]; exact hlex) h
  refine regionIn_of hno hm hd ?_
  have := wpAny_of_head (Q' := Q) (g := L.toArray.size - N) (fun listed a' hL => by
    have := wpAny_of_seq (md := .any) (Q' := Q) (L.drop N) N listed a' { w with drawn := w.drawn + 1 } (fun j => by simp [List.getElem?_drop]) (by rw [hdl]; exact hL.1) hL.2
    rwa [hdl] at this) _ _ _ H
  rw [htl, show N + (L.toArray.size - N) = L.toArray.size by omega] at this
  exact this
end
end Go.Proofs.YtnhgfhbicaiilaaGreat
/- The shelf's map of Ptr, gone over: All. -/
namespace Go.Proofs.YtnhgfhbicaiilaaGreat
open Go.RowKit
attribute [local go_sem] Oper.semAt_some
set_option linter.unusedVariables false

theorem allPtr_any (q : Option Addr) (w : World) : Calls Tryz.prog 60 #[.pointer q] w fun e w' => e = .returned (.func (.func 94) #[] #[.pointer (some ⟨w.heap.size, 0, none⟩)]) ∧ w' = w.alloc (.cells #[.pointer q] 51) := by
  go_enter Tryz.func60, Tryz.ntmps60
  go_wp2
  go_ret
  exact ⟨rfl, rfl⟩
/-- cells from n₀ on stay -/
def KeepC (n₀ : Nat) (A B : World) : Prop := A.heap.size ≤ B.heap.size ∧ ∀ k C t fz, n₀ ≤ k → A.heap[k]? = some (.cells C t fz) → B.heap[k]? = some (.cells C t fz)
theorem keepC_t {n₀ : Nat} {A B C : World} (h : KeepC n₀ A B) (k : KeepC n₀ B C) : KeepC n₀ A C := ⟨Nat.le_trans h.1 k.1, fun i c t fz hi e => k.2 i c t fz hi (h.2 i c t fz hi e)⟩
theorem keepC_b {n₀ : Nat} {w : World} (W : World) (l : Nat) (o o' : Obj) (_ : w.heap.size ≤ l) (h : W.heap[l]? = some o) (hc : o.isCells = false) (_ : o.isWalk = false) : KeepC n₀ W (W.putObj l o') := by
  refine ⟨by simp, fun k C t fz hk e => ?_⟩
  by_cases hkl : k = l
  · subst hkl; rw [h] at e; injection e with e; subst e; simp [Obj.isCells] at hc
  · rw [World.putObj_heap_other hkl]; exact e
theorem keepC_refl (n₀ : Nat) (A : World) : KeepC n₀ A A := ⟨Nat.le_refl _, fun _ _ _ _ _ e => e⟩
theorem keepC_only {F : Nat → Prop} {n₀ : Nat} {A B : World} (h : Only F A B) (hF : ∀ k, F k → k < n₀) : KeepC n₀ A B :=
  ⟨h.size, fun k C t fz hk e => (h.block k (Array.getElem?_eq_some_iff.1 e).1 (fun hf => by have := hF k hf; omega)).trans e⟩
theorem own_keepC {n₀ B e s n : Nat} {v : Value} {xs : List Value} {A W : World} (h : A.ownsRow B e s v n xs) (hB : n₀ ≤ B) (hk : KeepC n₀ A W) : W.ownsRow B e s v n xs := by
  refine ⟨h.1, h.2.imp id ?_⟩
  rintro ⟨g, cap, cur, hv, hb, hg, r⟩
  exact ⟨g, cap, cur, hv, hb, hk.2 _ _ _ _ (by omega) hg, r⟩

/-- what is handed to a round: the j-th name, the j-th value -/
def encsPtr (l : List ByteArray) (ps : List (Option Addr)) (j : Fin l.length) : Array Value := #[.string (l.getD j.1 ByteArray.empty), encPtr (ps.getD j.1 (none))]
set_option maxRecDepth 100000 in
set_option maxHeartbeats 4000000 in
theorem allStopsPtr (n Bm m n₀ : Nat) (ks vs : Value) (l : List ByteArray) (ps : List (Option Addr)) (w : World) (hn : 1 ≤ n) (hq : w.cell? ⟨Bm, 0, none⟩ = some (.pointer (some ⟨m, 0, none⟩))) (hm : MapIsPtr w m ks vs l ps) (hn0 : n₀ ≤ w.heap.size) :
    SeqStopsK Fence.wide n Tryz.prog 94 #[.pointer (some ⟨Bm, 0, none⟩)] (encsPtr l ps) (KeepC n₀) (fun xs => xs = List.finRange l.length) (fun pre => pre <+: List.finRange l.length) l.length w := by
  intro L J Jx W hW hJ hJx hY h0
  have hqW : W.cell? ⟨Bm, 0, none⟩ = some (.pointer (some ⟨m, 0, none⟩)) := (hW.cell (p := ⟨Bm, 0, none⟩) (World.block_lt_of_cell? _ _ hq)).trans hq
  obtain ⟨b1, b2, b3, b4, b5, b6⟩ := hm
  have oW : Only NoF w W := Only.of_below hW _
  have hmW : MapIsPtr W m ks vs l ps := ⟨b1.only oW (fun e => e), own_only b2 oW (fun _ _ e => e), own_only b3 oW (fun _ _ e => e), b4, b5, b6⟩
  have CC := hid (clonePtr vs ps.length (ps.map encPtr) W hmW.2.2.1 (encPtr_one ps) (by omega))
  have HK : Hid (∀ W1, Below W.heap.size W W1 → Calls Tryz.prog 96 #[.pointer (some ⟨m, 0, none⟩)] W1 fun e w' => ∃ v, e = .returned v ∧ w'.ownsRow W1.heap.size 9 1 v l.length (svals l) ∧ Below W1.heap.size W1 w') := fun W1 hb => by
    have o1 : Only NoF W W1 := Only.of_below hb _
    exact keysPtr m ks vs l ps W1 ⟨hmW.1.only o1 (fun e => e), own_only hmW.2.1 o1 (fun _ _ e => e), own_only hmW.2.2.1 o1 (fun _ _ e => e), b4, b5, b6⟩
  have c1 := hmW.1.cell 1
  simp at c1
  obtain ⟨va, vc, rfl, hvc⟩ := own_slice hmW.2.2.1
  have hHY := hid hY; have hHJ := hid hJ
  have hnW : n₀ ≤ W.heap.size := Nat.le_trans hn0 hW.size
  obtain ⟨zs, hzs⟩ : ∃ zs, List.finRange l.length = zs := ⟨_, rfl⟩
  have hzl : zs.length = l.length := by rw [← hzs, List.length_finRange]
  have HZ : Hid (∀ k, (hk : k < l.length) → ∃ h : k < zs.length, zs[k] = ⟨k, hk⟩) := fun k hk => ⟨by omega, by subst hzs; simp⟩
  rw [hzs]
  have HQM : Hid (∀ W1, Below W.heap.size W W1 → W1.cell? ⟨Bm, 0, none⟩ = some (.pointer (some ⟨m, 0, none⟩))) := fun W1 hb => (hb.cell (p := ⟨Bm, 0, none⟩) (World.block_lt_of_cell? _ _ hqW)).trans hqW
  have H0 := hid h0
  have hln : l.length ≤ 1000000 := b6
  have HB4 := hid b4
  have hpl : ps.length ≤ 1000000 := by omega
  have HZL := hid hzl
  clear hY hJ hJx hmW b1 b2 b3 b4 b5 oW hzs hW hq h0 hzl b6
  refine callsIn_of_wp Tryz.func94 rfl trivial ?_ rfl
  simp only [Tryz.ntmps94, List.size_toArray, List.length_cons, List.length_nil, Nat.reduceAdd, Nat.reduceSub, Array.replicate_succ, Array.replicate_zero, List.push_toArray, List.append_toArray, List.nil_append, List.cons_append]
  gi_wp2_with fail
  refine ⟨trivial, (callsIn_wide.2 CC.out).mono ?_⟩; rintro e W1 ⟨v1, rfl, o1, hb1⟩
  have q1 := HQM.out W1 hb1
  have HJ1 : Hid (J [] W1) := hHJ.out _ _ _ none H0.out ⟨hb1.os, hb1.tape, hb1.output, hb1.size, fun k hk _ => hb1.block k hk⟩ (fun _ e => by cases e)
  gi_wp2_with fail
  refine ⟨trivial, (callsIn_wide.2 (HK.out W1 hb1)).mono ?_⟩; rintro e W2 ⟨v2, rfl, o2, hb2⟩
  have HJ2 : Hid (J [] W2) := hHJ.out _ _ _ none HJ1.out ⟨hb2.os, hb2.tape, hb2.output, hb2.size, fun k hk _ => hb2.block k hk⟩ (fun _ e => by cases e)
  have V2 : W2.ownsRow W.heap.size 53 1 v1 ps.length (ps.map encPtr) := own_only o1 (Only.of_below hb2 NoF) (fun _ _ e => e)
  obtain ⟨a2, c2, rfl, hac2⟩ := own_slice o2
  obtain ⟨a1, c1', rfl, hac1⟩ := own_slice V2
  have hb1s := hb1.size
  have HV2 := hid V2; have HN2 := hid o2
  clear V2 o2 o1 hb1 hb2
  gi_wp2_with fail
  gi_loopw [16] (fun i wr => ∃ (k : Nat) (pre : List (Fin l.length)), k ≤ l.length ∧ i = .int .i64 k ∧ Hid (pre = zs.take k) ∧ J pre wr ∧ KeepC n₀ W2 wr) (fun i _ => l.length - (intOf i).toNat)
  case atStart => exact ⟨0, [], Nat.zero_le _, rfl, rfl, HJ2.out, keepC_refl _ _⟩
  case round =>
    obtain ⟨k, pre, hk, rfl, HP, hJs, hkp⟩ := hrel
    by_cases hlt : k < l.length
    · obtain ⟨h3, he⟩ := HZ.out k hlt
      have h1 := hlt
      have h2 : k < ps.length := by rw [HB4.out]; exact hlt
      have ck : wr.ownsRow W1.heap.size 9 1 (.slice a2 l.length c2) l.length (svals l) := own_keepC HN2.out (by omega) hkp
      have cv : wr.ownsRow W.heap.size 53 1 (.slice a1 ps.length c1') ps.length (ps.map encPtr) := own_keepC HV2.out hnW hkp
      obtain ⟨g2, d2, e2, _, _⟩ := ck.form (by omega)
      obtain ⟨g1, d1, e1, _, _⟩ := cv.form (by omega)
      injection e2 with e21 _ e22
      injection e1 with e11 _ e12
      subst e21 e22 e11 e12
      have hck := ck.cellAt k (by omega)
      have hcv := cv.cellAt k (by omega)
      have x1 : (svals l)[k]? = some (.string l[k]) := by unfold svals; rw [List.getElem?_map, List.getElem?_eq_getElem h1]; rfl
      have x2 : (ps.map encPtr)[k]? = some (encPtr ps[k]) := by rw [List.getElem?_map, List.getElem?_eq_getElem h2]; rfl
      rw [x1] at hck
      rw [x2] at hcv
      obtain ⟨fn, tmps, assign, body, hy, hR⟩ := hHY.out pre ⟨k, hlt⟩ wr hJs (by rw [HP.out, List.length_take, HZL.out]; omega)
      have hpre : pre ++ [⟨k, hlt⟩] = zs.take (k + 1) := by
        rw [HP.out, ← he, List.take_append_getElem h3]
      unfold encsPtr at hy
      have y1 : l.getD k ByteArray.empty = l[k] := by rw [List.getD_eq_getElem?_getD, List.getElem?_eq_getElem h1]; rfl
      have y2 : ps.getD k (none) = ps[k] := by rw [List.getD_eq_getElem?_getD, List.getElem?_eq_getElem h2]; rfl
      simp only [y1, y2] at hy
      obtain ⟨nk, hnk⟩ : ∃ nk, l[k] = nk := ⟨_, rfl⟩
      obtain ⟨pk, hpk⟩ : ∃ pk, ps[k] = pk := ⟨_, rfl⟩
      rw [hnk] at hck x1
      rw [hpk] at hcv x2
      rw [hnk, hpk] at hy
      unfold encPtr at hcv hy
      obtain ⟨j0, hj0⟩ : ∃ j0 : Fin l.length, ⟨k, hlt⟩ = j0 := ⟨_, rfl⟩
      rw [hj0] at hpre hR
      have HPR := hid hpre
      have hkp2 : k < ps.length := h2
      clear x1 x2 he hpre hnk hpk hJs y1 y2 hj0
      gi_wp2
      refine hR.mono ?_
      rintro e W3 (⟨rfl, hJ3, hk3⟩ | ⟨rfl, hJx3⟩)
      · have HJ3 := hid hJ3; have HK3 := hid hk3
        clear hJ3 hk3
        gi_wp2
        go_roundw
        case rel => exact ⟨k + 1, pre ++ [j0], by omega, by go_num, HPR.out, HJ3.out, keepC_t hkp HK3.out⟩
        case measure => simp [intOf]; omega
      · have HJ3 := hid hJx3
        clear hJx3
        gi_wp2
        refine bodyPost_ret (results_none rfl _ _ _) rfl ?_
        exact ⟨⟨_, rfl⟩, .inr ⟨pre ++ [j0], by rw [HPR.out]; exact List.take_prefix _ _, HJ3.out⟩⟩
    · obtain rfl : k = l.length := by omega
      have HPZ : Hid (pre = zs) := by unfold Hid; rw [HP.out, List.take_of_length_le (Nat.le_of_eq HZL.out)]
      gi_wp2
      go_end0
      exact ⟨⟨_, rfl⟩, .inl ⟨_, rfl, by rw [← HPZ.out]; exact hJs⟩⟩
end Go.Proofs.YtnhgfhbicaiilaaGreat
