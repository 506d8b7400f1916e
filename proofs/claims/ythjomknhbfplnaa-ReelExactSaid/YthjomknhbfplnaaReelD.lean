/- The reel's calls that write: cut, Sync, Cut, Drop, Swap. -/
import Derived.Test.YthjomknhbfplnaaReelC
import Derived.Test.YthjomknhbfplnaaReelOk
namespace Go.Proofs.Ythjomknhbfplnaa
open Go.RowKit Reel
set_option linter.unusedVariables false

set_option maxHeartbeats 2000000 in
theorem cut_mem (p m : Nat) (ks vs : Value) (R : List RM) (S : St) (i : Nat) (r : RM) (n : Nat) (w : World) (h : DMem w p m ks vs R S) (hi : R[i]? = some r) (hn : n ≤ r.t.bytes.length) (hu : r.t.bytes.length ≤ S.used) (hm : S.used ≤ 67108864) (hs : r.t.safe ≤ 67108864) :
    Calls Try.prog 45 #[.pointer (some ⟨p, 0, none⟩), .pointer (some ⟨r.b, 0, none⟩), .int .i64 n] w fun e w' => e = .returned (.tuple #[]) ∧ (∃ v', v'.ownBlock = r.v.ownBlock ∧ DMem w' p m ks vs (R.set i ⟨r.b, v', cutT r.t n⟩) { S with ts := S.ts.set i (cutT r.t n), used := S.used - (r.t.bytes.length - n) }) ∧ Only (fun k => k = p ∨ k = r.b) w w' := by
  have hmem : r ∈ R := by obtain ⟨_, rfl⟩ := List.getElem?_eq_some_iff.1 hi; exact List.getElem_mem _
  obtain ⟨c0, c1, c2, c3, c4, c5, c6⟩ := h.blk.cells
  have f1 := Blk.frozen h.blk 1
  have ht := h.tapes.1 r hmem
  obtain ⟨a, c, hv, hc⟩ := own_slice ht.2
  have d0 := ht.1.cell 0
  have d1 := ht.1.cell 1
  have g0 := ht.1.frozen 0
  have g1 := ht.1.frozen 1
  simp [hv] at d0 d1
  have hpr : p ≠ r.b := fun e => h.p_tape hmem (.inl e)
  obtain ⟨N, hN⟩ : ∃ N, r.t.bytes.length = N := ⟨_, rfl⟩
  have HFIN : ∀ k U : Int, U = ((S.used - (N - n) : Nat) : Int) → k = ((min r.t.safe n : Nat) : Int) → ∀ W, Only NoF w W →
      (∃ v', v'.ownBlock = r.v.ownBlock ∧ DMem (((W.setCell ⟨p, 1, none⟩ (.int .i64 U)).setCell ⟨r.b, 0, none⟩ (.slice a n c)).setCell ⟨r.b, 1, none⟩ (.int .i64 k)) p m ks vs (R.set i ⟨r.b, v', cutT r.t n⟩) { S with ts := S.ts.set i (cutT r.t n), used := S.used - (N - n) }) ∧ Only (fun k => k = p ∨ k = r.b) w (((W.setCell ⟨p, 1, none⟩ (.int .i64 U)).setCell ⟨r.b, 0, none⟩ (.slice a n c)).setCell ⟨r.b, 1, none⟩ (.int .i64 k)) := by
    intro k U hU hk W hW
    have h0 := h.only hW (fun _ _ e => e)
    have O1 : Only (· = p) W (W.setCell ⟨p, 1, none⟩ (.int .i64 U)) := (Only.refl (· = p) W).setCell (p := ⟨p, 1, none⟩) (.inl rfl) _
    have h1 : DMem (W.setCell ⟨p, 1, none⟩ (.int .i64 U)) p m ks vs R { S with used := S.used - (N - n) } := h0.own O1 (by
      have := Blk.set h0.blk 1 (.int .i64 U)
      unfold DBlk
      rw [← hU]
      simpa using this) rfl rfl
    have ht1 := h1.tapes.1 r hmem
    have O2 : Only (· = r.b) (W.setCell ⟨p, 1, none⟩ (.int .i64 U)) (((W.setCell ⟨p, 1, none⟩ (.int .i64 U)).setCell ⟨r.b, 0, none⟩ (.slice a n c)).setCell ⟨r.b, 1, none⟩ (.int .i64 k)) :=
      ((Only.refl (· = r.b) _).setCell (p := ⟨r.b, 0, none⟩) (.inl rfl) _).setCell (p := ⟨r.b, 1, none⟩) (.inl rfl) _
    have hb2 : Blk (((W.setCell ⟨p, 1, none⟩ (.int .i64 U)).setCell ⟨r.b, 0, none⟩ (.slice a n c)).setCell ⟨r.b, 1, none⟩ (.int .i64 k)) r.b 63 #[.slice a n c, .int .i64 k] := by
      have := (ht1.1.set 0 (.slice a n c)).set 1 (.int .i64 k)
      simpa using this
    have ho2 : (((W.setCell ⟨p, 1, none⟩ (.int .i64 U)).setCell ⟨r.b, 0, none⟩ (.slice a n c)).setCell ⟨r.b, 1, none⟩ (.int .i64 k)).ownsRow 0 5 1 (.slice a n c) n (bvals (r.t.bytes.take n)) := by
      have h3 := own_only ht1.2 O2 (fun k hk e => by subst e; exact ht1.v_ne_b ht1 hk)
      rw [hv] at h3
      have h4 := own_take h3 hn
      unfold bvals at h4 ⊢
      rwa [← List.map_take] at h4
    have hbk : (Value.slice a n c).ownBlock = r.v.ownBlock := by rw [hv]; cases a <;> rfl
    refine ⟨⟨.slice a n c, hbk, ?_⟩, (hW.mono (fun _ e => e.elim)).trans (O1.mono (fun i e => .inl e) |>.then (O2.mono (fun i e => .inr e))) (fun i e => .inl e)⟩
    have hl : (r.t.bytes.take n).length = n := by rw [List.length_take]; omega
    refine h1.tape hi (O2.mono (fun i e => .inl e)) (r' := ⟨r.b, .slice a n c, cutT r.t n⟩) ⟨?_, ?_⟩ rfl (.inl hbk)
    · show Blk _ r.b _ #[.slice a n c, .int .i64 ((min r.t.safe n : Nat) : Int)]
      rw [← hk]; exact hb2
    · show World.ownsRow _ 0 _ 1 (.slice a n c) (r.t.bytes.take n).length _
      rw [hl]; exact ho2
  rw [hN] at d0 hn hu hc ⊢
  have HF := hid HFIN
  clear HFIN h hi ht hv hN c0 c2 c3 c4 c5 c6
  have hs0 : (0 : Int) ≤ r.t.safe := by omega
  by_cases hsn : r.t.safe ≤ n
  · go_enter Try.func45, Try.ntmps45
    go_wp2
    go_region
    go_wp2
    go_end0
    exact ⟨rfl, HF.out _ _ (by omega) (by omega) _ (Only.refl _ w).drew⟩
  · have hsn' : n ≤ r.t.safe := by omega
    go_enter Try.func45, Try.ntmps45
    go_wp2
    go_region
    go_wp2
    go_end0
    exact ⟨rfl, HF.out _ _ (by omega) (by omega) _ (Only.refl _ w).drew⟩

def big : Nat := 4611686018427387904
theorem act_mem (p m : Nat) (ks vs : Value) (R : List RM) (S : St) (w : World) (n : Nat) (h : DMem w p m ks vs R S) (hd : S.down = false) (hf : S.Fits n) (hn : n < big) :
    Calls Try.prog 41 #[.pointer (some ⟨p, 0, none⟩)] w fun e w' => e = .returned (.int .i64 (actS S).2) ∧ DMem w' p m ks vs R (actS S).1 ∧ Only (· = p) w w' := by
  unfold big at hn
  refine (act_any p m S w h.blk hd (by have := hf.1; omega) (by have := hf.2.1; omega) hf.2.2).mono ?_
  rintro e w' ⟨rfl, h1, h2⟩
  obtain ⟨e1, e2, _⟩ := act_l S
  exact ⟨rfl, h.own h2 h1 e1 e2, h2⟩
theorem df_p {p m : Nat} {ks vs : Value} {R : List RM} : DF p m ks vs R p := .inl rfl
theorem df_r {p m : Nat} {ks vs : Value} {R : List RM} {r : RM} (h : r ∈ R) {k : Nat} (hk : TF r k) : DF p m ks vs R k := .inr (.inr ⟨r, h, hk⟩)
/-- the footprint behind a tape's change -/
theorem df_set {p m : Nat} {ks vs : Value} {R : List RM} {r r' : RM} {i B : Nat} (hi : R[i]? = some r) (hb : r'.b = r.b) (hv : r'.v.ownBlock = r.v.ownBlock ∨ ∃ g, B ≤ g ∧ r'.v.ownBlock = some g) {k : Nat} (hk : DF p m ks vs (R.set i r') k) : DF p m ks vs R k ∨ B ≤ k := by
  have hm : r ∈ R := by obtain ⟨_, rfl⟩ := List.getElem?_eq_some_iff.1 hi; exact List.getElem_mem _
  rcases hk with hk | hk | ⟨x, hx, hk⟩
  · exact .inl (.inl hk)
  · exact .inl (.inr (.inl hk))
  · rcases List.mem_or_eq_of_mem_set hx with hx | rfl
    · exact .inl (df_r hx hk)
    · rcases hk with hk | hk
      · exact .inl (df_r hm (.inl (hk.trans hb)))
      · rcases hv with hv | ⟨g, hg, hv⟩
        · rw [hv] at hk; exact .inl (df_r hm (.inr hk))
        · rw [hv] at hk; injection hk with hk; exact .inr (by omega)

set_option maxHeartbeats 2000000 in
theorem sync_any (p : Nat) (F : Nat → Prop) (S : St) (x : ByteArray) (w : World) (n : Nat) (h : DiskAt w p F S) (hf : S.Fits n) (hn : n < big) :
    Calls Try.prog 11 #[.pointer (some ⟨p, 0, none⟩), .string x] w fun e w' => e = .returned (.int .i64 (syncS S x).2) ∧ DiskAt w' p (grow F w w') (syncS S x).1 ∧ Only F w w' := by
  obtain ⟨hF, hok, m, ks, vs, R, h, hDF⟩ := h
  have HSAME : Hid (DiskAt w p (grow F w w) S ∧ Only F w w) := ⟨DiskAt.mk' hF (Only.refl _ _) hok h (fun k hk => .inl (hDF k hk)), Only.refl _ _⟩
  cases hd : S.down
  · cases hx : hasN S.l x
    · have e : syncS S x = (S, 12) := by unfold syncS; rw [if_neg (by simp [hd]), at_no hx]
      rw [e]
      have C := hid (rfind_no p m ks vs R S x w h hd hx)
      clear h hd hx e hok hDF hf
      go_enter Try.func11, Try.ntmps11
      go_wp2_with (go_at_call 37; refine C.out.mono ?_; rintro e w' ⟨rfl, rfl⟩)
      go_ret
      exact ⟨rfl, HSAME.out⟩
    · obtain ⟨r, h1, h2, h3, h4⟩ := h.yes hx
      have C := hid (rfind_yes p m ks vs R S x r w h hd hx h4)
      have CA := act_mem p m ks vs R S w n h hd hf hn
      rcases act_err S with ea | ea
      · have e : syncS S x = (putT (actS S).1 x { r.t with safe := r.t.bytes.length }, 0) := by unfold syncS; rw [if_neg (by simp [hd]), h3]; simp [ea]
        rw [e]
        rw [ea] at CA
        have A := hid CA
        have HFIN : Hid (∀ w1, DMem w1 p m ks vs R (actS S).1 → Only (· = p) w w1 → (∃ a c, w1.cell? ⟨r.b, 0, none⟩ = some (.slice a r.t.bytes.length c)) ∧ (∃ k, w1.cell? ⟨r.b, 1, none⟩ = some (.int .i64 k)) ∧ w1.frozen? ⟨r.b, 1, none⟩ = false ∧
            DiskAt (w1.setCell ⟨r.b, 1, none⟩ (.int .i64 r.t.bytes.length)) p (grow F w (w1.setCell ⟨r.b, 1, none⟩ (.int .i64 r.t.bytes.length))) (putT (actS S).1 x { r.t with safe := r.t.bytes.length }) ∧ Only F w (w1.setCell ⟨r.b, 1, none⟩ (.int .i64 r.t.bytes.length))) := by
          intro w1 hm ho
          have ht := hm.tapes.1 r h2
          obtain ⟨a, c, hv, hc⟩ := own_slice ht.2
          have c0 := ht.1.cell 0
          simp only [hv] at c0
          refine ⟨⟨a, c, c0.trans rfl⟩, ⟨_, (ht.1.cell 1).trans rfl⟩, ht.1.frozen 1, ?_⟩
          have O : Only (· = r.b) w1 (w1.setCell ⟨r.b, 1, none⟩ (.int .i64 r.t.bytes.length)) := (Only.refl (· = r.b) w1).setCell (p := ⟨r.b, 1, none⟩) (.inl rfl) _
          have hm2 := hm.tape h1 (O.mono (fun i e => .inl e)) (r' := ⟨r.b, r.v, { r.t with safe := r.t.bytes.length }⟩) ⟨by simpa using ht.1.set 1 (.int .i64 r.t.bytes.length), own_only ht.2 O (fun k hk e => by subst e; exact ht.v_ne_b ht hk)⟩ rfl (.inl rfl)
          have OF : Only F w (w1.setCell ⟨r.b, 1, none⟩ (.int .i64 r.t.bytes.length)) := (ho.mono (fun i e => by subst e; exact hDF _ df_p)).then (O.mono (fun i e => by subst e; exact hDF _ (df_r h2 (.inl rfl))))
          have e1 : at_ (actS S).1 x = some r.t := by rw [at_act]; exact h3
          obtain ⟨l1, l2, l3, l4⟩ := act_l S
          have hput : putT (actS S).1 x { r.t with safe := r.t.bytes.length } = { (actS S).1 with ts := (actS S).1.ts.set (posOf S.l x) { r.t with safe := r.t.bytes.length } } := by
            rw [putT_has (by rw [l1]; exact hx), show posOf (actS S).1.l x = posOf S.l x by rw [l1]]
          refine ⟨DiskAt.mk' hF OF ?_ (by rw [hput]; exact hm2) (fun k hk => (df_set (B := w.heap.size) h1 (r' := ⟨r.b, r.v, { r.t with safe := r.t.bytes.length }⟩) rfl (.inl rfl) hk).imp (hDF k) id), OF⟩
          have := St.Ok.put (act_ok hok) e1 (t' := { r.t with safe := r.t.bytes.length }) (hok.each r.t (at_mem h3)).1 (Nat.le_refl _) S.used (by show S.used + _ = (actS S).1.used + _; rw [l3]) hok.most
          rw [hput] at this ⊢
          rw [← l3] at this
          exact this
        clear h hd hx e hok hDF hf h1 h2 h3 h4 CA ea
        go_enter Try.func11, Try.ntmps11
        go_wp2_with fail
        refine C.out.mono ?_; rintro e w' ⟨rfl, rfl⟩
        go_wp2_with fail
        refine A.out.mono ?_; rintro e w1 ⟨rfl, hm, ho⟩
        obtain ⟨⟨a, c, d0⟩, ⟨k, d1⟩, g1, hfin⟩ := HFIN.out w1 hm ho
        have HF := hid hfin
        clear hfin hm ho
        go_wp2_with fail
        go_ret
        exact ⟨rfl, HF.out⟩
      · have e : syncS S x = actS S := by unfold syncS; rw [if_neg (by simp [hd]), h3]; simp [ea]
        rw [e]
        rw [ea] at CA ⊢
        have A := hid CA
        have HFIN : Hid (∀ w1, DMem w1 p m ks vs R (actS S).1 → Only (· = p) w w1 → DiskAt w1 p (grow F w w1) (actS S).1 ∧ Only F w w1) := fun w1 hm ho => by
          have OF : Only F w w1 := ho.mono (fun i e => by subst e; exact hDF _ df_p)
          exact ⟨DiskAt.mk' hF OF (act_ok hok) hm (fun k hk => .inl (hDF k hk)), OF⟩
        clear h hd hx e hok hDF hf h1 h2 h3 h4 CA ea
        go_enter Try.func11, Try.ntmps11
        go_wp2_with fail
        refine C.out.mono ?_; rintro e w' ⟨rfl, rfl⟩
        go_wp2_with fail
        refine A.out.mono ?_; rintro e w1 ⟨rfl, hm, ho⟩
        have HF := hid (HFIN.out w1 hm ho)
        clear hm ho
        go_wp2_with fail
        go_ret
        exact ⟨rfl, HF.out⟩
  · have e : syncS S x = (S, 10) := by unfold syncS; rw [if_pos hd]
    rw [e]
    have C := hid (rfind_down p m ks vs R S x w h hd)
    clear h hd e hok hDF hf
    go_enter Try.func11, Try.ntmps11
    go_wp2_with (go_at_call 37; refine C.out.mono ?_; rintro e w' ⟨rfl, rfl⟩)
    go_ret
    exact ⟨rfl, HSAME.out⟩
end Go.Proofs.Ythjomknhbfplnaa
