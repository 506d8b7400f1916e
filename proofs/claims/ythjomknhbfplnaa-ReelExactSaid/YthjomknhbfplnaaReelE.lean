/- The reel's memory when a tape comes under a name, or goes. -/
import Derived.Test.YthjomknhbfplnaaReelD
namespace Go.Proofs.Ythjomknhbfplnaa
open Go.RowKit Reel
set_option linter.unusedVariables false

def putR (l : List ByteArray) (R : List RM) (x : ByteArray) (r : RM) : List RM := if hasN l x = true then R.set (posOf l x) r else R.take (posOf l x) ++ r :: R.drop (posOf l x)
def delR (l : List ByteArray) (R : List RM) (x : ByteArray) : List RM := if hasN l x = true then R.take (posOf l x) ++ R.drop (posOf l x + 1) else R
theorem putR_mem {l : List ByteArray} {R : List RM} {x : ByteArray} {r y : RM} (h : y ∈ putR l R x r) : y = r ∨ y ∈ R := by
  unfold putR at h
  split at h
  · exact (List.mem_or_eq_of_mem_set h).symm
  · rcases List.mem_append.1 h with h | h
    · exact .inr (List.mem_of_mem_take h)
    · rcases List.mem_cons.1 h with h | h
      · exact .inl h
      · exact .inr (List.mem_of_mem_drop h)
theorem delR_sub (l : List ByteArray) (R : List RM) (x : ByteArray) : (delR l R x).Sublist R := by
  unfold delR; split
  · exact del_sub R _
  · exact List.Sublist.refl _
theorem putR_tp (l : List ByteArray) (R : List RM) (x : ByteArray) (r : RM) : (putR l R x r).map tp = putVPtr l (R.map tp) x (tp r) := by
  unfold putR putVPtr
  split
  · rw [List.map_set]
  · rw [List.map_append, List.map_cons, List.map_take, List.map_drop]
theorem delR_tp (l : List ByteArray) (R : List RM) (x : ByteArray) : (delR l R x).map tp = delVPtr l (R.map tp) x := by
  unfold delR delVPtr
  split
  · rw [List.map_append, List.map_take, List.map_drop]
  · rfl
section
variable {w w' : World} {p m : Nat} {ks vs ks' vs' : Value} {R : List RM} {S : St} {x : ByteArray} {r : RM}
theorem Tapes.put (h : Tapes w R) (hr : TapeIs w r) (ha : ∀ y ∈ R, Apart r y) (l : List ByteArray) (x : ByteArray) : Tapes w (putR l R x r) := by
  refine ⟨fun y hy => (putR_mem hy).elim (fun e => by rw [e]; exact hr) (h.1 y), ?_⟩
  unfold putR
  split
  · refine List.pairwise_iff_getElem.2 fun j k hj hk hlt => ?_
    rw [List.getElem_set, List.getElem_set]
    have hj' : j < R.length := by simpa using hj
    have hk' : k < R.length := by simpa using hk
    split
    · rw [if_neg (by omega)]; exact ha _ (List.getElem_mem _)
    · split
      · exact (ha _ (List.getElem_mem _)).symm
      · exact List.pairwise_iff_getElem.1 h.2 j k hj' hk' hlt
  · have h0 : (R.take (posOf l x) ++ R.drop (posOf l x)).Pairwise Apart := by rw [List.take_append_drop]; exact h.2
    obtain ⟨h1, h2, h3⟩ := List.pairwise_append.1 h0
    refine List.pairwise_append.2 ⟨h1, List.pairwise_cons.2 ⟨fun y hy => ha y (List.mem_of_mem_drop hy), h2⟩, fun a hA b hB => ?_⟩
    rcases List.mem_cons.1 hB with rfl | hB
    · exact (ha a (List.mem_of_mem_take hA)).symm
    · exact h3 a hA b hB
theorem DMem.del (h : DMem w p m ks vs R S) (hm : MapIsPtr w' m ks' vs' (delN S.l x) (delVPtr S.l (R.map tp) x)) (ho : Only (MapF m ks vs) w w') : DMem w' p m ks' vs' (delR S.l R x) (delT S x) := by
  refine ⟨Blk.only h.blk ho h.p_map, by rw [delR_tp]; exact hm, (h.tapes.only ho (fun r hr => h.map_tape hr)).sub (delR_sub _ _ _), ?_⟩
  show (if hasN S.l x = true then _ else _) = _
  unfold delR
  split
  · rw [h.ts, List.map_append, List.map_take, List.map_drop]
  · exact h.ts
theorem tape_map (ht : TapeIs w r) (h : DMem w p m ks vs R S) : ∀ k, TF r k → ¬ MapF m ks vs k := by
  rintro k (rfl | hk) (e | e | e)
  · exact Blk.ne ht.1 h.map.1 (by decide) e
  · exact own_blk_ne h.map.2.1 ht.1 (by decide) e
  · exact own_blk_ne h.map.2.2.1 ht.1 (by decide) e
  · subst e; exact own_blk_ne ht.2 h.map.1 (by decide) hk
  · exact own_ne ht.2 h.map.2.1 (by decide) hk e
  · exact own_ne ht.2 h.map.2.2.1 (by decide) hk e
theorem DMem.put (h : DMem w p m ks vs R S) (ht : TapeIs w r) (ha : ∀ y ∈ R, Apart r y) (hm : MapIsPtr w' m ks' vs' (putN S.l x) (putVPtr S.l (R.map tp) x (tp r))) (ho : Only (MapF m ks vs) w w') : DMem w' p m ks' vs' (putR S.l R x r) (putT S x r.t) := by
  refine ⟨Blk.only h.blk ho h.p_map, by rw [putR_tp]; exact hm, (h.tapes.only ho (fun r hr => h.map_tape hr)).put (ht.only ho (tape_map ht h)) ha _ _, ?_⟩
  show (if hasN S.l x = true then _ else _) = _
  unfold putR
  split
  · rw [h.ts, List.map_set]
  · rw [h.ts, List.map_append, List.map_cons, List.map_take, List.map_drop]
theorem df_del {B : Nat} (hf : ∀ k, MapF m ks' vs' k → MapF m ks vs k ∨ B ≤ k) {k : Nat} (hk : DF p m ks' vs' (delR S.l R x) k) : DF p m ks vs R k ∨ B ≤ k := by
  rcases hk with hk | hk | ⟨y, hy, hk⟩
  · exact .inl (.inl hk)
  · exact (hf k hk).imp (fun h => .inr (.inl h)) id
  · exact .inl (.inr (.inr ⟨y, (delR_sub _ _ _).subset hy, hk⟩))
theorem df_put {B : Nat} {l : List ByteArray} (hf : ∀ k, MapF m ks' vs' k → MapF m ks vs k ∨ B ≤ k) {k : Nat} (hk : DF p m ks' vs' (putR l R x r) k) : DF p m ks vs R k ∨ TF r k ∨ B ≤ k := by
  rcases hk with hk | hk | ⟨y, hy, hk⟩
  · exact .inl (.inl hk)
  · exact (hf k hk).imp (fun h => .inr (.inl h)) .inr
  · rcases putR_mem hy with rfl | hy
    · exact .inr (.inl hk)
    · exact .inl (.inr (.inr ⟨y, hy, hk⟩))
end

/-- the way on where nothing is done, in one word -/
theorem DiskAt.same {w : World} {p : Nat} {F : Nat → Prop} {S : St} (h : DiskAt w p F S) : DiskAt w p (grow F w w) S ∧ Only F w w :=
  ⟨h.mono (fun _ => .inl) (fun k hk => hk.elim (h.1 k) (fun e => e.2)), Only.refl _ _⟩
/-- the way on where an act alone is done -/
theorem DiskAt.acted {w w' : World} {p m : Nat} {ks vs : Value} {R : List RM} {F : Nat → Prop} {S' : St} (hF : ∀ k, F k → k < w.heap.size) (hDF : ∀ k, DF p m ks vs R k → F k) (hok : S'.Ok) (hm : DMem w' p m ks vs R S') (ho : Only (· = p) w w') : DiskAt w' p (grow F w w') S' ∧ Only F w w' := by
  have OF : Only F w w' := ho.mono (fun i e => by subst e; exact hDF _ df_p)
  exact ⟨DiskAt.mk' hF OF hok hm (fun k hk => .inl (hDF k hk)), OF⟩

set_option maxHeartbeats 4000000 in
theorem cut_any (p : Nat) (F : Nat → Prop) (S : St) (x : ByteArray) (k : Int) (w : World) (n : Nat) (h : DiskAt w p F S) (hf : S.Fits n) (hn : n < big) (hk1 : -9223372036854775808 ≤ k) (hk2 : k ≤ 9223372036854775807) :
    Calls Try.prog 19 #[.pointer (some ⟨p, 0, none⟩), .string x, .int .i64 k] w fun e w' => e = .returned (.int .i64 (cutS S x k).2) ∧ DiskAt w' p (grow F w w') (cutS S x k).1 ∧ Only F w w' := by
  have HSAME := hid h.same
  obtain ⟨hF, hok, m, ks, vs, R, h, hDF⟩ := h
  cases hd : S.down
  · cases hx : hasN S.l x
    · have e : cutS S x k = (S, 12) := by unfold cutS; rw [if_neg (by simp [hd]), at_no hx]
      rw [e]
      have C := hid (rfind_no p m ks vs R S x w h hd hx)
      clear h hd hx e hok hDF hf
      go_enter Try.func19, Try.ntmps19
      go_wp2_with (go_at_call 37; refine C.out.mono ?_; rintro e w' ⟨rfl, rfl⟩)
      go_ret
      exact ⟨rfl, HSAME.out⟩
    · obtain ⟨r, h1, h2, h3, h4⟩ := h.yes hx
      have C := hid (rfind_yes p m ks vs R S x r w h hd hx h4)
      have ht := h.tapes.1 r h2
      obtain ⟨a, c, hv, hc⟩ := own_slice ht.2
      have d0 := ht.1.cell 0
      simp [hv] at d0
      have hlen := (hok.each r.t (at_mem h3)).1
      have hsafe := (hok.each r.t (at_mem h3)).2
      by_cases hb : k < 0 ∨ (r.t.bytes.length : Int) < k
      · have e : cutS S x k = (S, 1) := by unfold cutS; rw [if_neg (by simp [hd]), h3]; exact if_pos hb
        rw [e]
        obtain ⟨N, hN⟩ : ∃ N, r.t.bytes.length = N := ⟨_, rfl⟩
        rw [hN] at hb d0 hlen
        clear h hd hx e hok hDF hf h1 h2 h3 h4 ht hv hN hc hsafe
        rcases hb with hb | hb
        · go_enter Try.func19, Try.ntmps19
          go_wp2_with (go_at_call 37; refine C.out.mono ?_; rintro e w' ⟨rfl, rfl⟩)
          go_ret
          exact ⟨rfl, HSAME.out⟩
        · have hb0 : 0 ≤ k := by omega
          go_enter Try.func19, Try.ntmps19
          go_wp2_with (go_at_call 37; refine C.out.mono ?_; rintro e w' ⟨rfl, rfl⟩)
          go_ret
          exact ⟨rfl, HSAME.out⟩
      · have CA := act_mem p m ks vs R S w n h hd hf hn
        obtain ⟨k', rfl⟩ := Int.eq_ofNat_of_zero_le (show 0 ≤ k by omega)
        have hkl : k' ≤ r.t.bytes.length := by omega
        rcases act_err S with ea | ea
        · have e : cutS S x (k' : Int) = ({ putT (actS S).1 x (cutT r.t k') with used := S.used - (r.t.bytes.length - k') }, 0) := by
            unfold cutS; rw [if_neg (by simp [hd]), h3]; simp [ea]; omega
          rw [e]
          rw [ea] at CA
          have A := hid CA
          have hused : r.t.bytes.length ≤ S.used := by rw [hok.used]; exact Reel.size_mem (at_mem h3)
          have hmost := hok.most
          obtain ⟨l1, l2, l3, l4⟩ := act_l S
          have CC : Hid (∀ w1, DMem w1 p m ks vs R (actS S).1 → Calls Try.prog 45 #[.pointer (some ⟨p, 0, none⟩), .pointer (some ⟨r.b, 0, none⟩), .int .i64 k'] w1 fun e w' => e = .returned (.tuple #[]) ∧ (∃ v', v'.ownBlock = r.v.ownBlock ∧ DMem w' p m ks vs (R.set (posOf S.l x) ⟨r.b, v', cutT r.t k'⟩) { (actS S).1 with ts := (actS S).1.ts.set (posOf S.l x) (cutT r.t k'), used := S.used - (r.t.bytes.length - k') }) ∧ Only (fun k => k = p ∨ k = r.b) w1 w') := fun w1 hm => by
            have := cut_mem p m ks vs R (actS S).1 (posOf S.l x) r k' w1 hm h1 hkl (by rw [l3]; exact hused) (by rw [l3]; exact hmost) (by omega)
            rw [l3] at this; exact this
          have HFIN : Hid (∀ w1 w2, Only (· = p) w w1 → (∃ v', v'.ownBlock = r.v.ownBlock ∧ DMem w2 p m ks vs (R.set (posOf S.l x) ⟨r.b, v', cutT r.t k'⟩) { (actS S).1 with ts := (actS S).1.ts.set (posOf S.l x) (cutT r.t k'), used := S.used - (r.t.bytes.length - k') }) → Only (fun k => k = p ∨ k = r.b) w1 w2 →
              DiskAt w2 p (grow F w w2) { putT (actS S).1 x (cutT r.t k') with used := S.used - (r.t.bytes.length - k') } ∧ Only F w w2) := by
            rintro w1 w2 o1 ⟨v', hv', hm⟩ o2
            have OF : Only F w w2 := (o1.mono (fun i e => by subst e; exact hDF _ df_p)).then (o2.mono (fun i e => by
              rcases e with rfl | rfl
              · exact hDF _ df_p
              · exact hDF _ (df_r h2 (.inl rfl))))
            have hput : putT (actS S).1 x (cutT r.t k') = { (actS S).1 with ts := (actS S).1.ts.set (posOf S.l x) (cutT r.t k') } := by
              rw [putT_has (by rw [l1]; exact hx), show posOf (actS S).1.l x = posOf S.l x by rw [l1]]
            have hl : (cutT r.t k').bytes.length = k' := by unfold cutT; rw [List.length_take]; omega
            have hok2 := St.Ok.put (act_ok hok) (by rw [at_act]; exact h3) (t' := cutT r.t k') (by rw [hl]; omega) (by rw [hl]; unfold cutT; exact Nat.min_le_right _ _) (S.used - (r.t.bytes.length - k')) (by rw [l3, hl]; omega) (by omega)
            refine ⟨DiskAt.mk' hF OF hok2 (by rw [hput]; exact hm) (fun k hk => (df_set (B := w.heap.size) h1 (r' := ⟨r.b, v', cutT r.t k'⟩) rfl (.inl hv') hk).imp (hDF k) id), OF⟩
          have g1 : (k' : Int) ≤ r.t.bytes.length := by omega
          have HCP : Hid (∀ w1, DMem w1 p m ks vs R (actS S).1 → True) := fun _ _ => trivial
          obtain ⟨N, hN⟩ : ∃ N, r.t.bytes.length = N := ⟨_, rfl⟩
          rw [hN] at d0 hlen g1
          clear h hd hx e hok hDF hf h1 h2 h3 h4 ht hv hc hsafe CA ea hused hkl hb HSAME
          go_enter Try.func19, Try.ntmps19
          go_wp2_with fail
          refine C.out.mono ?_; rintro e w' ⟨rfl, rfl⟩
          go_wp2_with fail
          refine A.out.mono ?_; rintro e w1 ⟨rfl, hm, ho⟩
          have HM := hid hm; have HO := hid ho
          clear hm ho
          go_wp2_with fail
          refine (CC.out w1 HM.out).mono ?_; rintro e w2 ⟨rfl, hm2, ho2⟩
          have HF := hid (HFIN.out w1 w2 HO.out hm2 ho2)
          clear hm2 ho2
          go_wp2_with fail
          go_ret
          exact ⟨rfl, HF.out⟩
        · have e : cutS S x (k' : Int) = actS S := by unfold cutS; rw [if_neg (by simp [hd]), h3]; simp [ea]; omega
          rw [e]
          rw [ea] at CA ⊢
          have A := hid CA
          have HFIN : Hid (∀ w1, DMem w1 p m ks vs R (actS S).1 → Only (· = p) w w1 → DiskAt w1 p (grow F w w1) (actS S).1 ∧ Only F w w1) := fun w1 hm ho => DiskAt.acted hF hDF (act_ok hok) hm ho
          have g1 : (k' : Int) ≤ r.t.bytes.length := by omega
          obtain ⟨N, hN⟩ : ∃ N, r.t.bytes.length = N := ⟨_, rfl⟩
          rw [hN] at d0 hlen g1
          clear h hd hx e hok hDF hf h1 h2 h3 h4 ht hv hN hc hsafe CA ea hkl hb
          go_enter Try.func19, Try.ntmps19
          go_wp2_with fail
          refine C.out.mono ?_; rintro e w' ⟨rfl, rfl⟩
          go_wp2_with fail
          refine A.out.mono ?_; rintro e w1 ⟨rfl, hm, ho⟩
          have HF := hid (HFIN.out w1 hm ho)
          clear hm ho
          go_wp2_with fail
          go_ret
          exact ⟨rfl, HF.out⟩
  · have e : cutS S x k = (S, 10) := by unfold cutS; rw [if_pos hd]
    rw [e]
    have C := hid (rfind_down p m ks vs R S x w h hd)
    clear h hd e hok hDF hf
    go_enter Try.func19, Try.ntmps19
    go_wp2_with (go_at_call 37; refine C.out.mono ?_; rintro e w' ⟨rfl, rfl⟩)
    go_ret
    exact ⟨rfl, HSAME.out⟩

theorem DMem.used {w : World} {p m : Nat} {ks vs : Value} {R : List RM} {S : St} (h : DMem w p m ks vs R S) (U : Nat) (u : Int) (hu : u = U) : DMem (w.setCell ⟨p, 1, none⟩ (.int .i64 u)) p m ks vs R { S with used := U } ∧ Only (· = p) w (w.setCell ⟨p, 1, none⟩ (.int .i64 u)) := by
  have O : Only (· = p) w (w.setCell ⟨p, 1, none⟩ (.int .i64 u)) := (Only.refl (· = p) w).setCell (p := ⟨p, 1, none⟩) (.inl rfl) _
  refine ⟨h.own O ?_ rfl rfl, O⟩
  have := Blk.set h.blk 1 (.int .i64 u)
  unfold DBlk
  rw [← hu]
  simpa using this
theorem DMem.drew {w : World} {p m : Nat} {ks vs : Value} {R : List RM} {S : St} (h : DMem w p m ks vs R S) : DMem w.drew p m ks vs R S := h.only (Only.refl NoF w).drew (fun _ _ e => e)

set_option maxHeartbeats 4000000 in
theorem drop_any (p : Nat) (F : Nat → Prop) (S : St) (x : ByteArray) (w : World) (n : Nat) (h : DiskAt w p F S) (hf : S.Fits n) (hn : n < big) :
    Calls Try.prog 17 #[.pointer (some ⟨p, 0, none⟩), .string x] w fun e w' => e = .returned (.int .i64 (dropS S x).2) ∧ DiskAt w' p (grow F w w') (dropS S x).1 ∧ Only F w w' := by
  have HSAME := hid h.same
  obtain ⟨hF, hok, m, ks, vs, R, h, hDF⟩ := h
  cases hd : S.down
  · cases hx : hasN S.l x
    · have e : dropS S x = (S, 12) := by unfold dropS; rw [if_neg (by simp [hd]), at_no hx]
      rw [e]
      have C := hid (rfind_no p m ks vs R S x w h hd hx)
      clear h hd hx e hok hDF hf
      go_enter Try.func17, Try.ntmps17
      go_wp2_with (go_at_call 37; refine C.out.mono ?_; rintro e w' ⟨rfl, rfl⟩)
      go_ret
      exact ⟨rfl, HSAME.out⟩
    · obtain ⟨r, h1, h2, h3, h4⟩ := h.yes hx
      have C := hid (rfind_yes p m ks vs R S x r w h hd hx h4)
      have CA := act_mem p m ks vs R S w n h hd hf hn
      rcases act_err S with ea | ea
      · have e : dropS S x = ({ delT (actS S).1 x with used := S.used - r.t.bytes.length }, 0) := by
          unfold dropS; rw [if_neg (by simp [hd]), h3]; simp [ea]
        rw [e]
        rw [ea] at CA
        have A := hid CA
        obtain ⟨l1, l2, l3, l4⟩ := act_l S
        have hused : r.t.bytes.length ≤ S.used := by rw [hok.used]; exact Reel.size_mem (at_mem h3)
        have hmost := hok.most
        have hlen := (hok.each r.t (at_mem h3)).1
        obtain ⟨N, hN⟩ : ∃ N, r.t.bytes.length = N := ⟨_, rfl⟩
        have HC : Hid (∀ w1, DMem w1 p m ks vs R (actS S).1 → (∃ a c, w1.cell? ⟨r.b, 0, none⟩ = some (.slice a N c)) ∧ w1.cell? ⟨p, 1, none⟩ = some (.int .i64 S.used) ∧ w1.cell? ⟨p, 0, none⟩ = some (.pointer (some ⟨m, 0, none⟩)) ∧ w1.frozen? ⟨p, 1, none⟩ = false ∧ p ≠ r.b) := fun w1 hm => by
          have ht := hm.tapes.1 r h2
          obtain ⟨a, c, hv, hc⟩ := own_slice ht.2
          have c0 := ht.1.cell 0
          simp only [hv] at c0
          obtain ⟨q0, q1, -⟩ := hm.blk.cells
          rw [l3] at q1
          exact ⟨⟨a, c, by rw [← hN]; exact c0.trans rfl⟩, q1, q0, Blk.frozen hm.blk 1, fun e => hm.p_tape h2 (.inl e)⟩
        have HD : Hid (∀ w1, DMem w1 p m ks vs R (actS S).1 → Calls Try.prog 46 #[.pointer (some ⟨m, 0, none⟩), .string x] (w1.drew.setCell ⟨p, 1, none⟩ (.int .i64 ((S.used : Int) - N))) fun e w' => e = .returned (.bool (hasN S.l x)) ∧ ∃ ks' vs', MapIsPtr w' m ks' vs' (delN S.l x) (delVPtr S.l (R.map tp) x) ∧ Only (MapF m ks vs) (w1.drew.setCell ⟨p, 1, none⟩ (.int .i64 ((S.used : Int) - N))) w' ∧ (∀ k, MapF m ks' vs' k → MapF m ks vs k)) := fun w1 hm => by
          have h5 := (hm.drew.used (S.used - N) ((S.used : Int) - N) (by omega)).1.map
          have := delPtr_any m ks vs _ (R.map tp) x _ h5
          rw [l1] at this; exact this
        have HFIN : Hid (∀ w1 w3 ks' vs', DMem w1 p m ks vs R (actS S).1 → Only (· = p) w w1 → MapIsPtr w3 m ks' vs' (delN S.l x) (delVPtr S.l (R.map tp) x) → Only (MapF m ks vs) (w1.drew.setCell ⟨p, 1, none⟩ (.int .i64 ((S.used : Int) - N))) w3 → (∀ k, MapF m ks' vs' k → MapF m ks vs k) →
            DiskAt w3 p (grow F w w3) { delT (actS S).1 x with used := S.used - N } ∧ Only F w w3) := by
          intro w1 w3 ks' vs' hm ho hm3 ho3 hf3
          obtain ⟨h5, o5⟩ := hm.drew.used (S.used - N) ((S.used : Int) - N) (by omega)
          have o4 : Only F w w1.drew := (ho.mono (fun i e => by subst e; exact hDF _ df_p)).drew
          have o6 := o4.then (o5.mono (fun i e => by subst e; exact hDF _ df_p))
          have OF : Only F w w3 := o6.then (ho3.mono (fun i e => hDF _ (.inr (.inl e))))
          have hm6 := h5.del (x := x) (by show MapIsPtr w3 m ks' vs' (delN (actS S).1.l x) (delVPtr (actS S).1.l (R.map tp) x); rw [l1]; exact hm3) ho3
          have hok2 := St.Ok.del (act_ok hok) (by rw [at_act]; exact h3) (S.used - N) (by rw [l3, hN]; omega)
          exact ⟨DiskAt.mk' hF OF hok2 hm6 (fun k hk => (df_del (B := w.heap.size) (fun k hk => .inl (hf3 k hk)) hk).imp (hDF k) id), OF⟩
        rw [hN] at hused hlen ⊢
        clear h hd hx e hok hDF hf h1 h2 h3 h4 CA ea HSAME hN
        go_enter Try.func17, Try.ntmps17
        go_wp2_with fail
        refine C.out.mono ?_; rintro e w' ⟨rfl, rfl⟩
        go_wp2_with fail
        refine A.out.mono ?_; rintro e w1 ⟨rfl, hm, ho⟩
        obtain ⟨⟨a, c, d0⟩, q1, q0, f1, hpr⟩ := HC.out w1 hm
        have HM := hid hm; have HO := hid ho
        clear hm ho
        go_wp2_with fail
        go_region
        go_wp2_with fail
        refine (HD.out w1 HM.out).mono ?_; rintro e w3 ⟨rfl, ks', vs', hm3, ho3, hf3⟩
        have HF := hid (HFIN.out w1 w3 ks' vs' HM.out HO.out hm3 ho3 hf3)
        clear hm3 ho3 hf3
        go_wp2_with fail
        go_ret
        exact ⟨rfl, HF.out⟩
      · have e : dropS S x = actS S := by unfold dropS; rw [if_neg (by simp [hd]), h3]; simp [ea]
        rw [e]
        rw [ea] at CA ⊢
        have A := hid CA
        have HFIN : Hid (∀ w1, DMem w1 p m ks vs R (actS S).1 → Only (· = p) w w1 → DiskAt w1 p (grow F w w1) (actS S).1 ∧ Only F w w1) := fun w1 hm ho => DiskAt.acted hF hDF (act_ok hok) hm ho
        clear h hd hx e hok hDF hf h1 h2 h3 h4 CA ea
        go_enter Try.func17, Try.ntmps17
        go_wp2_with fail
        refine C.out.mono ?_; rintro e w' ⟨rfl, rfl⟩
        go_wp2_with fail
        refine A.out.mono ?_; rintro e w1 ⟨rfl, hm, ho⟩
        have HF := hid (HFIN.out w1 hm ho)
        clear hm ho
        go_wp2_with fail
        go_ret
        exact ⟨rfl, HF.out⟩
  · have e : dropS S x = (S, 10) := by unfold dropS; rw [if_pos hd]
    rw [e]
    have C := hid (rfind_down p m ks vs R S x w h hd)
    clear h hd e hok hDF hf
    go_enter Try.func17, Try.ntmps17
    go_wp2_with (go_at_call 37; refine C.out.mono ?_; rintro e w' ⟨rfl, rfl⟩)
    go_ret
    exact ⟨rfl, HSAME.out⟩
end Go.Proofs.Ythjomknhbfplnaa
