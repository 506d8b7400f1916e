/- The reel's calls that write, more: Swap, Append, New. -/
import Derived.Test.YthjomknhbfplnaaReelE
import Derived.Test.YthjomknhbfplnaaReelEnts
namespace Go.Proofs.Ythjomknhbfplnaa
open Go.RowKit Reel
set_option linter.unusedVariables false

theorem delR_apart {w : World} {R : List RM} {l : List ByteArray} {x : ByteArray} {r : RM} (h : Tapes w R) (hr : R[posOf l x]? = some r) (hx : hasN l x = true) : ∀ y ∈ delR l R x, Apart r y := by
  intro y hy
  unfold delR at hy
  rw [if_pos hx] at hy
  rcases List.mem_append.1 hy with hy | hy
  · obtain ⟨j, hj, e⟩ := List.getElem_of_mem hy
    rw [List.length_take] at hj
    rw [List.getElem_take] at e
    refine h.apart hr (r' := y) (j := j) ?_ (by omega)
    rw [List.getElem?_eq_getElem (by omega), e]
  · obtain ⟨j, hj, e⟩ := List.getElem_of_mem hy
    rw [List.length_drop] at hj
    rw [List.getElem_drop] at e
    refine h.apart hr (r' := y) (j := posOf l x + 1 + j) ?_ (by omega)
    rw [List.getElem?_eq_getElem (by omega), e]
theorem delN_le (l : List ByteArray) (x : ByteArray) : (delN l x).length ≤ l.length := by
  unfold delN; split
  · rw [List.length_append, List.length_take, List.length_drop]; omega
  · exact Nat.le_refl _
theorem swap_ok {S : St} {x to : ByteArray} {t : Spool} (h : S.Ok) (hx : at_ S x = some t) (hn : isName to = true) (hne : x ≠ to) : St.Ok (putT { delT S x with used := S.used - lenAt S to } to t) := by
  have hlen := h.each t (at_mem hx)
  have hu : t.bytes.length ≤ S.used := by rw [h.used]; exact Reel.size_mem (at_mem hx)
  have hd : St.Ok { delT S x with used := S.used - t.bytes.length } := h.del hx _ (by omega)
  have hat : at_ { delT S x with used := S.used - t.bytes.length } to = at_ S to := at_del h hx (fun e => hne e.symm)
  have hx' := (at_some hx).1
  have hm := h.most
  cases ho : at_ S to with
  | some t2 =>
    have hsum := hd.used
    have h2 : t2.bytes.length ≤ S.used - t.bytes.length := by
      have := Reel.size_mem (at_mem (hat.trans ho)); rw [← hsum] at this; exact this
    have hl : lenAt S to = t2.bytes.length := by unfold lenAt; rw [ho]
    have := St.Ok.put hd (hat.trans ho) (t' := t) hlen.1 hlen.2 (S.used - lenAt S to) (by rw [hl]; show _ = S.used - t.bytes.length + _; omega) (by omega)
    exact this
  | none =>
    have hl : lenAt S to = 0 := by unfold lenAt; rw [ho]
    have hno0 := at_none hd (hat.trans ho)
    have hno : hasN (delT S x).l to = false := hno0
    have hlt := ((posOf_mem h.rising x).2 (hasN_iff.1 hx')).1
    have := St.Ok.ins hd (x := to) hno hn (by
      show (delT S x).l.length < 64
      rw [delT_has hx']
      have := h.few
      show (S.l.take _ ++ S.l.drop _).length < 64
      rw [List.length_append, List.length_take, List.length_drop]; omega) (t' := t) hlen.1 hlen.2 (S.used - lenAt S to) (by rw [hl]; show _ = S.used - t.bytes.length + _; omega) (by omega)
    exact this

set_option maxHeartbeats 8000000 in
theorem swap_any (p : Nat) (F : Nat → Prop) (S : St) (x to : ByteArray) (w : World) (n : Nat) (h : DiskAt w p F S) (hf : S.Fits n) (hn : n < big) (hto : to.size ≤ 9223372036854775807) :
    Calls Try.prog 20 #[.pointer (some ⟨p, 0, none⟩), .string x, .string to] w fun e w' => e = .returned (.int .i64 (swapS S x to).2) ∧ DiskAt w' p (grow F w w') (swapS S x to).1 ∧ Only F w w' := by
  have HSAME := hid h.same
  obtain ⟨hF, hok, m, ks, vs, R, h, hDF⟩ := h
  cases hd : S.down
  · cases hx : hasN S.l x
    · have e : swapS S x to = (S, 12) := by unfold swapS; rw [if_neg (by simp [hd]), at_no hx]
      rw [e]
      have C := hid (rfind_no p m ks vs R S x w h hd hx)
      clear h hd hx e hok hDF hf
      go_enter Try.func20, Try.ntmps20
      go_wp2_with (go_at_call 37; refine C.out.mono ?_; rintro e w' ⟨rfl, rfl⟩)
      go_ret
      exact ⟨rfl, HSAME.out⟩
    · obtain ⟨r, h1, h2, h3, h4⟩ := h.yes hx
      have C := hid (rfind_yes p m ks vs R S x r w h hd hx h4)
      have CN := isName_any to w hto
      cases hnm : isName to
      · have e : swapS S x to = (S, 1) := by unfold swapS; rw [if_neg (by simp [hd]), h3]; exact if_pos hnm
        rw [e]
        rw [hnm] at CN
        have N := hid CN
        clear h hd hx e hok hDF hf h1 h2 h3 h4 CN hnm
        go_enter Try.func20, Try.ntmps20
        go_wp2_with (first
          | (go_at_call 37; refine C.out.mono ?_; rintro e w' ⟨rfl, rfl⟩)
          | (go_at_call 38; refine N.out.mono ?_; rintro e w' ⟨rfl, rfl⟩))
        go_ret
        exact ⟨rfl, HSAME.out⟩
      · rw [hnm] at CN
        have N := hid CN
        clear CN
        have CA := act_mem p m ks vs R S w n h hd hf hn
        rcases act_err S with ea | ea
        · rw [ea] at CA
          have A := hid CA
          by_cases hxt : x = to
          · have e : swapS S x to = ((actS S).1, 0) := by
              unfold swapS; rw [if_neg (by simp [hd]), h3]; simp [ea, hnm, hxt]
            rw [e]
            have HFIN : Hid (∀ w1, DMem w1 p m ks vs R (actS S).1 → Only (· = p) w w1 → DiskAt w1 p (grow F w w1) (actS S).1 ∧ Only F w w1) := fun w1 hm ho => DiskAt.acted hF hDF (act_ok hok) hm ho
            have heq : (x.toList == to.toList) = true := by rw [hxt]; simp
            subst hxt
            clear h hd hx e hok hDF hf h1 h2 h3 h4 CA ea hnm
            go_enter Try.func20, Try.ntmps20
            go_wp2_with fail
            refine C.out.mono ?_; rintro e w' ⟨rfl, rfl⟩
            go_wp2_with fail
            refine N.out.mono ?_; rintro e w' ⟨rfl, rfl⟩
            go_wp2_with fail
            refine A.out.mono ?_; rintro e w1 ⟨rfl, hm, ho⟩
            have HF := hid (HFIN.out w1 hm ho)
            clear hm ho
            go_wp2_with fail
            go_ret
            exact ⟨rfl, HF.out⟩
          · have e : swapS S x to = (putT { delT (actS S).1 x with used := S.used - lenAt S to } to r.t, 0) := by
              unfold swapS; rw [if_neg (by simp [hd]), h3]; simp [ea, hnm, hxt]
            rw [e]
            have heq := bstr_ne hxt
            have heq2 : ¬ x.toList = to.toList := by simpa using heq
            obtain ⟨l1, l2, l3, l4⟩ := act_l S
            have hmost := hok.most
            -- what is asked and done behind the act
            have HG : Hid (∀ w1, DMem w1 p m ks vs R (actS S).1 → Calls Try.prog 42 #[.pointer (some ⟨m, 0, none⟩), .string to] w1 fun e w' => e = .returned (.tuple #[encPtr (getVPtr S.l (R.map tp) to), .bool (hasN S.l to)]) ∧ w1 = w') := fun w1 hm => by
              have := getPtr m ks vs _ (R.map tp) to w1 hm.map
              rw [l1] at this; exact this
            have HREST : Hid (∀ (W2 : World) (U : Nat), DMem W2 p m ks vs R { (actS S).1 with used := U } → U = S.used - lenAt S to → Only F w W2 →
                Calls Try.prog 46 #[.pointer (some ⟨m, 0, none⟩), .string x] W2 fun e w3 => e = .returned (.bool true) ∧
                  w3.cell? ⟨p, 0, none⟩ = some (.pointer (some ⟨m, 0, none⟩)) ∧
                  Calls Try.prog 40 #[.pointer (some ⟨m, 0, none⟩), .string to, .pointer (some ⟨r.b, 0, none⟩)] w3 fun e w4 => (∃ b, e = .returned (.bool b)) ∧
                    DiskAt w4 p (grow F w w4) (putT { delT (actS S).1 x with used := S.used - lenAt S to } to r.t) ∧ Only F w w4) := by
              intro W2 U hm2 hU o2
              have CD := delPtr_any m ks vs _ (R.map tp) x W2 hm2.map
              refine CD.mono ?_
              rintro e w3 ⟨rfl, ks', vs', hm3, o3, f3⟩
              have hxl : hasN (actS S).1.l x = true := by rw [l1]; exact hx
              have hm4 : DMem w3 p m ks' vs' (delR (actS S).1.l R x) (delT { (actS S).1 with used := U } x) := hm2.del hm3 o3
              have ht3 : TapeIs w3 r := (hm2.tapes.1 r h2).only o3 (hm2.map_tape h2)
              have hap : ∀ y ∈ delR (actS S).1.l R x, Apart r y := delR_apart hm2.tapes (by rw [l1]; exact h1) hxl
              have CP := putPtr_any m ks' vs' _ ((delR (actS S).1.l R x).map tp) to (tp r) w3 hm4.map (by
                have hr := (delN_rising hok.rising x)
                show (delN (actS S).1.l x).length < 1000000
                rw [l1]
                have := hok.few
                have := delN_le S.l x
                omega)
              refine ⟨by show _ = Ending.returned (.bool true); rw [show hasN ({ (actS S).1 with used := U } : St).l x = true from hxl], hm4.blk.cells.1, ?_⟩
              refine CP.mono ?_
              rintro e w4 ⟨rfl, ks2, vs2, hm5, o5, f5⟩
              refine ⟨⟨_, rfl⟩, ?_⟩
              have hm6 := hm4.put ht3 hap hm5 o5
              have OF3 : Only F w w3 := o2.then (o3.mono (fun i e => hDF _ (.inr (.inl e))))
              have OF4 : Only F w w4 := OF3.trans o5 (fun i e => by
                rcases e with e | e | e
                · exact .inl (hDF _ (.inr (.inl (.inl e))))
                · exact .inl (hDF _ (.inr (.inl (f3 _ (.inr (.inl e))))))
                · exact .inl (hDF _ (.inr (.inl (f3 _ (.inr (.inr e)))))))
              have hok2 : St.Ok (putT { delT (actS S).1 x with used := S.used - lenAt S to } to r.t) := by
                have hl : lenAt (actS S).1 to = lenAt S to := by unfold lenAt; rw [at_act]
                have := swap_ok (act_ok hok) (by rw [at_act]; exact h3) hnm hxt
                rw [hl, l3] at this; exact this
              subst hU
              refine ⟨DiskAt.mk' hF OF4 hok2 hm6 (fun k hk => ?_), OF4⟩
              rcases df_put (B := w.heap.size) (fun k hk => (f5 k hk).imp id (fun h => Nat.le_trans OF3.size h)) hk with hk | hk | hk
              · exact (df_del (B := w.heap.size) (fun k hk => .inl (f3 k hk)) hk).imp (hDF k) id
              · exact .inl (hDF _ (df_r h2 hk))
              · exact .inr hk
            have HO1 : Hid (∀ w1, Only (· = p) w w1 → Only F w w1) := fun w1 ho => ho.mono (fun i e => by subst e; exact hDF _ df_p)
            have HP : Hid (∀ u : Nat, u = p → F u) := fun u hu => by subst hu; exact hDF _ df_p
            cases hto2 : hasN S.l to
            · have hl0 : lenAt S to = 0 := by unfold lenAt; rw [at_no hto2]
              have hgv : getVPtr S.l (R.map tp) to = none := by unfold getVPtr; rw [if_neg (by simp [hto2])]
              have HG2 : Hid (∀ w1, DMem w1 p m ks vs R (actS S).1 → Calls Try.prog 42 #[.pointer (some ⟨m, 0, none⟩), .string to] w1 fun e w' => e = .returned (.tuple #[.pointer none, .bool false]) ∧ w1 = w') := fun w1 hm => by
                have := HG.out w1 hm
                rw [hgv, hto2] at this; exact this
              have HD : Hid (∀ w1, DMem w1 p m ks vs R (actS S).1 → Only F w w1 → Calls Try.prog 46 #[.pointer (some ⟨m, 0, none⟩), .string x] w1 fun e w3 => e = .returned (.bool true) ∧
                  w3.cell? ⟨p, 0, none⟩ = some (.pointer (some ⟨m, 0, none⟩)) ∧
                  Calls Try.prog 40 #[.pointer (some ⟨m, 0, none⟩), .string to, .pointer (some ⟨r.b, 0, none⟩)] w3 fun e w4 => (∃ b, e = .returned (.bool b)) ∧
                    DiskAt w4 p (grow F w w4) (putT { delT (actS S).1 x with used := S.used - lenAt S to } to r.t) ∧ Only F w w4) := fun w1 hm ho =>
                HREST.out w1 S.used (by rw [← l3]; exact hm) (by rw [hl0]; omega) ho
              clear h hd hx e hok hDF hf h1 h2 h3 h4 CA ea hnm hxt HG HREST hl0 hgv hto2 HSAME
              go_enter Try.func20, Try.ntmps20
              go_wp2_with fail
              refine C.out.mono ?_; rintro e w' ⟨rfl, rfl⟩
              go_wp2_with fail
              refine N.out.mono ?_; rintro e w' ⟨rfl, rfl⟩
              go_wp2_with fail
              refine A.out.mono ?_; rintro e w1 ⟨rfl, hm, ho⟩
              have q0 := hm.blk.cells.1
              have HM := hid hm; have HO := hid (HO1.out w1 ho)
              clear hm ho
              go_wp2_with fail
              refine (HG2.out w1 HM.out).mono ?_; rintro e w' ⟨rfl, rfl⟩
              go_wp2_with fail
              refine (HD.out w1 HM.out HO.out).mono ?_; rintro e w3 ⟨rfl, q3, hput⟩
              have PUT := hid hput; clear hput
              go_wp2_with fail
              refine PUT.out.mono ?_; rintro e w4 ⟨⟨b, rfl⟩, hfin⟩
              have HF := hid hfin; clear hfin
              go_wp2_with fail
              go_ret
              exact ⟨rfl, HF.out⟩
            · obtain ⟨r2, k1, k2, k3, k4⟩ := h.yes hto2
              have hl0 : lenAt S to = r2.t.bytes.length := by unfold lenAt; rw [k3]
              have hu2 : r2.t.bytes.length ≤ S.used := by rw [hok.used]; exact Reel.size_mem (at_mem k3)
              have hlen2 := (hok.each r2.t (at_mem k3)).1
              obtain ⟨N2, hN2⟩ : ∃ N2, r2.t.bytes.length = N2 := ⟨_, rfl⟩
              have HG2 : Hid (∀ w1, DMem w1 p m ks vs R (actS S).1 → Calls Try.prog 42 #[.pointer (some ⟨m, 0, none⟩), .string to] w1 fun e w' => e = .returned (.tuple #[.pointer (some ⟨r2.b, 0, none⟩), .bool true]) ∧ w1 = w') := fun w1 hm => by
                have := HG.out w1 hm
                rw [k4, hto2] at this; exact this
              have HC : Hid (∀ w1, DMem w1 p m ks vs R (actS S).1 → (∃ a c, w1.cell? ⟨r2.b, 0, none⟩ = some (.slice a N2 c)) ∧ w1.cell? ⟨p, 1, none⟩ = some (.int .i64 S.used) ∧ w1.cell? ⟨p, 0, none⟩ = some (.pointer (some ⟨m, 0, none⟩)) ∧ w1.frozen? ⟨p, 1, none⟩ = false ∧ p ≠ r2.b) := fun w1 hm => by
                have ht := hm.tapes.1 r2 k2
                obtain ⟨a, c, hv, hc⟩ := own_slice ht.2
                have c0 := ht.1.cell 0
                simp only [hv] at c0
                obtain ⟨q0, q1, -⟩ := hm.blk.cells
                rw [l3] at q1
                exact ⟨⟨a, c, by rw [← hN2]; exact c0.trans rfl⟩, q1, q0, Blk.frozen hm.blk 1, fun e => hm.p_tape k2 (.inl e)⟩
              have HD : Hid (∀ w1, DMem w1 p m ks vs R (actS S).1 → Only F w w1 → Calls Try.prog 46 #[.pointer (some ⟨m, 0, none⟩), .string x] (w1.drew.setCell ⟨p, 1, none⟩ (.int .i64 ((S.used : Int) - N2))) fun e w3 => e = .returned (.bool true) ∧
                  w3.cell? ⟨p, 0, none⟩ = some (.pointer (some ⟨m, 0, none⟩)) ∧
                  Calls Try.prog 40 #[.pointer (some ⟨m, 0, none⟩), .string to, .pointer (some ⟨r.b, 0, none⟩)] w3 fun e w4 => (∃ b, e = .returned (.bool b)) ∧
                    DiskAt w4 p (grow F w w4) (putT { delT (actS S).1 x with used := S.used - lenAt S to } to r.t) ∧ Only F w w4) := fun w1 hm ho => by
                obtain ⟨h5, o5⟩ := hm.drew.used (S.used - N2) ((S.used : Int) - N2) (by omega)
                exact HREST.out _ (S.used - N2) h5 (by rw [hl0, hN2]) (ho.drew.then (o5.mono (fun i e => HP.out i e)))
              rw [hN2] at hu2 hlen2
              clear h hd hx e hok hDF hf h1 h2 h3 h4 CA ea hnm hxt HG HREST hl0 hto2 k1 k2 k3 k4 hN2 HSAME
              go_enter Try.func20, Try.ntmps20
              go_wp2_with fail
              refine C.out.mono ?_; rintro e w' ⟨rfl, rfl⟩
              go_wp2_with fail
              refine N.out.mono ?_; rintro e w' ⟨rfl, rfl⟩
              go_wp2_with fail
              refine A.out.mono ?_; rintro e w1 ⟨rfl, hm, ho⟩
              obtain ⟨⟨a, c, d0⟩, q1, q0, f1, hpr⟩ := HC.out w1 hm
              have HM := hid hm; have HO := hid (HO1.out w1 ho)
              clear hm ho
              go_wp2_with fail
              refine (HG2.out w1 HM.out).mono ?_; rintro e w' ⟨rfl, rfl⟩
              go_wp2_with fail
              go_region
              go_wp2_with fail
              refine (HD.out w1 HM.out HO.out).mono ?_; rintro e w3 ⟨rfl, q3, hput⟩
              have PUT := hid hput; clear hput
              go_wp2_with fail
              refine PUT.out.mono ?_; rintro e w4 ⟨⟨b, rfl⟩, hfin⟩
              have HF := hid hfin; clear hfin
              go_wp2_with fail
              go_ret
              exact ⟨rfl, HF.out⟩
        · have e : swapS S x to = actS S := by unfold swapS; rw [if_neg (by simp [hd]), h3]; simp [ea, hnm]
          rw [e]
          rw [ea] at CA ⊢
          have A := hid CA
          have HFIN : Hid (∀ w1, DMem w1 p m ks vs R (actS S).1 → Only (· = p) w w1 → DiskAt w1 p (grow F w w1) (actS S).1 ∧ Only F w w1) := fun w1 hm ho => DiskAt.acted hF hDF (act_ok hok) hm ho
          clear h hd hx e hok hDF hf h1 h2 h3 h4 CA ea hnm
          go_enter Try.func20, Try.ntmps20
          go_wp2_with fail
          refine C.out.mono ?_; rintro e w' ⟨rfl, rfl⟩
          go_wp2_with fail
          refine N.out.mono ?_; rintro e w' ⟨rfl, rfl⟩
          go_wp2_with fail
          refine A.out.mono ?_; rintro e w1 ⟨rfl, hm, ho⟩
          have HF := hid (HFIN.out w1 hm ho)
          clear hm ho
          go_wp2_with fail
          go_ret
          exact ⟨rfl, HF.out⟩
  · have e : swapS S x to = (S, 10) := by unfold swapS; rw [if_pos hd]
    rw [e]
    have C := hid (rfind_down p m ks vs R S x w h hd)
    clear h hd e hok hDF hf
    go_enter Try.func20, Try.ntmps20
    go_wp2_with (go_at_call 37; refine C.out.mono ?_; rintro e w' ⟨rfl, rfl⟩)
    go_ret
    exact ⟨rfl, HSAME.out⟩
end Go.Proofs.Ythjomknhbfplnaa
