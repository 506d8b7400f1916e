/- The reel: Append, New. -/
import Derived.Test.YthjomknhbfplnaaReelF
namespace Go.Proofs.Ythjomknhbfplnaa
open Go.RowKit Reel
set_option linter.unusedVariables false

/-- bytes are wound on a tape -/
theorem app_step {W w1 : World} {p m : Nat} {ks vs v' : Value} {R : List RM} {S : St} {i : Nat} {r : RM} (h : DMem W p m ks vs R S) (hi : R[i]? = some r) (s : ByteArray) (hown : w1.ownsRow 0 5 1 v' (r.t.bytes ++ s.data.toList).length (bvals (r.t.bytes ++ s.data.toList)))
    (hg : W.grownBy w1 r.v.ownBlock) (hb : v'.ownBlock = r.v.ownBlock ∨ v'.ownBlock = some W.heap.size) (U : Nat) (u : Int) (hu : u = U) :
    (∃ a c, w1.cell? ⟨r.b, 0, none⟩ = some (.slice a r.t.bytes.length c)) ∧ w1.frozen? ⟨r.b, 0, none⟩ = false ∧ w1.cell? ⟨p, 1, none⟩ = some (.int .i64 S.used) ∧ w1.frozen? ⟨p, 1, none⟩ = false ∧ p ≠ r.b ∧
    DMem ((w1.setCell ⟨r.b, 0, none⟩ v').setCell ⟨p, 1, none⟩ (.int .i64 u)) p m ks vs (R.set i ⟨r.b, v', { r.t with bytes := r.t.bytes ++ s.data.toList }⟩) { S with ts := S.ts.set i { r.t with bytes := r.t.bytes ++ s.data.toList }, used := U } ∧
    Only (fun k => TF r k ∨ k = p) W ((w1.setCell ⟨r.b, 0, none⟩ v').setCell ⟨p, 1, none⟩ (.int .i64 u)) := by
  have hm : r ∈ R := by obtain ⟨_, rfl⟩ := List.getElem?_eq_some_iff.1 hi; exact List.getElem_mem _
  have ht := h.tapes.1 r hm
  have B1 : Blk w1 r.b 63 #[r.v, .int .i64 r.t.safe] := ht.1.grown hg (fun e => ht.v_ne_b ht e.symm)
  have hpr : p ≠ r.b := fun e => h.p_tape hm (.inl e)
  have P1 : Blk w1 p _ _ := Blk.grown h.blk hg (fun e => h.p_tape hm (.inr e.symm))
  obtain ⟨a, c, hv, hc⟩ := own_slice ht.2
  have O1 : Only (TF r) W w1 := (Only.refl (TF r) W).grown hg (fun k hk => .inl (.inr hk))
  have O2 : Only (TF r) W (w1.setCell ⟨r.b, 0, none⟩ v') := O1.setCell (p := ⟨r.b, 0, none⟩) (.inl (.inl rfl)) _
  have Or : Only (· = r.b) w1 (w1.setCell ⟨r.b, 0, none⟩ v') := (Only.refl (· = r.b) w1).setCell (p := ⟨r.b, 0, none⟩) (.inl rfl) _
  have hT : TapeIs (w1.setCell ⟨r.b, 0, none⟩ v') ⟨r.b, v', { r.t with bytes := r.t.bytes ++ s.data.toList }⟩ := by
    refine ⟨by simpa using B1.set 0 v', own_only hown Or (fun k hk e => ?_)⟩
    subst e
    rcases hb with hb | hb
    · rw [hb] at hk; exact ht.v_ne_b ht hk
    · rw [hb] at hk; injection hk with hk; have := ht.1.lt; omega
  have h2 := h.tape hi O2 (r' := ⟨r.b, v', { r.t with bytes := r.t.bytes ++ s.data.toList }⟩) hT rfl (hb.imp id (fun e => ⟨_, Nat.le_refl _, e⟩))
  obtain ⟨h3, O3⟩ := h2.used U u hu
  refine ⟨⟨a, c, by have := B1.cell 0; rw [hv] at this; exact this.trans rfl⟩, B1.frozen 0, (P1.cell 1).trans rfl, P1.frozen 1, hpr, h3, (O2.mono (fun i e => .inl e)).then (O3.mono (fun i e => .inr e))⟩
theorem putR_get {w : World} {p m : Nat} {ks vs : Value} {R : List RM} {S : St} {x : ByteArray} {r : RM} (h : DMem w p m ks vs R S) (hx : hasN S.l x = false) : (putR S.l R x r)[posOf S.l x]? = some r := by
  unfold putR
  rw [if_neg (by simp [hx])]
  have := posOf_le S.l x
  have hl := h.len
  rw [List.getElem?_append_right (by rw [List.length_take]; omega), List.length_take, Nat.min_eq_left (by omega)]
  simp
theorem put_put {S : St} {x : ByteArray} (h : S.Ok) (hx : hasN S.l x = false) (t u : Spool) : { putT S x t with ts := (putT S x t).ts.set (posOf S.l x) u } = putT S x u := by
  have := posOf_le S.l x
  have hl := h.len
  have key : (S.ts.take (posOf S.l x) ++ t :: S.ts.drop (posOf S.l x)).set (posOf S.l x) u = S.ts.take (posOf S.l x) ++ u :: S.ts.drop (posOf S.l x) := by
    rw [List.set_append_right _ _ (by rw [List.length_take]; omega), List.length_take, Nat.min_eq_left (by omega)]
    simp
  rw [putT_no hx, putT_no hx]
  exact congrArg (fun q => ({ S with l := S.l.take (posOf S.l x) ++ x :: S.l.drop (posOf S.l x), ts := q } : St)) key

set_option maxHeartbeats 8000000 in
theorem append_any (p : Nat) (F : Nat → Prop) (S : St) (x s : ByteArray) (w : World) (n : Nat) (h : DiskAt w p F S) (hf : S.Fits n) (hn : n < big) (hxs : x.size ≤ 9223372036854775807) (hss : s.size ≤ 140737488355328) :
    Calls Try.prog 10 #[.pointer (some ⟨p, 0, none⟩), .string x, .string s] w fun e w' => e = .returned (.int .i64 (appendS S x s).2) ∧ DiskAt w' p (grow F w w') (appendS S x s).1 ∧ Only F w w' := by
  have HSAME := hid h.same
  have HSAMED : Hid (DiskAt w.drew p (grow F w w.drew) S ∧ Only F w w.drew) := by
    obtain ⟨hF, hok, m, ks, vs, R, h, hDF⟩ := h
    exact ⟨DiskAt.mk' hF (Only.refl F w).drew hok h.drew (fun k hk => .inl (hDF k hk)), (Only.refl F w).drew⟩
  obtain ⟨hF, hok, m, ks, vs, R, h, hDF⟩ := h
  have hmost := hok.most
  have hroom := hok.room
  cases hd : S.down
  · have CN := isName_any x w hxs
    have hfew := hok.few
    cases hnm : isName x
    · have e : appendS S x s = (S, 1) := by unfold appendS; rw [if_neg (by simp [hd]), if_pos hnm]
      rw [e]
      rw [hnm] at CN
      have N := hid CN
      cases hx : hasN S.l x
      · have C := hid (rfind_no p m ks vs R S x w h hd hx)
        clear h hd hx e hok hDF hf CN hnm hfew HSAMED
        go_enter Try.func10, Try.ntmps10
        go_wp2_with (first
          | (go_at_call 37; refine C.out.mono ?_; rintro e w' ⟨rfl, rfl⟩)
          | (go_at_call 38; refine N.out.mono ?_; rintro e w' ⟨rfl, rfl⟩))
        go_ret
        exact ⟨rfl, HSAME.out⟩
      · obtain ⟨r, h1, h2, h3, h4⟩ := h.yes hx
        have C := hid (rfind_yes p m ks vs R S x r w h hd hx h4)
        clear h hd hx e hok hDF hf CN hnm hfew h1 h2 h3 h4 HSAMED
        go_enter Try.func10, Try.ntmps10
        go_wp2_with (first
          | (go_at_call 37; refine C.out.mono ?_; rintro e w' ⟨rfl, rfl⟩)
          | (go_at_call 38; refine N.out.mono ?_; rintro e w' ⟨rfl, rfl⟩))
        go_ret
        exact ⟨rfl, HSAME.out⟩
    · rw [hnm] at CN
      have N := hid CN
      clear CN
      obtain ⟨c0, c1, c2, -, -, -, -⟩ := h.blk.cells
      by_cases hrm : S.room < S.used + s.size
      · have e : appendS S x s = (S, 11) := by unfold appendS; rw [if_neg (by simp [hd]), if_neg (by simp [hnm]), if_pos hrm]
        rw [e]
        have g1 : (S.room : Int) < (S.used : Int) + s.size := by omega
        cases hx : hasN S.l x
        · have C := hid (rfind_no p m ks vs R S x w h hd hx)
          clear h hd hx e hok hDF hf hnm hfew hrm c0 HSAME
          go_enter Try.func10, Try.ntmps10
          go_wp2_with (first
            | (go_at_call 37; refine C.out.mono ?_; rintro e w' ⟨rfl, rfl⟩)
            | (go_at_call 38; refine N.out.mono ?_; rintro e w' ⟨rfl, rfl⟩))
          go_region
          go_wp2_with fail
          go_ret
          exact ⟨rfl, HSAMED.out⟩
        · obtain ⟨r, h1, h2, h3, h4⟩ := h.yes hx
          have C := hid (rfind_yes p m ks vs R S x r w h hd hx h4)
          clear h hd hx e hok hDF hf hnm hfew hrm c0 h1 h2 h3 h4 HSAME
          go_enter Try.func10, Try.ntmps10
          go_wp2_with (first
            | (go_at_call 37; refine C.out.mono ?_; rintro e w' ⟨rfl, rfl⟩)
            | (go_at_call 38; refine N.out.mono ?_; rintro e w' ⟨rfl, rfl⟩))
          go_region
          go_wp2_with fail
          go_ret
          exact ⟨rfl, HSAMED.out⟩
      · have g1 : (S.used : Int) + s.size ≤ S.room := by omega
        have hsz : s.size ≤ 67108864 := by omega
        cases hx : hasN S.l x
        · have C := hid (rfind_no p m ks vs R S x w h hd hx)
          have CL : Hid (Calls Try.prog 39 #[.pointer (some ⟨m, 0, none⟩)] w.drew fun e w' => e = .returned (.int .i64 S.l.length) ∧ w.drew = w') := lenPtr m ks vs S.l (R.map tp) w.drew h.drew.map
          by_cases hbg : 4194304 < s.size
          · have e : appendS S x s = (S, 11) := by unfold appendS; rw [if_neg (by simp [hd]), if_neg (by simp [hnm]), if_neg hrm, at_no hx]; exact if_pos (.inl hbg)
            rw [e]
            have g2 : (4194304 : Int) < s.size := by omega
            clear h hd hx e hok hDF hf hnm hrm HSAME
            go_enter Try.func10, Try.ntmps10
            go_wp2_with (first
              | (go_at_call 37; refine C.out.mono ?_; rintro e w' ⟨rfl, rfl⟩)
              | (go_at_call 38; refine N.out.mono ?_; rintro e w' ⟨rfl, rfl⟩))
            go_region
            go_wp2_with fail
            go_ret
            exact ⟨rfl, HSAMED.out⟩
          · have g2 : (s.size : Int) ≤ 4194304 := by omega
            by_cases h64 : 64 ≤ S.l.length
            · have e : appendS S x s = (S, 11) := by unfold appendS; rw [if_neg (by simp [hd]), if_neg (by simp [hnm]), if_neg hrm, at_no hx]; exact if_pos (.inr h64)
              rw [e]
              have g3 : (64 : Int) ≤ S.l.length := by omega
              clear h hd hx e hok hDF hf hnm hrm HSAME
              go_enter Try.func10, Try.ntmps10
              go_wp2_with (first
                | (go_at_call 37; refine C.out.mono ?_; rintro e w' ⟨rfl, rfl⟩)
                | (go_at_call 38; refine N.out.mono ?_; rintro e w' ⟨rfl, rfl⟩))
              go_region
              go_wp2_with (go_at_call 39; refine CL.out.mono ?_; rintro e w' ⟨rfl, rfl⟩)
              go_ret
              exact ⟨rfl, HSAMED.out⟩
            · have e : appendS S x s = actS { putT S x ⟨s.data.toList, 0⟩ with used := S.used + s.size } := by
                unfold appendS; rw [if_neg (by simp [hd]), if_neg (by simp [hnm]), if_neg hrm, at_no hx]; exact if_neg (by omega)
              rw [e]
              have g3 : ¬ (64 : Int) ≤ S.l.length := by omega
              have hsl : s.data.toList.length = s.size := Array.length_toList
              have hok2 : St.Ok { putT S x ⟨s.data.toList, 0⟩ with used := S.used + s.size } := St.Ok.ins hok hx hnm (by omega) (t' := ⟨s.data.toList, 0⟩) (by show s.data.toList.length ≤ _; rw [hsl]; omega) (Nat.zero_le _) _ (by show _ = S.used + s.data.toList.length; rw [hsl]) (by omega)
              -- the new tape
              have hda : DMem ((w.alloc (.cells #[.slice none 0 0, .int .i64 0] 63)).drew) p m ks vs R S := h.only ((Only.refl NoF w).alloc _).drew (fun _ _ e => e)
              have htn : TapeIs ((w.alloc (.cells #[.slice none 0 0, .int .i64 0] 63)).drew) ⟨w.heap.size, .slice none 0 0, ⟨[], 0⟩⟩ := ⟨Blk.new w _ _, World.ownsRow_nil _ _ _ _⟩
              have hap : ∀ y ∈ R, Apart ⟨w.heap.size, .slice none 0 0, ⟨[], 0⟩⟩ y := fun y hy => by
                refine ⟨fun e => ?_, fun k hk => by cases hk⟩
                have := (h.tapes.1 y hy).lt y.b (.inl rfl)
                have e' : w.heap.size = y.b := e
                omega
              have CP := putPtr_any m ks vs S.l (R.map tp) x (tp ⟨w.heap.size, .slice none 0 0, ⟨[], 0⟩⟩) _ hda.map (by omega)
              have HP : Hid (Calls Try.prog 40 #[.pointer (some ⟨m, 0, none⟩), .string x, .pointer (some ⟨w.heap.size, 0, none⟩)] ((w.alloc (.cells #[.slice none 0 0, .int .i64 0] 63)).drew) fun e w2 => (∃ b, e = .returned (.bool b)) ∧ w2.cell? ⟨w.heap.size, 0, none⟩ = some (.slice none 0 0) ∧
                  (∀ v' w3, w3.ownsRow 0 5 1 v' ([] ++ s.data.toList).length (bvals ([] ++ s.data.toList)) → w2.grownBy w3 none → (v'.ownBlock = none ∨ v'.ownBlock = some w2.heap.size) →
                    (∃ a c, w3.cell? ⟨w.heap.size, 0, none⟩ = some (.slice a 0 c)) ∧ w3.frozen? ⟨w.heap.size, 0, none⟩ = false ∧ w3.cell? ⟨p, 1, none⟩ = some (.int .i64 S.used) ∧ w3.frozen? ⟨p, 1, none⟩ = false ∧ p ≠ w.heap.size ∧
                    Calls Try.prog 41 #[.pointer (some ⟨p, 0, none⟩)] ((w3.setCell ⟨w.heap.size, 0, none⟩ v').setCell ⟨p, 1, none⟩ (.int .i64 ((S.used : Int) + s.size))) fun e w5 => e = .returned (.int .i64 (actS { putT S x ⟨s.data.toList, 0⟩ with used := S.used + s.size }).2) ∧ DiskAt w5 p (grow F w w5) (actS { putT S x ⟨s.data.toList, 0⟩ with used := S.used + s.size }).1 ∧ Only F w w5)) := by
                refine CP.mono ?_
                rintro e w2 ⟨rfl, ks', vs', hm2, o2, f2⟩
                have hm3 : DMem w2 p m ks' vs' (putR S.l R x ⟨w.heap.size, .slice none 0 0, ⟨[], 0⟩⟩) (putT S x ⟨[], 0⟩) := hda.put htn hap hm2 o2
                have hget := putR_get (r := ⟨w.heap.size, .slice none 0 0, ⟨[], 0⟩⟩) hda hx
                have ht2 := hm3.tapes.1 _ (List.mem_of_getElem? hget)
                refine ⟨⟨_, rfl⟩, (ht2.1.cell 0).trans rfl, fun v' w3 hown hg hb => ?_⟩
                obtain ⟨q1, q2, q3, q4, q5, hm4, o4⟩ := app_step hm3 hget s hown hg hb (S.used + s.size) ((S.used : Int) + s.size) (by omega)
                refine ⟨q1, q2, q3, q4, q5, ?_⟩
                have hS : ({ putT S x ⟨[], 0⟩ with ts := (putT S x ⟨[], 0⟩).ts.set (posOf S.l x) ⟨[] ++ s.data.toList, 0⟩, used := S.used + s.size } : St) = { putT S x ⟨s.data.toList, 0⟩ with used := S.used + s.size } := by
                  have := put_put hok hx ⟨[], 0⟩ ⟨s.data.toList, 0⟩
                  rw [← this]; rfl
                have hm5 : DMem _ p m ks' vs' _ { putT S x ⟨s.data.toList, 0⟩ with used := S.used + s.size } := hS ▸ hm4
                refine (act_mem p m ks' vs' _ _ _ n hm5 hd hf hn).mono ?_
                rintro e w5 ⟨rfl, hm6, o6⟩
                have OF2 : Only F w w2 := ((Only.refl F w).alloc _).drew.trans o2 (fun i e => .inl (hDF _ (.inr (.inl e))))
                have OF4 : Only F w ((w3.setCell ⟨w.heap.size, 0, none⟩ v').setCell ⟨p, 1, none⟩ (.int .i64 ((S.used : Int) + s.size))) := OF2.trans o4 (fun i e => by
                  rcases e with (rfl | e) | rfl
                  · exact .inr (Nat.le_refl _)
                  · cases e
                  · exact .inl (hDF _ df_p))
                have OF5 : Only F w w5 := OF4.then (o6.mono (fun i e => by subst e; exact hDF _ df_p))
                refine ⟨rfl, DiskAt.mk' hF OF5 (act_ok hok2) hm6 (fun k hk => ?_), OF5⟩
                have hsz2 : w.heap.size ≤ w2.heap.size := OF2.size
                rcases df_set (B := w.heap.size) hget (r' := ⟨w.heap.size, v', ⟨[] ++ s.data.toList, 0⟩⟩) rfl (hb.imp id (fun e => ⟨_, hsz2, e⟩)) hk with hk | hk
                · rcases df_put (B := w.heap.size) (fun k hk => (f2 k hk).imp id (fun h => by simp at h; omega)) hk with hk | hk | hk
                  · exact .inl (hDF k hk)
                  · rcases hk with rfl | hk
                    · exact .inr (Nat.le_refl _)
                    · cases hk
                  · exact .inr hk
                · exact .inr hk
              have hpl : p < w.heap.size := Blk.lt h.blk
              have hpn : p ≠ w.heap.size := by omega
              clear h hd hx e hok hDF hf hnm hrm HSAME HSAMED hda htn hap CP hok2 hfew
              go_enter Try.func10, Try.ntmps10
              go_wp2_with (first
                | (go_at_call 37; refine C.out.mono ?_; rintro e w' ⟨rfl, rfl⟩)
                | (go_at_call 38; refine N.out.mono ?_; rintro e w' ⟨rfl, rfl⟩))
              go_region
              go_wp2_with fail
              refine CL.out.mono ?_; rintro e w' ⟨rfl, rfl⟩
              go_wp2_with fail
              refine HP.out.mono ?_; rintro e w2 ⟨⟨b, rfl⟩, d0, hrest⟩
              have HR := hid hrest; clear hrest
              go_wp2_with (refine wpList_append_str rfl (.tmp 86) (.tmp 87) rfl _ [] s rfl rfl (World.ownsRow_nil _ _ _ _) (by simp; omega) ?_; intro v' w3 hown hg hb; obtain ⟨⟨a, c, d1⟩, f0, q1, f1, hpr, hact⟩ := HR.out v' w3 hown hg hb; obtain ⟨va, vc, rfl, hvc⟩ := own_slice hown; have ACT := hid hact; clear hact hown hg hb)
              refine ACT.out.mono ?_; rintro e w5 ⟨rfl, hfin⟩
              have HF := hid hfin; clear hfin
              go_wp2_with fail
              go_ret
              exact ⟨rfl, HF.out⟩
        · obtain ⟨r, h1, h2, h3, h4⟩ := h.yes hx
          have C := hid (rfind_yes p m ks vs R S x r w h hd hx h4)
          have ht := h.tapes.1 r h2
          have hlen := (hok.each r.t (at_mem h3)).1
          have hsafe := (hok.each r.t (at_mem h3)).2
          obtain ⟨a0, c0', hv, hvc⟩ := own_slice ht.2
          have d0 := ht.1.cell 0
          simp [hv] at d0
          by_cases hbg : 4194304 < r.t.bytes.length + s.size
          · have e : appendS S x s = (S, 11) := by unfold appendS; rw [if_neg (by simp [hd]), if_neg (by simp [hnm]), if_neg hrm, h3]; exact if_pos hbg
            rw [e]
            obtain ⟨N0, hN⟩ : ∃ N0, r.t.bytes.length = N0 := ⟨_, rfl⟩
            rw [hN] at hbg hlen d0
            have g2 : (4194304 : Int) < (N0 : Int) + s.size := by omega
            clear h hd hx e hok hDF hf hnm hrm HSAME h1 h2 h3 h4 ht hv hN hsafe hvc
            go_enter Try.func10, Try.ntmps10
            go_wp2_with (first
              | (go_at_call 37; refine C.out.mono ?_; rintro e w' ⟨rfl, rfl⟩)
              | (go_at_call 38; refine N.out.mono ?_; rintro e w' ⟨rfl, rfl⟩))
            go_region
            go_wp2_with fail
            go_ret
            exact ⟨rfl, HSAMED.out⟩
          · have e : appendS S x s = actS { putT S x { r.t with bytes := r.t.bytes ++ s.data.toList } with used := S.used + s.size } := by
              unfold appendS; rw [if_neg (by simp [hd]), if_neg (by simp [hnm]), if_neg hrm, h3]; exact if_neg hbg
            rw [e]
            have hsl : s.data.toList.length = s.size := Array.length_toList
            have hok2 : St.Ok { putT S x { r.t with bytes := r.t.bytes ++ s.data.toList } with used := S.used + s.size } := St.Ok.put hok h3 (t' := { r.t with bytes := r.t.bytes ++ s.data.toList }) (by show (r.t.bytes ++ s.data.toList).length ≤ _; rw [List.length_append, hsl]; omega) (by show r.t.safe ≤ (r.t.bytes ++ s.data.toList).length; rw [List.length_append]; omega) _ (by show S.used + s.size + _ = S.used + (r.t.bytes ++ s.data.toList).length; rw [List.length_append, hsl]; omega) (by omega)
            have HR : Hid (∀ v' w3, w3.ownsRow 0 5 1 v' (r.t.bytes ++ s.data.toList).length (bvals (r.t.bytes ++ s.data.toList)) → w.drew.grownBy w3 r.v.ownBlock → (v'.ownBlock = r.v.ownBlock ∨ v'.ownBlock = some w.heap.size) →
                    (∃ a c, w3.cell? ⟨r.b, 0, none⟩ = some (.slice a r.t.bytes.length c)) ∧ w3.frozen? ⟨r.b, 0, none⟩ = false ∧ w3.cell? ⟨p, 1, none⟩ = some (.int .i64 S.used) ∧ w3.frozen? ⟨p, 1, none⟩ = false ∧ p ≠ r.b ∧
                    Calls Try.prog 41 #[.pointer (some ⟨p, 0, none⟩)] ((w3.setCell ⟨r.b, 0, none⟩ v').setCell ⟨p, 1, none⟩ (.int .i64 ((S.used : Int) + s.size))) fun e w5 => e = .returned (.int .i64 (actS { putT S x { r.t with bytes := r.t.bytes ++ s.data.toList } with used := S.used + s.size }).2) ∧ DiskAt w5 p (grow F w w5) (actS { putT S x { r.t with bytes := r.t.bytes ++ s.data.toList } with used := S.used + s.size }).1 ∧ Only F w w5) := by
              intro v' w3 hown hg hb
              obtain ⟨q1, q2, q3, q4, q5, hm4, o4⟩ := app_step h.drew h1 s hown hg hb (S.used + s.size) ((S.used : Int) + s.size) (by omega)
              refine ⟨q1, q2, q3, q4, q5, ?_⟩
              have hS : ({ S with ts := S.ts.set (posOf S.l x) { r.t with bytes := r.t.bytes ++ s.data.toList }, used := S.used + s.size } : St) = { putT S x { r.t with bytes := r.t.bytes ++ s.data.toList } with used := S.used + s.size } := by
                rw [putT_has hx]
              have hm5 : DMem _ p m ks vs _ { putT S x { r.t with bytes := r.t.bytes ++ s.data.toList } with used := S.used + s.size } := hS ▸ hm4
              refine (act_mem p m ks vs _ _ _ n hm5 hd hf hn).mono ?_
              rintro e w5 ⟨rfl, hm6, o6⟩
              have OF4 : Only F w ((w3.setCell ⟨r.b, 0, none⟩ v').setCell ⟨p, 1, none⟩ (.int .i64 ((S.used : Int) + s.size))) := (Only.refl F w).drew.then (o4.mono (fun i e => by
                rcases e with e | rfl
                · exact hDF _ (df_r h2 e)
                · exact hDF _ df_p))
              have OF5 : Only F w w5 := OF4.then (o6.mono (fun i e => by subst e; exact hDF _ df_p))
              exact ⟨rfl, DiskAt.mk' hF OF5 (act_ok hok2) hm6 (fun k hk => (df_set (B := w.heap.size) h1 (r' := ⟨r.b, v', { r.t with bytes := r.t.bytes ++ s.data.toList }⟩) rfl (hb.imp id (fun e => ⟨_, Nat.le_refl _, e⟩)) hk).imp (hDF k) id), OF5⟩
            have HOWN : Hid (w.drew.ownsRow 0 5 1 r.v r.t.bytes.length (bvals r.t.bytes)) := ht.2
            have hbd : r.t.bytes.length + s.size ≤ 4194304 := by omega
            rw [hv] at HR HOWN
            obtain ⟨L0, hL⟩ : ∃ L0, r.t.bytes = L0 := ⟨_, rfl⟩
            simp only [hL] at HR HOWN d0 hbd hlen ⊢
            have g2 : (L0.length : Int) + s.size ≤ 4194304 := by omega
            have HLEN : Hid ((L0 ++ s.data.toList).length = L0.length + s.size) := by unfold Hid; rw [List.length_append, hsl]
            clear h hd hx e hok hDF hf hnm hrm HSAME HSAMED h1 h2 h3 h4 ht hv hL hok2 hsafe hfew hbg hvc
            go_enter Try.func10, Try.ntmps10
            go_wp2_with (first
              | (go_at_call 37; refine C.out.mono ?_; rintro e w' ⟨rfl, rfl⟩)
              | (go_at_call 38; refine N.out.mono ?_; rintro e w' ⟨rfl, rfl⟩))
            go_region
            go_wp2_with (refine wpList_append_str rfl (.tmp 86) (.tmp 87) rfl _ L0 s rfl rfl HOWN.out (by omega) ?_; intro v' w3 hown hg hb; obtain ⟨⟨a, c, d1⟩, f0, q1, f1, hpr, hact⟩ := HR.out v' w3 hown hg hb; obtain ⟨va, vc, rfl, hvc⟩ := own_slice hown; rw [HLEN.out] at hact; have ACT := hid hact; clear hact hown hg hb)
            refine ACT.out.mono ?_; rintro e w5 ⟨rfl, hfin⟩
            have HF := hid hfin; clear hfin
            go_wp2_with fail
            go_ret
            exact ⟨rfl, HF.out⟩
  · have e : appendS S x s = (S, 10) := by unfold appendS; rw [if_pos hd]
    rw [e]
    have C := hid (rfind_down p m ks vs R S x w h hd)
    clear h hd e hok hDF hf
    go_enter Try.func10, Try.ntmps10
    go_wp2_with (go_at_call 37; refine C.out.mono ?_; rintro e w' ⟨rfl, rfl⟩)
    go_ret
    exact ⟨rfl, HSAME.out⟩
end Go.Proofs.Ythjomknhbfplnaa
