/- Texts in a row: ReelG, ReelH, ReelOn, Round, AllPtr, ReelI, ReelM. -/
import Derived.Test.YtnhgfhbicaiilaaMgSpoC
import Derived.Deep.Quiet
import Derived.StillTail
import Derived.OrdersIn
import Derived.OwnWalkIn
import Derived.RangeFuncCalls
import Derived.ControlIn
import Derived.RangeFuncNested
import Derived.RangeFuncBound
import Derived.RangeFuncLeaves
import Derived.Shelf.Abstract
import Derived.Shelf.RegionOpen
import Derived.TacticsInMore
import Derived.LoopNIn
import Derived.LoopIn
import Derived.Deep.AppendLies
/- The reel: Append, New. -/
namespace Go.Proofs.Ytnhgfhbicaiilaa
open Go.RowKit Reel
set_option linter.unusedVariables false

/-- bytes are wound on a tape -/
theorem app_step {W w1 : World} {p m : Nat} {ks vs v' : Value} {R : List RM} {S : St} {i : Nat} {r : RM} (h : DMem W p m ks vs R S) (hi : R[i]? = some r) (s : ByteArray) (hown : w1.ownsRow 0 5 1 v' (r.t.bytes ++ s.data.toList).length (bvals (r.t.bytes ++ s.data.toList)))
    (hg : W.grownBy w1 r.v.ownBlock) (hb : v'.ownBlock = r.v.ownBlock ∨ v'.ownBlock = some W.heap.size) (U : Nat) (u : Int) (hu : u = U) :
    (∃ a c, w1.cell? ⟨r.b, 0, none⟩ = some (.slice a r.t.bytes.length c)) ∧ w1.frozen? ⟨r.b, 0, none⟩ = false ∧ w1.cell? ⟨p, 1, none⟩ = some (.int .i64 S.used) ∧ w1.frozen? ⟨p, 1, none⟩ = false ∧ p ≠ r.b ∧
    DMem ((w1.setCell ⟨r.b, 0, none⟩ v').setCell ⟨p, 1, none⟩ (.int .i64 u)) p m ks vs (R.set i ⟨r.b, v', { r.t with bytes := r.t.bytes ++ s.data.toList }⟩) { S with ts := S.ts.set i { r.t with bytes := r.t.bytes ++ s.data.toList }, used := U } ∧
    Only (fun k => TF r k ∨ k = p) W ((w1.setCell ⟨r.b, 0, none⟩ v').setCell ⟨p, 1, none⟩ (.int .i64 u)) := by
  have hm : r ∈ R := by obtain ⟨_, rfl⟩ := List.getElem?_eq_some_iff.1 hi; exact List.getElem_mem _
  have ht := h.tapes.1 r hm
  have B1 : Blk w1 r.b 71 #[r.v, .int .i64 r.t.safe] := ht.1.grown hg (fun e => ht.v_ne_b ht e.symm)
  have hpr : p ≠ r.b := fun e => h.p_tape hm (.inl e)
  have P1 : Blk w1 p _ _ := Blk.grown h.blk hg (fun e => h.p_tape hm (.inr e.symm))
  obtain ⟨a, c, hv, hc⟩ := own_slice ht.2
  have O1 : Only (TF r) W w1 := (Only.refl (TF r) W).grown hg (fun k hk => .inl (.inr hk))
  have O2 : Only (TF r) W (w1.setCell ⟨r.b, 0, none⟩ v') := O1.setCell (p := ⟨r.b, 0, none⟩) (.inl (.inl rfl)) _
  have Or : Only (· = r.b) w1 (w1.setCell ⟨r.b, 0, none⟩ v') := (Only.refl (· = r.b) w1).setCell (p := ⟨r.b, 0, none⟩) (.inl rfl) _
  have hT : TapeIs (w1.setCell ⟨r.b, 0, none⟩ v') ⟨r.b, v', { r.t with bytes := r.t.bytes ++ s.data.toList }⟩ := by
    refine ⟨by simpa using B1.set 0 v', own_only hown Or (fun k hk e => ?_)⟩
    subst e
    rcases hb with hb | hb
    · rw [hb] at hk; exact ht.v_ne_b ht hk
    · rw [hb] at hk; injection hk with hk; have := ht.1.lt; omega
  have h2 := h.tape hi O2 (r' := ⟨r.b, v', { r.t with bytes := r.t.bytes ++ s.data.toList }⟩) hT rfl (hb.imp id (fun e => ⟨_, Nat.le_refl _, e⟩))
  obtain ⟨h3, O3⟩ := h2.used U u hu
  refine ⟨⟨a, c, by have := B1.cell 0; rw [hv] at this; exact this.trans rfl⟩, B1.frozen 0, (P1.cell 1).trans rfl, P1.frozen 1, hpr, h3, (O2.mono (fun i e => .inl e)).then (O3.mono (fun i e => .inr e))⟩
theorem putR_get {w : World} {p m : Nat} {ks vs : Value} {R : List RM} {S : St} {x : ByteArray} {r : RM} (h : DMem w p m ks vs R S) (hx : hasN S.l x = false) : (putR S.l R x r)[posOf S.l x]? = some r := by
  unfold putR
  rw [if_neg (by simp [hx])]
  have := posOf_le S.l x
  have hl := h.len
  rw [List.getElem?_append_right (by rw [List.length_take]; omega), List.length_take, Nat.min_eq_left (by omega)]
  simp
theorem put_put {S : St} {x : ByteArray} (h : S.Ok) (hx : hasN S.l x = false) (t u : Spool) : { putT S x t with ts := (putT S x t).ts.set (posOf S.l x) u } = putT S x u := by
  have := posOf_le S.l x
  have hl := h.len
  have key : (S.ts.take (posOf S.l x) ++ t :: S.ts.drop (posOf S.l x)).set (posOf S.l x) u = S.ts.take (posOf S.l x) ++ u :: S.ts.drop (posOf S.l x) := by
    rw [List.set_append_right _ _ (by rw [List.length_take]; omega), List.length_take, Nat.min_eq_left (by omega)]
    simp
  rw [putT_no hx, putT_no hx]
  exact congrArg (fun q => ({ S with l := S.l.take (posOf S.l x) ++ x :: S.l.drop (posOf S.l x), ts := q } : St)) key

set_option maxHeartbeats 8000000 in
theorem append_any (p : Nat) (F : Nat → Prop) (S : St) (x s : ByteArray) (w : World) (n : Nat) (h : DiskAt w p F S) (hf : S.Fits n) (hn : n < big) (hxs : x.size ≤ 9223372036854775807) (hss : s.size ≤ 140737488355328) :
    Calls Try.prog 15 #[.pointer (some ⟨p, 0, none⟩), .string x, .string s] w fun e w' => e = .returned (.int .i64 (appendS S x s).2) ∧ DiskAt w' p (grow F w w') (appendS S x s).1 ∧ Only F w w' := by
  have HSAME := hid h.same
  have HSAMED : Hid (DiskAt w.drew p (grow F w w.drew) S ∧ Only F w w.drew) := by
    obtain ⟨hF, hok, m, ks, vs, R, h, hDF⟩ := h
    exact ⟨DiskAt.mk' hF (Only.refl F w).drew hok h.drew (fun k hk => .inl (hDF k hk)), (Only.refl F w).drew⟩
  obtain ⟨hF, hok, m, ks, vs, R, h, hDF⟩ := h
  have hmost := hok.most
  have hroom := hok.room
  cases hd : S.down
  · have CN := isName_any x w hxs
    have hfew := hok.few
    cases hnm : isName x
    · have e : appendS S x s = (S, 1) := by unfold appendS; rw [if_neg (by simp [hd]), if_pos hnm]
      rw [e]
      rw [hnm] at CN
      have N := hid CN
      cases hx : hasN S.l x
      · have C := hid (rfind_no p m ks vs R S x w h hd hx)
        clear h hd hx e hok hDF hf CN hnm hfew HSAMED
        go_enter Try.func15, Try.ntmps15
        go_wp2_with (first
          | (go_at_call 37; refine C.out.mono ?_; rintro e w' ⟨rfl, rfl⟩)
          | (go_at_call 38; refine N.out.mono ?_; rintro e w' ⟨rfl, rfl⟩))
        go_ret
        exact ⟨rfl, HSAME.out⟩
      · obtain ⟨r, h1, h2, h3, h4⟩ := h.yes hx
        have C := hid (rfind_yes p m ks vs R S x r w h hd hx h4)
        clear h hd hx e hok hDF hf CN hnm hfew h1 h2 h3 h4 HSAMED
        go_enter Try.func15, Try.ntmps15
        go_wp2_with (first
          | (go_at_call 37; refine C.out.mono ?_; rintro e w' ⟨rfl, rfl⟩)
          | (go_at_call 38; refine N.out.mono ?_; rintro e w' ⟨rfl, rfl⟩))
        go_ret
        exact ⟨rfl, HSAME.out⟩
    · rw [hnm] at CN
      have N := hid CN
      clear CN
      obtain ⟨c0, c1, c2, -, -, -, -⟩ := h.blk.cells
      by_cases hrm : S.room < S.used + s.size
      · have e : appendS S x s = (S, 11) := by unfold appendS; rw [if_neg (by simp [hd]), if_neg (by simp [hnm]), if_pos hrm]
        rw [e]
        have g1 : (S.room : Int) < (S.used : Int) + s.size := by omega
        cases hx : hasN S.l x
        · have C := hid (rfind_no p m ks vs R S x w h hd hx)
          clear h hd hx e hok hDF hf hnm hfew hrm c0 HSAME
          go_enter Try.func15, Try.ntmps15
          go_wp2_with (first
            | (go_at_call 37; refine C.out.mono ?_; rintro e w' ⟨rfl, rfl⟩)
            | (go_at_call 38; refine N.out.mono ?_; rintro e w' ⟨rfl, rfl⟩))
          go_region
          go_wp2_with fail
          go_ret
          exact ⟨rfl, HSAMED.out⟩
        · obtain ⟨r, h1, h2, h3, h4⟩ := h.yes hx
          have C := hid (rfind_yes p m ks vs R S x r w h hd hx h4)
          clear h hd hx e hok hDF hf hnm hfew hrm c0 h1 h2 h3 h4 HSAME
          go_enter Try.func15, Try.ntmps15
          go_wp2_with (first
            | (go_at_call 37; refine C.out.mono ?_; rintro e w' ⟨rfl, rfl⟩)
            | (go_at_call 38; refine N.out.mono ?_; rintro e w' ⟨rfl, rfl⟩))
          go_region
          go_wp2_with fail
          go_ret
          exact ⟨rfl, HSAMED.out⟩
      · have g1 : (S.used : Int) + s.size ≤ S.room := by omega
        have hsz : s.size ≤ 67108864 := by omega
        cases hx : hasN S.l x
        · have C := hid (rfind_no p m ks vs R S x w h hd hx)
          have CL : Hid (Calls Try.prog 39 #[.pointer (some ⟨m, 0, none⟩)] w.drew fun e w' => e = .returned (.int .i64 S.l.length) ∧ w.drew = w') := lenPtr m ks vs S.l (R.map tp) w.drew h.drew.map
          by_cases hbg : 4194304 < s.size
          · have e : appendS S x s = (S, 11) := by unfold appendS; rw [if_neg (by simp [hd]), if_neg (by simp [hnm]), if_neg hrm, at_no hx]; exact if_pos (.inl hbg)
            rw [e]
            have g2 : (4194304 : Int) < s.size := by omega
            clear h hd hx e hok hDF hf hnm hrm HSAME
            go_enter Try.func15, Try.ntmps15
            go_wp2_with (first
              | (go_at_call 37; refine C.out.mono ?_; rintro e w' ⟨rfl, rfl⟩)
              | (go_at_call 38; refine N.out.mono ?_; rintro e w' ⟨rfl, rfl⟩))
            go_region
            go_wp2_with fail
            go_ret
            exact ⟨rfl, HSAMED.out⟩
          · have g2 : (s.size : Int) ≤ 4194304 := by omega
            by_cases h64 : 64 ≤ S.l.length
            · have e : appendS S x s = (S, 11) := by unfold appendS; rw [if_neg (by simp [hd]), if_neg (by simp [hnm]), if_neg hrm, at_no hx]; exact if_pos (.inr h64)
              rw [e]
              have g3 : (64 : Int) ≤ S.l.length := by omega
              clear h hd hx e hok hDF hf hnm hrm HSAME
              go_enter Try.func15, Try.ntmps15
              go_wp2_with (first
                | (go_at_call 37; refine C.out.mono ?_; rintro e w' ⟨rfl, rfl⟩)
                | (go_at_call 38; refine N.out.mono ?_; rintro e w' ⟨rfl, rfl⟩))
              go_region
              go_wp2_with (go_at_call 39; refine CL.out.mono ?_; rintro e w' ⟨rfl, rfl⟩)
              go_ret
              exact ⟨rfl, HSAMED.out⟩
            · have e : appendS S x s = actS { putT S x ⟨s.data.toList, 0⟩ with used := S.used + s.size } := by
                unfold appendS; rw [if_neg (by simp [hd]), if_neg (by simp [hnm]), if_neg hrm, at_no hx]; exact if_neg (by omega)
              rw [e]
              have g3 : ¬ (64 : Int) ≤ S.l.length := by omega
              have hsl : s.data.toList.length = s.size := Array.length_toList
              have hok2 : St.Ok { putT S x ⟨s.data.toList, 0⟩ with used := S.used + s.size } := St.Ok.ins hok hx hnm (by omega) (t' := ⟨s.data.toList, 0⟩) (by show s.data.toList.length ≤ _; rw [hsl]; omega) (Nat.zero_le _) _ (by show _ = S.used + s.data.toList.length; rw [hsl]) (by omega)
              -- the new tape
              have hda : DMem ((w.alloc (.cells #[.slice none 0 0, .int .i64 0] 71)).drew) p m ks vs R S := h.only ((Only.refl NoF w).alloc _).drew (fun _ _ e => e)
              have htn : TapeIs ((w.alloc (.cells #[.slice none 0 0, .int .i64 0] 71)).drew) ⟨w.heap.size, .slice none 0 0, ⟨[], 0⟩⟩ := ⟨Blk.new w _ _, World.ownsRow_nil _ _ _ _⟩
              have hap : ∀ y ∈ R, Apart ⟨w.heap.size, .slice none 0 0, ⟨[], 0⟩⟩ y := fun y hy => by
                refine ⟨fun e => ?_, fun k hk => by cases hk⟩
                have := (h.tapes.1 y hy).lt y.b (.inl rfl)
                have e' : w.heap.size = y.b := e
                omega
              have CP := putPtr_any m ks vs S.l (R.map tp) x (tp ⟨w.heap.size, .slice none 0 0, ⟨[], 0⟩⟩) _ hda.map (by omega)
              have HP : Hid (Calls Try.prog 40 #[.pointer (some ⟨m, 0, none⟩), .string x, .pointer (some ⟨w.heap.size, 0, none⟩)] ((w.alloc (.cells #[.slice none 0 0, .int .i64 0] 71)).drew) fun e w2 => (∃ b, e = .returned (.bool b)) ∧ w2.cell? ⟨w.heap.size, 0, none⟩ = some (.slice none 0 0) ∧
                  (∀ v' w3, w3.ownsRow 0 5 1 v' ([] ++ s.data.toList).length (bvals ([] ++ s.data.toList)) → w2.grownBy w3 none → (v'.ownBlock = none ∨ v'.ownBlock = some w2.heap.size) →
                    (∃ a c, w3.cell? ⟨w.heap.size, 0, none⟩ = some (.slice a 0 c)) ∧ w3.frozen? ⟨w.heap.size, 0, none⟩ = false ∧ w3.cell? ⟨p, 1, none⟩ = some (.int .i64 S.used) ∧ w3.frozen? ⟨p, 1, none⟩ = false ∧ p ≠ w.heap.size ∧
                    Calls Try.prog 41 #[.pointer (some ⟨p, 0, none⟩)] ((w3.setCell ⟨w.heap.size, 0, none⟩ v').setCell ⟨p, 1, none⟩ (.int .i64 ((S.used : Int) + s.size))) fun e w5 => e = .returned (.int .i64 (actS { putT S x ⟨s.data.toList, 0⟩ with used := S.used + s.size }).2) ∧ DiskAt w5 p (grow F w w5) (actS { putT S x ⟨s.data.toList, 0⟩ with used := S.used + s.size }).1 ∧ Only F w w5)) := by
                refine CP.mono ?_
                rintro e w2 ⟨rfl, ks', vs', hm2, o2, f2⟩
                have hm3 : DMem w2 p m ks' vs' (putR S.l R x ⟨w.heap.size, .slice none 0 0, ⟨[], 0⟩⟩) (putT S x ⟨[], 0⟩) := hda.put htn hap hm2 o2
                have hget := putR_get (r := ⟨w.heap.size, .slice none 0 0, ⟨[], 0⟩⟩) hda hx
                have ht2 := hm3.tapes.1 _ (List.mem_of_getElem? hget)
                refine ⟨⟨_, rfl⟩, (ht2.1.cell 0).trans rfl, fun v' w3 hown hg hb => ?_⟩
                obtain ⟨q1, q2, q3, q4, q5, hm4, o4⟩ := app_step hm3 hget s hown hg hb (S.used + s.size) ((S.used : Int) + s.size) (by omega)
                refine ⟨q1, q2, q3, q4, q5, ?_⟩
                have hS : ({ putT S x ⟨[], 0⟩ with ts := (putT S x ⟨[], 0⟩).ts.set (posOf S.l x) ⟨[] ++ s.data.toList, 0⟩, used := S.used + s.size } : St) = { putT S x ⟨s.data.toList, 0⟩ with used := S.used + s.size } := by
                  have := put_put hok hx ⟨[], 0⟩ ⟨s.data.toList, 0⟩
                  rw [← this]; rfl
                have hm5 : DMem _ p m ks' vs' _ { putT S x ⟨s.data.toList, 0⟩ with used := S.used + s.size } := hS ▸ hm4
                refine (act_mem p m ks' vs' _ _ _ n hm5 hd hf hn).mono ?_
                rintro e w5 ⟨rfl, hm6, o6⟩
                have OF2 : Only F w w2 := ((Only.refl F w).alloc _).drew.trans o2 (fun i e => .inl (hDF _ (.inr (.inl e))))
                have OF4 : Only F w ((w3.setCell ⟨w.heap.size, 0, none⟩ v').setCell ⟨p, 1, none⟩ (.int .i64 ((S.used : Int) + s.size))) := OF2.trans o4 (fun i e => by
                  rcases e with (rfl | e) | rfl
                  · exact .inr (Nat.le_refl _)
                  · cases e
                  · exact .inl (hDF _ df_p))
                have OF5 : Only F w w5 := OF4.then (o6.mono (fun i e => by subst e; exact hDF _ df_p))
                refine ⟨rfl, DiskAt.mk' hF OF5 (act_ok hok2) hm6 (fun k hk => ?_), OF5⟩
                have hsz2 : w.heap.size ≤ w2.heap.size := OF2.size
                rcases df_set (B := w.heap.size) hget (r' := ⟨w.heap.size, v', ⟨[] ++ s.data.toList, 0⟩⟩) rfl (hb.imp id (fun e => ⟨_, hsz2, e⟩)) hk with hk | hk
                · rcases df_put (B := w.heap.size) (fun k hk => (f2 k hk).imp id (fun h => by simp at h; omega)) hk with hk | hk | hk
                  · exact .inl (hDF k hk)
                  · rcases hk with rfl | hk
                    · exact .inr (Nat.le_refl _)
                    · cases hk
                  · exact .inr hk
                · exact .inr hk
              have hpl : p < w.heap.size := Blk.lt h.blk
              have hpn : p ≠ w.heap.size := by omega
              clear h hd hx e hok hDF hf hnm hrm HSAME HSAMED hda htn hap CP hok2 hfew
              go_enter Try.func15, Try.ntmps15
              go_wp2_with (first
                | (go_at_call 37; refine C.out.mono ?_; rintro e w' ⟨rfl, rfl⟩)
                | (go_at_call 38; refine N.out.mono ?_; rintro e w' ⟨rfl, rfl⟩))
              go_region
              go_wp2_with fail
              refine CL.out.mono ?_; rintro e w' ⟨rfl, rfl⟩
              go_wp2_with fail
              refine HP.out.mono ?_; rintro e w2 ⟨⟨b, rfl⟩, d0, hrest⟩
              have HR := hid hrest; clear hrest
              go_wp2_with (refine wpList_append_str rfl (.tmp 86) (.tmp 87) rfl _ [] s rfl rfl (World.ownsRow_nil _ _ _ _) (by simp; omega) ?_; intro v' w3 hown hg hb; obtain ⟨⟨a, c, d1⟩, f0, q1, f1, hpr, hact⟩ := HR.out v' w3 hown hg hb; obtain ⟨va, vc, rfl, hvc⟩ := own_slice hown; have ACT := hid hact; clear hact hown hg hb)
              refine ACT.out.mono ?_; rintro e w5 ⟨rfl, hfin⟩
              have HF := hid hfin; clear hfin
              go_wp2_with fail
              go_ret
              exact ⟨rfl, HF.out⟩
        · obtain ⟨r, h1, h2, h3, h4⟩ := h.yes hx
          have C := hid (rfind_yes p m ks vs R S x r w h hd hx h4)
          have ht := h.tapes.1 r h2
          have hlen := (hok.each r.t (at_mem h3)).1
          have hsafe := (hok.each r.t (at_mem h3)).2
          obtain ⟨a0, c0', hv, hvc⟩ := own_slice ht.2
          have d0 := ht.1.cell 0
          simp [hv] at d0
          by_cases hbg : 4194304 < r.t.bytes.length + s.size
          · have e : appendS S x s = (S, 11) := by unfold appendS; rw [if_neg (by simp [hd]), if_neg (by simp [hnm]), if_neg hrm, h3]; exact if_pos hbg
            rw [e]
            obtain ⟨N0, hN⟩ : ∃ N0, r.t.bytes.length = N0 := ⟨_, rfl⟩
            rw [hN] at hbg hlen d0
            have g2 : (4194304 : Int) < (N0 : Int) + s.size := by omega
            clear h hd hx e hok hDF hf hnm hrm HSAME h1 h2 h3 h4 ht hv hN hsafe hvc
            go_enter Try.func15, Try.ntmps15
            go_wp2_with (first
              | (go_at_call 37; refine C.out.mono ?_; rintro e w' ⟨rfl, rfl⟩)
              | (go_at_call 38; refine N.out.mono ?_; rintro e w' ⟨rfl, rfl⟩))
            go_region
            go_wp2_with fail
            go_ret
            exact ⟨rfl, HSAMED.out⟩
          · have e : appendS S x s = actS { putT S x { r.t with bytes := r.t.bytes ++ s.data.toList } with used := S.used + s.size } := by
              unfold appendS; rw [if_neg (by simp [hd]), if_neg (by simp [hnm]), if_neg hrm, h3]; exact if_neg hbg
            rw [e]
            have hsl : s.data.toList.length = s.size := Array.length_toList
            have hok2 : St.Ok { putT S x { r.t with bytes := r.t.bytes ++ s.data.toList } with used := S.used + s.size } := St.Ok.put hok h3 (t' := { r.t with bytes := r.t.bytes ++ s.data.toList }) (by show (r.t.bytes ++ s.data.toList).length ≤ _; rw [List.length_append, hsl]; omega) (by show r.t.safe ≤ (r.t.bytes ++ s.data.toList).length; rw [List.length_append]; omega) _ (by show S.used + s.size + _ = S.used + (r.t.bytes ++ s.data.toList).length; rw [List.length_append, hsl]; omega) (by omega)
            have HR : Hid (∀ v' w3, w3.ownsRow 0 5 1 v' (r.t.bytes ++ s.data.toList).length (bvals (r.t.bytes ++ s.data.toList)) → w.drew.grownBy w3 r.v.ownBlock → (v'.ownBlock = r.v.ownBlock ∨ v'.ownBlock = some w.heap.size) →
                    (∃ a c, w3.cell? ⟨r.b, 0, none⟩ = some (.slice a r.t.bytes.length c)) ∧ w3.frozen? ⟨r.b, 0, none⟩ = false ∧ w3.cell? ⟨p, 1, none⟩ = some (.int .i64 S.used) ∧ w3.frozen? ⟨p, 1, none⟩ = false ∧ p ≠ r.b ∧
                    Calls Try.prog 41 #[.pointer (some ⟨p, 0, none⟩)] ((w3.setCell ⟨r.b, 0, none⟩ v').setCell ⟨p, 1, none⟩ (.int .i64 ((S.used : Int) + s.size))) fun e w5 => e = .returned (.int .i64 (actS { putT S x { r.t with bytes := r.t.bytes ++ s.data.toList } with used := S.used + s.size }).2) ∧ DiskAt w5 p (grow F w w5) (actS { putT S x { r.t with bytes := r.t.bytes ++ s.data.toList } with used := S.used + s.size }).1 ∧ Only F w w5) := by
              intro v' w3 hown hg hb
              obtain ⟨q1, q2, q3, q4, q5, hm4, o4⟩ := app_step h.drew h1 s hown hg hb (S.used + s.size) ((S.used : Int) + s.size) (by omega)
              refine ⟨q1, q2, q3, q4, q5, ?_⟩
              have hS : ({ S with ts := S.ts.set (posOf S.l x) { r.t with bytes := r.t.bytes ++ s.data.toList }, used := S.used + s.size } : St) = { putT S x { r.t with bytes := r.t.bytes ++ s.data.toList } with used := S.used + s.size } := by
                rw [putT_has hx]
              have hm5 : DMem _ p m ks vs _ { putT S x { r.t with bytes := r.t.bytes ++ s.data.toList } with used := S.used + s.size } := hS ▸ hm4
              refine (act_mem p m ks vs _ _ _ n hm5 hd hf hn).mono ?_
              rintro e w5 ⟨rfl, hm6, o6⟩
              have OF4 : Only F w ((w3.setCell ⟨r.b, 0, none⟩ v').setCell ⟨p, 1, none⟩ (.int .i64 ((S.used : Int) + s.size))) := (Only.refl F w).drew.then (o4.mono (fun i e => by
                rcases e with e | rfl
                · exact hDF _ (df_r h2 e)
                · exact hDF _ df_p))
              have OF5 : Only F w w5 := OF4.then (o6.mono (fun i e => by subst e; exact hDF _ df_p))
              exact ⟨rfl, DiskAt.mk' hF OF5 (act_ok hok2) hm6 (fun k hk => (df_set (B := w.heap.size) h1 (r' := ⟨r.b, v', { r.t with bytes := r.t.bytes ++ s.data.toList }⟩) rfl (hb.imp id (fun e => ⟨_, Nat.le_refl _, e⟩)) hk).imp (hDF k) id), OF5⟩
            have HOWN : Hid (w.drew.ownsRow 0 5 1 r.v r.t.bytes.length (bvals r.t.bytes)) := ht.2
            have hbd : r.t.bytes.length + s.size ≤ 4194304 := by omega
            rw [hv] at HR HOWN
            obtain ⟨L0, hL⟩ : ∃ L0, r.t.bytes = L0 := ⟨_, rfl⟩
            simp only [hL] at HR HOWN d0 hbd hlen ⊢
            have g2 : (L0.length : Int) + s.size ≤ 4194304 := by omega
            have HLEN : Hid ((L0 ++ s.data.toList).length = L0.length + s.size) := by unfold Hid; rw [List.length_append, hsl]
            clear h hd hx e hok hDF hf hnm hrm HSAME HSAMED h1 h2 h3 h4 ht hv hL hok2 hsafe hfew hbg hvc
            go_enter Try.func15, Try.ntmps15
            go_wp2_with (first
              | (go_at_call 37; refine C.out.mono ?_; rintro e w' ⟨rfl, rfl⟩)
              | (go_at_call 38; refine N.out.mono ?_; rintro e w' ⟨rfl, rfl⟩))
            go_region
            go_wp2_with (refine wpList_append_str rfl (.tmp 86) (.tmp 87) rfl _ L0 s rfl rfl HOWN.out (by omega) ?_; intro v' w3 hown hg hb; obtain ⟨⟨a, c, d1⟩, f0, q1, f1, hpr, hact⟩ := HR.out v' w3 hown hg hb; obtain ⟨va, vc, rfl, hvc⟩ := own_slice hown; rw [HLEN.out] at hact; have ACT := hid hact; clear hact hown hg hb)
            refine ACT.out.mono ?_; rintro e w5 ⟨rfl, hfin⟩
            have HF := hid hfin; clear hfin
            go_wp2_with fail
            go_ret
            exact ⟨rfl, HF.out⟩
  · have e : appendS S x s = (S, 10) := by unfold appendS; rw [if_pos hd]
    rw [e]
    have C := hid (rfind_down p m ks vs R S x w h hd)
    clear h hd e hok hDF hf
    go_enter Try.func15, Try.ntmps15
    go_wp2_with (go_at_call 37; refine C.out.mono ?_; rintro e w' ⟨rfl, rfl⟩)
    go_ret
    exact ⟨rfl, HSAME.out⟩
end Go.Proofs.Ytnhgfhbicaiilaa
/- The reel: New, and the small calls in the words of the whole disk. -/
namespace Go.Proofs.Ytnhgfhbicaiilaa
open Go.RowKit Reel
set_option linter.unusedVariables false

theorem shnew_any (w : World) : Calls Try.prog 19 #[] w fun e w' => e = .returned (.pointer (some ⟨w.heap.size, 0, none⟩)) ∧ w' = w.alloc (.cells #[.slice none 0 0, .slice none 0 0] 79) := by
  go_enter Try.func19, Try.ntmps19
  go_wp2
  go_ret
  exact ⟨rfl, rfl⟩
set_option maxHeartbeats 2000000 in
theorem new_any (n : Int) (w : World) : Calls Try.prog 7 #[.int .i64 n] w fun e w' => ∃ p, e = .returned (.pointer (some ⟨p, 0, none⟩)) ∧ w.heap.size ≤ p ∧ DiskAt w' p (grow NoF w w') (new n) ∧ Below w.heap.size w w' := by
  have HFIN : Hid (∀ W, W = (w.alloc (.cells #[.slice none 0 0, .slice none 0 0] 79)).alloc (.cells #[.pointer (some ⟨w.heap.size, 0, none⟩), .int .i64 0, .int .i64 0, .bool false, .int .i64 0, .int .i64 0, .int .i64 0] 57) →
      Calls Try.prog 20 #[.pointer (some ⟨w.heap.size + 1, 0, none⟩), .int .i64 n] W fun e w' => e = .returned (.tuple #[]) ∧ DiskAt w' (w.heap.size + 1) (grow NoF w w') (new n) ∧ Below w.heap.size w w') := by
    rintro W rfl
    have hz : (w.alloc (.cells #[.slice none 0 0, .slice none 0 0] 79)).heap.size = w.heap.size + 1 := by simp
    have B1 : Blk (w.alloc (.cells #[.slice none 0 0, .slice none 0 0] 79)) w.heap.size 79 #[.slice none 0 0, .slice none 0 0] := Blk.new w _ _
    have B2 := Blk.new (w.alloc (.cells #[.slice none 0 0, .slice none 0 0] 79)) 57 #[.pointer (some ⟨w.heap.size, 0, none⟩), .int .i64 0, .int .i64 0, .bool false, .int .i64 0, .int .i64 0, .int .i64 0]
    rw [hz] at B2
    have O0 : Only NoF w ((w.alloc (.cells #[.slice none 0 0, .slice none 0 0] 79)).alloc (.cells #[.pointer (some ⟨w.heap.size, 0, none⟩), .int .i64 0, .int .i64 0, .bool false, .int .i64 0, .int .i64 0, .int .i64 0] 57)) := ((Only.refl NoF w).alloc _).alloc _
    have hm : DMem _ (w.heap.size + 1) w.heap.size (.slice none 0 0) (.slice none 0 0) [] (new 0) := ⟨B2, ⟨B1.alloc _, World.ownsRow_nil _ _ _ _, World.ownsRow_nil _ _ _ _, rfl, List.Pairwise.nil, Nat.zero_le _⟩, ⟨fun r hr => (by cases hr), List.Pairwise.nil⟩, rfl⟩
    refine (room_any _ _ (new 0) n _ hm.blk).mono ?_
    rintro e w' ⟨rfl, hb, ho⟩
    have hm2 : DMem w' (w.heap.size + 1) w.heap.size (.slice none 0 0) (.slice none 0 0) [] (new n) := hm.own ho hb rfl rfl
    have OF : Only NoF w w' := O0.trans ho (fun i e => .inr (by omega))
    refine ⟨rfl, DiskAt.mk' (fun k e => e.elim) OF (new_ok n) hm2 ?_, OF.below0⟩
    rintro k (rfl | (rfl | h | h) | ⟨r, hr, _⟩)
    · exact .inr (by omega)
    · exact .inr (Nat.le_refl _)
    · cases h
    · cases h
    · cases hr
  go_enter Try.func7, Try.ntmps7
  go_wp2_with fail
  refine (shnew_any _).mono ?_; rintro e w1 ⟨rfl, rfl⟩
  go_wp2_with fail
  refine (HFIN.out _ rfl).mono ?_; rintro e w2 ⟨rfl, h1, h2⟩
  have H1 := hid h1; have H2 := hid h2
  clear h1 h2
  go_wp2_with fail
  go_ret
  exact ⟨_, rfl, by omega, H1.out, H2.out⟩

section
variable (p : Nat) (F : Nat → Prop) (S : St) (w : World)
theorem isdown_any (h : DiskAt w p F S) : Calls Try.prog 21 #[.pointer (some ⟨p, 0, none⟩)] w fun e w' => e = .returned (.bool S.down) ∧ w = w' := by
  obtain ⟨-, -, m, ks, vs, R, h, -⟩ := h; exact down_any p m S w h.blk
theorem nlife_any (h : DiskAt w p F S) : Calls Try.prog 26 #[.pointer (some ⟨p, 0, none⟩)] w fun e w' => e = .returned (.int .i64 S.life) ∧ w = w' := by
  obtain ⟨-, -, m, ks, vs, R, h, -⟩ := h; exact life_any p m S w h.blk
theorem doff_any (n : Nat) (h : DiskAt w p F S) (hf : S.Fits n) (hn : n < big) : Calls Try.prog 43 #[.pointer (some ⟨p, 0, none⟩)] w fun e w' => e = .returned (.tuple #[]) ∧ DiskAt w' p (grow F w w') (offS S) ∧ Only F w w' := by
  obtain ⟨hF, hok, m, ks, vs, R, h, hDF⟩ := h
  refine (off_any p m S w h.blk (by have := hf.2.1; unfold big at hn; omega)).mono ?_
  rintro e w' ⟨rfl, hb, ho⟩
  exact ⟨rfl, DiskAt.acted hF hDF (off_ok hok) (h.own ho hb (by unfold offS; split <;> rfl) (by unfold offS; split <;> rfl)) ho⟩
theorem darm_any (n : Int) (hn : n ≤ 9223372036854775807) (h : DiskAt w p F S) : Calls Try.prog 17 #[.pointer (some ⟨p, 0, none⟩), .int .i64 n] w fun e w' => e = .returned (.tuple #[]) ∧ DiskAt w' p (grow F w w') (armS S n) ∧ Only F w w' := by
  obtain ⟨hF, hok, m, ks, vs, R, h, hDF⟩ := h
  refine (arm_any p m S n w h.blk hn).mono ?_
  rintro e w' ⟨rfl, hb, ho⟩
  exact ⟨rfl, DiskAt.acted hF hDF (arm_ok hok n) (h.own ho hb rfl rfl) ho⟩
theorem droom_any (n : Int) (h : DiskAt w p F S) : Calls Try.prog 20 #[.pointer (some ⟨p, 0, none⟩), .int .i64 n] w fun e w' => e = .returned (.tuple #[]) ∧ DiskAt w' p (grow F w w') (roomS S n) ∧ Only F w w' := by
  obtain ⟨hF, hok, m, ks, vs, R, h, hDF⟩ := h
  refine (room_any p m S n w h.blk).mono ?_
  rintro e w' ⟨rfl, hb, ho⟩
  exact ⟨rfl, DiskAt.acted hF hDF (room_ok hok n) (h.own ho hb rfl rfl) ho⟩
end
end Go.Proofs.Ytnhgfhbicaiilaa
/- The power is back: plain Lean. -/
namespace Go.Proofs.Ytnhgfhbicaiilaa.Reel
open Go.RowKit
set_option linter.unusedVariables false

def fateOf (fs : List Int) (i : Nat) : Int := if fs = [] then 0 else fs.getD (i % fs.length) 0
/-- one tape is gone over: the tapes, and how many fates were drawn -/
def oneT (fs : List Int) (s : List Spool × Nat) (j : Nat) : List Spool × Nat :=
  match s.1[j]? with
  | none => s
  | some t => if t.bytes.length = t.safe then s else (s.1.set j (left t (fateOf fs s.2)), if fs = [] then s.2 else s.2 + 1)
def procT (fs : List Int) (ts : List Spool) (pre : List Nat) : List Spool × Nat := pre.foldl (oneT fs) (ts, 0)
theorem procT_snoc (fs : List Int) (ts : List Spool) (pre : List Nat) (j : Nat) : procT fs ts (pre ++ [j]) = oneT fs (procT fs ts pre) j := by unfold procT; rw [List.foldl_append]; rfl
theorem tear_len (l : List UInt8) : (tear l).length = l.length := by
  unfold tear
  cases h : l.reverse with
  | nil => have := congrArg List.length h; simp at this; simp [this]
  | cons c r => have := congrArg List.length h; simp at this; simp [this]
theorem kept_le (f : Int) (k : Nat) : (kept f k).1 ≤ k := by
  unfold kept
  split
  · exact Nat.min_le_right _ _
  · split
    · exact Nat.le_refl _
    · show (-f).toNat ≤ k; omega
theorem left_len (t : Spool) (f : Int) (h : t.safe ≤ t.bytes.length) : (left t f).bytes.length = t.safe + (kept f (t.bytes.length - t.safe)).1 ∧ (left t f).safe = (left t f).bytes.length := by
  have hk := kept_le f (t.bytes.length - t.safe)
  refine ⟨?_, rfl⟩
  unfold left
  show (if _ then tear _ else _ : List UInt8).length = _
  split
  · rw [tear_len, List.length_take]; omega
  · rw [List.length_take]; omega
theorem oneT_len (fs : List Int) (s : List Spool × Nat) (j : Nat) : (oneT fs s j).1.length = s.1.length := by
  unfold oneT; split
  · rfl
  · split
    · rfl
    · simp
theorem oneT_cnt (fs : List Int) (s : List Spool × Nat) (j : Nat) : (oneT fs s j).2 ≤ s.2 + 1 := by
  unfold oneT; split
  · omega
  · split
    · omega
    · show (if fs = [] then s.2 else s.2 + 1) ≤ _; split <;> omega
theorem procT_len (fs : List Int) (ts : List Spool) (pre : List Nat) : (procT fs ts pre).1.length = ts.length := by
  unfold procT
  suffices h : ∀ (pre : List Nat) (s : List Spool × Nat), (pre.foldl (oneT fs) s).1.length = s.1.length from h pre (ts, 0)
  intro pre
  induction pre with
  | nil => intro s; rfl
  | cons j r ih => intro s; rw [List.foldl_cons, ih, oneT_len]
theorem procT_cnt (fs : List Int) (ts : List Spool) (pre : List Nat) : (procT fs ts pre).2 ≤ pre.length := by
  unfold procT
  suffices h : ∀ (pre : List Nat) (s : List Spool × Nat), (pre.foldl (oneT fs) s).2 ≤ s.2 + pre.length by
    have := h pre (ts, 0); simpa using this
  intro pre
  induction pre with
  | nil => intro s; simp
  | cons j r ih => intro s; have h1 := ih (oneT fs s j); have h2 := oneT_cnt fs s j; simp only [List.foldl_cons, List.length_cons]; omega
/-- in order it is the whole -/
theorem procT_all (fs : List Int) (ts : List Spool) : (procT fs ts (List.range ts.length)).1 = onT fs 0 ts := by
  suffices h : ∀ (b a : List Spool) (i : Nat), (((List.range b.length).map (· + a.length)).foldl (oneT fs) (a ++ b, i)).1 = a ++ onT fs i b by
    have := h ts [] 0
    simpa [procT] using this
  intro b
  induction b with
  | nil => intro a i; simp [onT]
  | cons t r ih =>
    intro a i
    have e0 : (List.range (t :: r).length).map (· + a.length) = a.length :: (List.range r.length).map (· + (a.length + 1)) := by
      rw [List.length_cons, List.range_succ_eq_map, List.map_cons, List.map_map, Nat.zero_add]
      congr 1
      apply List.map_congr_left
      intro x _
      simp only [Function.comp]; omega
    rw [e0, List.foldl_cons]
    have hg : (a ++ t :: r)[a.length]? = some t := by simp
    by_cases ht : t.bytes.length = t.safe
    · have e1 : oneT fs (a ++ t :: r, i) a.length = (a ++ t :: r, i) := by unfold oneT; simp only [hg]; rw [if_pos ht]
      have h2 := ih (a ++ [t]) i
      rw [e1, List.length_append, List.length_singleton] at *
      rw [List.append_assoc, List.singleton_append] at h2
      rw [h2, onT, if_pos ht, List.append_assoc, List.singleton_append]
    · have e1 : oneT fs (a ++ t :: r, i) a.length = (a ++ left t (fateOf fs i) :: r, if fs = [] then i else i + 1) := by
        unfold oneT; simp only [hg]; rw [if_neg ht]
        rw [List.set_append_right _ _ (Nat.le_refl _), Nat.sub_self]; rfl
      have h2 := ih (a ++ [left t (fateOf fs i)]) (if fs = [] then i else i + 1)
      rw [e1]
      rw [List.length_append, List.length_singleton, List.append_assoc, List.singleton_append] at h2
      rw [h2, onT, if_neg ht, List.append_assoc, List.singleton_append]; rfl
/-- the state in the middle of it -/
def midS (S : St) (fs : List Int) (pre : List Nat) : St := { S with down := false, ts := (procT fs S.ts pre).1, used := size (procT fs S.ts pre).1 }
theorem midS_nil (S : St) (fs : List Int) (h : S.Ok) : midS S fs [] = { S with down := false } := by
  unfold midS procT
  show ({ S with down := false, ts := S.ts, used := size S.ts } : St) = _
  rw [← h.used]
theorem midS_all (S : St) (fs : List Int) (hd : S.down = true) : midS S fs (List.range S.ts.length) = onS S fs := by
  unfold midS onS; rw [if_neg (by simp [hd]), procT_all]
theorem size_set_le (ts : List Spool) (j : Nat) (h : j < ts.length) (t : Spool) (ht : t.bytes.length ≤ ts[j].bytes.length) : size (ts.set j t) ≤ size ts := by
  have := size_set ts j h t; omega
theorem oneT_ok {S : St} (h : S.Ok) (fs : List Int) (i j : Nat) : St.Ok { S with ts := (oneT fs (S.ts, i) j).1, used := size (oneT fs (S.ts, i) j).1 } := by
  unfold oneT
  cases hj : S.ts[j]? with
  | none => exact ⟨h.len, h.rising, h.few, rfl, by show size S.ts ≤ _; rw [← h.used]; exact h.most, h.room, h.each, h.names⟩
  | some t =>
    obtain ⟨hlt, rfl⟩ := List.getElem?_eq_some_iff.1 hj
    have he := h.each _ (List.getElem_mem hlt)
    simp only
    split
    · exact ⟨h.len, h.rising, h.few, rfl, by show size S.ts ≤ _; rw [← h.used]; exact h.most, h.room, h.each, h.names⟩
    · obtain ⟨l1, l2⟩ := left_len S.ts[j] (fateOf fs i) he.2
      have hk := kept_le (fateOf fs i) (S.ts[j].bytes.length - S.ts[j].safe)
      refine ⟨by simpa using h.len, h.rising, h.few, rfl, ?_, h.room, ?_, h.names⟩
      · show size (S.ts.set j _) ≤ _
        have := size_set_le S.ts j hlt (left S.ts[j] (fateOf fs i)) (by omega)
        have := h.most; have := h.used; omega
      · intro y hy
        rcases List.mem_or_eq_of_mem_set hy with hy | rfl
        · exact h.each y hy
        · exact ⟨by omega, Nat.le_of_eq l2⟩
theorem midS_ok {S : St} (h : S.Ok) (fs : List Int) (pre : List Nat) : (midS S fs pre).Ok := by
  suffices hh : ∀ (pre : List Nat) (ts : List Spool) (i : Nat), St.Ok { S with ts := ts, used := size ts } → St.Ok { S with ts := (pre.foldl (oneT fs) (ts, i)).1, used := size (pre.foldl (oneT fs) (ts, i)).1 } by
    have h1 := hh pre S.ts 0 ⟨h.len, h.rising, h.few, rfl, by show size S.ts ≤ _; rw [← h.used]; exact h.most, h.room, h.each, h.names⟩
    exact h1.with_ rfl rfl rfl h.room
  intro pre
  induction pre with
  | nil => intro ts i h; exact h
  | cons j r ih =>
    intro ts i h1
    rw [List.foldl_cons]
    have := oneT_ok h1 fs i j
    exact ih _ _ this
theorem on_ok {S : St} (h : S.Ok) (fs : List Int) : (onS S fs).Ok := by
  cases hd : S.down
  · unfold onS; rw [if_pos hd]; exact h
  · rw [← midS_all S fs hd]; exact midS_ok h fs _
end Go.Proofs.Ytnhgfhbicaiilaa.Reel
/- A region that draws its order, in a round of a loop over an iterator: what holds of it outside a round holds in one. No program. -/
namespace Go.Proofs.Ytnhgfhbicaiilaa
open Go.RowKit
set_option linter.unusedVariables false

abbrev inR (l : Nat) : Fence := Fence.wide.inRound l
theorem callsIn_inR {l n : Nat} {P : Program} {f : FuncId} {args : Array Value} {w : World} {R : Ending → World → Prop} (h : Calls P f args w R) : CallsIn (inR l) n P f args w R := CallsIn.inRound l (callsIn_wide.2 h)
def noDefer (ops : Array Oper) : Bool := ops.toList.all fun o => match o.op with | .defer _ => false | _ => true
theorem noDefer_spec {ops : Array Oper} (h : noDefer ops = true) {i : Nat} {o : Oper} (hi : ops[i]? = some o) : ∀ c, o.op ≠ .defer c := by
  intro c hc
  unfold noDefer at h
  rw [List.all_eq_true] at h
  have hm : o ∈ ops.toList := by
    rw [← Array.getElem?_toList] at hi
    exact List.mem_of_getElem? hi
  have := h o hm
  rw [hc] at this
  cases this
section
variable {l n : Nat} {P : Program} {ops : Array Oper} {md : Region.Mode} {Q : Exit → Act → World → Prop}
theorem rowsIn_inR {row : String} {args : Array Value} {w : World} {R : Value → World → Prop} (h : Rows P row args w R) : RowsIn (inR l) n P row args w R := by
  intro c cs _
  obtain ⟨v, w', hR, hs⟩ := h c cs
  exact ⟨v, w', hR, stepsIn_wide.2 hs⟩
theorem uponIn_of {o : Oper} {a : Act} {K K' : Act → World → Prop} (hK : ∀ a w, K a w → K' a w) : ∀ r, o.upon P a K Q r → o.uponIn (inR l) n P a K' Q r
  | .ok (.value v) w', h => hK _ _ h
  | .ok .skip w', h => hK _ _ h
  | .ok (.defer d) w', h => hK _ _ h
  | .ok (.enter f args) w', h => ⟨fun e => (by cases e), callsIn_inR (Calls.mono h (fun e w'' he => by cases e <;> first | exact hK _ _ he | exact he))⟩
  | .ok (.row row args) w', h => ⟨fun e => (by cases e), RowsIn.mono (rowsIn_inR h) (fun v w'' he => hK _ _ he)⟩
  | .ok (.round _ _ _ _ _) _, h => h.elim
  | .halt (.panic v) w', h => h
  | .halt .goexit _, h => h.elim
theorem operIn_of {o : Oper} {a : Act} {w : World} {K K' : Act → World → Prop} (hd : ∀ c, o.op ≠ .defer c) (hK : ∀ a w, K a w → K' a w) (h : o.wp P a w K Q) : o.wpIn (inR l) n P a w K' Q := by
  refine ⟨fun _ _ => trivial, ?_⟩
  show o.uponIn (inR l) n P a K' Q ((o.semAt (some l) a.eval).run P w)
  rw [Oper.semAt_eq _ _ _ hd]
  exact uponIn_of hK _ h
theorem opIn_of (hno : ¬ LetsOut Q) (hd : noDefer ops = true) {i : Nat} {a : Act} {w : World} {K K' : Act → World → Prop} (hK : ∀ a w, K a w → K' a w) (h : wpOp P ops Q i K a w) : wpOpIn (inR l) n P ops Q i K' a w := by
  unfold wpOp at h
  unfold wpOpIn
  split at h
  · rename_i e; rw [e]; exact hK _ _ h
  · rename_i o e
    rw [e]
    split at h
    · rename_i hw; simp only [hw, if_true]; exact operIn_of (noDefer_spec hd e) hK (h.resolve_right (fun e => hno e.2))
    · rename_i hw; simp only [hw, if_false, Bool.false_eq_true]; exact ⟨fun _ _ => trivial, hK _ _ h⟩
theorem anyIn_of (hno : ¬ LetsOut Q) (hd : noDefer ops = true) : ∀ (fuel : Nat) (listed : Array Bool) (a : Act) (w : World), wpAny P md ops Q fuel listed a w → wpAnyIn (inR l) n P md ops Q fuel listed a w
  | 0, _, _, _, h => h
  | fuel + 1, _, _, _, h => ⟨h.1, fun i hi => opIn_of hno hd (fun a w => anyIn_of hno hd fuel _ a w) (h.2 i hi)⟩
theorem regionIn_of (hno : ¬ LetsOut Q) {id : Nat} {a : Act} {w : World} (hm : P.follows .mixedOrders = true) (hd : noDefer ops = true)
    (h : wpAny P .any ops Q ops.size (Array.replicate ops.size false) a { w with drawn := w.drawn + 1 }) : (Code.region id ops true).wpIn (inR l) n P Q a w :=
  wpIn_region_any hm (anyIn_of hno hd _ _ _ _ h)
/-- it reads, and calls what leaves the world alone -/
theorem regionIn_quiet (hno : ¬ LetsOut Q) {C : World → Prop} {id : Nat} {a : Act} {w : World} {L : List Oper} (hm : P.follows .mixedOrders = true) (hd : noDefer L.toArray = true) (hB : Region.lexB .any L.toArray = true) (hC : C { w with drawn := w.drawn + 1 })
    (h : wpQuiet P L.toArray C (fun a' => ∀ w', C w' → Q .normal a' w') L a) : (Code.region id L.toArray true).wpIn (inR l) n P Q a w := by
  refine regionIn_of hno hm hd ?_
  simp only [Region.lexB, Bool.and_eq_true] at hB
  refine wpAny_of_quiet (Q := fun a' => ∀ w', C w' → Q .normal a' w') (fun _ w' hw' h => h w' hw') _ _ _ _ hC ?_
  have := wpAnyQ_lex (C := C) (md := .any) hB.1 L 0 (Array.replicate L.toArray.size false) a (by simp) (by simpa using hB.2) h
  simpa using this
/-- it reads, and ends in one thing that writes -/
theorem regionIn_tail (hno : ¬ LetsOut Q) {id : Nat} {a : Act} {w : World} {L : List Oper} (N : Nat) (hm : P.follows .mixedOrders = true) (hd : noDefer L.toArray = true) (hB : Region.lexTailB .any L.toArray N = true)
    (h : wpStill P L.toArray { w with drawn := w.drawn + 1 } (fun a' => wpList P L.toArray Q (L.drop N) a' { w with drawn := w.drawn + 1 }) (L.take N) a) : (Code.region id L.toArray true).wpIn (inR l) n P Q a w := by
  simp only [Region.lexTailB, Bool.and_eq_true, decide_eq_true_eq] at hB
  obtain ⟨⟨⟨⟨hsel, hn⟩, hs⟩, hc⟩, hlex⟩ := hB
  have hn' : N < L.length := by simpa using hn
  have htl : (L.take N).length = N := by simp; omega
  have hdl : (L.drop N).length = L.toArray.size - N := by simp
  have inv0 : HeadInv .any L.toArray N (Array.replicate L.toArray.size false) :=
    ⟨by simp, fun j oj _ hl => (by rw [getD_replicate_false] at hl; cases hl), fun t _ ht => getD_in (by simpa using ht) (getD_replicate_false _ _)⟩
  have H := wpAnyL_lex (md := .any) (g := L.toArray.size - N) hsel hs hc hn (L.take N) 0 _ a (fun j hj => by
    have hj' : j < N := by rw [htl] at hj; exact hj
    simp [hj']) (by simpa using htl) inv0 (by rw [htl]; exact hlex) h
  refine regionIn_of hno hm hd ?_
  have := wpAny_of_head (Q' := Q) (g := L.toArray.size - N) (fun listed a' hL => by
    have := wpAny_of_seq (md := .any) (Q' := Q) (L.drop N) N listed a' { w with drawn := w.drawn + 1 } (fun j => by simp [List.getElem?_drop]) (by rw [hdl]; exact hL.1) hL.2
    rwa [hdl] at this) _ _ _ H
  rw [htl, show N + (L.toArray.size - N) = L.toArray.size by omega] at this
  exact this
end
end Go.Proofs.Ytnhgfhbicaiilaa
/- The shelf's map of Ptr, gone over: All. -/
namespace Go.Proofs.Ytnhgfhbicaiilaa
open Go.RowKit
attribute [local go_sem] Oper.semAt_some
set_option linter.unusedVariables false

theorem allPtr_any (q : Option Addr) (w : World) : Calls Try.prog 59 #[.pointer q] w fun e w' => e = .returned (.func (.func 77) #[] #[.pointer (some ⟨w.heap.size, 0, none⟩)]) ∧ w' = w.alloc (.cells #[.pointer q] 53) := by
  go_enter Try.func59, Try.ntmps59
  go_wp2
  go_ret
  exact ⟨rfl, rfl⟩
/-- cells from n₀ on stay -/
def KeepC (n₀ : Nat) (A B : World) : Prop := A.heap.size ≤ B.heap.size ∧ ∀ k C t fz, n₀ ≤ k → A.heap[k]? = some (.cells C t fz) → B.heap[k]? = some (.cells C t fz)
theorem keepC_t {n₀ : Nat} {A B C : World} (h : KeepC n₀ A B) (k : KeepC n₀ B C) : KeepC n₀ A C := ⟨Nat.le_trans h.1 k.1, fun i c t fz hi e => k.2 i c t fz hi (h.2 i c t fz hi e)⟩
theorem keepC_b {n₀ : Nat} {w : World} (W : World) (l : Nat) (o o' : Obj) (_ : w.heap.size ≤ l) (h : W.heap[l]? = some o) (hc : o.isCells = false) (_ : o.isWalk = false) : KeepC n₀ W (W.putObj l o') := by
  refine ⟨by simp, fun k C t fz hk e => ?_⟩
  by_cases hkl : k = l
  · subst hkl; rw [h] at e; injection e with e; subst e; simp [Obj.isCells] at hc
  · rw [World.putObj_heap_other hkl]; exact e
theorem keepC_refl (n₀ : Nat) (A : World) : KeepC n₀ A A := ⟨Nat.le_refl _, fun _ _ _ _ _ e => e⟩
theorem keepC_only {F : Nat → Prop} {n₀ : Nat} {A B : World} (h : Only F A B) (hF : ∀ k, F k → k < n₀) : KeepC n₀ A B :=
  ⟨h.size, fun k C t fz hk e => (h.block k (Array.getElem?_eq_some_iff.1 e).1 (fun hf => by have := hF k hf; omega)).trans e⟩
theorem own_keepC {n₀ B e s n : Nat} {v : Value} {xs : List Value} {A W : World} (h : A.ownsRow B e s v n xs) (hB : n₀ ≤ B) (hk : KeepC n₀ A W) : W.ownsRow B e s v n xs := by
  refine ⟨h.1, h.2.imp id ?_⟩
  rintro ⟨g, cap, cur, hv, hb, hg, r⟩
  exact ⟨g, cap, cur, hv, hb, hk.2 _ _ _ _ (by omega) hg, r⟩

/-- what is handed to a round: the j-th name, the j-th value -/
def encsPtr (l : List ByteArray) (ps : List (Option Addr)) (j : Fin l.length) : Array Value := #[.string (l.getD j.1 ByteArray.empty), encPtr (ps.getD j.1 (none))]
set_option maxRecDepth 100000 in
set_option maxHeartbeats 4000000 in
theorem allStopsPtr (n Bm m n₀ : Nat) (ks vs : Value) (l : List ByteArray) (ps : List (Option Addr)) (w : World) (hn : 1 ≤ n) (hq : w.cell? ⟨Bm, 0, none⟩ = some (.pointer (some ⟨m, 0, none⟩))) (hm : MapIsPtr w m ks vs l ps) (hn0 : n₀ ≤ w.heap.size) :
    SeqStopsK Fence.wide n Try.prog 77 #[.pointer (some ⟨Bm, 0, none⟩)] (encsPtr l ps) (KeepC n₀) (fun xs => xs = List.finRange l.length) (fun pre => pre <+: List.finRange l.length) l.length w := by
  intro L J Jx W hW hJ hJx hY h0
  have hqW : W.cell? ⟨Bm, 0, none⟩ = some (.pointer (some ⟨m, 0, none⟩)) := (hW.cell (p := ⟨Bm, 0, none⟩) (World.block_lt_of_cell? _ _ hq)).trans hq
  obtain ⟨b1, b2, b3, b4, b5, b6⟩ := hm
  have oW : Only NoF w W := Only.of_below hW _
  have hmW : MapIsPtr W m ks vs l ps := ⟨b1.only oW (fun e => e), own_only b2 oW (fun _ _ e => e), own_only b3 oW (fun _ _ e => e), b4, b5, b6⟩
  have CC := hid (clonePtr vs ps.length (ps.map encPtr) W hmW.2.2.1 (encPtr_one ps) (by omega))
  have HK : Hid (∀ W1, Below W.heap.size W W1 → Calls Try.prog 79 #[.pointer (some ⟨m, 0, none⟩)] W1 fun e w' => ∃ v, e = .returned v ∧ w'.ownsRow W1.heap.size 9 1 v l.length (svals l) ∧ Below W1.heap.size W1 w') := fun W1 hb => by
    have o1 : Only NoF W W1 := Only.of_below hb _
    exact keysPtr m ks vs l ps W1 ⟨hmW.1.only o1 (fun e => e), own_only hmW.2.1 o1 (fun _ _ e => e), own_only hmW.2.2.1 o1 (fun _ _ e => e), b4, b5, b6⟩
  have c1 := hmW.1.cell 1
  simp at c1
  obtain ⟨va, vc, rfl, hvc⟩ := own_slice hmW.2.2.1
  have hHY := hid hY; have hHJ := hid hJ
  have hnW : n₀ ≤ W.heap.size := Nat.le_trans hn0 hW.size
  obtain ⟨zs, hzs⟩ : ∃ zs, List.finRange l.length = zs := ⟨_, rfl⟩
  have hzl : zs.length = l.length := by rw [← hzs, List.length_finRange]
  have HZ : Hid (∀ k, (hk : k < l.length) → ∃ h : k < zs.length, zs[k] = ⟨k, hk⟩) := fun k hk => ⟨by omega, by subst hzs; simp⟩
  rw [hzs]
  have HQM : Hid (∀ W1, Below W.heap.size W W1 → W1.cell? ⟨Bm, 0, none⟩ = some (.pointer (some ⟨m, 0, none⟩))) := fun W1 hb => (hb.cell (p := ⟨Bm, 0, none⟩) (World.block_lt_of_cell? _ _ hqW)).trans hqW
  have H0 := hid h0
  have hln : l.length ≤ 1000000 := b6
  have HB4 := hid b4
  have hpl : ps.length ≤ 1000000 := by omega
  have HZL := hid hzl
  clear hY hJ hJx hmW b1 b2 b3 b4 b5 oW hzs hW hq h0 hzl b6
  refine callsIn_of_wp Try.func77 rfl trivial ?_ rfl
  simp only [Try.ntmps77, List.size_toArray, List.length_cons, List.length_nil, Nat.reduceAdd, Nat.reduceSub, Array.replicate_succ, Array.replicate_zero, List.push_toArray, List.append_toArray, List.nil_append, List.cons_append]
  gi_wp2_with fail
  refine ⟨trivial, (callsIn_wide.2 CC.out).mono ?_⟩; rintro e W1 ⟨v1, rfl, o1, hb1⟩
  have q1 := HQM.out W1 hb1
  have HJ1 : Hid (J [] W1) := hHJ.out _ _ _ none H0.out ⟨hb1.os, hb1.tape, hb1.output, hb1.size, fun k hk _ => hb1.block k hk⟩ (fun _ e => by cases e)
  gi_wp2_with fail
  refine ⟨trivial, (callsIn_wide.2 (HK.out W1 hb1)).mono ?_⟩; rintro e W2 ⟨v2, rfl, o2, hb2⟩
  have HJ2 : Hid (J [] W2) := hHJ.out _ _ _ none HJ1.out ⟨hb2.os, hb2.tape, hb2.output, hb2.size, fun k hk _ => hb2.block k hk⟩ (fun _ e => by cases e)
  have V2 : W2.ownsRow W.heap.size 55 1 v1 ps.length (ps.map encPtr) := own_only o1 (Only.of_below hb2 NoF) (fun _ _ e => e)
  obtain ⟨a2, c2, rfl, hac2⟩ := own_slice o2
  obtain ⟨a1, c1', rfl, hac1⟩ := own_slice V2
  have hb1s := hb1.size
  have HV2 := hid V2; have HN2 := hid o2
  clear V2 o2 o1 hb1 hb2
  gi_wp2_with fail
  gi_loopw [16] (fun i wr => ∃ (k : Nat) (pre : List (Fin l.length)), k ≤ l.length ∧ i = .int .i64 k ∧ Hid (pre = zs.take k) ∧ J pre wr ∧ KeepC n₀ W2 wr) (fun i _ => l.length - (intOf i).toNat)
  case atStart => exact ⟨0, [], Nat.zero_le _, rfl, rfl, HJ2.out, keepC_refl _ _⟩
  case round =>
    obtain ⟨k, pre, hk, rfl, HP, hJs, hkp⟩ := hrel
    by_cases hlt : k < l.length
    · obtain ⟨h3, he⟩ := HZ.out k hlt
      have h1 := hlt
      have h2 : k < ps.length := by rw [HB4.out]; exact hlt
      have ck : wr.ownsRow W1.heap.size 9 1 (.slice a2 l.length c2) l.length (svals l) := own_keepC HN2.out (by omega) hkp
      have cv : wr.ownsRow W.heap.size 55 1 (.slice a1 ps.length c1') ps.length (ps.map encPtr) := own_keepC HV2.out hnW hkp
      obtain ⟨g2, d2, e2, _, _⟩ := ck.form (by omega)
      obtain ⟨g1, d1, e1, _, _⟩ := cv.form (by omega)
      injection e2 with e21 _ e22
      injection e1 with e11 _ e12
      subst e21 e22 e11 e12
      have hck := ck.cellAt k (by omega)
      have hcv := cv.cellAt k (by omega)
      have x1 : (svals l)[k]? = some (.string l[k]) := by unfold svals; rw [List.getElem?_map, List.getElem?_eq_getElem h1]; rfl
      have x2 : (ps.map encPtr)[k]? = some (encPtr ps[k]) := by rw [List.getElem?_map, List.getElem?_eq_getElem h2]; rfl
      rw [x1] at hck
      rw [x2] at hcv
      obtain ⟨fn, tmps, assign, body, hy, hR⟩ := hHY.out pre ⟨k, hlt⟩ wr hJs (by rw [HP.out, List.length_take, HZL.out]; omega)
      have hpre : pre ++ [⟨k, hlt⟩] = zs.take (k + 1) := by
        rw [HP.out, ← he, List.take_append_getElem h3]
      unfold encsPtr at hy
      have y1 : l.getD k ByteArray.empty = l[k] := by rw [List.getD_eq_getElem?_getD, List.getElem?_eq_getElem h1]; rfl
      have y2 : ps.getD k (none) = ps[k] := by rw [List.getD_eq_getElem?_getD, List.getElem?_eq_getElem h2]; rfl
      simp only [y1, y2] at hy
      obtain ⟨nk, hnk⟩ : ∃ nk, l[k] = nk := ⟨_, rfl⟩
      obtain ⟨pk, hpk⟩ : ∃ pk, ps[k] = pk := ⟨_, rfl⟩
      rw [hnk] at hck x1
      rw [hpk] at hcv x2
      rw [hnk, hpk] at hy
      unfold encPtr at hcv hy
      obtain ⟨j0, hj0⟩ : ∃ j0 : Fin l.length, ⟨k, hlt⟩ = j0 := ⟨_, rfl⟩
      rw [hj0] at hpre hR
      have HPR := hid hpre
      have hkp2 : k < ps.length := h2
      clear x1 x2 he hpre hnk hpk hJs y1 y2 hj0
      gi_wp2
      refine hR.mono ?_
      rintro e W3 (⟨rfl, hJ3, hk3⟩ | ⟨rfl, hJx3⟩)
      · have HJ3 := hid hJ3; have HK3 := hid hk3
        clear hJ3 hk3
        gi_wp2
        go_roundw
        case rel => exact ⟨k + 1, pre ++ [j0], by omega, by go_num, HPR.out, HJ3.out, keepC_t hkp HK3.out⟩
        case measure => simp [intOf]; omega
      · have HJ3 := hid hJx3
        clear hJx3
        gi_wp2
        refine bodyPost_ret (results_none rfl _ _ _) rfl ?_
        exact ⟨⟨_, rfl⟩, .inr ⟨pre ++ [j0], by rw [HPR.out]; exact List.take_prefix _ _, HJ3.out⟩⟩
    · obtain rfl : k = l.length := by omega
      have HPZ : Hid (pre = zs) := by unfold Hid; rw [HP.out, List.take_of_length_le (Nat.le_of_eq HZL.out)]
      gi_wp2
      go_end0
      exact ⟨⟨_, rfl⟩, .inl ⟨_, rfl, by rw [← HPZ.out]; exact hJs⟩⟩
end Go.Proofs.Ytnhgfhbicaiilaa
/- The reel: On. -/
namespace Go.Proofs.Ytnhgfhbicaiilaa
open Go.RowKit Reel
attribute [local go_sem] Oper.semAt_some
set_option linter.unusedVariables false

/-- the slice with the base a and n places reads as the list l of ints -/
def IntsAt (w : World) (a : Option Addr) (n : Nat) (l : List Int) : Prop :=
  l.length = n ∧ n ≤ 9223372036854775807 ∧ (∀ x ∈ l, -9223372036854775808 ≤ x ∧ x ≤ 9223372036854775807) ∧ (n = 0 ∨ ∃ b off, a = some ⟨b, off, none⟩ ∧ ∀ j, j < n → w.cell? ⟨b, off + j, none⟩ = some (.int .i64 (l.getD j 0)))
theorem IntsAt.only {F : Nat → Prop} {w w' : World} {a : Option Addr} {n : Nat} {l : List Int} (h : IntsAt w a n l) (ho : Only F w w') (hf : n ≠ 0 → ∀ b off, a = some ⟨b, off, none⟩ → ¬ F b) : IntsAt w' a n l := by
  obtain ⟨h1, h2, h3, h4⟩ := h
  by_cases hn : n = 0
  · exact ⟨h1, h2, h3, .inl hn⟩
  replace hf := hf hn
  refine ⟨h1, h2, h3, h4.imp id ?_⟩
  rintro ⟨b, off, ha, hc⟩
  exact ⟨b, off, ha, fun j hj => ho.cell (hc j hj) (hf b off ha)⟩

theorem kept_int (f t : Int) (k : Nat) (w : World) (ht : t = k) (hf : -9223372036854775808 ≤ f) (hf2 : f ≤ 9223372036854775807) (hk : k ≤ 4194304) (hk0 : 0 < k) :
    Calls Try.prog 60 #[.int .i64 f, .int .i64 t] w fun e w' => e = .returned (.tuple #[.int .i64 (kept f k).1, .bool (kept f k).2]) ∧ w = w' := by
  subst ht; exact kept_any f k w hf hf2 hk hk0
theorem tear_snoc (a : List UInt8) (c : UInt8) : tear (a ++ [c]) = a ++ [c ^^^ 0x55] := by unfold tear; simp
theorem bvals_set (a : List UInt8) (c d : UInt8) : (bvals (a ++ [c])).set a.length (.int .u8 (d.toNat : Int)) = bvals (a ++ [d]) := by
  unfold bvals
  rw [List.map_append, List.map_append, List.set_append_right _ _ (by simp)]
  simp
theorem set_tp {R : List RM} {j : Nat} {r r' : RM} (hi : R[j]? = some r) (hb : r'.b = r.b) : (R.set j r').map tp = R.map tp := by
  rw [List.map_set]
  apply List.ext_getElem?
  intro i
  rw [List.getElem?_set]
  split
  · rename_i e; subst e
    rw [List.getElem?_map, hi]
    simp [tp, hb, (List.getElem?_eq_some_iff.1 hi).1]
  · rfl
theorem df_set0 {p m : Nat} {ks vs : Value} {R : List RM} {r r' : RM} {i : Nat} (hi : R[i]? = some r) (hb : r'.b = r.b) (hv : r'.v.ownBlock = r.v.ownBlock) {k : Nat} (hk : DF p m ks vs (R.set i r') k) : DF p m ks vs R k := by
  have hm : r ∈ R := List.mem_of_getElem? hi
  rcases hk with hk | hk | ⟨x, hx, hk⟩
  · exact .inl hk
  · exact .inr (.inl hk)
  · rcases List.mem_or_eq_of_mem_set hx with hx | rfl
    · exact df_r hx hk
    · rcases hk with hk | hk
      · exact df_r hm (.inl (hk.trans hb))
      · rw [hv] at hk; exact df_r hm (.inr hk)
/-- the last byte of a tape is another one -/
theorem tear_step {W : World} {p m : Nat} {ks vs : Value} {R : List RM} {S : St} {i : Nat} {r : RM} (h : DMem W p m ks vs R S) (hi : R[i]? = some r) (a : List UInt8) (c : UInt8) (hb : r.t.bytes = a ++ [c]) :
    ∃ g cap, r.v = .slice (some ⟨g, 0, none⟩) (a.length + 1) cap ∧ W.cell? ⟨g, a.length, none⟩ = some (.int .u8 (c.toNat : Int)) ∧ W.frozen? ⟨g, a.length, none⟩ = false ∧
      DMem (W.setCell ⟨g, a.length, none⟩ (.int .u8 ((c ^^^ 0x55).toNat : Int))) p m ks vs (R.set i ⟨r.b, r.v, { r.t with bytes := a ++ [c ^^^ 0x55] }⟩) { S with ts := S.ts.set i { r.t with bytes := a ++ [c ^^^ 0x55] } } ∧
      Only (TF r) W (W.setCell ⟨g, a.length, none⟩ (.int .u8 ((c ^^^ 0x55).toNat : Int))) := by
  have hm : r ∈ R := List.mem_of_getElem? hi
  have ht := h.tapes.1 r hm
  have hl : r.t.bytes.length = a.length + 1 := by rw [hb]; simp
  have how := ht.2
  rcases ht.2.2 with ⟨e1, e2⟩ | ⟨g, cap, cur, hv, hb0, hg, hn, hc, hsz, htk⟩
  · omega
  · rw [hl] at hv hn
    rw [Nat.mul_one] at hsz htk
    have B : Blk W g 5 cur := hg
    have O : Only (· = g) W (W.setCell ⟨g, a.length, none⟩ (.int .u8 ((c ^^^ 0x55).toNat : Int))) := (Only.refl (· = g) W).setCell (p := ⟨g, a.length, none⟩) (.inl rfl) _
    have OT : Only (TF r) W (W.setCell ⟨g, a.length, none⟩ (.int .u8 ((c ^^^ 0x55).toNat : Int))) := O.mono (fun i e => .inr (by subst e; rw [hv]; rfl))
    refine ⟨g, cap, hv, ?_, B.frozen _, ?_, OT⟩
    · rw [B.cell, ← Array.getElem?_toList, ← List.getElem?_take_of_lt (j := r.t.bytes.length) (by omega), htk, hb]
      simp [bvals]
    · refine h.tape hi OT (r' := ⟨r.b, r.v, { r.t with bytes := a ++ [c ^^^ 0x55] }⟩) ⟨ht.1.only O (fun e => ?_), ?_⟩ rfl (.inl rfl)
      · have := B.ne ht.1 (by decide); exact this e.symm
      · refine ⟨by rw [bvals_length, Nat.mul_one], .inr ⟨g, cap, _, by rw [hv]; simp, hb0, B.set a.length _, by simpa using hn, hc, by simp [hsz], ?_⟩⟩
        have h5 : (a ++ [c ^^^ 0x55]).length = r.t.bytes.length := by rw [hb]; simp
        show List.take ((a ++ [c ^^^ 0x55]).length * 1) _ = _
        rw [h5, Nat.mul_one, Array.toList_setIfInBounds, List.take_set, htk, hb, bvals_set]
/-- all of a tape is safe -/
theorem safe_step {W : World} {p m : Nat} {ks vs : Value} {R : List RM} {S : St} {i : Nat} {r : RM} (h : DMem W p m ks vs R S) (hi : R[i]? = some r) (k : Int) (hk : k = r.t.bytes.length) :
    W.cell? ⟨r.b, 1, none⟩ = some (.int .i64 r.t.safe) ∧ W.frozen? ⟨r.b, 1, none⟩ = false ∧ (∃ a c, W.cell? ⟨r.b, 0, none⟩ = some (.slice a r.t.bytes.length c)) ∧
      DMem (W.setCell ⟨r.b, 1, none⟩ (.int .i64 k)) p m ks vs (R.set i ⟨r.b, r.v, ⟨r.t.bytes, r.t.bytes.length⟩⟩) { S with ts := S.ts.set i ⟨r.t.bytes, r.t.bytes.length⟩ } ∧
      Only (TF r) W (W.setCell ⟨r.b, 1, none⟩ (.int .i64 k)) := by
  subst hk
  have hm : r ∈ R := List.mem_of_getElem? hi
  have ht := h.tapes.1 r hm
  obtain ⟨a, c, hv, hc⟩ := own_slice ht.2
  have O : Only (· = r.b) W (W.setCell ⟨r.b, 1, none⟩ (.int .i64 r.t.bytes.length)) := (Only.refl (· = r.b) W).setCell (p := ⟨r.b, 1, none⟩) (.inl rfl) _
  refine ⟨(ht.1.cell 1).trans rfl, ht.1.frozen 1, ⟨a, c, by have := ht.1.cell 0; rw [hv] at this; exact this.trans rfl⟩, ?_, O.mono (fun i e => .inl e)⟩
  exact h.tape hi (O.mono (fun i e => .inl e)) (r' := ⟨r.b, r.v, ⟨r.t.bytes, r.t.bytes.length⟩⟩) ⟨by simpa using ht.1.set 1 (.int .i64 r.t.bytes.length), own_only ht.2 O (fun k hk e => by subst e; exact ht.v_ne_b ht hk)⟩ rfl (.inl rfl)

/-- what holds between two rounds -/
def OnI (w : World) (p m : Nat) (ks vs : Value) (R : List RM) (S : St) (F : Nat → Prop) (a : Option Addr) (n c : Nat) (fs : List Int) (pre : List (Fin S.l.length)) (W : World) : Prop :=
  (∃ R', DMem W p m ks vs R' (midS S fs (pre.map (·.1))) ∧ R'.map tp = R.map tp ∧ (∀ k, DF p m ks vs R' k → F k)) ∧ Only F w W ∧ w.heap.size + 4 ≤ W.heap.size ∧
  Blk W w.heap.size 25 #[.pointer (some ⟨p, 0, none⟩)] ∧ Blk W (w.heap.size + 1) 47 #[.slice a n c] ∧ Blk W (w.heap.size + 1 + 1) 3 #[.int .i64 (procT fs S.ts (pre.map (·.1))).2]
theorem onI_from {w : World} {p m : Nat} {ks vs : Value} {R : List RM} {S : St} {F : Nat → Prop} {a : Option Addr} {n c : Nat} {fs : List Int} (hF : ∀ k, F k → k < w.heap.size) : OwnFrom (w.heap.size + 4) (OnI w p m ks vs R S F a n c fs) := by
  rintro pre W W' row ⟨⟨R', h1, h2, h3⟩, h4, h5, h6, h7, h8⟩ hg hr
  have O : Only (fun k => row = some k) W W' := ⟨hg.os, hg.tape, hg.output, hg.size, fun k hk hn => hg.block k hk (fun e => hn e.symm)⟩
  have hB : ∀ k, row = some k → w.heap.size + 4 ≤ k := fun k hk => (hr k hk).1
  refine ⟨⟨R', h1.only O (fun k hk e => by have := hF k (h3 k hk); have := hB k e; omega), h2, h3⟩, h4.trans O (fun i e => .inr (by have := hB i e; omega)), by have := hg.size; omega,
    h6.only O (fun e => by have := hB _ e; omega), h7.only O (fun e => by have := hB _ e; omega), h8.only O (fun e => by have := hB _ e; omega)⟩
theorem keepsFrom_only {F : Nat → Prop} {B : Nat} {A C : World} (h : Only F A C) (hF : ∀ k, F k → k < B) : KeepsFrom B A C :=
  ⟨h.size, fun k o hk e _ => (h.block k (Array.getElem?_eq_some_iff.1 e).1 (fun hf => by have := hF k hf; omega)).trans e⟩

set_option maxRecDepth 100000 in
set_option maxHeartbeats 8000000 in
theorem on_any (p : Nat) (F : Nat → Prop) (S : St) (a : Option Addr) (n c : Nat) (fs : List Int) (w : World) (h : DiskAt w p F S) (hI : IntsAt w a n fs) (hFa : n ≠ 0 → ∀ b off, a = some ⟨b, off, none⟩ → ¬ F b) :
    Calls Try.prog 44 #[.pointer (some ⟨p, 0, none⟩), .slice a n c] w fun e w' => e = .returned (.tuple #[]) ∧ DiskAt w' p (grow F w w') (onS S fs) ∧ Only F w w' := by
  obtain ⟨hF, hok, m, ks, vs, R, h, hDF⟩ := h
  have hpl : p < w.heap.size := Blk.lt h.blk
  have hpn0 : p ≠ w.heap.size := by omega
  have hpn1 : p ≠ w.heap.size + 1 := by omega
  have hpn2 : p ≠ w.heap.size + 1 + 1 := by omega
  obtain ⟨c0, c1, c2, c3, c4, c5, c6⟩ := h.blk.cells
  have f3 := Blk.frozen h.blk 3
  cases hd : S.down
  · rw [hd] at c3
    have HF : Hid (DiskAt ((w.alloc (.cells #[.pointer (some ⟨p, 0, none⟩)] 25)).alloc (.cells #[.slice a n c] 47)) p (grow F w ((w.alloc (.cells #[.pointer (some ⟨p, 0, none⟩)] 25)).alloc (.cells #[.slice a n c] 47))) (onS S fs) ∧ Only F w ((w.alloc (.cells #[.pointer (some ⟨p, 0, none⟩)] 25)).alloc (.cells #[.slice a n c] 47))) := by
      have e : onS S fs = S := by unfold onS; rw [if_pos hd]
      rw [e]
      have O : Only NoF w ((w.alloc (.cells #[.pointer (some ⟨p, 0, none⟩)] 25)).alloc (.cells #[.slice a n c] 47)) := ((Only.refl NoF w).alloc _).alloc _
      exact ⟨DiskAt.mk' hF (O.mono (fun _ e => e.elim)) hok (h.only O (fun _ _ e => e)) (fun k hk => .inl (hDF k hk)), O.mono (fun _ e => e.elim)⟩
    clear h hd hok hDF hI hFa
    go_enter Try.func44, Try.ntmps44
    go_wp2
    exact bodyPost_ret (results_none rfl _ _ _) rfl ⟨rfl, HF.out⟩
  · rw [hd] at c3
    have W3e : ∃ W3, W3 = (((w.setCell ⟨p, 3, none⟩ (.bool false)).alloc (.cells #[.pointer (some ⟨p, 0, none⟩)] 25)).alloc (.cells #[.slice a n c] 47)).alloc (.cells #[.int .i64 0] 3) := ⟨_, rfl⟩
    obtain ⟨W3, hW3⟩ := W3e
    have hO3 : Only F w W3 := by rw [hW3]; exact ((((Only.refl F w).setCell (p := ⟨p, 3, none⟩) (.inl (hDF _ df_p)) _).alloc _).alloc _).alloc _
    have hm0 : DMem (w.setCell ⟨p, 3, none⟩ (.bool false)) p m ks vs R { S with down := false } := by
      have O : Only (· = p) w (w.setCell ⟨p, 3, none⟩ (.bool false)) := (Only.refl (· = p) w).setCell (p := ⟨p, 3, none⟩) (.inl rfl) _
      refine h.own O ?_ rfl rfl
      have := Blk.set h.blk 3 (.bool false)
      unfold DBlk
      simpa using this
    have hz0 : (w.setCell ⟨p, 3, none⟩ (.bool false)).heap.size = w.heap.size := by simp [World.setCell]
    have hm3 : DMem W3 p m ks vs R { S with down := false } := by
      rw [hW3]; exact hm0.only ((((Only.refl NoF _).alloc _).alloc _).alloc _) (fun _ _ e => e)
    have hz3 : W3.heap.size = w.heap.size + 3 := by rw [hW3]; simp [World.setCell]
    have bd : Blk W3 w.heap.size 25 #[.pointer (some ⟨p, 0, none⟩)] := by
      have := ((Blk.new (w.setCell ⟨p, 3, none⟩ (.bool false)) 25 #[.pointer (some ⟨p, 0, none⟩)]).alloc (.cells #[.slice a n c] 47)).alloc (.cells #[.int .i64 0] 3)
      rw [hz0] at this; rw [hW3]; exact this
    have bf : Blk W3 (w.heap.size + 1) 47 #[.slice a n c] := by
      have := (Blk.new ((w.setCell ⟨p, 3, none⟩ (.bool false)).alloc (.cells #[.pointer (some ⟨p, 0, none⟩)] 25)) 47 #[.slice a n c]).alloc (.cells #[.int .i64 0] 3)
      rw [World.size_alloc, hz0] at this; rw [hW3]; exact this
    have bi : Blk W3 (w.heap.size + 1 + 1) 3 #[.int .i64 0] := by
      have := Blk.new (((w.setCell ⟨p, 3, none⟩ (.bool false)).alloc (.cells #[.pointer (some ⟨p, 0, none⟩)] 25)).alloc (.cells #[.slice a n c] 47)) 3 #[.int .i64 0]
      rw [World.size_alloc, World.size_alloc, hz0] at this; rw [hW3]; exact this
    have q0 := hm3.blk.cells.1
    have q1 := bd.cell 0
    rw [hW3] at q0 q1
    simp only [List.getElem?_toArray, List.getElem?_cons_zero] at q1
    have CA := hid (allPtr_any (some ⟨m, 0, none⟩) W3)
    have HM := hid hm3; have HBD := hid bd; have HBF := hid bf; have HBI := hid bi; have HO := hid hO3; have HZ := hid hz3; have HWW := hid hW3
    have HH := hid h
    clear hm3 bd bf bi hO3 hz3 hm0 hz0 h
    refine (callsIn_wide (n := 5)).1 ?_
    refine callsIn_of_wp_marks Try.func44 rfl trivial ?_ rfl
    simp only [Try.ntmps44, List.size_toArray, List.length_cons, List.length_nil, Nat.reduceAdd, Nat.reduceSub, Array.replicate_succ, Array.replicate_zero, List.push_toArray, List.append_toArray, List.nil_append, List.cons_append]
    clear hW3
    gi_wp2_with fail
    rw [← HWW.out]
    refine ⟨trivial, (callsIn_wide.2 CA.out).mono ?_⟩; rintro e w' ⟨rfl, rfl⟩
    gi_wp2_with fail
    have hz4 : (W3.alloc (.cells #[.pointer (some ⟨m, 0, none⟩)] 53)).heap.size = w.heap.size + 4 := by rw [World.size_alloc, HZ.out]
    have hm4 : DMem (W3.alloc (.cells #[.pointer (some ⟨m, 0, none⟩)] 53)) p m ks vs R { S with down := false } := HM.out.only ((Only.refl NoF W3).alloc _) (fun _ _ e => e)
    have hI0 : OnI w p m ks vs R S F a n c fs [] (W3.alloc (.cells #[.pointer (some ⟨m, 0, none⟩)] 53)) :=
      ⟨⟨R, by rw [List.map_nil, midS_nil S fs hok]; exact hm4, rfl, hDF⟩, HO.out.alloc _, by omega, HBD.out.alloc _, HBF.out.alloc _, HBI.out.alloc _⟩
    refine wpIn_rangeFunc_ownG (n := 5) rfl (by omega) (gf := 77) (lb := #[.pointer (some ⟨W3.heap.size, 0, none⟩)]) rfl trivial (enters_of Try.func77 (by kernel_rfl) rfl)
      (allStopsPtr (5 - 1) W3.heap.size m (w.heap.size + 4) ks vs S.l (R.map tp) _ (by omega) ((Blk.new W3 _ _).cell 0) hm4.map (by omega)) keepC_t keepC_b (Below.refl _ _) (fun _ => rfl)
      (OnI w p m ks vs R S F a n c fs) (fun _ _ _ => False) (by rw [hz4]; exact onI_from hF) (fun _ _ _ _ _ hs _ _ => hs) hI0 ?a1 ?assign ?body ?done ?stop
    case assign =>
      intro l x W K hK
      simp only [encsPtr, encPtr]
      gi_wp2
      exact hK
    case stop =>
      rintro D c pre W _ _ h _
      exact h.elim
    case done =>
      rintro D xs W hD rfl hi hK
      have hi2 := (onI_from (m := m) (ks := ks) (vs := vs) (R := R) (a := a) (n := n) (c := c) (fs := fs) hF).putObj (.deferred none) hi (by omega) hK rfl
      have HFIN : Hid (DiskAt (W.putObj D (.deferred none)) p (grow F w (W.putObj D (.deferred none))) (onS S fs) ∧ Only F w (W.putObj D (.deferred none))) := by
        obtain ⟨⟨R', h1, h2, h3⟩, h4, -⟩ := hi2
        have e : midS S fs ((List.finRange S.l.length).map (·.1)) = onS S fs := by
          have e0 : (List.finRange S.l.length).map (fun x => x.1) = List.range S.l.length := List.ext_getElem (by simp) (by intro i h1 h2; simp)
          rw [e0, ← hok.len]; exact midS_all S fs hd
        rw [e] at h1
        exact ⟨DiskAt.mk' hF h4 (on_ok hok fs) h1 (fun k hk => .inl (h3 k hk)), h4⟩
      clear hi hi2
      gi_wp2
      refine ⟨by simp, .inl ⟨_, _, rfl, run_takeDeferred hK, ?_⟩⟩
      exact ⟨_, results_none rfl _ _ _, rfl, HFIN.out⟩
    case body =>
      rintro l pre ⟨j, hj⟩ W ⟨⟨R', hm, htp, hDF'⟩, hO, hsz, bD, bF, bI⟩ hlen
      obtain ⟨T, hT⟩ : ∃ T, procT fs S.ts (pre.map (·.1)) = T := ⟨_, rfl⟩
      have hcnt : T.2 ≤ pre.length := by have := procT_cnt fs S.ts (pre.map (·.1)); rw [hT] at this; simpa using this
      have hfew := hok.few
      have hSm : midS S fs (pre.map (·.1)) = { S with down := false, ts := T.1, used := size T.1 } := by unfold midS; rw [hT]
      have hSok := midS_ok hok fs (pre.map (·.1))
      rw [hSm] at hm hSok
      rw [hT] at bI
      have hRl : R'.length = S.l.length := hm.len
      have hjR : j < R'.length := by omega
      obtain ⟨r, hr⟩ : ∃ r, R'[j] = r := ⟨_, rfl⟩
      have hri : R'[j]? = some r := by rw [List.getElem?_eq_getElem hjR, hr]
      have hrm : r ∈ R' := List.mem_of_getElem? hri
      have hgt : (Option.map tp R[j]?).getD none = some ⟨r.b, 0, none⟩ := by
        have : Option.map tp R[j]? = Option.map tp R'[j]? := by rw [← List.getElem?_map, ← List.getElem?_map, htp]
        rw [this, hri]; rfl
      have hTj : T.1[j]? = some r.t := by
        have := hm.ts
        rw [show T.1 = R'.map (·.t) from this, List.getElem?_map, hri]; rfl
      have he := hSok.each r.t (by obtain ⟨_, e⟩ := List.getElem?_eq_some_iff.1 hTj; rw [← e]; exact List.getElem_mem _)
      have ht := hm.tapes.1 r hrm
      obtain ⟨ra, rc, hv, hrc⟩ := own_slice ht.2
      have d0 := ht.1.cell 0
      have d1 := ht.1.cell 1
      simp [hv] at d0 d1
      have e0 := bD.cell 0
      have e1 := bF.cell 0
      have e2 := bI.cell 0
      simp at e0 e1 e2
      -- what is to be shown of the world behind the round
      have HNEXT : Hid (∀ (W' : World) (R2 : List RM) (T2 : List Spool × Nat), T2 = oneT fs T j → DMem W' p m ks vs R2 { S with down := false, ts := T2.1, used := size T2.1 } → R2.map tp = R'.map tp → (∀ k, DF p m ks vs R2 k → DF p m ks vs R' k) → Only (fun k => F k ∨ k = w.heap.size + 1 + 1) W W' → Blk W' (w.heap.size + 1 + 1) 3 #[.int .i64 T2.2] →
          KeepsFrom (W3.alloc (.cells #[.pointer (some ⟨m, 0, none⟩)] 53)).heap.size W W' ∧ KeepC (w.heap.size + 4) W W' ∧ OnI w p m ks vs R S F a n c fs (pre ++ [⟨j, hj⟩]) W') := by
        rintro W' R2 T2 rfl hm2 htp2 hdf2 o2 bi2
        have hlow : ∀ k, (F k ∨ k = w.heap.size + 1 + 1) → k < w.heap.size + 4 := fun k hk => by
          rcases hk with hk | hk
          · have := hF k hk; omega
          · omega
        have hmap : (pre ++ [(⟨j, hj⟩ : Fin S.l.length)]).map (·.1) = pre.map (·.1) ++ [j] := by simp
        refine ⟨keepsFrom_only o2 (by rw [hz4]; exact hlow), keepC_only o2 hlow, ⟨R2, ?_, htp2.trans htp, fun k hk => hDF' k (hdf2 k hk)⟩, hO.trans o2 (fun i e => ?_), by have := o2.size; omega, bD.only o2 (fun e => ?_), bF.only o2 (fun e => ?_), ?_⟩
        · rw [hmap]; unfold midS; rw [procT_snoc, hT]; exact hm2
        · rcases e with e | e
          · exact .inl e
          · exact .inr (by omega)
        · rcases e with e | e
          · have := hF _ e; omega
          · omega
        · rcases e with e | e
          · have := hF _ e; omega
          · omega
        · rw [hmap, procT_snoc, hT]; exact bi2
      have HSZT : Hid (size T.1 ≤ 67108864) := hSok.most
      obtain ⟨L, hL⟩ : ∃ L, r.t.bytes.length = L := ⟨_, rfl⟩
      obtain ⟨Z, hZ⟩ : ∃ Z, r.t.safe = Z := ⟨_, rfl⟩
      rw [hL, hZ] at he
      rw [hL] at d0
      rw [hZ] at d1
      have HM := hid hm; have HRI := hid hri; have HTJ := hid hTj; have HBI := hid bI; have HL := hid hL; have HZZ := hid hZ
      have hLZ1 := he.1
      have hLZ2 := he.2
      have HT0 := hid ht
      rw [hgt]
      clear hm hri hTj hT hSm hSok hgt hr hRl hL hZ bI bD bF he ht hv
      by_cases htail : L = Z
      · have h1 : Hid (oneT fs T j = T) := by
          unfold Hid oneT; rw [HTJ.out]; simp only
          rw [if_pos (by rw [HL.out, HZZ.out]; exact htail)]
        have tb : ((L : Int) - Z == 0) = true := by rw [beq_iff_eq]; omega
        have tb2 : (L : Int) - Z = 0 := by omega
        clear htail
        gi_wp2
        refine regionIn_quiet (C := fun w' => ∃ q, w' = W.drewN q) (by rintro ⟨_, _, h⟩; exact h) (by kernel_rfl) (by kernel_rfl) (by kernel_rfl) ⟨1, rfl⟩ ?_
        repeat (go_big_quiet_step (fail))
        refine wpQuiet_nil ?_
        intro w' hw'
        obtain ⟨q, rfl⟩ := hw'
        gi_wp2
        exact HNEXT.out (W.drewN q) R' T h1.out.symm (HM.out.only ((Only.refl NoF W).drewN q) (fun _ _ e => e)) rfl (fun k hk => hk) ((Only.refl _ W).drewN q) HBI.out
      · have hK0 : 0 < L - Z := by omega
        have hKm : L - Z ≤ 4194304 := by omega
        have hKe : (L : Int) - Z = ((L - Z : Nat) : Int) := by omega
        have HKE := hid hKe
        have tb : ((L : Int) - Z == 0) = false := by rw [beq_eq_false_iff_ne]; omega
        have HONE : Hid (oneT fs T j = (T.1.set j (left r.t (fateOf fs T.2)), if fs = [] then T.2 else T.2 + 1)) := by
          unfold Hid oneT; rw [HTJ.out]; simp only
          rw [if_neg (by rw [HL.out, HZZ.out]; exact htail)]
        clear hKe htail
        obtain ⟨i1, i2, i3, i4⟩ := hI
        by_cases hn0 : n = 0
        · have hfs : fs = [] := List.length_eq_zero_iff.1 (by omega)
          have hT2 : (T.1.set j (left r.t (fateOf fs T.2)), if fs = [] then T.2 else T.2 + 1) = (T.1.set j (left r.t 0), T.2) := by unfold fateOf; rw [if_pos hfs, if_pos hfs]
          have HONE2 : Hid (oneT fs T j = (T.1.set j (left r.t 0), T.2)) := HONE.out.trans hT2
          clear hT2 hfs i1 i3 i4 HONE
          subst hn0
          gi_wp2
          refine regionIn_quiet (C := fun w' => ∃ q, w' = W.drewN q) (by rintro ⟨_, _, h⟩; exact h) (by kernel_rfl) (by kernel_rfl) (by kernel_rfl) ⟨1, rfl⟩ ?_
          repeat (go_big_quiet_step (fail))
          refine wpQuiet_nil ?_
          intro w' hw'
          obtain ⟨q, rfl⟩ := hw'
          gi_wp2_with fail
          have hf1 : (-9223372036854775808 : Int) ≤ 0 := by omega
          have hf2 : (0 : Int) ≤ 9223372036854775807 := by omega
          obtain ⟨Wk, hWk⟩ : ∃ Wk, Wk = W.drewN q := ⟨_, rfl⟩
          have HMK : Hid (DMem Wk p m ks vs R' { S with down := false, ts := T.1, used := size T.1 }) := by rw [hWk]; exact HM.out.only ((Only.refl NoF W).drewN q) (fun _ _ e => e)
          have HBK : Hid (Blk Wk (w.heap.size + 1 + 1) 3 #[.int .i64 T.2]) := by rw [hWk]; exact HBI.out
          have OWK : Hid (Only (fun k => F k ∨ k = w.heap.size + 1 + 1) W Wk) := by rw [hWk]; exact (Only.refl _ W).drewN q
          have w0 : Wk.cell? ⟨w.heap.size, 0, none⟩ = some (.pointer (some ⟨p, 0, none⟩)) := by rw [hWk]; exact e0
          have w1 : Wk.cell? ⟨r.b, 1, none⟩ = some (.int .i64 Z) := by rw [hWk]; exact d1
          rw [← hWk]
          clear hWk
          -- kept, and what is left: f the fate, Wk the world
          obtain ⟨n0, hn0'⟩ : ∃ n0, (kept 0 (L - Z)).1 = n0 := ⟨_, rfl⟩
          obtain ⟨tr, htr⟩ : ∃ tr, (kept 0 (L - Z)).2 = tr := ⟨_, rfl⟩
          have hn0le : n0 ≤ L - Z := by rw [← hn0']; exact kept_le _ _
          have CK := kept_int 0 ((L : Int) - Z) (L - Z) Wk HKE.out hf1 hf2 hKm hK0
          rw [hn0', htr] at CK
          have HLEFT : Hid (left r.t 0 = ⟨if tr = true ∧ 0 < n0 then tear (r.t.bytes.take (Z + n0)) else r.t.bytes.take (Z + n0), (if tr = true ∧ 0 < n0 then tear (r.t.bytes.take (Z + n0)) else r.t.bytes.take (Z + n0)).length⟩) := by
            unfold Hid left
            rw [HL.out, HZZ.out, hn0', htr]
          have hBl : (r.t.bytes.take (Z + n0)).length = Z + n0 := by rw [List.length_take, HL.out]; omega
          have hsz1 : L ≤ size T.1 := by rw [← HL.out]; exact Reel.size_mem (List.mem_of_getElem? HTJ.out)
          have hsz2 := HSZT.out
          have HUSED : Hid (size T.1 - (L - (Z + n0)) = size (T.1.set j (left r.t 0))) := by
            obtain ⟨hjl, hje⟩ := List.getElem?_eq_some_iff.1 HTJ.out
            have := size_set T.1 j hjl (left r.t 0)
            rw [hje, HL.out] at this
            have h5 : (left r.t 0).bytes.length = Z + n0 := by
              rw [HLEFT.out]; show (if _ then tear _ else _ : List UInt8).length = _
              split
              · rw [tear_len, hBl]
              · exact hBl
            rw [h5] at this
            unfold Hid; omega
          -- all that lies behind cut
          have HREST : Hid (∀ w2, (∃ v', v'.ownBlock = r.v.ownBlock ∧ DMem w2 p m ks vs (R'.set j ⟨r.b, v', cutT r.t (Z + n0)⟩) { S with down := false, ts := T.1.set j (cutT r.t (Z + n0)), used := size T.1 - (L - (Z + n0)) }) → Only (fun k => k = p ∨ k = r.b) Wk.drew w2 →
              ∃ R2, DMem w2 p m ks vs R2 { S with down := false, ts := T.1.set j (cutT r.t (Z + n0)), used := size T.1 - (L - (Z + n0)) } ∧ (∃ v', R2[j]? = some ⟨r.b, v', cutT r.t (Z + n0)⟩) ∧
                (∀ W5 R5 t5, DMem W5 p m ks vs R5 { S with down := false, ts := T.1.set j t5, used := size T.1 - (L - (Z + n0)) } → R5.map tp = R2.map tp → (∀ k, DF p m ks vs R5 k → DF p m ks vs R2 k) → (∀ r5, R2[j]? = some r5 → Only (TF r5) w2 W5) → t5 = left r.t 0 →
                  KeepsFrom (W3.alloc (.cells #[.pointer (some ⟨m, 0, none⟩)] 53)).heap.size W W5 ∧ KeepC (w.heap.size + 4) W W5 ∧ OnI w p m ks vs R S F a 0 c fs (pre ++ [⟨j, hj⟩]) W5)) := by
            rintro w2 ⟨v', hv', hm2⟩ o2
            have hlt := (List.getElem?_eq_some_iff.1 HRI.out).1
            have hget : (R'.set j ⟨r.b, v', cutT r.t (Z + n0)⟩)[j]? = some ⟨r.b, v', cutT r.t (Z + n0)⟩ := by rw [List.getElem?_set_self hlt]
            refine ⟨_, hm2, ⟨v', hget⟩, ?_⟩
            rintro W5 R5 t5 hm5 htp5 hdf5 o5 rfl
            have htp2 : (R'.set j ⟨r.b, v', cutT r.t (Z + n0)⟩).map tp = R'.map tp := set_tp HRI.out rfl
            have o5' := o5 _ hget
            have hF1 : ∀ k, (k = p ∨ TF r k) → F k := fun k hk => by
              rcases hk with rfl | hk
              · exact hDF' _ df_p
              · exact hDF' _ (df_r (List.mem_of_getElem? HRI.out) hk)
            have O : Only (fun k => F k ∨ k = w.heap.size + 1 + 1) W W5 := by
              refine (OWK.out.drew.trans o2 (fun i e => .inl (.inl ?_))).trans o5' (fun i e => .inl (.inl ?_))
              · rcases e with rfl | rfl
                · exact hF1 _ (.inl rfl)
                · exact hF1 _ (.inr (.inl rfl))
              · rcases e with rfl | e
                · exact hF1 _ (.inr (.inl rfl))
                · rw [hv'] at e; exact hF1 _ (.inr (.inr e))
            refine HNEXT.out W5 R5 (T.1.set j (left r.t 0), T.2) HONE2.out.symm ?_ (htp5.trans htp2) (fun k hk => df_set0 (r' := ⟨r.b, v', cutT r.t (Z + n0)⟩) HRI.out rfl hv' (hdf5 k hk)) O ?_
            · rw [← HUSED.out]; exact hm5
            · refine ((HBK.out.drew).only o2 (fun e => ?_)).only o5' (fun e => ?_)
              · rcases e with e | e
                · have := hF _ (hF1 _ (.inl rfl)); omega
                · have := hF _ (hF1 r.b (.inr (.inl rfl))); omega
              · have : F (w.heap.size + 1 + 1) := by
                  rcases e with e | e
                  · exact hF1 _ (.inr (.inl e))
                  · rw [hv'] at e; exact hF1 _ (.inr (.inr e))
                have := hF _ this; omega
          have HCUT : Hid (Calls Try.prog 52 #[.pointer (some ⟨p, 0, none⟩), .pointer (some ⟨r.b, 0, none⟩), .int .i64 ((Z : Int) + n0)] Wk.drew fun e w2 => e = .returned (.tuple #[]) ∧ (∃ v', v'.ownBlock = r.v.ownBlock ∧ DMem w2 p m ks vs (R'.set j ⟨r.b, v', cutT r.t (Z + n0)⟩) { S with down := false, ts := T.1.set j (cutT r.t (Z + n0)), used := size T.1 - (L - (Z + n0)) }) ∧ Only (fun k => k = p ∨ k = r.b) Wk.drew w2) := by
            have := cut_mem p m ks vs R' _ j r (Z + n0) Wk.drew HMK.out.drew HRI.out (by rw [HL.out]; omega) (by rw [HL.out]; exact hsz1) hsz2 (by rw [HZZ.out]; omega)
            rw [HL.out] at this
            unfold Hid
            rw [show (Z : Int) + n0 = ((Z + n0 : Nat) : Int) by omega]
            exact this
          have HBL := hid hBl
          have hM0 : Z + n0 ≤ 4194304 := by omega
          clear hn0' htr hBl hsz2
          refine ⟨trivial, (callsIn_inR CK).mono ?_⟩; rintro e w' ⟨rfl, rfl⟩
          clear CK
          gi_wp2_with fail
          refine regionIn_tail (by rintro ⟨_, _, h⟩; exact h) 8 (by kernel_rfl) (by kernel_rfl) (by kernel_rfl) ?_
          simp only [List.take_succ_cons, List.take_zero, List.drop_succ_cons, List.drop_zero]
          repeat still_step
          refine wpStill_nil ?_
          change wpList _ _ _ _ _ Wk.drew
          go_wp2_with fail
          refine HCUT.out.mono ?_; rintro e w2 ⟨rfl, hm2, o2⟩
          obtain ⟨R2, hm2, ⟨v', hg2⟩, hrest⟩ := HREST.out w2 hm2 o2
          have HRST := hid hrest; have HM2 := hid hm2; have HG2 := hid hg2
          clear hrest hm2 hg2 o2
          go_wp2_with fail
          by_cases htorn : tr = true ∧ 0 < n0
          · obtain ⟨rfl, hn0p⟩ := htorn
            have hex : ∃ A cb, r.t.bytes.take (Z + n0) = A ++ [cb] := by
              have hne : r.t.bytes.take (Z + n0) ≠ [] := fun e => by have := HBL.out; rw [e] at this; simp at this; omega
              exact ⟨_, _, (List.dropLast_concat_getLast hne).symm⟩
            obtain ⟨A, cb, hA⟩ := hex
            have hAl : A.length + 1 = Z + n0 := by have := HBL.out; rw [hA] at this; simpa using this
            obtain ⟨g, cap, hv2, k1, k2, hm3, o3⟩ := tear_step (HM2.out.drew) HG2.out A cb hA
            have hlt2 := (List.getElem?_eq_some_iff.1 HG2.out).1
            have hg3 : (R2.set j ⟨r.b, v', { cutT r.t (Z + n0) with bytes := A ++ [cb ^^^ 0x55] }⟩)[j]? = some ⟨r.b, v', { cutT r.t (Z + n0) with bytes := A ++ [cb ^^^ 0x55] }⟩ := by rw [List.getElem?_set_self hlt2]
            have HG3 := hid hg3
            obtain rfl : v' = .slice (some ⟨g, 0, none⟩) (A.length + 1) cap := hv2
            have ht2 := (HM2.out.drew).tapes.1 _ (List.mem_of_getElem? HG2.out)
            have z0 : w2.cell? ⟨r.b, 0, none⟩ = some (.slice (some ⟨g, 0, none⟩) (A.length + 1) cap) := (ht2.1.cell 0).trans rfl
            have hx : bits .xor .u8 (cb.toNat : Int) 85 = ((cb ^^^ 0x55).toNat : Int) := by
              rw [u8_xor _ _ (by omega) (by have := cb.toNat_lt; omega) (by omega) (by omega)]
              rfl
            have hw1 : IntKind.i64.wrap (A.length : Int) = A.length := by rw [IntKind.wrap_i64]; omega
            have hcb := cb.toNat_lt
            have hlt1 : (A.length : Int) < A.length + 1 := by omega
            have gn0 : (0 : Int) < n0 := by omega
            have HO3 := hid o3; have HA := hid hA; have HH3 := hid hm3; have HAL := hid hAl
            clear hm3 hg3 o3 ht2 hA hAl
            gi_wp2_with fail
            refine regionIn_tail (by rintro ⟨_, _, h⟩; exact h) 14 (by kernel_rfl) (by kernel_rfl) (by kernel_rfl) ?_
            simp only [List.take_succ_cons, List.take_zero, List.drop_succ_cons, List.drop_zero]
            repeat still_step
            refine wpStill_nil ?_
            change wpList _ _ _ _ _ w2.drew
            go_wp2_with fail
            generalize hW4 : (w2.setCell ⟨g, A.length, none⟩ (.int .u8 ((cb.toNat ^^^ 85 : Nat) : Int))).drew = W4
            have EW : w2.drew.setCell ⟨g, A.length, none⟩ (.int .u8 ((cb ^^^ 0x55).toNat : Int)) = W4 := by rw [← hW4]; go_simp
            have hm3 := HH3.out
            have o3 := HO3.out
            rw [EW] at hm3 o3
            clear hW4 EW
            obtain ⟨s1, s2, ⟨sa, sc, s3⟩, hm4, o4⟩ := safe_step hm3 HG3.out ((A.length : Int) + 1) (by simp)
            have s4 : W4.cell? ⟨r.b, 0, none⟩ = some (.slice sa (A.length + 1) sc) := by rw [s3]; simp
            have HM4 := hid hm4; have HO3 := hid o3; have HO4 := hid o4
            clear hm3 hm4 o3 o4 s3 k1 k2 z0
            gi_wp2_with fail
            have hm4 := HM4.out
            simp only [List.set_set] at hm4
            have o5 : ∀ r5, R2[j]? = some r5 → Only (TF r5) w2 (W4.setCell ⟨r.b, 1, none⟩ (.int .i64 ((A.length : Int) + 1))) := fun r5 h5 => by
              rw [HG2.out] at h5
              obtain rfl := Option.some.inj h5
              exact ((Only.refl (TF ⟨r.b, .slice (some ⟨g, 0, none⟩) (A.length + 1) cap, cutT r.t (Z + n0)⟩) w2).drew.trans HO3.out (fun i e => .inl e)).trans HO4.out (fun i e => .inl e)
            have hfin := HRST.out _ _ _ hm4 (set_tp HG2.out rfl) (fun k hk => by refine df_set0 HG2.out ?_ ?_ hk <;> rfl) o5 (by rw [HLEFT.out]; simp [hn0p, HA.out, tear_snoc])
            first | exact hfin | (rw [hz4] at hfin; exact hfin)
          · obtain ⟨s1, s2, ⟨sa, sc, s3⟩, hm4, o4⟩ := safe_step HM2.out HG2.out ((Z : Int) + n0) (by show _ = (((r.t.bytes.take (Z + n0)).length : Nat) : Int); rw [HBL.out]; omega)
            have s4 : w2.cell? ⟨r.b, 0, none⟩ = some (.slice sa (Z + n0 : Nat) sc) := by rw [s3]; show some (Value.slice sa (r.t.bytes.take (Z + n0)).length sc) = _; rw [HBL.out]
            have HM4 := hid hm4; have HO4 := hid o4
            clear hm4 o4 s3
            have hfin : KeepsFrom (W3.alloc (.cells #[.pointer (some ⟨m, 0, none⟩)] 53)).heap.size W (w2.setCell ⟨r.b, 1, none⟩ (.int .i64 ((Z : Int) + n0))) ∧ KeepC (w.heap.size + 4) W (w2.setCell ⟨r.b, 1, none⟩ (.int .i64 ((Z : Int) + n0))) ∧ OnI w p m ks vs R S F a 0 c fs (pre ++ [⟨j, hj⟩]) (w2.setCell ⟨r.b, 1, none⟩ (.int .i64 ((Z : Int) + n0))) := by
              have hm4 := HM4.out
              simp only [List.set_set] at hm4
              have o5 : ∀ r5, R2[j]? = some r5 → Only (TF r5) w2 (w2.setCell ⟨r.b, 1, none⟩ (.int .i64 ((Z : Int) + n0))) := fun r5 h5 => by
                rw [HG2.out] at h5
                obtain rfl := Option.some.inj h5
                exact HO4.out
              exact HRST.out _ _ _ hm4 (set_tp HG2.out rfl) (fun k hk => by refine df_set0 HG2.out ?_ ?_ hk <;> rfl) o5 (by rw [HLEFT.out, if_neg htorn]; rfl)
            have HFIN := hid hfin
            clear hfin
            by_cases htr : tr = true
            · subst htr
              have gn1 : ¬ 0 < n0 := fun h0 => htorn ⟨rfl, h0⟩
              have gn2 : ¬ (0 : Int) < n0 := by omega
              clear htorn
              gi_wp2_with fail
              have hfin := HFIN.out
              first | exact hfin | (rw [hz4] at hfin; exact hfin)
            · obtain rfl : tr = false := by simpa using htr
              clear htorn htr
              gi_wp2_with fail
              have hfin := HFIN.out
              first | exact hfin | (rw [hz4] at hfin; exact hfin)
        · have hnp : 0 < n := by omega
          have hne : fs ≠ [] := fun e => by rw [e] at i1; simp at i1; omega
          rcases i4 with h0 | ⟨fb, fo, ha, hfc⟩
          · exact absurd h0 hn0
          obtain ⟨K, hK⟩ : ∃ K, T.2 % n = K := ⟨_, rfl⟩
          have hKn : K < n := by rw [← hK]; exact Nat.mod_lt _ hnp
          obtain ⟨fv, hfv⟩ : ∃ fv, fs.getD K 0 = fv := ⟨_, rfl⟩
          have hfm : fv ∈ fs := by
            rw [← hfv, List.getD_eq_getElem?_getD, List.getElem?_eq_getElem (by omega)]
            exact List.getElem_mem _
          have hf1 : (-9223372036854775808 : Int) ≤ fv := (i3 fv hfm).1
          have hf2 : fv ≤ 9223372036854775807 := (i3 fv hfm).2
          have hT2 : (T.1.set j (left r.t (fateOf fs T.2)), if fs = [] then T.2 else T.2 + 1) = (T.1.set j (left r.t fv), T.2 + 1) := by unfold fateOf; rw [if_neg hne, if_neg hne, i1, hK, hfv]
          have HONE2 : Hid (oneT fs T j = (T.1.set j (left r.t fv), T.2 + 1)) := HONE.out.trans hT2
          have cF : W.cell? ⟨fb, fo + K, none⟩ = some (.int .i64 fv) := by rw [← hfv]; exact hO.cell (hfc K hKn) (hFa hn0 _ _ ha)
          have f2 : W.frozen? ⟨w.heap.size + 1 + 1, 0, none⟩ = false := HBI.out.frozen 0
          have tm : (T.2 : Int).tmod (n : Int) = (K : Int) := by rw [← hK]; exact (Int.ofNat_tmod _ _).symm
          have nz : ¬ (n : Int) = 0 := by omega
          have nz2 : ((n : Int) == 0) = false := by rw [beq_eq_false_iff_ne]; exact nz
          have nz3 : ¬ n = 0 := hn0
          have kn : (K : Int) < n := by omega
          have kw : IntKind.i64.wrap (K : Int) = K := by rw [IntKind.wrap_i64]; omega
          have tw : IntKind.i64.wrap ((T.2 : Int) + 1) = T.2 + 1 := by rw [IntKind.wrap_i64]; omega
          have HFM := hid hfm; have HFC := hid hfc; have HFAA := hid hFa
          subst ha
          have HNE := hid hne; have HI1 := hid i1; have HI3 := hid i3; have HKK := hid hK; have HFV := hid hfv
          clear hT2 HONE hfm hfc hFa hne i1 i3 hK hfv
          gi_wp2
          refine regionIn_quiet (C := fun w' => ∃ q, w' = W.drewN q) (by rintro ⟨_, _, h⟩; exact h) (by kernel_rfl) (by kernel_rfl) (by kernel_rfl) ⟨1, rfl⟩ ?_
          repeat (go_big_quiet_step (fail))
          refine wpQuiet_nil ?_
          intro w' hw'
          obtain ⟨q, rfl⟩ := hw'
          gi_wp2_with fail
          refine regionIn_quiet (C := fun w' => ∃ q, w' = W.drewN q) (by rintro ⟨_, _, h⟩; exact h) (by kernel_rfl) (by kernel_rfl) (by kernel_rfl) ⟨q + 1, rfl⟩ ?_
          repeat (go_big_quiet_step (fail))
          refine wpQuiet_nil ?_
          intro w' hw'
          obtain ⟨q, rfl⟩ := hw'
          gi_wp2_with fail
          obtain ⟨Wk, hWk⟩ : ∃ Wk, Wk = (W.drewN q).setCell ⟨w.heap.size + 1 + 1, 0, none⟩ (.int .i64 ((T.2 : Int) + 1)) := ⟨_, rfl⟩
          have O : Only (· = w.heap.size + 1 + 1) W Wk := by rw [hWk]; exact ((Only.refl (· = w.heap.size + 1 + 1) W).drewN q).setCell (p := ⟨w.heap.size + 1 + 1, 0, none⟩) (.inl rfl) _
          have HMK : Hid (DMem Wk p m ks vs R' { S with down := false, ts := T.1, used := size T.1 }) := HM.out.only O (fun k hk e => by have := hF k (hDF' k hk); omega)
          have HBK : Hid (Blk Wk (w.heap.size + 1 + 1) 3 #[.int .i64 ((T.2 + 1 : Nat) : Int)]) := by
            have h0 : Blk (W.drewN q) (w.heap.size + 1 + 1) 3 #[.int .i64 T.2] := HBI.out
            have h1 := h0.set 0 (.int .i64 ((T.2 : Int) + 1))
            rw [hWk]
            unfold Hid
            simpa using h1
          have OWK : Hid (Only (fun k => F k ∨ k = w.heap.size + 1 + 1) W Wk) := O.mono (fun k e => .inr e)
          have w0 : Wk.cell? ⟨w.heap.size, 0, none⟩ = some (.pointer (some ⟨p, 0, none⟩)) := O.cell e0 (fun (e : w.heap.size = w.heap.size + 1 + 1) => by omega)
          have w1 : Wk.cell? ⟨r.b, 1, none⟩ = some (.int .i64 Z) := O.cell d1 (fun (e : r.b = w.heap.size + 1 + 1) => by have := hF _ (hDF' _ (df_r hrm (.inl rfl))); omega)
          rw [← hWk]
          clear hWk O tm kn kw tw cF
          -- kept, and what is left: f the fate, Wk the world
          obtain ⟨n0, hn0'⟩ : ∃ n0, (kept fv (L - Z)).1 = n0 := ⟨_, rfl⟩
          obtain ⟨tr, htr⟩ : ∃ tr, (kept fv (L - Z)).2 = tr := ⟨_, rfl⟩
          have hn0le : n0 ≤ L - Z := by rw [← hn0']; exact kept_le _ _
          have CK := kept_int fv ((L : Int) - Z) (L - Z) Wk HKE.out hf1 hf2 hKm hK0
          rw [hn0', htr] at CK
          have HLEFT : Hid (left r.t fv = ⟨if tr = true ∧ 0 < n0 then tear (r.t.bytes.take (Z + n0)) else r.t.bytes.take (Z + n0), (if tr = true ∧ 0 < n0 then tear (r.t.bytes.take (Z + n0)) else r.t.bytes.take (Z + n0)).length⟩) := by
            unfold Hid left
            rw [HL.out, HZZ.out, hn0', htr]
          have hBl : (r.t.bytes.take (Z + n0)).length = Z + n0 := by rw [List.length_take, HL.out]; omega
          have hsz1 : L ≤ size T.1 := by rw [← HL.out]; exact Reel.size_mem (List.mem_of_getElem? HTJ.out)
          have hsz2 := HSZT.out
          have HUSED : Hid (size T.1 - (L - (Z + n0)) = size (T.1.set j (left r.t fv))) := by
            obtain ⟨hjl, hje⟩ := List.getElem?_eq_some_iff.1 HTJ.out
            have := size_set T.1 j hjl (left r.t fv)
            rw [hje, HL.out] at this
            have h5 : (left r.t fv).bytes.length = Z + n0 := by
              rw [HLEFT.out]; show (if _ then tear _ else _ : List UInt8).length = _
              split
              · rw [tear_len, hBl]
              · exact hBl
            rw [h5] at this
            unfold Hid; omega
          -- all that lies behind cut
          have HREST : Hid (∀ w2, (∃ v', v'.ownBlock = r.v.ownBlock ∧ DMem w2 p m ks vs (R'.set j ⟨r.b, v', cutT r.t (Z + n0)⟩) { S with down := false, ts := T.1.set j (cutT r.t (Z + n0)), used := size T.1 - (L - (Z + n0)) }) → Only (fun k => k = p ∨ k = r.b) Wk.drew w2 →
              ∃ R2, DMem w2 p m ks vs R2 { S with down := false, ts := T.1.set j (cutT r.t (Z + n0)), used := size T.1 - (L - (Z + n0)) } ∧ (∃ v', R2[j]? = some ⟨r.b, v', cutT r.t (Z + n0)⟩) ∧
                (∀ W5 R5 t5, DMem W5 p m ks vs R5 { S with down := false, ts := T.1.set j t5, used := size T.1 - (L - (Z + n0)) } → R5.map tp = R2.map tp → (∀ k, DF p m ks vs R5 k → DF p m ks vs R2 k) → (∀ r5, R2[j]? = some r5 → Only (TF r5) w2 W5) → t5 = left r.t fv →
                  KeepsFrom (W3.alloc (.cells #[.pointer (some ⟨m, 0, none⟩)] 53)).heap.size W W5 ∧ KeepC (w.heap.size + 4) W W5 ∧ OnI w p m ks vs R S F (some ⟨fb, fo, none⟩) n c fs (pre ++ [⟨j, hj⟩]) W5)) := by
            rintro w2 ⟨v', hv', hm2⟩ o2
            have hlt := (List.getElem?_eq_some_iff.1 HRI.out).1
            have hget : (R'.set j ⟨r.b, v', cutT r.t (Z + n0)⟩)[j]? = some ⟨r.b, v', cutT r.t (Z + n0)⟩ := by rw [List.getElem?_set_self hlt]
            refine ⟨_, hm2, ⟨v', hget⟩, ?_⟩
            rintro W5 R5 t5 hm5 htp5 hdf5 o5 rfl
            have htp2 : (R'.set j ⟨r.b, v', cutT r.t (Z + n0)⟩).map tp = R'.map tp := set_tp HRI.out rfl
            have o5' := o5 _ hget
            have hF1 : ∀ k, (k = p ∨ TF r k) → F k := fun k hk => by
              rcases hk with rfl | hk
              · exact hDF' _ df_p
              · exact hDF' _ (df_r (List.mem_of_getElem? HRI.out) hk)
            have O : Only (fun k => F k ∨ k = w.heap.size + 1 + 1) W W5 := by
              refine (OWK.out.drew.trans o2 (fun i e => .inl (.inl ?_))).trans o5' (fun i e => .inl (.inl ?_))
              · rcases e with rfl | rfl
                · exact hF1 _ (.inl rfl)
                · exact hF1 _ (.inr (.inl rfl))
              · rcases e with rfl | e
                · exact hF1 _ (.inr (.inl rfl))
                · rw [hv'] at e; exact hF1 _ (.inr (.inr e))
            refine HNEXT.out W5 R5 (T.1.set j (left r.t fv), T.2 + 1) HONE2.out.symm ?_ (htp5.trans htp2) (fun k hk => df_set0 (r' := ⟨r.b, v', cutT r.t (Z + n0)⟩) HRI.out rfl hv' (hdf5 k hk)) O ?_
            · rw [← HUSED.out]; exact hm5
            · refine ((HBK.out.drew).only o2 (fun e => ?_)).only o5' (fun e => ?_)
              · rcases e with e | e
                · have := hF _ (hF1 _ (.inl rfl)); omega
                · have := hF _ (hF1 r.b (.inr (.inl rfl))); omega
              · have : F (w.heap.size + 1 + 1) := by
                  rcases e with e | e
                  · exact hF1 _ (.inr (.inl e))
                  · rw [hv'] at e; exact hF1 _ (.inr (.inr e))
                have := hF _ this; omega
          have HCUT : Hid (Calls Try.prog 52 #[.pointer (some ⟨p, 0, none⟩), .pointer (some ⟨r.b, 0, none⟩), .int .i64 ((Z : Int) + n0)] Wk.drew fun e w2 => e = .returned (.tuple #[]) ∧ (∃ v', v'.ownBlock = r.v.ownBlock ∧ DMem w2 p m ks vs (R'.set j ⟨r.b, v', cutT r.t (Z + n0)⟩) { S with down := false, ts := T.1.set j (cutT r.t (Z + n0)), used := size T.1 - (L - (Z + n0)) }) ∧ Only (fun k => k = p ∨ k = r.b) Wk.drew w2) := by
            have := cut_mem p m ks vs R' _ j r (Z + n0) Wk.drew HMK.out.drew HRI.out (by rw [HL.out]; omega) (by rw [HL.out]; exact hsz1) hsz2 (by rw [HZZ.out]; omega)
            rw [HL.out] at this
            unfold Hid
            rw [show (Z : Int) + n0 = ((Z + n0 : Nat) : Int) by omega]
            exact this
          have HBL := hid hBl
          have hM0 : Z + n0 ≤ 4194304 := by omega
          clear hn0' htr hBl hsz2
          refine ⟨trivial, (callsIn_inR CK).mono ?_⟩; rintro e w' ⟨rfl, rfl⟩
          clear CK
          gi_wp2_with fail
          refine regionIn_tail (by rintro ⟨_, _, h⟩; exact h) 8 (by kernel_rfl) (by kernel_rfl) (by kernel_rfl) ?_
          simp only [List.take_succ_cons, List.take_zero, List.drop_succ_cons, List.drop_zero]
          repeat still_step
          refine wpStill_nil ?_
          change wpList _ _ _ _ _ Wk.drew
          go_wp2_with fail
          refine HCUT.out.mono ?_; rintro e w2 ⟨rfl, hm2, o2⟩
          obtain ⟨R2, hm2, ⟨v', hg2⟩, hrest⟩ := HREST.out w2 hm2 o2
          have HRST := hid hrest; have HM2 := hid hm2; have HG2 := hid hg2
          clear hrest hm2 hg2 o2
          go_wp2_with fail
          by_cases htorn : tr = true ∧ 0 < n0
          · obtain ⟨rfl, hn0p⟩ := htorn
            have hex : ∃ A cb, r.t.bytes.take (Z + n0) = A ++ [cb] := by
              have hne : r.t.bytes.take (Z + n0) ≠ [] := fun e => by have := HBL.out; rw [e] at this; simp at this; omega
              exact ⟨_, _, (List.dropLast_concat_getLast hne).symm⟩
            obtain ⟨A, cb, hA⟩ := hex
            have hAl : A.length + 1 = Z + n0 := by have := HBL.out; rw [hA] at this; simpa using this
            obtain ⟨g, cap, hv2, k1, k2, hm3, o3⟩ := tear_step (HM2.out.drew) HG2.out A cb hA
            have hlt2 := (List.getElem?_eq_some_iff.1 HG2.out).1
            have hg3 : (R2.set j ⟨r.b, v', { cutT r.t (Z + n0) with bytes := A ++ [cb ^^^ 0x55] }⟩)[j]? = some ⟨r.b, v', { cutT r.t (Z + n0) with bytes := A ++ [cb ^^^ 0x55] }⟩ := by rw [List.getElem?_set_self hlt2]
            have HG3 := hid hg3
            obtain rfl : v' = .slice (some ⟨g, 0, none⟩) (A.length + 1) cap := hv2
            have ht2 := (HM2.out.drew).tapes.1 _ (List.mem_of_getElem? HG2.out)
            have z0 : w2.cell? ⟨r.b, 0, none⟩ = some (.slice (some ⟨g, 0, none⟩) (A.length + 1) cap) := (ht2.1.cell 0).trans rfl
            have hx : bits .xor .u8 (cb.toNat : Int) 85 = ((cb ^^^ 0x55).toNat : Int) := by
              rw [u8_xor _ _ (by omega) (by have := cb.toNat_lt; omega) (by omega) (by omega)]
              rfl
            have hw1 : IntKind.i64.wrap (A.length : Int) = A.length := by rw [IntKind.wrap_i64]; omega
            have hcb := cb.toNat_lt
            have hlt1 : (A.length : Int) < A.length + 1 := by omega
            have gn0 : (0 : Int) < n0 := by omega
            have HO3 := hid o3; have HA := hid hA; have HH3 := hid hm3; have HAL := hid hAl
            clear hm3 hg3 o3 ht2 hA hAl
            gi_wp2_with fail
            refine regionIn_tail (by rintro ⟨_, _, h⟩; exact h) 14 (by kernel_rfl) (by kernel_rfl) (by kernel_rfl) ?_
            simp only [List.take_succ_cons, List.take_zero, List.drop_succ_cons, List.drop_zero]
            repeat still_step
            refine wpStill_nil ?_
            change wpList _ _ _ _ _ w2.drew
            go_wp2_with fail
            generalize hW4 : (w2.setCell ⟨g, A.length, none⟩ (.int .u8 ((cb.toNat ^^^ 85 : Nat) : Int))).drew = W4
            have EW : w2.drew.setCell ⟨g, A.length, none⟩ (.int .u8 ((cb ^^^ 0x55).toNat : Int)) = W4 := by rw [← hW4]; go_simp
            have hm3 := HH3.out
            have o3 := HO3.out
            rw [EW] at hm3 o3
            clear hW4 EW
            obtain ⟨s1, s2, ⟨sa, sc, s3⟩, hm4, o4⟩ := safe_step hm3 HG3.out ((A.length : Int) + 1) (by simp)
            have s4 : W4.cell? ⟨r.b, 0, none⟩ = some (.slice sa (A.length + 1) sc) := by rw [s3]; simp
            have HM4 := hid hm4; have HO3 := hid o3; have HO4 := hid o4
            clear hm3 hm4 o3 o4 s3 k1 k2 z0
            gi_wp2_with fail
            have hm4 := HM4.out
            simp only [List.set_set] at hm4
            have o5 : ∀ r5, R2[j]? = some r5 → Only (TF r5) w2 (W4.setCell ⟨r.b, 1, none⟩ (.int .i64 ((A.length : Int) + 1))) := fun r5 h5 => by
              rw [HG2.out] at h5
              obtain rfl := Option.some.inj h5
              exact ((Only.refl (TF ⟨r.b, .slice (some ⟨g, 0, none⟩) (A.length + 1) cap, cutT r.t (Z + n0)⟩) w2).drew.trans HO3.out (fun i e => .inl e)).trans HO4.out (fun i e => .inl e)
            have hfin := HRST.out _ _ _ hm4 (set_tp HG2.out rfl) (fun k hk => by refine df_set0 HG2.out ?_ ?_ hk <;> rfl) o5 (by rw [HLEFT.out]; simp [hn0p, HA.out, tear_snoc])
            first | exact hfin | (rw [hz4] at hfin; exact hfin)
          · obtain ⟨s1, s2, ⟨sa, sc, s3⟩, hm4, o4⟩ := safe_step HM2.out HG2.out ((Z : Int) + n0) (by show _ = (((r.t.bytes.take (Z + n0)).length : Nat) : Int); rw [HBL.out]; omega)
            have s4 : w2.cell? ⟨r.b, 0, none⟩ = some (.slice sa (Z + n0 : Nat) sc) := by rw [s3]; show some (Value.slice sa (r.t.bytes.take (Z + n0)).length sc) = _; rw [HBL.out]
            have HM4 := hid hm4; have HO4 := hid o4
            clear hm4 o4 s3
            have hfin : KeepsFrom (W3.alloc (.cells #[.pointer (some ⟨m, 0, none⟩)] 53)).heap.size W (w2.setCell ⟨r.b, 1, none⟩ (.int .i64 ((Z : Int) + n0))) ∧ KeepC (w.heap.size + 4) W (w2.setCell ⟨r.b, 1, none⟩ (.int .i64 ((Z : Int) + n0))) ∧ OnI w p m ks vs R S F (some ⟨fb, fo, none⟩) n c fs (pre ++ [⟨j, hj⟩]) (w2.setCell ⟨r.b, 1, none⟩ (.int .i64 ((Z : Int) + n0))) := by
              have hm4 := HM4.out
              simp only [List.set_set] at hm4
              have o5 : ∀ r5, R2[j]? = some r5 → Only (TF r5) w2 (w2.setCell ⟨r.b, 1, none⟩ (.int .i64 ((Z : Int) + n0))) := fun r5 h5 => by
                rw [HG2.out] at h5
                obtain rfl := Option.some.inj h5
                exact HO4.out
              exact HRST.out _ _ _ hm4 (set_tp HG2.out rfl) (fun k hk => by refine df_set0 HG2.out ?_ ?_ hk <;> rfl) o5 (by rw [HLEFT.out, if_neg htorn]; rfl)
            have HFIN := hid hfin
            clear hfin
            by_cases htr : tr = true
            · subst htr
              have gn1 : ¬ 0 < n0 := fun h0 => htorn ⟨rfl, h0⟩
              have gn2 : ¬ (0 : Int) < n0 := by omega
              clear htorn
              gi_wp2_with fail
              have hfin := HFIN.out
              first | exact hfin | (rw [hz4] at hfin; exact hfin)
            · obtain rfl : tr = false := by simpa using htr
              clear htorn htr
              gi_wp2_with fail
              have hfin := HFIN.out
              first | exact hfin | (rw [hz4] at hfin; exact hfin)
end Go.Proofs.Ytnhgfhbicaiilaa
/- A reel's state as a law sees it: what stands under each name. Plain Lean. -/
namespace Go.Proofs.Ytnhgfhbicaiilaa.Reel
open Go.RowKit
set_option linter.unusedVariables false

def upd (f : ByteArray → Option Spool) (x : ByteArray) (v : Option Spool) : ByteArray → Option Spool := fun y => if y = x then v else f y
theorem upd_self (f : ByteArray → Option Spool) (x : ByteArray) (v : Option Spool) : upd f x v x = v := by unfold upd; rw [if_pos rfl]
theorem upd_other (f : ByteArray → Option Spool) {x y : ByteArray} (v : Option Spool) (h : y ≠ x) : upd f x v y = f y := by unfold upd; rw [if_neg h]
/-- a state with a room of 2^26; d: down; m: armed; n: acts and lives at most; k: names at most; u: bytes at most -/
structure View (S : St) (d : Bool) (m n k u : Nat) (f : ByteArray → Option Spool) : Prop where
  ok : S.Ok
  room : S.room = 67108864
  down : S.down = d
  armed : S.armed = m
  fits : S.Fits n
  few : S.l.length ≤ k
  used : S.used ≤ u
  at_ : ∀ x, Reel.at_ S x = f x
section
variable {S : St} {d : Bool} {m n k u : Nat} {f : ByteArray → Option Spool} {x : ByteArray} {t : Spool}
theorem view_new : View (new 67108864) false 0 0 0 0 (fun _ => none) := by
  refine ⟨new_ok _, rfl, rfl, rfl, ⟨Nat.le_refl _, Nat.le_refl _, by decide⟩, Nat.le_refl _, Nat.le_refl _, fun x => ?_⟩
  unfold Reel.at_
  split <;> rfl
theorem at_put {U : Nat} (h : S.Ok) (h' : St.Ok { putT S x t with used := U }) (y : ByteArray) : Reel.at_ (putT S x t) y = if y = x then some t else Reel.at_ S y := by
  have hm : ∀ u, (y, u) ∈ St.ents { putT S x t with used := U } ↔ (y = x ∧ u = t) ∨ (y ≠ x ∧ (y, u) ∈ S.ents) := fun u => put_mem h
  by_cases hy : y = x
  · rw [if_pos hy]
    exact (at_iff (S := { putT S x t with used := U }) h').2 ((hm t).2 (.inl ⟨hy, rfl⟩))
  · rw [if_neg hy]
    exact at_ext (S := { putT S x t with used := U }) h' h y (fun u => (hm u).trans ⟨fun e => e.elim (fun e => absurd e.1 hy) (·.2), fun e => .inr ⟨hy, e⟩⟩)
theorem act_view (hd : S.down = false) (ha : S.armed = 0) : actS S = ({ S with acts := S.acts + 1 }, 0) := by unfold actS; rw [if_pos ha]
theorem act_view1 (ha : S.armed = 1) : actS S = ({ S with acts := S.acts + 1, down := true, armed := 0, life := S.life + 1 }, 10) := by unfold actS; rw [if_neg (by omega), if_pos ha]
theorem putN_len (l : List ByteArray) (x : ByteArray) : (putN l x).length ≤ l.length + 1 := by
  unfold putN; split
  · omega
  · have := posOf_le l x
    simp; omega
/-- what Append makes where there is room -/
theorem view_append (h : View S false 0 n k u f) (s : ByteArray) (hx : isName x = true) (hu : u + s.size ≤ 67108864) (hk : k < 64) (hl : ∀ t, f x = some t → t.bytes.length + s.size ≤ 4194304) (hs : s.size ≤ 4194304) :
    (appendS S x s).2 = 0 ∧ View (appendS S x s).1 false 0 (n + 1) (k + 1) (u + s.size) (upd f x (some (match f x with | some t => ⟨t.bytes ++ s.data.toList, t.safe⟩ | none => ⟨s.data.toList, 0⟩))) := by
  have hsz : s.data.toList.length = s.size := by rw [Array.length_toList]; rfl
  have hus := h.used
  have hg : ∀ (t' : Spool), St.Ok { putT S x t' with used := S.used + s.size } → View (actS { putT S x t' with used := S.used + s.size }).1 false 0 (n + 1) (k + 1) (u + s.size) (upd f x (some t')) ∧ (actS { putT S x t' with used := S.used + s.size }).2 = 0 := by
    intro t' hok
    have hact : actS { putT S x t' with used := S.used + s.size } = ({ putT S x t' with used := S.used + s.size, acts := S.acts + 1 }, 0) := by
      exact act_view (S := { putT S x t' with used := S.used + s.size }) h.down h.armed
    have hok2 := act_ok hok
    rw [hact] at hok2 ⊢
    refine ⟨⟨hok2, h.room, h.down, h.armed, ⟨by show S.acts + 1 ≤ _; have := h.fits.1; omega, by show S.life ≤ _; have := h.fits.2.1; omega, h.fits.2.2⟩, ?_, by show S.used + s.size ≤ _; omega, fun y => ?_⟩, rfl⟩
    · have := putN_len S.l x; have := h.few
      show (putN S.l x).length ≤ _; omega
    · show Reel.at_ (putT S x t') y = _
      rw [at_put h.ok hok]; unfold upd
      split
      · rfl
      · exact h.at_ y
  cases hf : f x with
  | some t =>
    have hat : Reel.at_ S x = some t := (h.at_ x).trans hf
    have := hl t hf
    have hsafe := (h.ok.each t (at_mem hat)).2
    have e : appendS S x s = actS { putT S x ⟨t.bytes ++ s.data.toList, t.safe⟩ with used := S.used + s.size } := by
      unfold appendS
      rw [if_neg (by rw [h.down]; simp), if_neg (by rw [hx]; simp), if_neg (by rw [h.room]; omega), hat]
      exact if_neg (by omega)
    rw [e]
    obtain ⟨g1, g2⟩ := hg ⟨t.bytes ++ s.data.toList, t.safe⟩ (h.ok.put hat (t' := ⟨t.bytes ++ s.data.toList, t.safe⟩) (by show (t.bytes ++ s.data.toList).length ≤ _; rw [List.length_append, hsz]; omega) (by show t.safe ≤ (t.bytes ++ s.data.toList).length; rw [List.length_append]; omega) _ (by show _ = S.used + (t.bytes ++ s.data.toList).length; rw [List.length_append, hsz]; omega) (by omega))
    exact ⟨g2, g1⟩
  | none =>
    have hat : Reel.at_ S x = none := (h.at_ x).trans hf
    have hfew := h.few
    have e : appendS S x s = actS { putT S x ⟨s.data.toList, 0⟩ with used := S.used + s.size } := by
      unfold appendS
      rw [if_neg (by rw [h.down]; simp), if_neg (by rw [hx]; simp), if_neg (by rw [h.room]; omega), hat]
      exact if_neg (by omega)
    rw [e]
    obtain ⟨g1, g2⟩ := hg ⟨s.data.toList, 0⟩ (h.ok.ins (at_none h.ok hat) hx (by omega) (t' := ⟨s.data.toList, 0⟩) (by show s.data.toList.length ≤ _; rw [hsz]; omega) (Nat.zero_le _) _ (by show _ = S.used + s.data.toList.length; rw [hsz]) (by omega))
    exact ⟨g2, g1⟩
theorem view_put (h : View S false 0 n k u f) (hf : f x = some t) (t' : Spool) (h1 : t'.safe ≤ t'.bytes.length) (h2 : t'.bytes.length ≤ t.bytes.length) (U : Nat) (hU : U = S.used - (t.bytes.length - t'.bytes.length)) :
    View { putT { S with acts := S.acts + 1 } x t' with used := U } false 0 (n + 1) k u (upd f x (some t')) := by
  have hat : Reel.at_ S x = some t := (h.at_ x).trans hf
  have hmem := size_mem (at_mem hat)
  rw [← h.ok.used] at hmem
  have h64 := (h.ok.each t (at_mem hat)).1
  have hus := h.used
  have hmost := h.ok.most
  have hok : St.Ok { putT S x t' with used := U } := h.ok.put hat (by omega) h1 _ (by omega) (by omega)
  refine ⟨?_, h.room, h.down, h.armed, ⟨by show S.acts + 1 ≤ _; have := h.fits.1; omega, by show S.life ≤ _; have := h.fits.2.1; omega, h.fits.2.2⟩, ?_, by show U ≤ _; omega, fun y => ?_⟩
  · exact hok.with_ rfl rfl rfl hok.room
  · show (putN S.l x).length ≤ k
    unfold putN; rw [if_pos (at_some hat).1]; exact h.few
  · show Reel.at_ (putT S x t') y = _
    rw [at_put h.ok hok]; unfold upd
    split
    · rfl
    · exact h.at_ y
theorem view_sync (h : View S false 0 n k u f) (hf : f x = some t) : (syncS S x).2 = 0 ∧ View (syncS S x).1 false 0 (n + 1) k u (upd f x (some ⟨t.bytes, t.bytes.length⟩)) := by
  have hat : Reel.at_ S x = some t := (h.at_ x).trans hf
  have e : syncS S x = ({ putT { S with acts := S.acts + 1 } x ⟨t.bytes, t.bytes.length⟩ with used := S.used }, 0) := by
    unfold syncS; rw [if_neg (by rw [h.down]; simp), hat]
    show (if (actS S).2 = 0 then _ else _) = _
    rw [act_view h.down h.armed, if_pos rfl]
    rfl
  rw [e]
  exact ⟨rfl, view_put h hf ⟨t.bytes, t.bytes.length⟩ (Nat.le_refl _) (Nat.le_refl _) _ (by show S.used = S.used - (t.bytes.length - t.bytes.length); omega)⟩
theorem view_cut (h : View S false 0 n k u f) (hf : f x = some t) (j : Nat) (hj : j ≤ t.bytes.length) : (cutS S x j).2 = 0 ∧ View (cutS S x j).1 false 0 (n + 1) k u (upd f x (some (cutT t j))) := by
  have hat : Reel.at_ S x = some t := (h.at_ x).trans hf
  have e : cutS S x j = ({ putT { S with acts := S.acts + 1 } x (cutT t j) with used := S.used - (t.bytes.length - j) }, 0) := by
    unfold cutS; rw [if_neg (by rw [h.down]; simp), hat]
    show (if _ then _ else _ : St × Int) = _
    rw [if_neg (by omega), act_view h.down h.armed, if_pos rfl]
    rfl
  rw [e]
  have hl : (cutT t j).bytes.length = j := by unfold cutT; rw [List.length_take]; omega
  exact ⟨rfl, view_put h hf (cutT t j) (by rw [hl]; exact Nat.min_le_right _ _) (by rw [hl]; exact hj) _ (by rw [hl])⟩
theorem view_off (h : View S d m n k u f) : View (offS S) true (if d = true then m else 0) (n + 1) k u f := by
  have hfit := h.fits
  unfold offS
  rw [h.down]
  cases d
  · rw [if_neg (by simp), if_neg (by simp)]
    exact ⟨h.ok.with_ rfl rfl rfl h.ok.room, h.room, rfl, rfl, ⟨by show S.acts ≤ _; have := hfit.1; omega, by show S.life + 1 ≤ _; have := hfit.2.1; omega, by show (0 : Nat) ≤ _; omega⟩, h.few, h.used, h.at_⟩
  · rw [if_pos rfl, if_pos rfl]
    exact ⟨h.ok, h.room, h.down, h.armed, ⟨by have := hfit.1; omega, by have := hfit.2.1; omega, hfit.2.2⟩, h.few, h.used, h.at_⟩
theorem view_arm (h : View S d m n k u f) (j : Nat) (hj : j ≤ 9223372036854775807) : View (armS S j) d j n k u f :=
  ⟨h.ok.with_ rfl rfl rfl h.ok.room, h.room, h.down, by show (j : Int).toNat = j; omega, ⟨h.fits.1, h.fits.2.1, by show (j : Int).toNat ≤ _; omega⟩, h.few, h.used, h.at_⟩
theorem view_act1 (h : View S false 1 n k u f) : (actS S).2 = 10 ∧ View (actS S).1 true 0 (n + 1) k u f := by
  have hfit := h.fits
  rw [act_view1 h.armed]
  exact ⟨rfl, h.ok.with_ rfl rfl rfl h.ok.room, h.room, rfl, rfl, ⟨by show S.acts + 1 ≤ _; have := hfit.1; omega, by show S.life + 1 ≤ _; have := hfit.2.1; omega, by show (0 : Nat) ≤ _; omega⟩, h.few, h.used, h.at_⟩
theorem view_cut1 (h : View S false 1 n k u f) (hf : f x = some t) (j : Nat) (hj : j ≤ t.bytes.length) : (cutS S x j).2 = 10 ∧ View (cutS S x j).1 true 0 (n + 1) k u f := by
  have hat : Reel.at_ S x = some t := (h.at_ x).trans hf
  obtain ⟨h1, h2⟩ := view_act1 h
  have e : cutS S x j = actS S := by
    unfold cutS; rw [if_neg (by rw [h.down]; simp), hat]
    show (if _ then _ else _ : St × Int) = _
    rw [if_neg (by omega), if_neg (by rw [h1]; decide)]
  rw [e]; exact ⟨h1, h2⟩
theorem view_swap1 (h : View S false 1 n k u f) (hf : f x = some t) (y : ByteArray) (hy : isName y = true) : (swapS S x y).2 = 10 ∧ View (swapS S x y).1 true 0 (n + 1) k u f := by
  have hat : Reel.at_ S x = some t := (h.at_ x).trans hf
  obtain ⟨h1, h2⟩ := view_act1 h
  have e : swapS S x y = actS S := by
    unfold swapS; rw [if_neg (by rw [h.down]; simp), hat]
    show (if _ then _ else _ : St × Int) = _
    rw [if_neg (by rw [hy]; decide), if_neg (by rw [h1]; decide)]
  rw [e]; exact ⟨h1, h2⟩
theorem view_drop1 (h : View S false 1 n k u f) (hf : f x = some t) : (dropS S x).2 = 10 ∧ View (dropS S x).1 true 0 (n + 1) k u f := by
  have hat : Reel.at_ S x = some t := (h.at_ x).trans hf
  obtain ⟨h1, h2⟩ := view_act1 h
  have e : dropS S x = actS S := by
    unfold dropS; rw [if_neg (by rw [h.down]; simp), hat]
    show (if _ then _ else _ : St × Int) = _
    rw [if_neg (by rw [h1]; decide)]
  rw [e]; exact ⟨h1, h2⟩
theorem at_del_self {U : Nat} (h : S.Ok) (hx : hasN S.l x = true) (h' : St.Ok { delT S x with used := U }) : Reel.at_ (delT S x) x = none := by
  cases ha : Reel.at_ (delT S x) x with
  | none => rfl
  | some v => exact absurd rfl ((del_mem h hx).1 ((at_iff (S := { delT S x with used := U }) h').1 ha)).2
theorem delN_len (l : List ByteArray) (x : ByteArray) : (delN l x).length ≤ l.length := by
  unfold delN; split
  · simp; omega
  · exact Nat.le_refl _
theorem view_drop (h : View S false 0 n k u f) (hf : f x = some t) : (dropS S x).2 = 0 ∧ View (dropS S x).1 false 0 (n + 1) k u (upd f x none) := by
  have hat : Reel.at_ S x = some t := (h.at_ x).trans hf
  have hmem := size_mem (at_mem hat)
  rw [← h.ok.used] at hmem
  have hus := h.used
  have hfit := h.fits
  have e : dropS S x = ({ delT { S with acts := S.acts + 1 } x with used := S.used - t.bytes.length }, 0) := by
    unfold dropS; rw [if_neg (by rw [h.down]; simp), hat]
    show (if _ then _ else _ : St × Int) = _
    rw [act_view h.down h.armed, if_pos rfl]
  rw [e]
  have hok : St.Ok { delT S x with used := S.used - t.bytes.length } := h.ok.del hat _ (by omega)
  refine ⟨rfl, hok.with_ rfl rfl rfl hok.room, h.room, h.down, h.armed, ⟨by show S.acts + 1 ≤ _; have := hfit.1; omega, by show S.life ≤ _; have := hfit.2.1; omega, hfit.2.2⟩, ?_, by show S.used - _ ≤ _; omega, fun y => ?_⟩
  · have := delN_len S.l x; have := h.few
    show (delN S.l x).length ≤ _; omega
  · show Reel.at_ (delT S x) y = _
    unfold upd
    split
    · rename_i hy; subst hy; exact at_del_self h.ok (at_some hat).1 hok
    · rename_i hy; rw [at_del h.ok hat hy]; exact h.at_ y
theorem view_swap (h : View S false 0 n k u f) (hf : f x = some t) {y : ByteArray} {t2 : Spool} (hy : isName y = true) (hf2 : f y = some t2) (hne : x ≠ y) : (swapS S x y).2 = 0 ∧ View (swapS S x y).1 false 0 (n + 1) k u (upd (upd f x none) y (some t)) := by
  have hat : Reel.at_ S x = some t := (h.at_ x).trans hf
  have hat2 : Reel.at_ S y = some t2 := (h.at_ y).trans hf2
  have hmem := size_mem (at_mem hat)
  rw [← h.ok.used] at hmem
  have hus := h.used
  have hmost := h.ok.most
  have hfit := h.fits
  have hlen : lenAt S y = t2.bytes.length := by unfold lenAt; rw [hat2]
  have e : swapS S x y = ({ putT { delT { S with acts := S.acts + 1 } x with used := S.used - t2.bytes.length } y t with used := S.used - t2.bytes.length }, 0) := by
    unfold swapS; rw [if_neg (by rw [h.down]; simp), hat]
    show (if _ then _ else _ : St × Int) = _
    rw [if_neg (by rw [hy]; decide), act_view h.down h.armed, if_pos rfl, if_neg hne, hlen]
    rfl
  rw [e]
  have hok : St.Ok { delT S x with used := S.used - t.bytes.length } := h.ok.del hat _ (by omega)
  have hatd : Reel.at_ (delT S x) y = some t2 := (at_del h.ok hat (Ne.symm hne)).trans hat2
  have hmem2 : t2.bytes.length ≤ S.used - t.bytes.length := by
    have := size_mem (at_mem (S := { delT S x with used := S.used - t.bytes.length }) hatd)
    rw [← hok.used] at this; exact this
  have hsafe := h.ok.each t (at_mem hat)
  have hok2 : St.Ok { putT { delT S x with used := S.used - t.bytes.length } y t with used := S.used - t2.bytes.length } := hok.put hatd hsafe.1 hsafe.2 _ (by show _ = S.used - t.bytes.length + _; omega) (by omega)
  refine ⟨rfl, hok2.with_ rfl rfl rfl hok2.room, h.room, h.down, h.armed, ⟨by show S.acts + 1 ≤ _; have := hfit.1; omega, by show S.life ≤ _; have := hfit.2.1; omega, hfit.2.2⟩, ?_, by show S.used - _ ≤ _; omega, fun z => ?_⟩
  · have := delN_len S.l x; have := h.few
    show (putN (delN S.l x) y).length ≤ _
    have hh : hasN (delN S.l x) y = true := (at_some (S := delT S x) hatd).1
    unfold putN; rw [if_pos hh]; omega
  · have h3 := at_put hok hok2 z
    show Reel.at_ (putT { delT S x with used := S.used - t.bytes.length } y t) z = _
    rw [h3]
    unfold upd
    split
    · rfl
    · show Reel.at_ (delT S x) z = _
      split
      · rename_i hz; subst hz; exact at_del_self h.ok (at_some hat).1 hok
      · rename_i hz; rw [at_del h.ok hat hz]; exact h.at_ z
theorem onT_get (fs : List Int) : ∀ (ts : List Spool) (i j : Nat), (ts[j]? = none → (onT fs i ts)[j]? = none) ∧ (∀ t, ts[j]? = some t → ∃ t', (onT fs i ts)[j]? = some t' ∧ (t.bytes.length = t.safe → t' = t) ∧ (t.bytes.length ≠ t.safe → ∃ c, t' = left t c))
  | [], i, j => ⟨fun _ => by simp [onT], fun t h => by simp at h⟩
  | a :: r, i, j => by
    unfold onT
    split
    · rename_i he
      cases j with
      | zero => exact ⟨fun h => by simp at h, fun t h => ⟨t, by simpa using h, fun _ => rfl, fun hn => by simp at h; subst h; exact absurd he hn⟩⟩
      | succ j => simpa using onT_get fs r i j
    · rename_i he
      cases j with
      | zero => exact ⟨fun h => by simp at h, fun t h => by
          simp at h; subst h
          exact ⟨_, rfl, fun hn => absurd hn he, fun _ => ⟨_, rfl⟩⟩⟩
      | succ j => simpa using onT_get fs r (if fs = [] then i else i + 1) j
theorem onT_size (fs : List Int) : ∀ (ts : List Spool) (i : Nat), (∀ t ∈ ts, t.safe ≤ t.bytes.length) → size (onT fs i ts) ≤ size ts
  | [], i, _ => by simp [onT]
  | a :: r, i, h => by
    have ha := h a (List.mem_cons_self ..)
    unfold onT
    split
    · rw [size_cons, size_cons]
      have := onT_size fs r i (fun t ht => h t (List.mem_cons_of_mem _ ht)); omega
    · rw [size_cons, size_cons]
      have := onT_size fs r (if fs = [] then i else i + 1) (fun t ht => h t (List.mem_cons_of_mem _ ht))
      have h1 := (left_len a (if fs = [] then 0 else fs.getD (i % fs.length) 0) ha).1
      have h2 := kept_le (if fs = [] then 0 else fs.getD (i % fs.length) 0) (a.bytes.length - a.safe)
      omega
theorem view_on (h : View S true m n k u f) (fs : List Int) : ∃ g, View (onS S fs) false m n k u g ∧ (∀ x, f x = none → g x = none) ∧ (∀ x t, f x = some t → ∃ t', g x = some t' ∧ (t.bytes.length = t.safe → t' = t) ∧ (t.bytes.length ≠ t.safe → ∃ c, t' = left t c)) := by
  have hok := on_ok h.ok fs
  have hus := h.used
  have he : onS S fs = { S with down := false, ts := onT fs 0 S.ts, used := size (onT fs 0 S.ts) } := by unfold onS; rw [if_neg (by rw [h.down]; simp)]
  have hsz := onT_size fs S.ts 0 (fun t ht => (h.ok.each t ht).2)
  rw [← h.ok.used] at hsz
  rw [he] at hok ⊢
  refine ⟨_, ⟨hok, h.room, rfl, h.armed, h.fits, h.few, by show size _ ≤ _; omega, fun x => rfl⟩, fun x hx => ?_, fun x t hx => ?_⟩
  · have hn := at_none h.ok ((h.at_ x).trans hx)
    show Reel.at_ _ x = none
    unfold Reel.at_
    exact if_neg (by show ¬ hasN S.l x = true; rw [hn]; simp)
  · obtain ⟨h1, h2⟩ := at_some ((h.at_ x).trans hx)
    obtain ⟨t', g1, g2⟩ := (onT_get fs S.ts 0 (posOf S.l x)).2 t h2
    refine ⟨t', ?_, g2⟩
    show Reel.at_ _ x = _
    unfold Reel.at_
    exact (if_pos h1).trans g1
theorem view_read (h : View S false m n k u f) (x : ByteArray) : readS S x = match f x with | none => ([], 12) | some t => (t.bytes, 0) := by
  unfold readS; rw [if_neg (by rw [h.down]; simp), h.at_ x]; rfl
theorem view_size (h : View S d m n k u f) (x : ByteArray) : sizeS S x = match f x with | none => -1 | some t => (t.bytes.length : Int) := by
  unfold sizeS; rw [h.at_ x]; rfl
theorem View.mono (h : View S d m n k u f) {n' k' u' : Nat} (hn : n ≤ n') (hk : k ≤ k') (hu : u ≤ u') : View S d m n' k' u' f :=
  ⟨h.ok, h.room, h.down, h.armed, ⟨Nat.le_trans h.fits.1 hn, Nat.le_trans h.fits.2.1 hn, h.fits.2.2⟩, Nat.le_trans h.few hk, Nat.le_trans h.used hu, h.at_⟩
end
end Go.Proofs.Ytnhgfhbicaiilaa.Reel
