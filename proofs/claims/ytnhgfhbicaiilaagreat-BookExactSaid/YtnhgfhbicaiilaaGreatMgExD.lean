/- Texts in a row: ReelI, ReelM, Dk, BkBody, BkRecs, BkReadW, BkGrid, ReelAct. -/
import Derived.Test.YtnhgfhbicaiilaaGreatMgExC
/- The reel: On. -/
namespace Go.Proofs.YtnhgfhbicaiilaaGreat
open Go.RowKit Reel
attribute [local go_sem] Oper.semAt_some
set_option linter.unusedVariables false

/-- the slice with the base a and n places reads as the list l of ints -/
def IntsAt (w : World) (a : Option Addr) (n : Nat) (l : List Int) : Prop :=
  l.length = n ∧ n ≤ 9223372036854775807 ∧ (∀ x ∈ l, -9223372036854775808 ≤ x ∧ x ≤ 9223372036854775807) ∧ (n = 0 ∨ ∃ b off, a = some ⟨b, off, none⟩ ∧ ∀ j, j < n → w.cell? ⟨b, off + j, none⟩ = some (.int .i64 (l.getD j 0)))
theorem IntsAt.only {F : Nat → Prop} {w w' : World} {a : Option Addr} {n : Nat} {l : List Int} (h : IntsAt w a n l) (ho : Only F w w') (hf : n ≠ 0 → ∀ b off, a = some ⟨b, off, none⟩ → ¬ F b) : IntsAt w' a n l := by
  obtain ⟨h1, h2, h3, h4⟩ := h
  by_cases hn : n = 0
  · exact ⟨h1, h2, h3, .inl hn⟩
  replace hf := hf hn
  refine ⟨h1, h2, h3, h4.imp id ?_⟩
  rintro ⟨b, off, ha, hc⟩
  exact ⟨b, off, ha, fun j hj => ho.cell (hc j hj) (hf b off ha)⟩

theorem kept_int (f t : Int) (k : Nat) (w : World) (ht : t = k) (hf : -9223372036854775808 ≤ f) (hf2 : f ≤ 9223372036854775807) (hk : k ≤ 4194304) (hk0 : 0 < k) :
    Calls Tryz.prog 61 #[.int .i64 f, .int .i64 t] w fun e w' => e = .returned (.tuple #[.int .i64 (kept f k).1, .bool (kept f k).2]) ∧ w = w' := by
  subst ht; exact kept_any f k w hf hf2 hk hk0
theorem tear_snoc (a : List UInt8) (c : UInt8) : tear (a ++ [c]) = a ++ [c ^^^ 0x55] := by unfold tear; simp
theorem bvals_set (a : List UInt8) (c d : UInt8) : (bvals (a ++ [c])).set a.length (.int .u8 (d.toNat : Int)) = bvals (a ++ [d]) := by
  unfold bvals
  rw [List.map_append, List.map_append, List.set_append_right _ _ (by simp)]
  simp
theorem set_tp {R : List RM} {j : Nat} {r r' : RM} (hi : R[j]? = some r) (hb : r'.b = r.b) : (R.set j r').map tp = R.map tp := by
  rw [List.map_set]
  apply List.ext_getElem?
  intro i
  rw [List.getElem?_set]
  split
  · rename_i e; subst e
    rw [List.getElem?_map, hi]
    simp [tp, hb, (List.getElem?_eq_some_iff.1 hi).1]
  · rfl
theorem df_set0 {p m : Nat} {ks vs : Value} {R : List RM} {r r' : RM} {i : Nat} (hi : R[i]? = some r) (hb : r'.b = r.b) (hv : r'.v.ownBlock = r.v.ownBlock) {k : Nat} (hk : DF p m ks vs (R.set i r') k) : DF p m ks vs R k := by
  have hm : r ∈ R := List.mem_of_getElem? hi
  rcases hk with hk | hk | ⟨x, hx, hk⟩
  · exact .inl hk
  · exact .inr (.inl hk)
  · rcases List.mem_or_eq_of_mem_set hx with hx | rfl
    · exact df_r hx hk
    · rcases hk with hk | hk
      · exact df_r hm (.inl (hk.trans hb))
      · rw [hv] at hk; exact df_r hm (.inr hk)
/-- the last byte of a tape is another one -/
theorem tear_step {W : World} {p m : Nat} {ks vs : Value} {R : List RM} {S : St} {i : Nat} {r : RM} (h : DMem W p m ks vs R S) (hi : R[i]? = some r) (a : List UInt8) (c : UInt8) (hb : r.t.bytes = a ++ [c]) :
    ∃ g cap, r.v = .slice (some ⟨g, 0, none⟩) (a.length + 1) cap ∧ W.cell? ⟨g, a.length, none⟩ = some (.int .u8 (c.toNat : Int)) ∧ W.frozen? ⟨g, a.length, none⟩ = false ∧
      DMem (W.setCell ⟨g, a.length, none⟩ (.int .u8 ((c ^^^ 0x55).toNat : Int))) p m ks vs (R.set i ⟨r.b, r.v, { r.t with bytes := a ++ [c ^^^ 0x55] }⟩) { S with ts := S.ts.set i { r.t with bytes := a ++ [c ^^^ 0x55] } } ∧
      Only (TF r) W (W.setCell ⟨g, a.length, none⟩ (.int .u8 ((c ^^^ 0x55).toNat : Int))) := by
  have hm : r ∈ R := List.mem_of_getElem? hi
  have ht := h.tapes.1 r hm
  have hl : r.t.bytes.length = a.length + 1 := by rw [hb]; simp
  have how := ht.2
  rcases ht.2.2 with ⟨e1, e2⟩ | ⟨g, cap, cur, hv, hb0, hg, hn, hc, hsz, htk⟩
  · omega
  · rw [hl] at hv hn
    rw [Nat.mul_one] at hsz htk
    have B : Blk W g 5 cur := hg
    have O : Only (· = g) W (W.setCell ⟨g, a.length, none⟩ (.int .u8 ((c ^^^ 0x55).toNat : Int))) := (Only.refl (· = g) W).setCell (p := ⟨g, a.length, none⟩) (.inl rfl) _
    have OT : Only (TF r) W (W.setCell ⟨g, a.length, none⟩ (.int .u8 ((c ^^^ 0x55).toNat : Int))) := O.mono (fun i e => .inr (by subst e; rw [hv]; rfl))
    refine ⟨g, cap, hv, ?_, B.frozen _, ?_, OT⟩
    · rw [B.cell, ← Array.getElem?_toList, ← List.getElem?_take_of_lt (j := r.t.bytes.length) (by omega), htk, hb]
      simp [bvals]
    · refine h.tape hi OT (r' := ⟨r.b, r.v, { r.t with bytes := a ++ [c ^^^ 0x55] }⟩) ⟨ht.1.only O (fun e => ?_), ?_⟩ rfl (.inl rfl)
      · have := B.ne ht.1 (by decide); exact this e.symm
      · refine ⟨by rw [bvals_length, Nat.mul_one], .inr ⟨g, cap, _, by rw [hv]; simp, hb0, B.set a.length _, by simpa using hn, hc, by simp [hsz], ?_⟩⟩
        have h5 : (a ++ [c ^^^ 0x55]).length = r.t.bytes.length := by rw [hb]; simp
        show List.take ((a ++ [c ^^^ 0x55]).length * 1) _ = _
        rw [h5, Nat.mul_one, Array.toList_setIfInBounds, List.take_set, htk, hb, bvals_set]
/-- all of a tape is safe -/
theorem safe_step {W : World} {p m : Nat} {ks vs : Value} {R : List RM} {S : St} {i : Nat} {r : RM} (h : DMem W p m ks vs R S) (hi : R[i]? = some r) (k : Int) (hk : k = r.t.bytes.length) :
    W.cell? ⟨r.b, 1, none⟩ = some (.int .i64 r.t.safe) ∧ W.frozen? ⟨r.b, 1, none⟩ = false ∧ (∃ a c, W.cell? ⟨r.b, 0, none⟩ = some (.slice a r.t.bytes.length c)) ∧
      DMem (W.setCell ⟨r.b, 1, none⟩ (.int .i64 k)) p m ks vs (R.set i ⟨r.b, r.v, ⟨r.t.bytes, r.t.bytes.length⟩⟩) { S with ts := S.ts.set i ⟨r.t.bytes, r.t.bytes.length⟩ } ∧
      Only (TF r) W (W.setCell ⟨r.b, 1, none⟩ (.int .i64 k)) := by
  subst hk
  have hm : r ∈ R := List.mem_of_getElem? hi
  have ht := h.tapes.1 r hm
  obtain ⟨a, c, hv, hc⟩ := own_slice ht.2
  have O : Only (· = r.b) W (W.setCell ⟨r.b, 1, none⟩ (.int .i64 r.t.bytes.length)) := (Only.refl (· = r.b) W).setCell (p := ⟨r.b, 1, none⟩) (.inl rfl) _
  refine ⟨(ht.1.cell 1).trans rfl, ht.1.frozen 1, ⟨a, c, by have := ht.1.cell 0; rw [hv] at this; exact this.trans rfl⟩, ?_, O.mono (fun i e => .inl e)⟩
  exact h.tape hi (O.mono (fun i e => .inl e)) (r' := ⟨r.b, r.v, ⟨r.t.bytes, r.t.bytes.length⟩⟩) ⟨by simpa using ht.1.set 1 (.int .i64 r.t.bytes.length), own_only ht.2 O (fun k hk e => by subst e; exact ht.v_ne_b ht hk)⟩ rfl (.inl rfl)

/-- what holds between two rounds -/
def OnI (w : World) (p m : Nat) (ks vs : Value) (R : List RM) (S : St) (F : Nat → Prop) (a : Option Addr) (n c : Nat) (fs : List Int) (pre : List (Fin S.l.length)) (W : World) : Prop :=
  (∃ R', DMem W p m ks vs R' (midS S fs (pre.map (·.1))) ∧ R'.map tp = R.map tp ∧ (∀ k, DF p m ks vs R' k → F k)) ∧ Only F w W ∧ w.heap.size + 4 ≤ W.heap.size ∧
  Blk W w.heap.size 24 #[.pointer (some ⟨p, 0, none⟩)] ∧ Blk W (w.heap.size + 1) 37 #[.slice a n c] ∧ Blk W (w.heap.size + 1 + 1) 3 #[.int .i64 (procT fs S.ts (pre.map (·.1))).2]
theorem onI_from {w : World} {p m : Nat} {ks vs : Value} {R : List RM} {S : St} {F : Nat → Prop} {a : Option Addr} {n c : Nat} {fs : List Int} (hF : ∀ k, F k → k < w.heap.size) : OwnFrom (w.heap.size + 4) (OnI w p m ks vs R S F a n c fs) := by
  rintro pre W W' row ⟨⟨R', h1, h2, h3⟩, h4, h5, h6, h7, h8⟩ hg hr
  have O : Only (fun k => row = some k) W W' := ⟨hg.os, hg.tape, hg.output, hg.size, fun k hk hn => hg.block k hk (fun e => hn e.symm)⟩
  have hB : ∀ k, row = some k → w.heap.size + 4 ≤ k := fun k hk => (hr k hk).1
  refine ⟨⟨R', h1.only O (fun k hk e => by have := hF k (h3 k hk); have := hB k e; omega), h2, h3⟩, h4.trans O (fun i e => .inr (by have := hB i e; omega)), by have := hg.size; omega,
    h6.only O (fun e => by have := hB _ e; omega), h7.only O (fun e => by have := hB _ e; omega), h8.only O (fun e => by have := hB _ e; omega)⟩
theorem keepsFrom_only {F : Nat → Prop} {B : Nat} {A C : World} (h : Only F A C) (hF : ∀ k, F k → k < B) : KeepsFrom B A C :=
  ⟨h.size, fun k o hk e _ => (h.block k (Array.getElem?_eq_some_iff.1 e).1 (fun hf => by have := hF k hf; omega)).trans e⟩

set_option maxRecDepth 100000 in
set_option maxHeartbeats 8000000 in
theorem on_any (p : Nat) (F : Nat → Prop) (S : St) (a : Option Addr) (n c : Nat) (fs : List Int) (w : World) (h : DiskAt w p F S) (hI : IntsAt w a n fs) (hFa : n ≠ 0 → ∀ b off, a = some ⟨b, off, none⟩ → ¬ F b) :
    Calls Tryz.prog 19 #[.pointer (some ⟨p, 0, none⟩), .slice a n c] w fun e w' => e = .returned (.tuple #[]) ∧ DiskAt w' p (grow F w w') (onS S fs) ∧ Only F w w' := by
  obtain ⟨hF, hok, m, ks, vs, R, h, hDF⟩ := h
  have hpl : p < w.heap.size := Blk.lt h.blk
  have hpn0 : p ≠ w.heap.size := by omega
  have hpn1 : p ≠ w.heap.size + 1 := by omega
  have hpn2 : p ≠ w.heap.size + 1 + 1 := by omega
  obtain ⟨c0, c1, c2, c3, c4, c5, c6⟩ := h.blk.cells
  have f3 := Blk.frozen h.blk 3
  cases hd : S.down
  · rw [hd] at c3
    have HF : Hid (DiskAt ((w.alloc (.cells #[.pointer (some ⟨p, 0, none⟩)] 24)).alloc (.cells #[.slice a n c] 37)) p (grow F w ((w.alloc (.cells #[.pointer (some ⟨p, 0, none⟩)] 24)).alloc (.cells #[.slice a n c] 37))) (onS S fs) ∧ Only F w ((w.alloc (.cells #[.pointer (some ⟨p, 0, none⟩)] 24)).alloc (.cells #[.slice a n c] 37))) := by
      have e : onS S fs = S := by unfold onS; rw [if_pos hd]
      rw [e]
      have O : Only NoF w ((w.alloc (.cells #[.pointer (some ⟨p, 0, none⟩)] 24)).alloc (.cells #[.slice a n c] 37)) := ((Only.refl NoF w).alloc _).alloc _
      exact ⟨DiskAt.mk' hF (O.mono (fun _ e => e.elim)) hok (h.only O (fun _ _ e => e)) (fun k hk => .inl (hDF k hk)), O.mono (fun _ e => e.elim)⟩
    clear h hd hok hDF hI hFa
    go_enter Tryz.func19, Tryz.ntmps19
    go_wp2
    exact bodyPost_ret (results_none rfl _ _ _) rfl ⟨rfl, HF.out⟩
  · rw [hd] at c3
    have W3e : ∃ W3, W3 = (((w.setCell ⟨p, 3, none⟩ (.bool false)).alloc (.cells #[.pointer (some ⟨p, 0, none⟩)] 24)).alloc (.cells #[.slice a n c] 37)).alloc (.cells #[.int .i64 0] 3) := ⟨_, rfl⟩
    obtain ⟨W3, hW3⟩ := W3e
    have hO3 : Only F w W3 := by rw [hW3]; exact ((((Only.refl F w).setCell (p := ⟨p, 3, none⟩) (.inl (hDF _ df_p)) _).alloc _).alloc _).alloc _
    have hm0 : DMem (w.setCell ⟨p, 3, none⟩ (.bool false)) p m ks vs R { S with down := false } := by
      have O : Only (· = p) w (w.setCell ⟨p, 3, none⟩ (.bool false)) := (Only.refl (· = p) w).setCell (p := ⟨p, 3, none⟩) (.inl rfl) _
      refine h.own O ?_ rfl rfl
      have := Blk.set h.blk 3 (.bool false)
      unfold DBlk
      simpa using this
    have hz0 : (w.setCell ⟨p, 3, none⟩ (.bool false)).heap.size = w.heap.size := by simp [World.setCell]
    have hm3 : DMem W3 p m ks vs R { S with down := false } := by
      rw [hW3]; exact hm0.only ((((Only.refl NoF _).alloc _).alloc _).alloc _) (fun _ _ e => e)
    have hz3 : W3.heap.size = w.heap.size + 3 := by rw [hW3]; simp [World.setCell]
    have bd : Blk W3 w.heap.size 24 #[.pointer (some ⟨p, 0, none⟩)] := by
      have := ((Blk.new (w.setCell ⟨p, 3, none⟩ (.bool false)) 24 #[.pointer (some ⟨p, 0, none⟩)]).alloc (.cells #[.slice a n c] 37)).alloc (.cells #[.int .i64 0] 3)
      rw [hz0] at this; rw [hW3]; exact this
    have bf : Blk W3 (w.heap.size + 1) 37 #[.slice a n c] := by
      have := (Blk.new ((w.setCell ⟨p, 3, none⟩ (.bool false)).alloc (.cells #[.pointer (some ⟨p, 0, none⟩)] 24)) 37 #[.slice a n c]).alloc (.cells #[.int .i64 0] 3)
      rw [World.size_alloc, hz0] at this; rw [hW3]; exact this
    have bi : Blk W3 (w.heap.size + 1 + 1) 3 #[.int .i64 0] := by
      have := Blk.new (((w.setCell ⟨p, 3, none⟩ (.bool false)).alloc (.cells #[.pointer (some ⟨p, 0, none⟩)] 24)).alloc (.cells #[.slice a n c] 37)) 3 #[.int .i64 0]
      rw [World.size_alloc, World.size_alloc, hz0] at this; rw [hW3]; exact this
    have q0 := hm3.blk.cells.1
    have q1 := bd.cell 0
    rw [hW3] at q0 q1
    simp only [List.getElem?_toArray, List.getElem?_cons_zero] at q1
    have CA := hid (allPtr_any (some ⟨m, 0, none⟩) W3)
    have HM := hid hm3; have HBD := hid bd; have HBF := hid bf; have HBI := hid bi; have HO := hid hO3; have HZ := hid hz3; have HWW := hid hW3
    have HH := hid h
    clear hm3 bd bf bi hO3 hz3 hm0 hz0 h
    refine (callsIn_wide (n := 5)).1 ?_
    refine callsIn_of_wp_marks Tryz.func19 rfl trivial ?_ rfl
    simp only [Tryz.ntmps19, List.size_toArray, List.length_cons, List.length_nil, Nat.reduceAdd, Nat.reduceSub, Array.replicate_succ, Array.replicate_zero, List.push_toArray, List.append_toArray, List.nil_append, List.cons_append]
    clear hW3
    gi_wp2_with fail
    rw [← HWW.out]
    refine ⟨trivial, (callsIn_wide.2 CA.out).mono ?_⟩; rintro e w' ⟨rfl, rfl⟩
    gi_wp2_with fail
    have hz4 : (W3.alloc (.cells #[.pointer (some ⟨m, 0, none⟩)] 51)).heap.size = w.heap.size + 4 := by rw [World.size_alloc, HZ.out]
    have hm4 : DMem (W3.alloc (.cells #[.pointer (some ⟨m, 0, none⟩)] 51)) p m ks vs R { S with down := false } := HM.out.only ((Only.refl NoF W3).alloc _) (fun _ _ e => e)
    have hI0 : OnI w p m ks vs R S F a n c fs [] (W3.alloc (.cells #[.pointer (some ⟨m, 0, none⟩)] 51)) :=
      ⟨⟨R, by rw [List.map_nil, midS_nil S fs hok]; exact hm4, rfl, hDF⟩, HO.out.alloc _, by omega, HBD.out.alloc _, HBF.out.alloc _, HBI.out.alloc _⟩
    refine wpIn_rangeFunc_ownG (n := 5) rfl (by omega) (gf := 94) (lb := #[.pointer (some ⟨W3.heap.size, 0, none⟩)]) rfl trivial (enters_of Tryz.func94 (by kernel_rfl) rfl)
      (allStopsPtr (5 - 1) W3.heap.size m (w.heap.size + 4) ks vs S.l (R.map tp) _ (by omega) ((Blk.new W3 _ _).cell 0) hm4.map (by omega)) keepC_t keepC_b (Below.refl _ _) (fun _ => rfl)
      (OnI w p m ks vs R S F a n c fs) (fun _ _ _ => False) (by rw [hz4]; exact onI_from hF) (fun _ _ _ _ _ hs _ _ => hs) hI0 ?a1 ?assign ?body ?done ?stop
    case assign =>
      intro l x W K hK
      simp only [encsPtr, encPtr]
      gi_wp2
      exact hK
    case stop =>
      rintro D c pre W _ _ h _
      exact h.elim
    case done =>
      rintro D xs W hD rfl hi hK
      have hi2 := (onI_from (m := m) (ks := ks) (vs := vs) (R := R) (a := a) (n := n) (c := c) (fs := fs) hF).putObj (.deferred none) hi (by omega) hK rfl
      have HFIN : Hid (DiskAt (W.putObj D (.deferred none)) p (grow F w (W.putObj D (.deferred none))) (onS S fs) ∧ Only F w (W.putObj D (.deferred none))) := by
        obtain ⟨⟨R', h1, h2, h3⟩, h4, -⟩ := hi2
        have e : midS S fs ((List.finRange S.l.length).map (·.1)) = onS S fs := by
          have e0 : (List.finRange S.l.length).map (fun x => x.1) = List.range S.l.length := List.ext_getElem (by simp) (by intro i h1 h2; simp)
          rw [e0, ← hok.len]; exact midS_all S fs hd
        rw [e] at h1
        exact ⟨DiskAt.mk' hF h4 (on_ok hok fs) h1 (fun k hk => .inl (h3 k hk)), h4⟩
      clear hi hi2
      gi_wp2
      refine ⟨by simp, .inl ⟨_, _, rfl, run_takeDeferred hK, ?_⟩⟩
      exact ⟨_, results_none rfl _ _ _, rfl, HFIN.out⟩
    case body =>
      rintro l pre ⟨j, hj⟩ W ⟨⟨R', hm, htp, hDF'⟩, hO, hsz, bD, bF, bI⟩ hlen
      obtain ⟨T, hT⟩ : ∃ T, procT fs S.ts (pre.map (·.1)) = T := ⟨_, rfl⟩
      have hcnt : T.2 ≤ pre.length := by have := procT_cnt fs S.ts (pre.map (·.1)); rw [hT] at this; simpa using this
      have hfew := hok.few
      have hSm : midS S fs (pre.map (·.1)) = { S with down := false, ts := T.1, used := size T.1 } := by unfold midS; rw [hT]
      have hSok := midS_ok hok fs (pre.map (·.1))
      rw [hSm] at hm hSok
      rw [hT] at bI
      have hRl : R'.length = S.l.length := hm.len
      have hjR : j < R'.length := by omega
      obtain ⟨r, hr⟩ : ∃ r, R'[j] = r := ⟨_, rfl⟩
      have hri : R'[j]? = some r := by rw [List.getElem?_eq_getElem hjR, hr]
      have hrm : r ∈ R' := List.mem_of_getElem? hri
      have hgt : (Option.map tp R[j]?).getD none = some ⟨r.b, 0, none⟩ := by
        have : Option.map tp R[j]? = Option.map tp R'[j]? := by rw [← List.getElem?_map, ← List.getElem?_map, htp]
        rw [this, hri]; rfl
      have hTj : T.1[j]? = some r.t := by
        have := hm.ts
        rw [show T.1 = R'.map (·.t) from this, List.getElem?_map, hri]; rfl
      have he := hSok.each r.t (by obtain ⟨_, e⟩ := List.getElem?_eq_some_iff.1 hTj; rw [← e]; exact List.getElem_mem _)
      have ht := hm.tapes.1 r hrm
      obtain ⟨ra, rc, hv, hrc⟩ := own_slice ht.2
      have d0 := ht.1.cell 0
      have d1 := ht.1.cell 1
      simp [hv] at d0 d1
      have e0 := bD.cell 0
      have e1 := bF.cell 0
      have e2 := bI.cell 0
      simp at e0 e1 e2
      -- what is to be shown of the world behind the round
      have HNEXT : Hid (∀ (W' : World) (R2 : List RM) (T2 : List Spool × Nat), T2 = oneT fs T j → DMem W' p m ks vs R2 { S with down := false, ts := T2.1, used := size T2.1 } → R2.map tp = R'.map tp → (∀ k, DF p m ks vs R2 k → DF p m ks vs R' k) → Only (fun k => F k ∨ k = w.heap.size + 1 + 1) W W' → Blk W' (w.heap.size + 1 + 1) 3 #[.int .i64 T2.2] →
          KeepsFrom (W3.alloc (.cells #[.pointer (some ⟨m, 0, none⟩)] 51)).heap.size W W' ∧ KeepC (w.heap.size + 4) W W' ∧ OnI w p m ks vs R S F a n c fs (pre ++ [⟨j, hj⟩]) W') := by
        rintro W' R2 T2 rfl hm2 htp2 hdf2 o2 bi2
        have hlow : ∀ k, (F k ∨ k = w.heap.size + 1 + 1) → k < w.heap.size + 4 := fun k hk => by
          rcases hk with hk | hk
          · have := hF k hk; omega
          · omega
        have hmap : (pre ++ [(⟨j, hj⟩ : Fin S.l.length)]).map (·.1) = pre.map (·.1) ++ [j] := by simp
        refine ⟨keepsFrom_only o2 (by rw [hz4]; exact hlow), keepC_only o2 hlow, ⟨R2, ?_, htp2.trans htp, fun k hk => hDF' k (hdf2 k hk)⟩, hO.trans o2 (fun i e => ?_), by have := o2.size; omega, bD.only o2 (fun e => ?_), bF.only o2 (fun e => ?_), ?_⟩
        · rw [hmap]; unfold midS; rw [procT_snoc, hT]; exact hm2
        · rcases e with e | e
          · exact .inl e
          · exact .inr (by omega)
        · rcases e with e | e
          · have := hF _ e; omega
          · omega
        · rcases e with e | e
          · have := hF _ e; omega
          · omega
        · rw [hmap, procT_snoc, hT]; exact bi2
      have HSZT : Hid (size T.1 ≤ 67108864) := hSok.most
      obtain ⟨L, hL⟩ : ∃ L, r.t.bytes.length = L := ⟨_, rfl⟩
      obtain ⟨Z, hZ⟩ : ∃ Z, r.t.safe = Z := ⟨_, rfl⟩
      rw [hL, hZ] at he
      rw [hL] at d0
      rw [hZ] at d1
      have HM := hid hm; have HRI := hid hri; have HTJ := hid hTj; have HBI := hid bI; have HL := hid hL; have HZZ := hid hZ
      have hLZ1 := he.1
      have hLZ2 := he.2
      have HT0 := hid ht
      rw [hgt]
      clear hm hri hTj hT hSm hSok hgt hr hRl hL hZ bI bD bF he ht hv
      by_cases htail : L = Z
      · have h1 : Hid (oneT fs T j = T) := by
          unfold Hid oneT; rw [HTJ.out]; simp only
          rw [if_pos (by rw [HL.out, HZZ.out]; exact htail)]
        have tb : ((L : Int) - Z == 0) = true := by rw [beq_iff_eq]; omega
        have tb2 : (L : Int) - Z = 0 := by omega
        clear htail
        gi_wp2
        refine regionIn_quiet (C := fun w' => ∃ q, w' = W.drewN q) (by rintro ⟨_, _, h⟩; exact h) (by kernel_rfl) (by kernel_rfl) (by kernel_rfl) ⟨1, rfl⟩ ?_
        repeat (go_big_quiet_step (fail))
        refine wpQuiet_nil ?_
        intro w' hw'
        obtain ⟨q, rfl⟩ := hw'
        gi_wp2
        exact HNEXT.out (W.drewN q) R' T h1.out.symm (HM.out.only ((Only.refl NoF W).drewN q) (fun _ _ e => e)) rfl (fun k hk => hk) ((Only.refl _ W).drewN q) HBI.out
      · have hK0 : 0 < L - Z := by omega
        have hKm : L - Z ≤ 4194304 := by omega
        have hKe : (L : Int) - Z = ((L - Z : Nat) : Int) := by omega
        have HKE := hid hKe
        have tb : ((L : Int) - Z == 0) = false := by rw [beq_eq_false_iff_ne]; omega
        have HONE : Hid (oneT fs T j = (T.1.set j (left r.t (fateOf fs T.2)), if fs = [] then T.2 else T.2 + 1)) := by
          unfold Hid oneT; rw [HTJ.out]; simp only
          rw [if_neg (by rw [HL.out, HZZ.out]; exact htail)]
        clear hKe htail
        obtain ⟨i1, i2, i3, i4⟩ := hI
        by_cases hn0 : n = 0
        · have hfs : fs = [] := List.length_eq_zero_iff.1 (by omega)
          have hT2 : (T.1.set j (left r.t (fateOf fs T.2)), if fs = [] then T.2 else T.2 + 1) = (T.1.set j (left r.t 0), T.2) := by unfold fateOf; rw [if_pos hfs, if_pos hfs]
          have HONE2 : Hid (oneT fs T j = (T.1.set j (left r.t 0), T.2)) := HONE.out.trans hT2
          clear hT2 hfs i1 i3 i4 HONE
          subst hn0
          gi_wp2
          refine regionIn_quiet (C := fun w' => ∃ q, w' = W.drewN q) (by rintro ⟨_, _, h⟩; exact h) (by kernel_rfl) (by kernel_rfl) (by kernel_rfl) ⟨1, rfl⟩ ?_
          repeat (go_big_quiet_step (fail))
          refine wpQuiet_nil ?_
          intro w' hw'
          obtain ⟨q, rfl⟩ := hw'
          gi_wp2_with fail
          have hf1 : (-9223372036854775808 : Int) ≤ 0 := by omega
          have hf2 : (0 : Int) ≤ 9223372036854775807 := by omega
          obtain ⟨Wk, hWk⟩ : ∃ Wk, Wk = W.drewN q := ⟨_, rfl⟩
          have HMK : Hid (DMem Wk p m ks vs R' { S with down := false, ts := T.1, used := size T.1 }) := by rw [hWk]; exact HM.out.only ((Only.refl NoF W).drewN q) (fun _ _ e => e)
          have HBK : Hid (Blk Wk (w.heap.size + 1 + 1) 3 #[.int .i64 T.2]) := by rw [hWk]; exact HBI.out
          have OWK : Hid (Only (fun k => F k ∨ k = w.heap.size + 1 + 1) W Wk) := by rw [hWk]; exact (Only.refl _ W).drewN q
          have w0 : Wk.cell? ⟨w.heap.size, 0, none⟩ = some (.pointer (some ⟨p, 0, none⟩)) := by rw [hWk]; exact e0
          have w1 : Wk.cell? ⟨r.b, 1, none⟩ = some (.int .i64 Z) := by rw [hWk]; exact d1
          rw [← hWk]
          clear hWk
          -- kept, and what is left: f the fate, Wk the world
          obtain ⟨n0, hn0'⟩ : ∃ n0, (kept 0 (L - Z)).1 = n0 := ⟨_, rfl⟩
          obtain ⟨tr, htr⟩ : ∃ tr, (kept 0 (L - Z)).2 = tr := ⟨_, rfl⟩
          have hn0le : n0 ≤ L - Z := by rw [← hn0']; exact kept_le _ _
          have CK := kept_int 0 ((L : Int) - Z) (L - Z) Wk HKE.out hf1 hf2 hKm hK0
          rw [hn0', htr] at CK
          have HLEFT : Hid (left r.t 0 = ⟨if tr = true ∧ 0 < n0 then tear (r.t.bytes.take (Z + n0)) else r.t.bytes.take (Z + n0), (if tr = true ∧ 0 < n0 then tear (r.t.bytes.take (Z + n0)) else r.t.bytes.take (Z + n0)).length⟩) := by
            unfold Hid left
            rw [HL.out, HZZ.out, hn0', htr]
          have hBl : (r.t.bytes.take (Z + n0)).length = Z + n0 := by rw [List.length_take, HL.out]; omega
          have hsz1 : L ≤ size T.1 := by rw [← HL.out]; exact Reel.size_mem (List.mem_of_getElem? HTJ.out)
          have hsz2 := HSZT.out
          have HUSED : Hid (size T.1 - (L - (Z + n0)) = size (T.1.set j (left r.t 0))) := by
            obtain ⟨hjl, hje⟩ := List.getElem?_eq_some_iff.1 HTJ.out
            have := size_set T.1 j hjl (left r.t 0)
            rw [hje, HL.out] at this
            have h5 : (left r.t 0).bytes.length = Z + n0 := by
              rw [HLEFT.out]; show (if _ then tear _ else _ : List UInt8).length = _
              split
              · rw [tear_len, hBl]
              · exact hBl
            rw [h5] at this
            unfold Hid; omega
          -- all that lies behind cut
          have HREST : Hid (∀ w2, (∃ v', v'.ownBlock = r.v.ownBlock ∧ DMem w2 p m ks vs (R'.set j ⟨r.b, v', cutT r.t (Z + n0)⟩) { S with down := false, ts := T.1.set j (cutT r.t (Z + n0)), used := size T.1 - (L - (Z + n0)) }) → Only (fun k => k = p ∨ k = r.b) Wk.drew w2 →
              ∃ R2, DMem w2 p m ks vs R2 { S with down := false, ts := T.1.set j (cutT r.t (Z + n0)), used := size T.1 - (L - (Z + n0)) } ∧ (∃ v', R2[j]? = some ⟨r.b, v', cutT r.t (Z + n0)⟩) ∧
                (∀ W5 R5 t5, DMem W5 p m ks vs R5 { S with down := false, ts := T.1.set j t5, used := size T.1 - (L - (Z + n0)) } → R5.map tp = R2.map tp → (∀ k, DF p m ks vs R5 k → DF p m ks vs R2 k) → (∀ r5, R2[j]? = some r5 → Only (TF r5) w2 W5) → t5 = left r.t 0 →
                  KeepsFrom (W3.alloc (.cells #[.pointer (some ⟨m, 0, none⟩)] 51)).heap.size W W5 ∧ KeepC (w.heap.size + 4) W W5 ∧ OnI w p m ks vs R S F a 0 c fs (pre ++ [⟨j, hj⟩]) W5)) := by
            rintro w2 ⟨v', hv', hm2⟩ o2
            have hlt := (List.getElem?_eq_some_iff.1 HRI.out).1
            have hget : (R'.set j ⟨r.b, v', cutT r.t (Z + n0)⟩)[j]? = some ⟨r.b, v', cutT r.t (Z + n0)⟩ := by rw [List.getElem?_set_self hlt]
            refine ⟨_, hm2, ⟨v', hget⟩, ?_⟩
            rintro W5 R5 t5 hm5 htp5 hdf5 o5 rfl
            have htp2 : (R'.set j ⟨r.b, v', cutT r.t (Z + n0)⟩).map tp = R'.map tp := set_tp HRI.out rfl
            have o5' := o5 _ hget
            have hF1 : ∀ k, (k = p ∨ TF r k) → F k := fun k hk => by
              rcases hk with rfl | hk
              · exact hDF' _ df_p
              · exact hDF' _ (df_r (List.mem_of_getElem? HRI.out) hk)
            have O : Only (fun k => F k ∨ k = w.heap.size + 1 + 1) W W5 := by
              refine (OWK.out.drew.trans o2 (fun i e => .inl (.inl ?_))).trans o5' (fun i e => .inl (.inl ?_))
              · rcases e with rfl | rfl
                · exact hF1 _ (.inl rfl)
                · exact hF1 _ (.inr (.inl rfl))
              · rcases e with rfl | e
                · exact hF1 _ (.inr (.inl rfl))
                · rw [hv'] at e; exact hF1 _ (.inr (.inr e))
            refine HNEXT.out W5 R5 (T.1.set j (left r.t 0), T.2) HONE2.out.symm ?_ (htp5.trans htp2) (fun k hk => df_set0 (r' := ⟨r.b, v', cutT r.t (Z + n0)⟩) HRI.out rfl hv' (hdf5 k hk)) O ?_
            · rw [← HUSED.out]; exact hm5
            · refine ((HBK.out.drew).only o2 (fun e => ?_)).only o5' (fun e => ?_)
              · rcases e with e | e
                · have := hF _ (hF1 _ (.inl rfl)); omega
                · have := hF _ (hF1 r.b (.inr (.inl rfl))); omega
              · have : F (w.heap.size + 1 + 1) := by
                  rcases e with e | e
                  · exact hF1 _ (.inr (.inl e))
                  · rw [hv'] at e; exact hF1 _ (.inr (.inr e))
                have := hF _ this; omega
          have HCUT : Hid (Calls Tryz.prog 62 #[.pointer (some ⟨p, 0, none⟩), .pointer (some ⟨r.b, 0, none⟩), .int .i64 ((Z : Int) + n0)] Wk.drew fun e w2 => e = .returned (.tuple #[]) ∧ (∃ v', v'.ownBlock = r.v.ownBlock ∧ DMem w2 p m ks vs (R'.set j ⟨r.b, v', cutT r.t (Z + n0)⟩) { S with down := false, ts := T.1.set j (cutT r.t (Z + n0)), used := size T.1 - (L - (Z + n0)) }) ∧ Only (fun k => k = p ∨ k = r.b) Wk.drew w2) := by
            have := cut_mem p m ks vs R' _ j r (Z + n0) Wk.drew HMK.out.drew HRI.out (by rw [HL.out]; omega) (by rw [HL.out]; exact hsz1) hsz2 (by rw [HZZ.out]; omega)
            rw [HL.out] at this
            unfold Hid
            rw [show (Z : Int) + n0 = ((Z + n0 : Nat) : Int) by omega]
            exact this
          have HBL := hid hBl
          have hM0 : Z + n0 ≤ 4194304 := by omega
          clear hn0' htr hBl hsz2
          refine ⟨trivial, (callsIn_inR CK).mono ?_⟩; rintro e w' ⟨rfl, rfl⟩
          clear CK
          gi_wp2_with fail
          refine regionIn_tail (by rintro ⟨_, _, h⟩; exact h) 8 (by kernel_rfl) (by kernel_rfl) (by kernel_rfl) ?_
          simp only [List.take_succ_cons, List.take_zero, List.drop_succ_cons, List.drop_zero]
          repeat still_step
          refine wpStill_nil ?_
          change wpList _ _ _ _ _ Wk.drew
          go_wp2_with fail
          refine HCUT.out.mono ?_; rintro e w2 ⟨rfl, hm2, o2⟩
          obtain ⟨R2, hm2, ⟨v', hg2⟩, hrest⟩ := HREST.out w2 hm2 o2
          have HRST := hid hrest; have HM2 := hid hm2; have HG2 := hid hg2
          clear hrest hm2 hg2 o2
          go_wp2_with fail
          by_cases htorn : tr = true ∧ 0 < n0
          · obtain ⟨rfl, hn0p⟩ := htorn
            have hex : ∃ A cb, r.t.bytes.take (Z + n0) = A ++ [cb] := by
              have hne : r.t.bytes.take (Z + n0) ≠ [] := fun e => by have := HBL.out; rw [e] at this; simp at this; omega
              exact ⟨_, _, (List.dropLast_concat_getLast hne).symm⟩
            obtain ⟨A, cb, hA⟩ := hex
            have hAl : A.length + 1 = Z + n0 := by have := HBL.out; rw [hA] at this; simpa using this
            obtain ⟨g, cap, hv2, k1, k2, hm3, o3⟩ := tear_step (HM2.out.drew) HG2.out A cb hA
            have hlt2 := (List.getElem?_eq_some_iff.1 HG2.out).1
            have hg3 : (R2.set j ⟨r.b, v', { cutT r.t (Z + n0) with bytes := A ++ [cb ^^^ 0x55] }⟩)[j]? = some ⟨r.b, v', { cutT r.t (Z + n0) with bytes := A ++ [cb ^^^ 0x55] }⟩ := by rw [List.getElem?_set_self hlt2]
            have HG3 := hid hg3
            obtain rfl : v' = .slice (some ⟨g, 0, none⟩) (A.length + 1) cap := hv2
            have ht2 := (HM2.out.drew).tapes.1 _ (List.mem_of_getElem? HG2.out)
            have z0 : w2.cell? ⟨r.b, 0, none⟩ = some (.slice (some ⟨g, 0, none⟩) (A.length + 1) cap) := (ht2.1.cell 0).trans rfl
            have hx : bits .xor .u8 (cb.toNat : Int) 85 = ((cb ^^^ 0x55).toNat : Int) := by
              rw [u8_xor _ _ (by omega) (by have := cb.toNat_lt; omega) (by omega) (by omega)]
              rfl
            have hw1 : IntKind.i64.wrap (A.length : Int) = A.length := by rw [IntKind.wrap_i64]; omega
            have hcb := cb.toNat_lt
            have hlt1 : (A.length : Int) < A.length + 1 := by omega
            have gn0 : (0 : Int) < n0 := by omega
            have HO3 := hid o3; have HA := hid hA; have HH3 := hid hm3; have HAL := hid hAl
            clear hm3 hg3 o3 ht2 hA hAl
            gi_wp2_with fail
            refine regionIn_tail (by rintro ⟨_, _, h⟩; exact h) 14 (by kernel_rfl) (by kernel_rfl) (by kernel_rfl) ?_
            simp only [List.take_succ_cons, List.take_zero, List.drop_succ_cons, List.drop_zero]
            repeat still_step
            refine wpStill_nil ?_
            change wpList _ _ _ _ _ w2.drew
            go_wp2_with fail
            generalize hW4 : (w2.setCell ⟨g, A.length, none⟩ (.int .u8 ((cb.toNat ^^^ 85 : Nat) : Int))).drew = W4
            have EW : w2.drew.setCell ⟨g, A.length, none⟩ (.int .u8 ((cb ^^^ 0x55).toNat : Int)) = W4 := by rw [← hW4]; go_simp
            have hm3 := HH3.out
            have o3 := HO3.out
            rw [EW] at hm3 o3
            clear hW4 EW
            obtain ⟨s1, s2, ⟨sa, sc, s3⟩, hm4, o4⟩ := safe_step hm3 HG3.out ((A.length : Int) + 1) (by simp)
            have s4 : W4.cell? ⟨r.b, 0, none⟩ = some (.slice sa (A.length + 1) sc) := by rw [s3]; simp
            have HM4 := hid hm4; have HO3 := hid o3; have HO4 := hid o4
            clear hm3 hm4 o3 o4 s3 k1 k2 z0
            gi_wp2_with fail
            have hm4 := HM4.out
            simp only [List.set_set] at hm4
            have o5 : ∀ r5, R2[j]? = some r5 → Only (TF r5) w2 (W4.setCell ⟨r.b, 1, none⟩ (.int .i64 ((A.length : Int) + 1))) := fun r5 h5 => by
              rw [HG2.out] at h5
              obtain rfl := Option.some.inj h5
              exact ((Only.refl (TF ⟨r.b, .slice (some ⟨g, 0, none⟩) (A.length + 1) cap, cutT r.t (Z + n0)⟩) w2).drew.trans HO3.out (fun i e => .inl e)).trans HO4.out (fun i e => .inl e)
            have hfin := HRST.out _ _ _ hm4 (set_tp HG2.out rfl) (fun k hk => by refine df_set0 HG2.out ?_ ?_ hk <;> rfl) o5 (by rw [HLEFT.out]; simp [hn0p, HA.out, tear_snoc])
            first | exact hfin | (rw [hz4] at hfin; exact hfin)
          · obtain ⟨s1, s2, ⟨sa, sc, s3⟩, hm4, o4⟩ := safe_step HM2.out HG2.out ((Z : Int) + n0) (by show _ = (((r.t.bytes.take (Z + n0)).length : Nat) : Int); rw [HBL.out]; omega)
            have s4 : w2.cell? ⟨r.b, 0, none⟩ = some (.slice sa (Z + n0 : Nat) sc) := by rw [s3]; show some (Value.slice sa (r.t.bytes.take (Z + n0)).length sc) = _; rw [HBL.out]
            have HM4 := hid hm4; have HO4 := hid o4
            clear hm4 o4 s3
            have hfin : KeepsFrom (W3.alloc (.cells #[.pointer (some ⟨m, 0, none⟩)] 51)).heap.size W (w2.setCell ⟨r.b, 1, none⟩ (.int .i64 ((Z : Int) + n0))) ∧ KeepC (w.heap.size + 4) W (w2.setCell ⟨r.b, 1, none⟩ (.int .i64 ((Z : Int) + n0))) ∧ OnI w p m ks vs R S F a 0 c fs (pre ++ [⟨j, hj⟩]) (w2.setCell ⟨r.b, 1, none⟩ (.int .i64 ((Z : Int) + n0))) := by
              have hm4 := HM4.out
              simp only [List.set_set] at hm4
              have o5 : ∀ r5, R2[j]? = some r5 → Only (TF r5) w2 (w2.setCell ⟨r.b, 1, none⟩ (.int .i64 ((Z : Int) + n0))) := fun r5 h5 => by
                rw [HG2.out] at h5
                obtain rfl := Option.some.inj h5
                exact HO4.out
              exact HRST.out _ _ _ hm4 (set_tp HG2.out rfl) (fun k hk => by refine df_set0 HG2.out ?_ ?_ hk <;> rfl) o5 (by rw [HLEFT.out, if_neg htorn]; rfl)
            have HFIN := hid hfin
            clear hfin
            by_cases htr : tr = true
            · subst htr
              have gn1 : ¬ 0 < n0 := fun h0 => htorn ⟨rfl, h0⟩
              have gn2 : ¬ (0 : Int) < n0 := by omega
              clear htorn
              gi_wp2_with fail
              have hfin := HFIN.out
              first | exact hfin | (rw [hz4] at hfin; exact hfin)
            · obtain rfl : tr = false := by simpa using htr
              clear htorn htr
              gi_wp2_with fail
              have hfin := HFIN.out
              first | exact hfin | (rw [hz4] at hfin; exact hfin)
        · have hnp : 0 < n := by omega
          have hne : fs ≠ [] := fun e => by rw [e] at i1; simp at i1; omega
          rcases i4 with h0 | ⟨fb, fo, ha, hfc⟩
          · exact absurd h0 hn0
          obtain ⟨K, hK⟩ : ∃ K, T.2 % n = K := ⟨_, rfl⟩
          have hKn : K < n := by rw [← hK]; exact Nat.mod_lt _ hnp
          obtain ⟨fv, hfv⟩ : ∃ fv, fs.getD K 0 = fv := ⟨_, rfl⟩
          have hfm : fv ∈ fs := by
            rw [← hfv, List.getD_eq_getElem?_getD, List.getElem?_eq_getElem (by omega)]
            exact List.getElem_mem _
          have hf1 : (-9223372036854775808 : Int) ≤ fv := (i3 fv hfm).1
          have hf2 : fv ≤ 9223372036854775807 := (i3 fv hfm).2
          have hT2 : (T.1.set j (left r.t (fateOf fs T.2)), if fs = [] then T.2 else T.2 + 1) = (T.1.set j (left r.t fv), T.2 + 1) := by unfold fateOf; rw [if_neg hne, if_neg hne, i1, hK, hfv]
          have HONE2 : Hid (oneT fs T j = (T.1.set j (left r.t fv), T.2 + 1)) := HONE.out.trans hT2
          have cF : W.cell? ⟨fb, fo + K, none⟩ = some (.int .i64 fv) := by rw [← hfv]; exact hO.cell (hfc K hKn) (hFa hn0 _ _ ha)
          have f2 : W.frozen? ⟨w.heap.size + 1 + 1, 0, none⟩ = false := HBI.out.frozen 0
          have tm : (T.2 : Int).tmod (n : Int) = (K : Int) := by rw [← hK]; exact (Int.ofNat_tmod _ _).symm
          have nz : ¬ (n : Int) = 0 := by omega
          have nz2 : ((n : Int) == 0) = false := by rw [beq_eq_false_iff_ne]; exact nz
          have nz3 : ¬ n = 0 := hn0
          have kn : (K : Int) < n := by omega
          have kw : IntKind.i64.wrap (K : Int) = K := by rw [IntKind.wrap_i64]; omega
          have tw : IntKind.i64.wrap ((T.2 : Int) + 1) = T.2 + 1 := by rw [IntKind.wrap_i64]; omega
          have HFM := hid hfm; have HFC := hid hfc; have HFAA := hid hFa
          subst ha
          have HNE := hid hne; have HI1 := hid i1; have HI3 := hid i3; have HKK := hid hK; have HFV := hid hfv
          clear hT2 HONE hfm hfc hFa hne i1 i3 hK hfv
          gi_wp2
          refine regionIn_quiet (C := fun w' => ∃ q, w' = W.drewN q) (by rintro ⟨_, _, h⟩; exact h) (by kernel_rfl) (by kernel_rfl) (by kernel_rfl) ⟨1, rfl⟩ ?_
          repeat (go_big_quiet_step (fail))
          refine wpQuiet_nil ?_
          intro w' hw'
          obtain ⟨q, rfl⟩ := hw'
          gi_wp2_with fail
          refine regionIn_quiet (C := fun w' => ∃ q, w' = W.drewN q) (by rintro ⟨_, _, h⟩; exact h) (by kernel_rfl) (by kernel_rfl) (by kernel_rfl) ⟨q + 1, rfl⟩ ?_
          repeat (go_big_quiet_step (fail))
          refine wpQuiet_nil ?_
          intro w' hw'
          obtain ⟨q, rfl⟩ := hw'
          gi_wp2_with fail
          obtain ⟨Wk, hWk⟩ : ∃ Wk, Wk = (W.drewN q).setCell ⟨w.heap.size + 1 + 1, 0, none⟩ (.int .i64 ((T.2 : Int) + 1)) := ⟨_, rfl⟩
          have O : Only (· = w.heap.size + 1 + 1) W Wk := by rw [hWk]; exact ((Only.refl (· = w.heap.size + 1 + 1) W).drewN q).setCell (p := ⟨w.heap.size + 1 + 1, 0, none⟩) (.inl rfl) _
          have HMK : Hid (DMem Wk p m ks vs R' { S with down := false, ts := T.1, used := size T.1 }) := HM.out.only O (fun k hk e => by have := hF k (hDF' k hk); omega)
          have HBK : Hid (Blk Wk (w.heap.size + 1 + 1) 3 #[.int .i64 ((T.2 + 1 : Nat) : Int)]) := by
            have h0 : Blk (W.drewN q) (w.heap.size + 1 + 1) 3 #[.int .i64 T.2] := HBI.out
            have h1 := h0.set 0 (.int .i64 ((T.2 : Int) + 1))
            rw [hWk]
            unfold Hid
            simpa using h1
          have OWK : Hid (Only (fun k => F k ∨ k = w.heap.size + 1 + 1) W Wk) := O.mono (fun k e => .inr e)
          have w0 : Wk.cell? ⟨w.heap.size, 0, none⟩ = some (.pointer (some ⟨p, 0, none⟩)) := O.cell e0 (fun (e : w.heap.size = w.heap.size + 1 + 1) => by omega)
          have w1 : Wk.cell? ⟨r.b, 1, none⟩ = some (.int .i64 Z) := O.cell d1 (fun (e : r.b = w.heap.size + 1 + 1) => by have := hF _ (hDF' _ (df_r hrm (.inl rfl))); omega)
          rw [← hWk]
          clear hWk O tm kn kw tw cF
          -- kept, and what is left: f the fate, Wk the world
          obtain ⟨n0, hn0'⟩ : ∃ n0, (kept fv (L - Z)).1 = n0 := ⟨_, rfl⟩
          obtain ⟨tr, htr⟩ : ∃ tr, (kept fv (L - Z)).2 = tr := ⟨_, rfl⟩
          have hn0le : n0 ≤ L - Z := by rw [← hn0']; exact kept_le _ _
          have CK := kept_int fv ((L : Int) - Z) (L - Z) Wk HKE.out hf1 hf2 hKm hK0
          rw [hn0', htr] at CK
          have HLEFT : Hid (left r.t fv = ⟨if tr = true ∧ 0 < n0 then tear (r.t.bytes.take (Z + n0)) else r.t.bytes.take (Z + n0), (if tr = true ∧ 0 < n0 then tear (r.t.bytes.take (Z + n0)) else r.t.bytes.take (Z + n0)).length⟩) := by
            unfold Hid left
            rw [HL.out, HZZ.out, hn0', htr]
          have hBl : (r.t.bytes.take (Z + n0)).length = Z + n0 := by rw [List.length_take, HL.out]; omega
          have hsz1 : L ≤ size T.1 := by rw [← HL.out]; exact Reel.size_mem (List.mem_of_getElem? HTJ.out)
          have hsz2 := HSZT.out
          have HUSED : Hid (size T.1 - (L - (Z + n0)) = size (T.1.set j (left r.t fv))) := by
            obtain ⟨hjl, hje⟩ := List.getElem?_eq_some_iff.1 HTJ.out
            have := size_set T.1 j hjl (left r.t fv)
            rw [hje, HL.out] at this
            have h5 : (left r.t fv).bytes.length = Z + n0 := by
              rw [HLEFT.out]; show (if _ then tear _ else _ : List UInt8).length = _
              split
              · rw [tear_len, hBl]
              · exact hBl
            rw [h5] at this
            unfold Hid; omega
          -- all that lies behind cut
          have HREST : Hid (∀ w2, (∃ v', v'.ownBlock = r.v.ownBlock ∧ DMem w2 p m ks vs (R'.set j ⟨r.b, v', cutT r.t (Z + n0)⟩) { S with down := false, ts := T.1.set j (cutT r.t (Z + n0)), used := size T.1 - (L - (Z + n0)) }) → Only (fun k => k = p ∨ k = r.b) Wk.drew w2 →
              ∃ R2, DMem w2 p m ks vs R2 { S with down := false, ts := T.1.set j (cutT r.t (Z + n0)), used := size T.1 - (L - (Z + n0)) } ∧ (∃ v', R2[j]? = some ⟨r.b, v', cutT r.t (Z + n0)⟩) ∧
                (∀ W5 R5 t5, DMem W5 p m ks vs R5 { S with down := false, ts := T.1.set j t5, used := size T.1 - (L - (Z + n0)) } → R5.map tp = R2.map tp → (∀ k, DF p m ks vs R5 k → DF p m ks vs R2 k) → (∀ r5, R2[j]? = some r5 → Only (TF r5) w2 W5) → t5 = left r.t fv →
                  KeepsFrom (W3.alloc (.cells #[.pointer (some ⟨m, 0, none⟩)] 51)).heap.size W W5 ∧ KeepC (w.heap.size + 4) W W5 ∧ OnI w p m ks vs R S F (some ⟨fb, fo, none⟩) n c fs (pre ++ [⟨j, hj⟩]) W5)) := by
            rintro w2 ⟨v', hv', hm2⟩ o2
            have hlt := (List.getElem?_eq_some_iff.1 HRI.out).1
            have hget : (R'.set j ⟨r.b, v', cutT r.t (Z + n0)⟩)[j]? = some ⟨r.b, v', cutT r.t (Z + n0)⟩ := by rw [List.getElem?_set_self hlt]
            refine ⟨_, hm2, ⟨v', hget⟩, ?_⟩
            rintro W5 R5 t5 hm5 htp5 hdf5 o5 rfl
            have htp2 : (R'.set j ⟨r.b, v', cutT r.t (Z + n0)⟩).map tp = R'.map tp := set_tp HRI.out rfl
            have o5' := o5 _ hget
            have hF1 : ∀ k, (k = p ∨ TF r k) → F k := fun k hk => by
              rcases hk with rfl | hk
              · exact hDF' _ df_p
              · exact hDF' _ (df_r (List.mem_of_getElem? HRI.out) hk)
            have O : Only (fun k => F k ∨ k = w.heap.size + 1 + 1) W W5 := by
              refine (OWK.out.drew.trans o2 (fun i e => .inl (.inl ?_))).trans o5' (fun i e => .inl (.inl ?_))
              · rcases e with rfl | rfl
                · exact hF1 _ (.inl rfl)
                · exact hF1 _ (.inr (.inl rfl))
              · rcases e with rfl | e
                · exact hF1 _ (.inr (.inl rfl))
                · rw [hv'] at e; exact hF1 _ (.inr (.inr e))
            refine HNEXT.out W5 R5 (T.1.set j (left r.t fv), T.2 + 1) HONE2.out.symm ?_ (htp5.trans htp2) (fun k hk => df_set0 (r' := ⟨r.b, v', cutT r.t (Z + n0)⟩) HRI.out rfl hv' (hdf5 k hk)) O ?_
            · rw [← HUSED.out]; exact hm5
            · refine ((HBK.out.drew).only o2 (fun e => ?_)).only o5' (fun e => ?_)
              · rcases e with e | e
                · have := hF _ (hF1 _ (.inl rfl)); omega
                · have := hF _ (hF1 r.b (.inr (.inl rfl))); omega
              · have : F (w.heap.size + 1 + 1) := by
                  rcases e with e | e
                  · exact hF1 _ (.inr (.inl e))
                  · rw [hv'] at e; exact hF1 _ (.inr (.inr e))
                have := hF _ this; omega
          have HCUT : Hid (Calls Tryz.prog 62 #[.pointer (some ⟨p, 0, none⟩), .pointer (some ⟨r.b, 0, none⟩), .int .i64 ((Z : Int) + n0)] Wk.drew fun e w2 => e = .returned (.tuple #[]) ∧ (∃ v', v'.ownBlock = r.v.ownBlock ∧ DMem w2 p m ks vs (R'.set j ⟨r.b, v', cutT r.t (Z + n0)⟩) { S with down := false, ts := T.1.set j (cutT r.t (Z + n0)), used := size T.1 - (L - (Z + n0)) }) ∧ Only (fun k => k = p ∨ k = r.b) Wk.drew w2) := by
            have := cut_mem p m ks vs R' _ j r (Z + n0) Wk.drew HMK.out.drew HRI.out (by rw [HL.out]; omega) (by rw [HL.out]; exact hsz1) hsz2 (by rw [HZZ.out]; omega)
            rw [HL.out] at this
            unfold Hid
            rw [show (Z : Int) + n0 = ((Z + n0 : Nat) : Int) by omega]
            exact this
          have HBL := hid hBl
          have hM0 : Z + n0 ≤ 4194304 := by omega
          clear hn0' htr hBl hsz2
          refine ⟨trivial, (callsIn_inR CK).mono ?_⟩; rintro e w' ⟨rfl, rfl⟩
          clear CK
          gi_wp2_with fail
          refine regionIn_tail (by rintro ⟨_, _, h⟩; exact h) 8 (by kernel_rfl) (by kernel_rfl) (by kernel_rfl) ?_
          simp only [List.take_succ_cons, List.take_zero, List.drop_succ_cons, List.drop_zero]
          repeat still_step
          refine wpStill_nil ?_
          change wpList _ _ _ _ _ Wk.drew
          go_wp2_with fail
          refine HCUT.out.mono ?_; rintro e w2 ⟨rfl, hm2, o2⟩
          obtain ⟨R2, hm2, ⟨v', hg2⟩, hrest⟩ := HREST.out w2 hm2 o2
          have HRST := hid hrest; have HM2 := hid hm2; have HG2 := hid hg2
          clear hrest hm2 hg2 o2
          go_wp2_with fail
          by_cases htorn : tr = true ∧ 0 < n0
          · obtain ⟨rfl, hn0p⟩ := htorn
            have hex : ∃ A cb, r.t.bytes.take (Z + n0) = A ++ [cb] := by
              have hne : r.t.bytes.take (Z + n0) ≠ [] := fun e => by have := HBL.out; rw [e] at this; simp at this; omega
              exact ⟨_, _, (List.dropLast_concat_getLast hne).symm⟩
            obtain ⟨A, cb, hA⟩ := hex
            have hAl : A.length + 1 = Z + n0 := by have := HBL.out; rw [hA] at this; simpa using this
            obtain ⟨g, cap, hv2, k1, k2, hm3, o3⟩ := tear_step (HM2.out.drew) HG2.out A cb hA
            have hlt2 := (List.getElem?_eq_some_iff.1 HG2.out).1
            have hg3 : (R2.set j ⟨r.b, v', { cutT r.t (Z + n0) with bytes := A ++ [cb ^^^ 0x55] }⟩)[j]? = some ⟨r.b, v', { cutT r.t (Z + n0) with bytes := A ++ [cb ^^^ 0x55] }⟩ := by rw [List.getElem?_set_self hlt2]
            have HG3 := hid hg3
            obtain rfl : v' = .slice (some ⟨g, 0, none⟩) (A.length + 1) cap := hv2
            have ht2 := (HM2.out.drew).tapes.1 _ (List.mem_of_getElem? HG2.out)
            have z0 : w2.cell? ⟨r.b, 0, none⟩ = some (.slice (some ⟨g, 0, none⟩) (A.length + 1) cap) := (ht2.1.cell 0).trans rfl
            have hx : bits .xor .u8 (cb.toNat : Int) 85 = ((cb ^^^ 0x55).toNat : Int) := by
              rw [u8_xor _ _ (by omega) (by have := cb.toNat_lt; omega) (by omega) (by omega)]
              rfl
            have hw1 : IntKind.i64.wrap (A.length : Int) = A.length := by rw [IntKind.wrap_i64]; omega
            have hcb := cb.toNat_lt
            have hlt1 : (A.length : Int) < A.length + 1 := by omega
            have gn0 : (0 : Int) < n0 := by omega
            have HO3 := hid o3; have HA := hid hA; have HH3 := hid hm3; have HAL := hid hAl
            clear hm3 hg3 o3 ht2 hA hAl
            gi_wp2_with fail
            refine regionIn_tail (by rintro ⟨_, _, h⟩; exact h) 14 (by kernel_rfl) (by kernel_rfl) (by kernel_rfl) ?_
            simp only [List.take_succ_cons, List.take_zero, List.drop_succ_cons, List.drop_zero]
            repeat still_step
            refine wpStill_nil ?_
            change wpList _ _ _ _ _ w2.drew
            go_wp2_with fail
            generalize hW4 : (w2.setCell ⟨g, A.length, none⟩ (.int .u8 ((cb.toNat ^^^ 85 : Nat) : Int))).drew = W4
            have EW : w2.drew.setCell ⟨g, A.length, none⟩ (.int .u8 ((cb ^^^ 0x55).toNat : Int)) = W4 := by rw [← hW4]; go_simp
            have hm3 := HH3.out
            have o3 := HO3.out
            rw [EW] at hm3 o3
            clear hW4 EW
            obtain ⟨s1, s2, ⟨sa, sc, s3⟩, hm4, o4⟩ := safe_step hm3 HG3.out ((A.length : Int) + 1) (by simp)
            have s4 : W4.cell? ⟨r.b, 0, none⟩ = some (.slice sa (A.length + 1) sc) := by rw [s3]; simp
            have HM4 := hid hm4; have HO3 := hid o3; have HO4 := hid o4
            clear hm3 hm4 o3 o4 s3 k1 k2 z0
            gi_wp2_with fail
            have hm4 := HM4.out
            simp only [List.set_set] at hm4
            have o5 : ∀ r5, R2[j]? = some r5 → Only (TF r5) w2 (W4.setCell ⟨r.b, 1, none⟩ (.int .i64 ((A.length : Int) + 1))) := fun r5 h5 => by
              rw [HG2.out] at h5
              obtain rfl := Option.some.inj h5
              exact ((Only.refl (TF ⟨r.b, .slice (some ⟨g, 0, none⟩) (A.length + 1) cap, cutT r.t (Z + n0)⟩) w2).drew.trans HO3.out (fun i e => .inl e)).trans HO4.out (fun i e => .inl e)
            have hfin := HRST.out _ _ _ hm4 (set_tp HG2.out rfl) (fun k hk => by refine df_set0 HG2.out ?_ ?_ hk <;> rfl) o5 (by rw [HLEFT.out]; simp [hn0p, HA.out, tear_snoc])
            first | exact hfin | (rw [hz4] at hfin; exact hfin)
          · obtain ⟨s1, s2, ⟨sa, sc, s3⟩, hm4, o4⟩ := safe_step HM2.out HG2.out ((Z : Int) + n0) (by show _ = (((r.t.bytes.take (Z + n0)).length : Nat) : Int); rw [HBL.out]; omega)
            have s4 : w2.cell? ⟨r.b, 0, none⟩ = some (.slice sa (Z + n0 : Nat) sc) := by rw [s3]; show some (Value.slice sa (r.t.bytes.take (Z + n0)).length sc) = _; rw [HBL.out]
            have HM4 := hid hm4; have HO4 := hid o4
            clear hm4 o4 s3
            have hfin : KeepsFrom (W3.alloc (.cells #[.pointer (some ⟨m, 0, none⟩)] 51)).heap.size W (w2.setCell ⟨r.b, 1, none⟩ (.int .i64 ((Z : Int) + n0))) ∧ KeepC (w.heap.size + 4) W (w2.setCell ⟨r.b, 1, none⟩ (.int .i64 ((Z : Int) + n0))) ∧ OnI w p m ks vs R S F (some ⟨fb, fo, none⟩) n c fs (pre ++ [⟨j, hj⟩]) (w2.setCell ⟨r.b, 1, none⟩ (.int .i64 ((Z : Int) + n0))) := by
              have hm4 := HM4.out
              simp only [List.set_set] at hm4
              have o5 : ∀ r5, R2[j]? = some r5 → Only (TF r5) w2 (w2.setCell ⟨r.b, 1, none⟩ (.int .i64 ((Z : Int) + n0))) := fun r5 h5 => by
                rw [HG2.out] at h5
                obtain rfl := Option.some.inj h5
                exact HO4.out
              exact HRST.out _ _ _ hm4 (set_tp HG2.out rfl) (fun k hk => by refine df_set0 HG2.out ?_ ?_ hk <;> rfl) o5 (by rw [HLEFT.out, if_neg htorn]; rfl)
            have HFIN := hid hfin
            clear hfin
            by_cases htr : tr = true
            · subst htr
              have gn1 : ¬ 0 < n0 := fun h0 => htorn ⟨rfl, h0⟩
              have gn2 : ¬ (0 : Int) < n0 := by omega
              clear htorn
              gi_wp2_with fail
              have hfin := HFIN.out
              first | exact hfin | (rw [hz4] at hfin; exact hfin)
            · obtain rfl : tr = false := by simpa using htr
              clear htorn htr
              gi_wp2_with fail
              have hfin := HFIN.out
              first | exact hfin | (rw [hz4] at hfin; exact hfin)
end Go.Proofs.YtnhgfhbicaiilaaGreat
/- A reel's state as a law sees it: what stands under each name. Plain Lean. -/
namespace Go.Proofs.YtnhgfhbicaiilaaGreat.Reel
open Go.RowKit
set_option linter.unusedVariables false

def upd (f : ByteArray → Option Spool) (x : ByteArray) (v : Option Spool) : ByteArray → Option Spool := fun y => if y = x then v else f y
theorem upd_self (f : ByteArray → Option Spool) (x : ByteArray) (v : Option Spool) : upd f x v x = v := by unfold upd; rw [if_pos rfl]
theorem upd_other (f : ByteArray → Option Spool) {x y : ByteArray} (v : Option Spool) (h : y ≠ x) : upd f x v y = f y := by unfold upd; rw [if_neg h]
/-- a state with a room of 2^26; d: down; m: armed; n: acts and lives at most; k: names at most; u: bytes at most -/
structure View (S : St) (d : Bool) (m n k u : Nat) (f : ByteArray → Option Spool) : Prop where
  ok : S.Ok
  room : S.room = 67108864
  down : S.down = d
  armed : S.armed = m
  fits : S.Fits n
  few : S.l.length ≤ k
  used : S.used ≤ u
  at_ : ∀ x, Reel.at_ S x = f x
section
variable {S : St} {d : Bool} {m n k u : Nat} {f : ByteArray → Option Spool} {x : ByteArray} {t : Spool}
theorem view_new : View (new 67108864) false 0 0 0 0 (fun _ => none) := by
  refine ⟨new_ok _, rfl, rfl, rfl, ⟨Nat.le_refl _, Nat.le_refl _, by decide⟩, Nat.le_refl _, Nat.le_refl _, fun x => ?_⟩
  unfold Reel.at_
  split <;> rfl
theorem at_put {U : Nat} (h : S.Ok) (h' : St.Ok { putT S x t with used := U }) (y : ByteArray) : Reel.at_ (putT S x t) y = if y = x then some t else Reel.at_ S y := by
  have hm : ∀ u, (y, u) ∈ St.ents { putT S x t with used := U } ↔ (y = x ∧ u = t) ∨ (y ≠ x ∧ (y, u) ∈ S.ents) := fun u => put_mem h
  by_cases hy : y = x
  · rw [if_pos hy]
    exact (at_iff (S := { putT S x t with used := U }) h').2 ((hm t).2 (.inl ⟨hy, rfl⟩))
  · rw [if_neg hy]
    exact at_ext (S := { putT S x t with used := U }) h' h y (fun u => (hm u).trans ⟨fun e => e.elim (fun e => absurd e.1 hy) (·.2), fun e => .inr ⟨hy, e⟩⟩)
theorem act_view (hd : S.down = false) (ha : S.armed = 0) : actS S = ({ S with acts := S.acts + 1 }, 0) := by unfold actS; rw [if_pos ha]
theorem act_view1 (ha : S.armed = 1) : actS S = ({ S with acts := S.acts + 1, down := true, armed := 0, life := S.life + 1 }, 10) := by unfold actS; rw [if_neg (by omega), if_pos ha]
theorem putN_len (l : List ByteArray) (x : ByteArray) : (putN l x).length ≤ l.length + 1 := by
  unfold putN; split
  · omega
  · have := posOf_le l x
    simp; omega
/-- what Append makes where there is room -/
theorem view_append (h : View S false 0 n k u f) (s : ByteArray) (hx : isName x = true) (hu : u + s.size ≤ 67108864) (hk : k < 64) (hl : ∀ t, f x = some t → t.bytes.length + s.size ≤ 4194304) (hs : s.size ≤ 4194304) :
    (appendS S x s).2 = 0 ∧ View (appendS S x s).1 false 0 (n + 1) (k + 1) (u + s.size) (upd f x (some (match f x with | some t => ⟨t.bytes ++ s.data.toList, t.safe⟩ | none => ⟨s.data.toList, 0⟩))) := by
  have hsz : s.data.toList.length = s.size := by rw [Array.length_toList]; rfl
  have hus := h.used
  have hg : ∀ (t' : Spool), St.Ok { putT S x t' with used := S.used + s.size } → View (actS { putT S x t' with used := S.used + s.size }).1 false 0 (n + 1) (k + 1) (u + s.size) (upd f x (some t')) ∧ (actS { putT S x t' with used := S.used + s.size }).2 = 0 := by
    intro t' hok
    have hact : actS { putT S x t' with used := S.used + s.size } = ({ putT S x t' with used := S.used + s.size, acts := S.acts + 1 }, 0) := by
      exact act_view (S := { putT S x t' with used := S.used + s.size }) h.down h.armed
    have hok2 := act_ok hok
    rw [hact] at hok2 ⊢
    refine ⟨⟨hok2, h.room, h.down, h.armed, ⟨by show S.acts + 1 ≤ _; have := h.fits.1; omega, by show S.life ≤ _; have := h.fits.2.1; omega, h.fits.2.2⟩, ?_, by show S.used + s.size ≤ _; omega, fun y => ?_⟩, rfl⟩
    · have := putN_len S.l x; have := h.few
      show (putN S.l x).length ≤ _; omega
    · show Reel.at_ (putT S x t') y = _
      rw [at_put h.ok hok]; unfold upd
      split
      · rfl
      · exact h.at_ y
  cases hf : f x with
  | some t =>
    have hat : Reel.at_ S x = some t := (h.at_ x).trans hf
    have := hl t hf
    have hsafe := (h.ok.each t (at_mem hat)).2
    have e : appendS S x s = actS { putT S x ⟨t.bytes ++ s.data.toList, t.safe⟩ with used := S.used + s.size } := by
      unfold appendS
      rw [if_neg (by rw [h.down]; simp), if_neg (by rw [hx]; simp), if_neg (by rw [h.room]; omega), hat]
      exact if_neg (by omega)
    rw [e]
    obtain ⟨g1, g2⟩ := hg ⟨t.bytes ++ s.data.toList, t.safe⟩ (h.ok.put hat (t' := ⟨t.bytes ++ s.data.toList, t.safe⟩) (by show (t.bytes ++ s.data.toList).length ≤ _; rw [List.length_append, hsz]; omega) (by show t.safe ≤ (t.bytes ++ s.data.toList).length; rw [List.length_append]; omega) _ (by show _ = S.used + (t.bytes ++ s.data.toList).length; rw [List.length_append, hsz]; omega) (by omega))
    exact ⟨g2, g1⟩
  | none =>
    have hat : Reel.at_ S x = none := (h.at_ x).trans hf
    have hfew := h.few
    have e : appendS S x s = actS { putT S x ⟨s.data.toList, 0⟩ with used := S.used + s.size } := by
      unfold appendS
      rw [if_neg (by rw [h.down]; simp), if_neg (by rw [hx]; simp), if_neg (by rw [h.room]; omega), hat]
      exact if_neg (by omega)
    rw [e]
    obtain ⟨g1, g2⟩ := hg ⟨s.data.toList, 0⟩ (h.ok.ins (at_none h.ok hat) hx (by omega) (t' := ⟨s.data.toList, 0⟩) (by show s.data.toList.length ≤ _; rw [hsz]; omega) (Nat.zero_le _) _ (by show _ = S.used + s.data.toList.length; rw [hsz]) (by omega))
    exact ⟨g2, g1⟩
theorem view_put (h : View S false 0 n k u f) (hf : f x = some t) (t' : Spool) (h1 : t'.safe ≤ t'.bytes.length) (h2 : t'.bytes.length ≤ t.bytes.length) (U : Nat) (hU : U = S.used - (t.bytes.length - t'.bytes.length)) :
    View { putT { S with acts := S.acts + 1 } x t' with used := U } false 0 (n + 1) k u (upd f x (some t')) := by
  have hat : Reel.at_ S x = some t := (h.at_ x).trans hf
  have hmem := size_mem (at_mem hat)
  rw [← h.ok.used] at hmem
  have h64 := (h.ok.each t (at_mem hat)).1
  have hus := h.used
  have hmost := h.ok.most
  have hok : St.Ok { putT S x t' with used := U } := h.ok.put hat (by omega) h1 _ (by omega) (by omega)
  refine ⟨?_, h.room, h.down, h.armed, ⟨by show S.acts + 1 ≤ _; have := h.fits.1; omega, by show S.life ≤ _; have := h.fits.2.1; omega, h.fits.2.2⟩, ?_, by show U ≤ _; omega, fun y => ?_⟩
  · exact hok.with_ rfl rfl rfl hok.room
  · show (putN S.l x).length ≤ k
    unfold putN; rw [if_pos (at_some hat).1]; exact h.few
  · show Reel.at_ (putT S x t') y = _
    rw [at_put h.ok hok]; unfold upd
    split
    · rfl
    · exact h.at_ y
theorem view_sync (h : View S false 0 n k u f) (hf : f x = some t) : (syncS S x).2 = 0 ∧ View (syncS S x).1 false 0 (n + 1) k u (upd f x (some ⟨t.bytes, t.bytes.length⟩)) := by
  have hat : Reel.at_ S x = some t := (h.at_ x).trans hf
  have e : syncS S x = ({ putT { S with acts := S.acts + 1 } x ⟨t.bytes, t.bytes.length⟩ with used := S.used }, 0) := by
    unfold syncS; rw [if_neg (by rw [h.down]; simp), hat]
    show (if (actS S).2 = 0 then _ else _) = _
    rw [act_view h.down h.armed, if_pos rfl]
    rfl
  rw [e]
  exact ⟨rfl, view_put h hf ⟨t.bytes, t.bytes.length⟩ (Nat.le_refl _) (Nat.le_refl _) _ (by show S.used = S.used - (t.bytes.length - t.bytes.length); omega)⟩
theorem view_cut (h : View S false 0 n k u f) (hf : f x = some t) (j : Nat) (hj : j ≤ t.bytes.length) : (cutS S x j).2 = 0 ∧ View (cutS S x j).1 false 0 (n + 1) k u (upd f x (some (cutT t j))) := by
  have hat : Reel.at_ S x = some t := (h.at_ x).trans hf
  have e : cutS S x j = ({ putT { S with acts := S.acts + 1 } x (cutT t j) with used := S.used - (t.bytes.length - j) }, 0) := by
    unfold cutS; rw [if_neg (by rw [h.down]; simp), hat]
    show (if _ then _ else _ : St × Int) = _
    rw [if_neg (by omega), act_view h.down h.armed, if_pos rfl]
    rfl
  rw [e]
  have hl : (cutT t j).bytes.length = j := by unfold cutT; rw [List.length_take]; omega
  exact ⟨rfl, view_put h hf (cutT t j) (by rw [hl]; exact Nat.min_le_right _ _) (by rw [hl]; exact hj) _ (by rw [hl])⟩
theorem view_off (h : View S d m n k u f) : View (offS S) true (if d = true then m else 0) (n + 1) k u f := by
  have hfit := h.fits
  unfold offS
  rw [h.down]
  cases d
  · rw [if_neg (by simp), if_neg (by simp)]
    exact ⟨h.ok.with_ rfl rfl rfl h.ok.room, h.room, rfl, rfl, ⟨by show S.acts ≤ _; have := hfit.1; omega, by show S.life + 1 ≤ _; have := hfit.2.1; omega, by show (0 : Nat) ≤ _; omega⟩, h.few, h.used, h.at_⟩
  · rw [if_pos rfl, if_pos rfl]
    exact ⟨h.ok, h.room, h.down, h.armed, ⟨by have := hfit.1; omega, by have := hfit.2.1; omega, hfit.2.2⟩, h.few, h.used, h.at_⟩
theorem view_arm (h : View S d m n k u f) (j : Nat) (hj : j ≤ 9223372036854775807) : View (armS S j) d j n k u f :=
  ⟨h.ok.with_ rfl rfl rfl h.ok.room, h.room, h.down, by show (j : Int).toNat = j; omega, ⟨h.fits.1, h.fits.2.1, by show (j : Int).toNat ≤ _; omega⟩, h.few, h.used, h.at_⟩
theorem view_act1 (h : View S false 1 n k u f) : (actS S).2 = 10 ∧ View (actS S).1 true 0 (n + 1) k u f := by
  have hfit := h.fits
  rw [act_view1 h.armed]
  exact ⟨rfl, h.ok.with_ rfl rfl rfl h.ok.room, h.room, rfl, rfl, ⟨by show S.acts + 1 ≤ _; have := hfit.1; omega, by show S.life + 1 ≤ _; have := hfit.2.1; omega, by show (0 : Nat) ≤ _; omega⟩, h.few, h.used, h.at_⟩
theorem view_cut1 (h : View S false 1 n k u f) (hf : f x = some t) (j : Nat) (hj : j ≤ t.bytes.length) : (cutS S x j).2 = 10 ∧ View (cutS S x j).1 true 0 (n + 1) k u f := by
  have hat : Reel.at_ S x = some t := (h.at_ x).trans hf
  obtain ⟨h1, h2⟩ := view_act1 h
  have e : cutS S x j = actS S := by
    unfold cutS; rw [if_neg (by rw [h.down]; simp), hat]
    show (if _ then _ else _ : St × Int) = _
    rw [if_neg (by omega), if_neg (by rw [h1]; decide)]
  rw [e]; exact ⟨h1, h2⟩
theorem view_swap1 (h : View S false 1 n k u f) (hf : f x = some t) (y : ByteArray) (hy : isName y = true) : (swapS S x y).2 = 10 ∧ View (swapS S x y).1 true 0 (n + 1) k u f := by
  have hat : Reel.at_ S x = some t := (h.at_ x).trans hf
  obtain ⟨h1, h2⟩ := view_act1 h
  have e : swapS S x y = actS S := by
    unfold swapS; rw [if_neg (by rw [h.down]; simp), hat]
    show (if _ then _ else _ : St × Int) = _
    rw [if_neg (by rw [hy]; decide), if_neg (by rw [h1]; decide)]
  rw [e]; exact ⟨h1, h2⟩
theorem view_drop1 (h : View S false 1 n k u f) (hf : f x = some t) : (dropS S x).2 = 10 ∧ View (dropS S x).1 true 0 (n + 1) k u f := by
  have hat : Reel.at_ S x = some t := (h.at_ x).trans hf
  obtain ⟨h1, h2⟩ := view_act1 h
  have e : dropS S x = actS S := by
    unfold dropS; rw [if_neg (by rw [h.down]; simp), hat]
    show (if _ then _ else _ : St × Int) = _
    rw [if_neg (by rw [h1]; decide)]
  rw [e]; exact ⟨h1, h2⟩
theorem at_del_self {U : Nat} (h : S.Ok) (hx : hasN S.l x = true) (h' : St.Ok { delT S x with used := U }) : Reel.at_ (delT S x) x = none := by
  cases ha : Reel.at_ (delT S x) x with
  | none => rfl
  | some v => exact absurd rfl ((del_mem h hx).1 ((at_iff (S := { delT S x with used := U }) h').1 ha)).2
theorem delN_len (l : List ByteArray) (x : ByteArray) : (delN l x).length ≤ l.length := by
  unfold delN; split
  · simp; omega
  · exact Nat.le_refl _
theorem view_drop (h : View S false 0 n k u f) (hf : f x = some t) : (dropS S x).2 = 0 ∧ View (dropS S x).1 false 0 (n + 1) k u (upd f x none) := by
  have hat : Reel.at_ S x = some t := (h.at_ x).trans hf
  have hmem := size_mem (at_mem hat)
  rw [← h.ok.used] at hmem
  have hus := h.used
  have hfit := h.fits
  have e : dropS S x = ({ delT { S with acts := S.acts + 1 } x with used := S.used - t.bytes.length }, 0) := by
    unfold dropS; rw [if_neg (by rw [h.down]; simp), hat]
    show (if _ then _ else _ : St × Int) = _
    rw [act_view h.down h.armed, if_pos rfl]
  rw [e]
  have hok : St.Ok { delT S x with used := S.used - t.bytes.length } := h.ok.del hat _ (by omega)
  refine ⟨rfl, hok.with_ rfl rfl rfl hok.room, h.room, h.down, h.armed, ⟨by show S.acts + 1 ≤ _; have := hfit.1; omega, by show S.life ≤ _; have := hfit.2.1; omega, hfit.2.2⟩, ?_, by show S.used - _ ≤ _; omega, fun y => ?_⟩
  · have := delN_len S.l x; have := h.few
    show (delN S.l x).length ≤ _; omega
  · show Reel.at_ (delT S x) y = _
    unfold upd
    split
    · rename_i hy; subst hy; exact at_del_self h.ok (at_some hat).1 hok
    · rename_i hy; rw [at_del h.ok hat hy]; exact h.at_ y
theorem view_swap (h : View S false 0 n k u f) (hf : f x = some t) {y : ByteArray} {t2 : Spool} (hy : isName y = true) (hf2 : f y = some t2) (hne : x ≠ y) : (swapS S x y).2 = 0 ∧ View (swapS S x y).1 false 0 (n + 1) k u (upd (upd f x none) y (some t)) := by
  have hat : Reel.at_ S x = some t := (h.at_ x).trans hf
  have hat2 : Reel.at_ S y = some t2 := (h.at_ y).trans hf2
  have hmem := size_mem (at_mem hat)
  rw [← h.ok.used] at hmem
  have hus := h.used
  have hmost := h.ok.most
  have hfit := h.fits
  have hlen : lenAt S y = t2.bytes.length := by unfold lenAt; rw [hat2]
  have e : swapS S x y = ({ putT { delT { S with acts := S.acts + 1 } x with used := S.used - t2.bytes.length } y t with used := S.used - t2.bytes.length }, 0) := by
    unfold swapS; rw [if_neg (by rw [h.down]; simp), hat]
    show (if _ then _ else _ : St × Int) = _
    rw [if_neg (by rw [hy]; decide), act_view h.down h.armed, if_pos rfl, if_neg hne, hlen]
    rfl
  rw [e]
  have hok : St.Ok { delT S x with used := S.used - t.bytes.length } := h.ok.del hat _ (by omega)
  have hatd : Reel.at_ (delT S x) y = some t2 := (at_del h.ok hat (Ne.symm hne)).trans hat2
  have hmem2 : t2.bytes.length ≤ S.used - t.bytes.length := by
    have := size_mem (at_mem (S := { delT S x with used := S.used - t.bytes.length }) hatd)
    rw [← hok.used] at this; exact this
  have hsafe := h.ok.each t (at_mem hat)
  have hok2 : St.Ok { putT { delT S x with used := S.used - t.bytes.length } y t with used := S.used - t2.bytes.length } := hok.put hatd hsafe.1 hsafe.2 _ (by show _ = S.used - t.bytes.length + _; omega) (by omega)
  refine ⟨rfl, hok2.with_ rfl rfl rfl hok2.room, h.room, h.down, h.armed, ⟨by show S.acts + 1 ≤ _; have := hfit.1; omega, by show S.life ≤ _; have := hfit.2.1; omega, hfit.2.2⟩, ?_, by show S.used - _ ≤ _; omega, fun z => ?_⟩
  · have := delN_len S.l x; have := h.few
    show (putN (delN S.l x) y).length ≤ _
    have hh : hasN (delN S.l x) y = true := (at_some (S := delT S x) hatd).1
    unfold putN; rw [if_pos hh]; omega
  · have h3 := at_put hok hok2 z
    show Reel.at_ (putT { delT S x with used := S.used - t.bytes.length } y t) z = _
    rw [h3]
    unfold upd
    split
    · rfl
    · show Reel.at_ (delT S x) z = _
      split
      · rename_i hz; subst hz; exact at_del_self h.ok (at_some hat).1 hok
      · rename_i hz; rw [at_del h.ok hat hz]; exact h.at_ z
theorem onT_get (fs : List Int) : ∀ (ts : List Spool) (i j : Nat), (ts[j]? = none → (onT fs i ts)[j]? = none) ∧ (∀ t, ts[j]? = some t → ∃ t', (onT fs i ts)[j]? = some t' ∧ (t.bytes.length = t.safe → t' = t) ∧ (t.bytes.length ≠ t.safe → ∃ c, t' = left t c))
  | [], i, j => ⟨fun _ => by simp [onT], fun t h => by simp at h⟩
  | a :: r, i, j => by
    unfold onT
    split
    · rename_i he
      cases j with
      | zero => exact ⟨fun h => by simp at h, fun t h => ⟨t, by simpa using h, fun _ => rfl, fun hn => by simp at h; subst h; exact absurd he hn⟩⟩
      | succ j => simpa using onT_get fs r i j
    · rename_i he
      cases j with
      | zero => exact ⟨fun h => by simp at h, fun t h => by
          simp at h; subst h
          exact ⟨_, rfl, fun hn => absurd hn he, fun _ => ⟨_, rfl⟩⟩⟩
      | succ j => simpa using onT_get fs r (if fs = [] then i else i + 1) j
theorem onT_size (fs : List Int) : ∀ (ts : List Spool) (i : Nat), (∀ t ∈ ts, t.safe ≤ t.bytes.length) → size (onT fs i ts) ≤ size ts
  | [], i, _ => by simp [onT]
  | a :: r, i, h => by
    have ha := h a (List.mem_cons_self ..)
    unfold onT
    split
    · rw [size_cons, size_cons]
      have := onT_size fs r i (fun t ht => h t (List.mem_cons_of_mem _ ht)); omega
    · rw [size_cons, size_cons]
      have := onT_size fs r (if fs = [] then i else i + 1) (fun t ht => h t (List.mem_cons_of_mem _ ht))
      have h1 := (left_len a (if fs = [] then 0 else fs.getD (i % fs.length) 0) ha).1
      have h2 := kept_le (if fs = [] then 0 else fs.getD (i % fs.length) 0) (a.bytes.length - a.safe)
      omega
theorem view_on (h : View S true m n k u f) (fs : List Int) : ∃ g, View (onS S fs) false m n k u g ∧ (∀ x, f x = none → g x = none) ∧ (∀ x t, f x = some t → ∃ t', g x = some t' ∧ (t.bytes.length = t.safe → t' = t) ∧ (t.bytes.length ≠ t.safe → ∃ c, t' = left t c)) := by
  have hok := on_ok h.ok fs
  have hus := h.used
  have he : onS S fs = { S with down := false, ts := onT fs 0 S.ts, used := size (onT fs 0 S.ts) } := by unfold onS; rw [if_neg (by rw [h.down]; simp)]
  have hsz := onT_size fs S.ts 0 (fun t ht => (h.ok.each t ht).2)
  rw [← h.ok.used] at hsz
  rw [he] at hok ⊢
  refine ⟨_, ⟨hok, h.room, rfl, h.armed, h.fits, h.few, by show size _ ≤ _; omega, fun x => rfl⟩, fun x hx => ?_, fun x t hx => ?_⟩
  · have hn := at_none h.ok ((h.at_ x).trans hx)
    show Reel.at_ _ x = none
    unfold Reel.at_
    exact if_neg (by show ¬ hasN S.l x = true; rw [hn]; simp)
  · obtain ⟨h1, h2⟩ := at_some ((h.at_ x).trans hx)
    obtain ⟨t', g1, g2⟩ := (onT_get fs S.ts 0 (posOf S.l x)).2 t h2
    refine ⟨t', ?_, g2⟩
    show Reel.at_ _ x = _
    unfold Reel.at_
    exact (if_pos h1).trans g1
theorem view_read (h : View S false m n k u f) (x : ByteArray) : readS S x = match f x with | none => ([], 12) | some t => (t.bytes, 0) := by
  unfold readS; rw [if_neg (by rw [h.down]; simp), h.at_ x]; rfl
theorem view_size (h : View S d m n k u f) (x : ByteArray) : sizeS S x = match f x with | none => -1 | some t => (t.bytes.length : Int) := by
  unfold sizeS; rw [h.at_ x]; rfl
theorem View.mono (h : View S d m n k u f) {n' k' u' : Nat} (hn : n ≤ n') (hk : k ≤ k') (hu : u ≤ u') : View S d m n' k' u' f :=
  ⟨h.ok, h.room, h.down, h.armed, ⟨Nat.le_trans h.fits.1 hn, Nat.le_trans h.fits.2.1 hn, h.fits.2.2⟩, Nat.le_trans h.few hk, Nat.le_trans h.used hu, h.at_⟩
end
end Go.Proofs.YtnhgfhbicaiilaaGreat.Reel
/- A disk in memory of one's own, and a disk that leaves alone what lies in K: the contracts in these forms. -/
namespace Go.Proofs.YtnhgfhbicaiilaaGreat
open Go.RowKit Reel
set_option linter.unusedVariables false

namespace Reel
def fl (s : ByteArray) : Spool := ⟨s.data.toList, s.data.toList.length⟩
theorem upd_upd (f : ByteArray → Option Spool) (x : ByteArray) (v u : Option Spool) : upd (upd f x v) x u = upd f x u := by
  funext y; unfold upd; split <;> rfl
end Reel
/-- a disk that lies, whole, at or above B -/
def D (B : Nat) (w : World) (p : Nat) (S : St) : Prop := ∃ F, DiskAt w p F S ∧ (∀ k, F k → B ≤ k) ∧ B ≤ w.heap.size
section
variable {B p : Nat} {S S' : St} {w w' : World}
theorem D.below (h : D B w p S) (hb : Below w.heap.size w w') : D B w' p S := by
  obtain ⟨F, h1, h2, h3⟩ := h
  exact ⟨F, h1.below hb, h2, Nat.le_trans h3 hb.size⟩
theorem D.drew (h : D B w p S) : D B w.drew p S := h.below ((Below.refl _ w).drew)
theorem D.next {F : Nat → Prop} (hF : ∀ k, F k → B ≤ k) (hB : B ≤ w.heap.size) (h : DiskAt w' p (grow F w w') S) (ho : Only F w w') : D B w' p S ∧ Below B w w' :=
  ⟨⟨_, h, fun k hk => hk.elim (hF k) (fun e => by omega), Nat.le_trans hB ho.size⟩, ho.below hF hB⟩
theorem new_D (n : Int) (hB : B ≤ w.heap.size) : Calls Tryz.prog 5 #[.int .i64 n] w fun e w' => ∃ p, e = .returned (.pointer (some ⟨p, 0, none⟩)) ∧ D B w' p (Reel.new n) ∧ Below w.heap.size w w' := by
  refine (new_any n w).mono ?_; rintro e w' ⟨p, rfl, hp, hd, hb⟩
  exact ⟨p, rfl, ⟨_, hd, fun k hk => hk.elim (fun e => e.elim) (fun e => by omega), Nat.le_trans hB hb.size⟩, hb⟩
theorem append_D (n : Nat) (x s : ByteArray) (h : D B w p S) (hf : S.Fits n) (hn : n < big) (hxs : x.size ≤ 9223372036854775807) (hss : s.size ≤ 140737488355328) :
    Calls Tryz.prog 23 #[.pointer (some ⟨p, 0, none⟩), .string x, .string s] w fun e w' => e = .returned (.int .i64 (appendS S x s).2) ∧ D B w' p (appendS S x s).1 ∧ Below B w w' := by
  obtain ⟨F, h1, h2, h3⟩ := h
  refine (append_any p F S x s w n h1 hf hn hxs hss).mono ?_; rintro e w' ⟨rfl, hd, ho⟩
  exact ⟨rfl, D.next h2 h3 hd ho⟩
theorem sync_D (n : Nat) (x : ByteArray) (h : D B w p S) (hf : S.Fits n) (hn : n < big) :
    Calls Tryz.prog 49 #[.pointer (some ⟨p, 0, none⟩), .string x] w fun e w' => e = .returned (.int .i64 (syncS S x).2) ∧ D B w' p (syncS S x).1 ∧ Below B w w' := by
  obtain ⟨F, h1, h2, h3⟩ := h
  refine (sync_any p F S x w n h1 hf hn).mono ?_; rintro e w' ⟨rfl, hd, ho⟩
  exact ⟨rfl, D.next h2 h3 hd ho⟩
theorem cut_D (n : Nat) (x : ByteArray) (k : Int) (h : D B w p S) (hf : S.Fits n) (hn : n < big) (hk1 : -9223372036854775808 ≤ k) (hk2 : k ≤ 9223372036854775807) :
    Calls Tryz.prog 38 #[.pointer (some ⟨p, 0, none⟩), .string x, .int .i64 k] w fun e w' => e = .returned (.int .i64 (cutS S x k).2) ∧ D B w' p (cutS S x k).1 ∧ Below B w w' := by
  obtain ⟨F, h1, h2, h3⟩ := h
  refine (cut_any p F S x k w n h1 hf hn hk1 hk2).mono ?_; rintro e w' ⟨rfl, hd, ho⟩
  exact ⟨rfl, D.next h2 h3 hd ho⟩
theorem swap_D (n : Nat) (x yt : ByteArray) (h : D B w p S) (hf : S.Fits n) (hn : n < big) (hto : yt.size ≤ 9223372036854775807) :
    Calls Tryz.prog 58 #[.pointer (some ⟨p, 0, none⟩), .string x, .string yt] w fun e w' => e = .returned (.int .i64 (swapS S x yt).2) ∧ D B w' p (swapS S x yt).1 ∧ Below B w w' := by
  obtain ⟨F, h1, h2, h3⟩ := h
  refine (swap_any p F S x yt w n h1 hf hn hto).mono ?_; rintro e w' ⟨rfl, hd, ho⟩
  exact ⟨rfl, D.next h2 h3 hd ho⟩
theorem drop_D (n : Nat) (x : ByteArray) (h : D B w p S) (hf : S.Fits n) (hn : n < big) :
    Calls Tryz.prog 36 #[.pointer (some ⟨p, 0, none⟩), .string x] w fun e w' => e = .returned (.int .i64 (dropS S x).2) ∧ D B w' p (dropS S x).1 ∧ Below B w w' := by
  obtain ⟨F, h1, h2, h3⟩ := h
  refine (drop_any p F S x w n h1 hf hn).mono ?_; rintro e w' ⟨rfl, hd, ho⟩
  exact ⟨rfl, D.next h2 h3 hd ho⟩
theorem off_D (n : Nat) (h : D B w p S) (hf : S.Fits n) (hn : n < big) :
    Calls Tryz.prog 17 #[.pointer (some ⟨p, 0, none⟩)] w fun e w' => e = .returned (.tuple #[]) ∧ D B w' p (offS S) ∧ Below B w w' := by
  obtain ⟨F, h1, h2, h3⟩ := h
  refine (doff_any (n := n) (h := h1) (hf := hf) (hn := hn)).mono ?_; rintro e w' ⟨rfl, hd, ho⟩
  exact ⟨rfl, D.next h2 h3 hd ho⟩
theorem arm_D (k : Int) (hk : k ≤ 9223372036854775807) (h : D B w p S) :
    Calls Tryz.prog 15 #[.pointer (some ⟨p, 0, none⟩), .int .i64 k] w fun e w' => e = .returned (.tuple #[]) ∧ D B w' p (armS S k) ∧ Below B w w' := by
  obtain ⟨F, h1, h2, h3⟩ := h
  refine (darm_any (n := k) (hn := hk) (h := h1)).mono ?_; rintro e w' ⟨rfl, hd, ho⟩
  exact ⟨rfl, D.next h2 h3 hd ho⟩
theorem room_D (k : Int) (h : D B w p S) :
    Calls Tryz.prog 21 #[.pointer (some ⟨p, 0, none⟩), .int .i64 k] w fun e w' => e = .returned (.tuple #[]) ∧ D B w' p (roomS S k) ∧ Below B w w' := by
  obtain ⟨F, h1, h2, h3⟩ := h
  refine (droom_any (n := k) (h := h1)).mono ?_; rintro e w' ⟨rfl, hd, ho⟩
  exact ⟨rfl, D.next h2 h3 hd ho⟩
/-- the fates lie below B, or were made after the disk was touched last -/
theorem on_D (a : Option Addr) (n c : Nat) (fs : List Int) (w2 : World) (h : D B w p S) (hb : Below w.heap.size w w2) (hI : IntsAt w2 a n fs) (ha : n ≠ 0 → ∀ b off, a = some ⟨b, off, none⟩ → b < B ∨ w.heap.size ≤ b) :
    Calls Tryz.prog 19 #[.pointer (some ⟨p, 0, none⟩), .slice a n c] w2 fun e w' => e = .returned (.tuple #[]) ∧ D B w' p (onS S fs) ∧ Below B w2 w' := by
  obtain ⟨F, h1, h2, h3⟩ := h
  refine (on_any p F S a n c fs w2 (h1.below hb) hI (fun hn b off e hF => ?_)).mono ?_
  · have := h1.1 b hF; have := h2 b hF; rcases ha hn b off e with h | h <;> omega
  rintro e w' ⟨rfl, hd, ho⟩
  exact ⟨rfl, D.next h2 (Nat.le_trans h3 hb.size) hd ho⟩
theorem read_D (x : ByteArray) (h : D B w p S) :
    Calls Tryz.prog 29 #[.pointer (some ⟨p, 0, none⟩), .string x] w fun e w' => e = .returned (.tuple #[.string ⟨(readS S x).1.toArray⟩, .int .i64 (readS S x).2]) ∧ w = w' := by
  obtain ⟨F, h1, h2, h3⟩ := h; exact read_any p F S x w h1
theorem size_D (x : ByteArray) (h : D B w p S) :
    Calls Tryz.prog 34 #[.pointer (some ⟨p, 0, none⟩), .string x] w fun e w' => e = .returned (.int .i64 (sizeS S x)) ∧ w = w' := by
  obtain ⟨F, h1, h2, h3⟩ := h; exact size_any p F S x w h1
theorem down_D (h : D B w p S) : Calls Tryz.prog 33 #[.pointer (some ⟨p, 0, none⟩)] w fun e w' => e = .returned (.bool S.down) ∧ w = w' := by
  obtain ⟨F, h1, h2, h3⟩ := h; exact isdown_any (h := h1)
theorem acts_D (h : D B w p S) : Calls Tryz.prog 25 #[.pointer (some ⟨p, 0, none⟩)] w fun e w' => e = .returned (.int .i64 S.acts) ∧ w = w' := by
  obtain ⟨F, h1, h2, h3⟩ := h; exact nacts_any (h := h1)
theorem life_D (h : D B w p S) : Calls Tryz.prog 39 #[.pointer (some ⟨p, 0, none⟩)] w fun e w' => e = .returned (.int .i64 S.life) ∧ w = w' := by
  obtain ⟨F, h1, h2, h3⟩ := h; exact nlife_any (h := h1)
end
theorem ints_one (w : World) (x : Int) (h1 : -9223372036854775808 ≤ x) (h2 : x ≤ 9223372036854775807) : IntsAt (w.alloc (.cells #[.int .i64 x] 3)) (some ⟨w.heap.size, 0, none⟩) 1 [x] := by
  refine ⟨rfl, by omega, by intro y hy; simp at hy; subst hy; exact ⟨h1, h2⟩, .inr ⟨_, _, rfl, ?_⟩⟩
  intro j hj
  obtain rfl : j = 0 := by omega
  exact (Blk.new w 3 #[.int .i64 x]).cell 0
theorem ints_nil (w : World) : IntsAt w none 0 [] := ⟨rfl, by omega, by intro y hy; simp at hy, .inl rfl⟩

theorem ints_lt {w : World} {a : Option Addr} {n : Nat} {l : List Int} (h : IntsAt w a n l) (hn : n ≠ 0) (b off : Nat) (ha : a = some ⟨b, off, none⟩) : b < w.heap.size := by
  obtain ⟨-, -, -, h4⟩ := h
  rcases h4 with h4 | ⟨b', o', hb, hc⟩
  · exact absurd h4 hn
  · rw [ha] at hb; cases hb
    exact World.block_lt_of_cell? w _ (hc 0 (by omega))
theorem ints_later {w w' : World} {a : Option Addr} {n : Nat} {l : List Int} (h : IntsAt w a n l) (hb : Below w.heap.size w w') : IntsAt w' a n l := by
  obtain ⟨h1, h2, h3, h4⟩ := h
  refine ⟨h1, h2, h3, h4.imp id ?_⟩
  rintro ⟨b, off, ha, hc⟩
  exact ⟨b, off, ha, fun j hj => (Only.of_below hb NoF).cell (hc j hj) (fun e => e)⟩

/-- a disk that leaves alone what lies in K -/
def DK (K : Nat → Prop) (w : World) (p : Nat) (S : St) : Prop := ∃ F, DiskAt w p F S ∧ (∀ k, F k → ¬ K k) ∧ (∀ k, K k → k < w.heap.size)
section
variable {K : Nat → Prop} {p : Nat} {S S' : St} {w w' : World}
theorem DK.next {F : Nat → Prop} (hF : ∀ k, F k → ¬ K k) (hK : ∀ k, K k → k < w.heap.size) (h : DiskAt w' p (grow F w w') S) (ho : Only F w w') : DK K w' p S ∧ Only (fun k => ¬ K k) w w' :=
  ⟨⟨_, h, fun k hk => hk.elim (hF k) (fun e ek => by have := hK k ek; omega), fun k hk => Nat.lt_of_lt_of_le (hK k hk) ho.size⟩, ho.mono hF⟩
theorem DK.only {G : Nat → Prop} (h : DK K w p S) (ho : Only G w w') (hG : ∀ k, G k → K k) : DK K w' p S := by
  obtain ⟨F, h1, h2, h3⟩ := h
  exact ⟨F, h1.only ho (fun k hk hg => h2 k hk (hG k hg)), h2, fun k hk => Nat.lt_of_lt_of_le (h3 k hk) ho.size⟩
theorem append_K (n : Nat) (x s : ByteArray) (h : DK K w p S) (hf : S.Fits n) (hn : n < big) (hxs : x.size ≤ 9223372036854775807) (hss : s.size ≤ 140737488355328) :
    Calls Tryz.prog 23 #[.pointer (some ⟨p, 0, none⟩), .string x, .string s] w fun e w' => e = .returned (.int .i64 (appendS S x s).2) ∧ DK K w' p (appendS S x s).1 ∧ Only (fun k => ¬ K k) w w' := by
  obtain ⟨F, h1, h2, h3⟩ := h
  refine (append_any p F S x s w n h1 hf hn hxs hss).mono ?_; rintro e w' ⟨rfl, hd, ho⟩
  exact ⟨rfl, DK.next h2 h3 hd ho⟩
theorem sync_K (n : Nat) (x : ByteArray) (h : DK K w p S) (hf : S.Fits n) (hn : n < big) :
    Calls Tryz.prog 49 #[.pointer (some ⟨p, 0, none⟩), .string x] w fun e w' => e = .returned (.int .i64 (syncS S x).2) ∧ DK K w' p (syncS S x).1 ∧ Only (fun k => ¬ K k) w w' := by
  obtain ⟨F, h1, h2, h3⟩ := h
  refine (sync_any p F S x w n h1 hf hn).mono ?_; rintro e w' ⟨rfl, hd, ho⟩
  exact ⟨rfl, DK.next h2 h3 hd ho⟩
theorem off_K (n : Nat) (h : DK K w p S) (hf : S.Fits n) (hn : n < big) :
    Calls Tryz.prog 17 #[.pointer (some ⟨p, 0, none⟩)] w fun e w' => e = .returned (.tuple #[]) ∧ DK K w' p (offS S) ∧ Only (fun k => ¬ K k) w w' := by
  obtain ⟨F, h1, h2, h3⟩ := h
  refine (doff_any (n := n) (h := h1) (hf := hf) (hn := hn)).mono ?_; rintro e w' ⟨rfl, hd, ho⟩
  exact ⟨rfl, DK.next h2 h3 hd ho⟩
theorem on_K (a : Option Addr) (n c : Nat) (fs : List Int) (h : DK K w p S) (hI : IntsAt w a n fs) (ha : n ≠ 0 → ∀ b off, a = some ⟨b, off, none⟩ → K b) :
    Calls Tryz.prog 19 #[.pointer (some ⟨p, 0, none⟩), .slice a n c] w fun e w' => e = .returned (.tuple #[]) ∧ DK K w' p (onS S fs) ∧ Only (fun k => ¬ K k) w w' := by
  obtain ⟨F, h1, h2, h3⟩ := h
  refine (on_any p F S a n c fs w h1 hI (fun hn b off e hF => h2 b hF (ha hn b off e))).mono ?_
  rintro e w' ⟨rfl, hd, ho⟩
  exact ⟨rfl, DK.next h2 h3 hd ho⟩
theorem read_K (x : ByteArray) (h : DK K w p S) :
    Calls Tryz.prog 29 #[.pointer (some ⟨p, 0, none⟩), .string x] w fun e w' => e = .returned (.tuple #[.string ⟨(readS S x).1.toArray⟩, .int .i64 (readS S x).2]) ∧ w = w' := by
  obtain ⟨F, h1, h2, h3⟩ := h; exact read_any p F S x w h1
theorem size_K (x : ByteArray) (h : DK K w p S) :
    Calls Tryz.prog 34 #[.pointer (some ⟨p, 0, none⟩), .string x] w fun e w' => e = .returned (.int .i64 (sizeS S x)) ∧ w = w' := by
  obtain ⟨F, h1, h2, h3⟩ := h; exact size_any p F S x w h1
end
theorem strs_get {w : World} {a : Option Addr} {n : Nat} {l : List ByteArray} (h : StrsAt w a n l) {j : Nat} (hj : j < n) : ∃ b off, a = some ⟨b, off, none⟩ ∧ b < w.heap.size ∧ w.cell? ⟨b, off + j, none⟩ = some (.string (l.getD j ByteArray.empty)) := by
  obtain ⟨-, -, h3⟩ := h
  rcases h3 with h3 | ⟨b, off, ha, hc⟩
  · omega
  · exact ⟨b, off, ha, World.block_lt_of_cell? w _ (hc j hj), hc j hj⟩

section
variable {K : Nat → Prop} {p : Nat} {S S' : St} {w w' : World}
theorem cut_K (n : Nat) (x : ByteArray) (k : Int) (h : DK K w p S) (hf : S.Fits n) (hn : n < big) (hk1 : -9223372036854775808 ≤ k) (hk2 : k ≤ 9223372036854775807) :
    Calls Tryz.prog 38 #[.pointer (some ⟨p, 0, none⟩), .string x, .int .i64 k] w fun e w' => e = .returned (.int .i64 (cutS S x k).2) ∧ DK K w' p (cutS S x k).1 ∧ Only (fun k => ¬ K k) w w' := by
  obtain ⟨F, h1, h2, h3⟩ := h
  refine (cut_any p F S x k w n h1 hf hn hk1 hk2).mono ?_; rintro e w' ⟨rfl, hd, ho⟩
  exact ⟨rfl, DK.next h2 h3 hd ho⟩
theorem swap_K (n : Nat) (x yt : ByteArray) (h : DK K w p S) (hf : S.Fits n) (hn : n < big) (hto : yt.size ≤ 9223372036854775807) :
    Calls Tryz.prog 58 #[.pointer (some ⟨p, 0, none⟩), .string x, .string yt] w fun e w' => e = .returned (.int .i64 (swapS S x yt).2) ∧ DK K w' p (swapS S x yt).1 ∧ Only (fun k => ¬ K k) w w' := by
  obtain ⟨F, h1, h2, h3⟩ := h
  refine (swap_any p F S x yt w n h1 hf hn hto).mono ?_; rintro e w' ⟨rfl, hd, ho⟩
  exact ⟨rfl, DK.next h2 h3 hd ho⟩
theorem drop_K (n : Nat) (x : ByteArray) (h : DK K w p S) (hf : S.Fits n) (hn : n < big) :
    Calls Tryz.prog 36 #[.pointer (some ⟨p, 0, none⟩), .string x] w fun e w' => e = .returned (.int .i64 (dropS S x).2) ∧ DK K w' p (dropS S x).1 ∧ Only (fun k => ¬ K k) w w' := by
  obtain ⟨F, h1, h2, h3⟩ := h
  refine (drop_any p F S x w n h1 hf hn).mono ?_; rintro e w' ⟨rfl, hd, ho⟩
  exact ⟨rfl, DK.next h2 h3 hd ho⟩
theorem arm_K (k : Int) (hk : k ≤ 9223372036854775807) (h : DK K w p S) :
    Calls Tryz.prog 15 #[.pointer (some ⟨p, 0, none⟩), .int .i64 k] w fun e w' => e = .returned (.tuple #[]) ∧ DK K w' p (armS S k) ∧ Only (fun k => ¬ K k) w w' := by
  obtain ⟨F, h1, h2, h3⟩ := h
  refine (darm_any (n := k) (hn := hk) (h := h1)).mono ?_; rintro e w' ⟨rfl, hd, ho⟩
  exact ⟨rfl, DK.next h2 h3 hd ho⟩
theorem room_K (k : Int) (h : DK K w p S) :
    Calls Tryz.prog 21 #[.pointer (some ⟨p, 0, none⟩), .int .i64 k] w fun e w' => e = .returned (.tuple #[]) ∧ DK K w' p (roomS S k) ∧ Only (fun k => ¬ K k) w w' := by
  obtain ⟨F, h1, h2, h3⟩ := h
  refine (droom_any (n := k) (h := h1)).mono ?_; rintro e w' ⟨rfl, hd, ho⟩
  exact ⟨rfl, DK.next h2 h3 hd ho⟩
theorem down_K (h : DK K w p S) : Calls Tryz.prog 33 #[.pointer (some ⟨p, 0, none⟩)] w fun e w' => e = .returned (.bool S.down) ∧ w = w' := by
  obtain ⟨F, h1, h2, h3⟩ := h; exact isdown_any (h := h1)
theorem acts_K (h : DK K w p S) : Calls Tryz.prog 25 #[.pointer (some ⟨p, 0, none⟩)] w fun e w' => e = .returned (.int .i64 S.acts) ∧ w = w' := by
  obtain ⟨F, h1, h2, h3⟩ := h; exact nacts_any (h := h1)
theorem life_K (h : DK K w p S) : Calls Tryz.prog 39 #[.pointer (some ⟨p, 0, none⟩)] w fun e w' => e = .returned (.int .i64 S.life) ∧ w = w' := by
  obtain ⟨F, h1, h2, h3⟩ := h; exact nlife_any (h := h1)
theorem D.ok {B : Nat} (h : D B w p S) : S.Ok := by obtain ⟨F, h1, -, -⟩ := h; exact h1.2.1
theorem DK.ok (h : DK K w p S) : S.Ok := by obtain ⟨F, h1, -, -⟩ := h; exact h1.2.1
theorem DK.below (h : DK K w p S) (hb : Below w.heap.size w w') : DK K w' p S := h.only (Only.of_below hb NoF) (fun _ e => e.elim)
/-- the disk leaves a block alone that was made behind it -/
theorem DK.of_D {B : Nat} {G : Nat → Prop} (h : D B w p S) (hG : ∀ k, G k → w.heap.size ≤ k ∧ k < w'.heap.size) (hb : Below w.heap.size w w') : DK (fun k => k < B ∨ G k) w' p S := by
  obtain ⟨F, h1, h2, h3⟩ := h
  refine ⟨F, h1.below hb, fun k hk e => ?_, fun k hk => ?_⟩
  · have := h1.1 k hk; have := h2 k hk
    rcases e with e | e
    · omega
    · have := hG k e; omega
  · have := hb.size
    rcases hk with e | e
    · omega
    · exact (hG k e).2
theorem DK.to_D {B : Nat} (h : DK K w p S) (hK : ∀ k, k < B → K k) (hB : B ≤ w.heap.size) : D B w p S := by
  obtain ⟨F, h1, h2, h3⟩ := h
  exact ⟨F, h1, fun k hk => Nat.le_of_not_lt (fun e => h2 k hk (hK k e)), hB⟩
end
section
variable {p : Nat} {G : Nat → Prop} {S : St} {w w' : World}
theorem DK.more {K : Nat → Prop} (h : DK K w p S) (hb : Below w.heap.size w w') (hG : ∀ k, G k → w.heap.size ≤ k ∧ k < w'.heap.size) : DK (fun k => K k ∨ G k) w' p S := by
  obtain ⟨F, h1, h2, h3⟩ := h
  refine ⟨F, h1.below hb, fun k hk e => ?_, fun k hk => ?_⟩
  · rcases e with e | e
    · exact h2 k hk e
    · have := h1.1 k hk; have := hG k e; omega
  · rcases hk with e | e
    · exact Nat.lt_of_lt_of_le (h3 k e) hb.size
    · exact (hG k e).2
theorem DK.less {K K' : Nat → Prop} (h : DK K w p S) (hK : ∀ k, K' k → K k) : DK K' w p S := by
  obtain ⟨F, h1, h2, h3⟩ := h
  exact ⟨F, h1, fun k hk e => h2 k hk (hK k e), fun k hk => h3 k (hK k hk)⟩
end
end Go.Proofs.YtnhgfhbicaiilaaGreat
/- The bytes of records; framed; the spare's name. -/
namespace Go.Proofs.YtnhgfhbicaiilaaGreat
open Go.RowKit Book
set_option linter.unusedVariables false

def lists (rs : List ByteArray) : List (List UInt8) := rs.map fun s => s.data.toList
theorem lists_len (rs : List ByteArray) : (lists rs).length = rs.length := by simp [lists]
def Book.bodyE (rs : List (List UInt8)) : List UInt8 × Int :=
  if rs.length = 0 then ([], 1) else if 64 < rs.length then ([], 6) else if ∃ x ∈ rs, 262144 < x.length then ([], 5) else if 1048576 < (bodyL rs).length then ([], 5) else (bodyL rs, 0)
theorem bodyE_ok {rs : List (List UInt8)} (h : (bodyE rs).2 = 0) : Valid rs ∧ (bodyE rs).1 = bodyL rs := by
  unfold bodyE at h ⊢
  split at h
  · cases h
  rename_i h1
  rw [if_neg h1]
  split at h
  · cases h
  rename_i h2
  rw [if_neg h2]
  split at h
  · cases h
  rename_i h3
  rw [if_neg h3]
  split at h
  · cases h
  rename_i h4
  rw [if_neg h4]
  refine ⟨⟨by omega, by omega, fun x hx => ?_, by omega⟩, rfl⟩
  exact Nat.le_of_not_lt (fun e => h3 ⟨x, hx, e⟩)
theorem bis_below {B b : Nat} {bs : List Value} {w w' : World} (h : BIs B b bs w) (hb : Below w.heap.size w w') : BIs B b bs w' := by
  have key : ∀ {p : Value}, BAt B b p bs w → BAt B b p bs w' := by
    rintro p ⟨hB, v, hbk, hown, hne⟩
    have hlt : b < w.heap.size := (Array.getElem?_eq_some_iff.1 hbk).1
    exact ⟨hB, v, (hb.block b hlt).trans hbk, own_below hown hb, hne⟩
  rcases h with h | h
  · exact .inl (key h)
  · exact .inr (key h)
def preL (n : Nat) (rs : List (List UInt8)) : List UInt8 := numL n ++ rs.flatMap textL
theorem preL_snoc (n : Nat) (rs : List (List UInt8)) (x : List UInt8) : preL n (rs ++ [x]) = preL n rs ++ textL x := by unfold preL; rw [List.flatMap_append]; simp
theorem textL_len (x : List UInt8) : (textL x).length = 4 + x.length := by unfold textL; simp [numL]; omega
theorem preL_len (n : Nat) : ∀ (rs : List (List UInt8)), (∀ x ∈ rs, x.length ≤ 262144) → (preL n rs).length ≤ 4 + 262148 * rs.length := by
  intro rs h
  have : (rs.flatMap textL).length ≤ 262148 * rs.length := by
    induction rs with
    | nil => simp
    | cons y r ih =>
      have h1 := h y (List.mem_cons_self ..)
      have h2 := ih (fun x hx => h x (List.mem_cons_of_mem _ hx))
      rw [List.flatMap_cons, List.length_append, textL_len, List.length_cons]; omega
  unfold preL; rw [List.length_append, numL_len]; omega
set_option maxRecDepth 100000 in
set_option maxHeartbeats 8000000 in
theorem body_any (a : Option Addr) (n c : Nat) (rs : List ByteArray) (w : World) (hS : StrsAt w a n rs) (hsz : ∀ x ∈ rs, x.size ≤ 9223372036854775807) :
    Calls Tryz.prog 90 #[.slice a n c] w fun e w' => e = .returned (.tuple #[.string (bx (bodyE (lists rs)).1), .int .i64 (bodyE (lists rs)).2]) ∧ Below w.heap.size w w' := by
  have hn : rs.length = n := hS.1
  have hn63 := hS.2.1
  have hlists := lists_len rs
  by_cases h0 : n = 0
  · have e : bodyE (lists rs) = ([], 1) := by unfold bodyE; rw [if_pos (by omega)]
    rw [e]
    subst h0
    clear hS hn hlists e
    go_enter Tryz.func90, Tryz.ntmps90
    go_wp2
    go_ret2
    exact ⟨rfl, Below.refl _ _⟩
  have g0 : ((n : Int) == 0) = false := by rw [beq_eq_false_iff_ne]; omega
  by_cases h64 : 64 < n
  · have e : bodyE (lists rs) = ([], 6) := by unfold bodyE; rw [if_neg (by omega), if_pos (by omega)]
    rw [e]
    have g1 : (64 : Int) < n := by omega
    clear hS hn hlists e
    go_enter Tryz.func90, Tryz.ntmps90
    go_wp2
    go_ret2
    exact ⟨rfl, Below.refl _ _⟩
  have g1 : ¬ (64 : Int) < n := by omega
  obtain ⟨B, hB⟩ : ∃ B, w.heap.size = B := ⟨_, rfl⟩
  have HBW := hid hB
  have HS := hid hS
  have HSZ := hid hsz
  have HN := hid hn
  have hn64 : n ≤ 64 := by omega
  have ew : IntKind.u32.wrap (n : Int) = n := by rw [IntKind.wrap_u32]; omega
  have HE : Hid ((∃ x ∈ lists rs, 262144 < x.length) → bodyE (lists rs) = ([], 5)) := fun h => by unfold bodyE; rw [if_neg (by omega), if_neg (by omega), if_pos h]
  have HE2 : Hid ((∀ x ∈ lists rs, x.length ≤ 262144) → bodyE (lists rs) = if 1048576 < (bodyL (lists rs)).length then ([], 5) else (bodyL (lists rs), 0)) := fun h => by
    unfold bodyE; rw [if_neg (by omega), if_neg (by omega), if_neg (fun ⟨x, hx, e⟩ => by have := h x hx; omega)]
  rw [hB]
  clear hS hsz hn hlists hB h0 h64
  go_enter Tryz.func90, Tryz.ntmps90
  go_wp2_with fail
  have B0 : Hid (BIs B B (bvals []) (w.alloc (.cells #[.pointer none, .slice none 0 0] 127))) := by
    refine .inl ⟨Nat.le_refl _, .slice none 0 0, ?_, ?_, ?_⟩
    · have := heap_alloc_new w (.cells #[.pointer none, .slice none 0 0] 127); rwa [HBW.out] at this
    · exact World.ownsRow_nil _ _ _ _
    · simp [Value.ownBlock]
  have L0 : Hid (Below B w (w.alloc (.cells #[.pointer none, .slice none 0 0] 127))) := (Below.refl _ _).alloc (Nat.le_of_eq HBW.out.symm) _
  refine (onumw_any n (by omega) _).mono ?_; rintro e w1 ⟨rfl, hb1⟩
  have B1 : Hid (BIs B B (bvals []) w1) := bis_below B0.out hb1
  have hB1 : B ≤ w1.heap.size := by have := L0.out.size; rw [HBW.out] at this; exact Nat.le_trans this hb1.size
  have L1 : Hid (Below B w w1) := L0.out.trans (hb1.mono (by have := L0.out.size; rw [HBW.out] at this; exact this))
  have hs4 : (bx (numL n)).size = 4 := by rw [bx_size]; rfl
  have hb4 : (bx (numL n)).data.toList = numL n := bx_list _
  obtain ⟨y, hy⟩ : ∃ y, bx (numL n) = y := ⟨_, rfl⟩
  rw [hy] at hs4 hb4 ⊢
  have HB4 := hid hb4
  clear hb1 hy hb4 B0 L0
  rw [HBW.out]
  go_wp2_with fail
  refine (writeString_own B B [] y w1 B1.out (by simp; omega) hB1).mono ?_; rintro e w2 ⟨rfl, hb2, hl2⟩
  have B2 : Hid (BIs B B (bvals (preL n [])) w2) := by
    rw [HB4.out] at hb2
    show BIs _ _ _ _
    unfold preL; simp only [List.flatMap_nil, List.append_nil]
    exact .inr (by simpa using hb2)
  have L2 : Hid (Below B w w2) := L1.out.trans hl2
  clear hb2 hl2 B1 L1
  go_wp2_with fail
  go_loopw [22] (fun kv wr => ∃ k : Nat, k ≤ n ∧ kv = .int .i64 k ∧ Hid (∀ x ∈ (lists rs).take k, x.length ≤ 262144) ∧ Hid (BIs B B (bvals (preL n ((lists rs).take k))) wr) ∧ Hid (Below B w wr)) (fun kv _ => n - (intOf kv).toNat)
  case atStart => exact ⟨0, by omega, rfl, fun x hx => by simp at hx, B2, L2⟩
  case round =>
    clear B2 L2
    obtain ⟨k, hk, rfl, HX, BX, LX⟩ := hrel
    have hBr : B ≤ wr.heap.size := by have := LX.out.size; rw [HBW.out] at this; exact this
    have hpre := preL_len n _ HX.out
    have hpl : (preL n ((lists rs).take k)).length ≤ 17000000 := by
      have : ((lists rs).take k).length ≤ 64 := by rw [List.length_take]; omega
      omega
    clear hpre
    by_cases hlt : k < n
    · have ck : (k : Int) < n := by omega
      have ck0 : (0 : Int) ≤ (k : Int) := by omega
      obtain ⟨ab, aoff, rfl, hab, hac⟩ := strs_get HS.out hlt
      rw [HBW.out] at hab
      obtain ⟨x, hx⟩ : ∃ x, rs.getD k ByteArray.empty = x := ⟨_, rfl⟩
      rw [hx] at hac
      have hcell : wr.cell? ⟨ab, aoff + k, none⟩ = some (.string x) := (World.cell?_of_block (LX.out.block ab hab)).trans hac
      have hkl : k < rs.length := by rw [HN.out]; exact hlt
      have hxk : rs[k] = x := by rw [← hx, List.getD_eq_getElem?_getD, List.getElem?_eq_getElem hkl]; rfl
      have hx63 : x.size ≤ 9223372036854775807 := HSZ.out x (by rw [← hxk]; exact List.getElem_mem _)
      have hxl : x.data.toList.length = x.size := by rw [Array.length_toList]; rfl
      have HT : Hid ((lists rs).take (k + 1) = (lists rs).take k ++ [x.data.toList]) := by
        show _ = _
        have hkl2 : k < (lists rs).length := by rw [lists_len]; exact hkl
        rw [List.take_succ_eq_append_getElem hkl2]
        congr 2
        simp only [lists, List.getElem_map, hxk]
      have HMEM : Hid (x.data.toList ∈ lists rs) := by
        show _ ∈ lists rs
        unfold lists; exact List.mem_map.2 ⟨x, by rw [← hxk]; exact List.getElem_mem _, rfl⟩
      have HXL := hid hxl
      clear hx hac hxk hxl
      by_cases hbig : 262144 < x.size
      · have hE := HE.out ⟨_, HMEM.out, by rw [HXL.out]; exact hbig⟩
        have HEE := hid hE
        have gx : (262144 : Int) < x.size := by omega
        clear hE
        go_wp2_with fail
        go_ret2
        exact ⟨by rw [HEE.out]; rfl, LX.out⟩
      · have gx : ¬ (262144 : Int) < x.size := by omega
        have HTX := hid (otextw_any x (by omega) wr)
        have hts : (bx (textL x.data.toList)).size ≤ 262148 := by rw [bx_size, textL_len, HXL.out]; omega
        have htl : (bx (textL x.data.toList)).data.toList = textL x.data.toList := bx_list _
        obtain ⟨y2, hy2⟩ : ∃ y, bx (textL x.data.toList) = y := ⟨_, rfl⟩
        rw [hy2] at HTX hts htl
        have HTL := hid htl
        clear hy2 htl
        go_wp2_with (first
          | (go_at_call 112; refine HTX.out.mono ?_; rintro e w3 ⟨rfl, hb3⟩; have B3 : Hid (BIs B B (bvals (preL n ((lists rs).take k))) w3) := (bis_below BX.out hb3); have L3 : Hid (Below B w w3) := (LX.out.trans (hb3.mono hBr)); have hB3 : B ≤ w3.heap.size := (Nat.le_trans hBr hb3.size); clear hb3)
          | (go_at_call 110; refine (writeString_own B B (preL n ((lists rs).take k)) y2 _ B3.out (by omega) hB3).mono ?_; rintro e w4 ⟨rfl, hb4, hl4⟩; have B4 := hid hb4; have L4 : Hid (Below B w w4) := (L3.out.trans hl4); clear hb4 hl4))
        go_roundw
        case rel =>
          refine ⟨k + 1, by omega, by go_num, ?_, ?_, L4⟩
          · intro z hz
            rw [HT.out, List.mem_append, List.mem_singleton] at hz
            rcases hz with hz | rfl
            · exact HX.out z hz
            · rw [HXL.out]; omega
          · have := B4.out
            rw [HTL.out, ← preL_snoc, ← HT.out] at this
            exact .inr this
        case measure => simp [intOf]; omega
    · obtain rfl : k = n := by omega
      have hall : (lists rs).take k = lists rs := List.take_of_length_le (by rw [lists_len, HN.out]; exact Nat.le_refl _)
      have hpeq : preL k (lists rs) = bodyL (lists rs) := by unfold preL bodyL; rw [lists_len, HN.out]
      rw [hall] at HX BX hpl
      rw [hpeq] at BX hpl
      have hE := HE2.out HX.out
      have HLN := hid (Tryz.Builder_Len B B (bvals (bodyL (lists rs))) wr BX.out)
      rw [bvals_length] at HLN
      have HST := hid (Tryz.Builder_String_any B B (bodyL (lists rs)) wr BX.out hBr)
      obtain ⟨bl, hbl⟩ : ∃ bl, bodyL (lists rs) = bl := ⟨_, rfl⟩
      rw [hbl] at hE HLN HST hpl
      have HEE := hid hE
      clear hE hbl hpeq hall BX HX HE HE2
      by_cases hbig : 1048576 < bl.length
      · have hEE := HEE.out
        rw [if_pos hbig] at hEE
        have HE3 := hid hEE
        have gx : (1048576 : Int) < bl.length := by omega
        clear hEE HEE
        go_wp2_with (first
          | (go_at_call 113; refine HLN.out.mono ?_; rintro e w3 ⟨rfl, rfl⟩))
        go_ret2
        exact ⟨by rw [HE3.out]; rfl, LX.out⟩
      · have hEE := HEE.out
        rw [if_neg hbig] at hEE
        have HE3 := hid hEE
        have gx : ¬ (1048576 : Int) < bl.length := by omega
        clear hEE HEE
        go_wp2_with (first
          | (go_at_call 113; refine HLN.out.mono ?_; rintro e w3 ⟨rfl, rfl⟩)
          | (go_at_call 114; refine HST.out.mono ?_; rintro e w3 ⟨rfl, hb3⟩; have L3 : Hid (Below B w w3) := (LX.out.trans hb3); clear hb3))
        go_ret2
        exact ⟨by rw [HE3.out]; rfl, L3.out⟩
theorem framed_any (l : List UInt8) (w : World) (hl : l.length ≤ 2147483648) : Calls Tryz.prog 91 #[.string (bx l)] w fun e w' => e = .returned (.string (bx (frameL crcP l))) ∧ Below w.heap.size w w' := by
  have hs : (bx l).size = l.length := bx_size l
  have hb : (bx l).data.toList = l := bx_list l
  have hc : crcP l < 4294967296 := crcP_ok.lt l
  have HR : Hid (bx (numL l.length) ++ bx (numL (crcP l)) ++ bx l = bx (frameL crcP l)) := by
    show _ = _
    unfold frameL; rw [bx_append, bx_append]
  have HC : Hid (∀ w, Calls Tryz.prog 83 #[.string (bx l)] w fun e w' => e = .returned (.int .u32 (crcP l)) ∧ Below w.heap.size w w') := fun w => by
    have := crcsum_any (bx l) w (by omega)
    rw [hb] at this; exact this
  have h1 : (bx (numL l.length)).size = 4 := by rw [bx_size]; rfl
  have h2 : (bx (numL (crcP l))).size = 4 := by rw [bx_size]; rfl
  obtain ⟨c, hcc⟩ : ∃ c, crcP l = c := ⟨_, rfl⟩
  rw [hcc] at hc HC h2
  have HN2 : Hid (∀ w, Calls Tryz.prog 111 #[.int .u32 c] w fun e w' => e = .returned (.string (bx (numL c))) ∧ Below w.heap.size w w') := fun w => onumw_any c hc w
  have HN1 : Hid (∀ w, Calls Tryz.prog 111 #[.int .u32 ((bx l).size : Int)] w fun e w' => e = .returned (.string (bx (numL l.length))) ∧ Below w.heap.size w w') := fun w => by
    rw [hs]; exact onumw_any l.length (by omega) w
  rw [← HR.out, hcc]
  obtain ⟨y, hy⟩ : ∃ y, bx l = y := ⟨_, rfl⟩
  obtain ⟨y1, hy1⟩ : ∃ y, bx (numL l.length) = y := ⟨_, rfl⟩
  obtain ⟨y2, hy2⟩ : ∃ y, bx (numL c) = y := ⟨_, rfl⟩
  rw [hy] at hs HC HN1 ⊢
  rw [hy1] at h1 HN1 ⊢
  rw [hy2] at h2 HN2 ⊢
  have hsy : y.size ≤ 2147483648 := by omega
  have ew : IntKind.u32.wrap (y.size : Int) = y.size := by rw [IntKind.wrap_u32]; omega
  have k1 : y1.size ≤ 4 := Nat.le_of_eq h1
  have k2 : y2.size ≤ 4 := Nat.le_of_eq h2
  have cat1 : ¬ 9223372036854775807 < y1.size + y2.size := by omega
  have cat2 : ¬ 9223372036854775807 < y1.size + y2.size + y.size := by omega
  have cat3 : ¬ 9223372036854775807 < (y1 ++ y2).size + y.size := by rw [ByteArray.size_append]; omega
  clear hb hy hy1 hy2 hcc HR hs h1 h2
  go_enter Tryz.func91, Tryz.ntmps91
  go_wp2_with fail
  refine (HN1.out _).mono ?_; rintro e w1 ⟨rfl, hb1⟩
  have B1 := hid hb1; clear hb1
  go_wp2_with fail
  refine (HC.out _).mono ?_; rintro e w2 ⟨rfl, hb2⟩
  have B2 := hid (below_then B1.out hb2); clear hb2
  go_wp2_with fail
  refine (HN2.out _).mono ?_; rintro e w3 ⟨rfl, hb3⟩
  have B3 := hid (below_then B2.out hb3); clear hb3
  go_wp2_with fail
  go_ret
  exact ⟨rfl, B3.out⟩
theorem spare_any (x : ByteArray) (w : World) (hx : x.size ≤ 1000) : Calls Tryz.prog 35 #[.string x] w fun e w' => e = .returned (.string (x ++ ⟨#[126]⟩)) ∧ w = w' := by
  have hcat : ¬ 9223372036854775807 < x.size + (⟨#[126]⟩ : ByteArray).size := by show ¬ 9223372036854775807 < x.size + 1; omega
  have hcat2 : ¬ 9223372036854775807 < x.size + 1 := by omega
  go_enter Tryz.func35, Tryz.ntmps35
  go_wp2
  go_ret
  exact ⟨rfl, rfl⟩
end Go.Proofs.YtnhgfhbicaiilaaGreat
/- The records of a body, read. -/
namespace Go.Proofs.YtnhgfhbicaiilaaGreat
open Go.RowKit Book
set_option linter.unusedVariables false

theorem Book.textsR_snoc : ∀ (k : Nat) (r : Rd), textsR (k + 1) r = ((textsR k r).1 ++ [(textR (textsR k r).2 262144).1], (textR (textsR k r).2 262144).2)
  | 0, r => rfl
  | k + 1, r => by
    have ih := textsR_snoc k (textR r 262144).2
    show ((textR r 262144).1 :: (textsR (k + 1) (textR r 262144).2).1, (textsR (k + 1) (textR r 262144).2).2) = _
    rw [ih]; rfl
theorem Book.textsR_len : ∀ (k : Nat) (r : Rd), (textsR k r).1.length = k
  | 0, r => rfl
  | k + 1, r => by rw [textsR_snoc]; simp [textsR_len k r]
theorem Book.textR_rest (r : Rd) (m : Nat) : (textR r m).2.rest.length ≤ r.rest.length := by
  unfold textR
  refine Nat.le_trans (takeR_rest _ _) ?_
  split
  · simp
  · exact takeR_rest r 4
theorem Book.textsR_rest : ∀ (k : Nat) (r : Rd), (textsR k r).2.rest.length ≤ r.rest.length
  | 0, r => Nat.le_refl _
  | k + 1, r => by rw [textsR_snoc]; exact Nat.le_trans (textR_rest _ _) (textsR_rest k r)
set_option maxRecDepth 100000 in
set_option maxHeartbeats 4000000 in
theorem records_any (l : List UInt8) (w : World) (hl : l.length ≤ 1000000000000) : Calls Tryz.prog 81 #[.string (bx l)] w fun e w' =>
    (∃ a n c, e = .returned (.tuple #[.slice a n c, .bool (recordsR l).isSome]) ∧ (∀ rs, recordsR l = some rs → n = rs.length ∧ w'.ownsRow w.heap.size 9 1 (.slice a n c) n (svals (rs.map bx)))) ∧ Below w.heap.size w w' := by
  have HNEW := hid (onew_any (bx l) w)
  rw [bx_list] at HNEW
  obtain ⟨B, hB⟩ : ∃ B, w.heap.size = B := ⟨_, rfl⟩
  rw [hB] at HNEW
  have HNUM : Hid (∀ w', RdAt w' B (newR l) → Calls Tryz.prog 79 #[.pointer (some ⟨B, 0, none⟩)] w' fun e w'' => e = .returned (.int .u32 (numR (newR l)).1) ∧ RdAt w'' B (numR (newR l)).2 ∧ Only (· = B) w' w'') := fun w' h => onum_any h (by show l.length ≤ _; omega)
  have hn32 : (numR (newR l)).1 < 4294967296 := numV_lt _
  have hrl : (numR (newR l)).2.rest.length ≤ l.length := takeR_rest _ 4
  have HDEF : Hid (recordsR l = if 1048576 < l.length ∨ (numR (newR l)).1 < 1 ∨ 64 < (numR (newR l)).1 then none else if wholeR (textsR (numR (newR l)).1 (numR (newR l)).2).2 = true then some (textsR (numR (newR l)).1 (numR (newR l)).2).1 else none) := rfl
  obtain ⟨n, hn⟩ : ∃ n, (numR (newR l)).1 = n := ⟨_, rfl⟩
  obtain ⟨r, hr⟩ : ∃ r, (numR (newR l)).2 = r := ⟨_, rfl⟩
  rw [hn, hr] at HNUM HDEF
  rw [hn] at hn32; rw [hr] at hrl
  obtain ⟨R, hR⟩ : ∃ R, recordsR l = R := ⟨_, rfl⟩
  rw [hR] at HDEF
  rw [hR, hB]
  obtain ⟨y, hy⟩ : ∃ y, bx l = y := ⟨_, rfl⟩
  have hys : y.size = l.length := by rw [← hy, bx_size]
  rw [hy] at HNEW ⊢
  have ew : IntKind.i64.wrap (n : Int) = n := by rw [IntKind.wrap_i64]; omega
  have HBW := hid hB
  have HLOW : Hid (∀ w1, Below B w w1 → B ≤ w1.heap.size) := fun w1 h => by have := h.size; rw [HBW.out] at this; exact this
  clear hn hr hR hy hB
  by_cases hbad : 1048576 < l.length ∨ n < 1 ∨ 64 < n
  · have hd : R = none := by have := HDEF.out; rw [if_pos hbad] at this; exact this
    subst hd
    have g : (1048576 : Int) < y.size ∨ ¬ (1048576 : Int) < y.size ∧ (n : Int) < 1 ∨ ¬ (1048576 : Int) < y.size ∧ ¬ (n : Int) < 1 ∧ (64 : Int) < n := by omega
    clear hbad hys hl hrl HDEF
    rcases g with g | ⟨g1, g⟩ | ⟨g1, g2, g⟩ <;> (
      go_enter Tryz.func81, Tryz.ntmps81
      go_wp2_with (first
        | (go_at_call 78; refine HNEW.out.mono ?_; rintro e w1 ⟨rfl, hs1, hs2⟩; have H1 := hid hs1; have L1 := hid hs2; clear hs1 hs2)
        | (go_at_call 79; refine (HNUM.out _ H1.out).mono ?_; rintro e w2 ⟨rfl, hs⟩; have H2 := hid hs; clear hs))
      go_ret2
      exact ⟨⟨none, 0, 0, rfl, fun rs h => by cases h⟩, L1.out.trans (H2.out.2.below (fun i e => Nat.le_of_eq e.symm) (HLOW.out _ L1.out))⟩)
  have hd : R = if wholeR (textsR n r).2 = true then some (textsR n r).1 else none := by have := HDEF.out; rw [if_neg hbad] at this; exact this
  have g1 : ¬ (1048576 : Int) < y.size := by omega
  have g2 : ¬ (n : Int) < 1 := by omega
  have g3 : ¬ (64 : Int) < n := by omega
  have HD := hid hd
  have HTX : Hid (∀ k w', RdAt w' B (textsR k r).2 → Calls Tryz.prog 104 #[.pointer (some ⟨B, 0, none⟩), .int .i64 262144] w' fun e w'' => e = .returned (.string (bx (textR (textsR k r).2 262144).1)) ∧ RdAt w'' B (textR (textsR k r).2 262144).2 ∧ Only (· = B) w' w'') := fun k w' h => otext_any 262144 (by omega) h (by have := textsR_rest k r; omega)
  clear hd hbad hys hl hrl HDEF
  go_enter Tryz.func81, Tryz.ntmps81
  go_wp2_with (first
    | (go_at_call 78; refine HNEW.out.mono ?_; rintro e w1 ⟨rfl, hs1, hs2⟩; have H1 := hid hs1; have L1 := hid hs2; clear hs1 hs2)
    | (go_at_call 79; refine (HNUM.out _ H1.out).mono ?_; rintro e w2 ⟨rfl, hs⟩; have H2 : Hid (RdAt w2 B (textsR 0 r).2) := hs.1; have L2 : Hid (Below B w w2) := L1.out.trans (hs.2.below (fun i e => Nat.le_of_eq e.symm) (HLOW.out _ L1.out)); clear hs))
  obtain ⟨i0, hi0, hz0, hz1, hz2⟩ := info_parts Tryz.infoStr
  go_loopw [6, 24] (fun ov iv wr => ∃ (k : Nat), k ≤ n ∧ iv = .int .i64 k ∧ Hid (wr.ownsRow B 9 1 ov k (svals ((textsR k r).1.map bx))) ∧ Hid (RdAt wr B (textsR k r).2) ∧ Hid (Below B w wr)) (fun _ iv _ => n - (intOf iv).toNat)
  case atStart => exact ⟨0, by omega, rfl, World.ownsRow_nil _ _ _ _, H2, L2⟩
  case round =>
    clear H1 L1 H2 L2
    obtain ⟨k, hk, rfl, HO, HR, LX⟩ := hrel
    have hBr : B ≤ wr.heap.size := HLOW.out _ LX.out
    by_cases hlt : k < n
    · have ck : (k : Int) < n := by omega
      obtain ⟨t, ht⟩ : ∃ t, (textR (textsR k r).2 262144).1 = t := ⟨_, rfl⟩
      obtain ⟨r', hr'⟩ : ∃ r', (textR (textsR k r).2 262144).2 = r' := ⟨_, rfl⟩
      have HSN : Hid (textsR (k + 1) r = ((textsR k r).1 ++ [t], r')) := by show _ = _; rw [textsR_snoc, ht, hr']
      have HT := hid (HTX.out k wr HR.out)
      rw [ht, hr'] at HT
      clear ht hr'
      go_wp2_with (first
        | (go_at_call 104; refine HT.out.mono ?_; rintro e w3 ⟨rfl, hs⟩
           have hown : w3.ownsRow B 9 1 _ k (svals ((textsR k r).1.map bx)) := own_only HO.out hs.2 (fun j hj e => own_blk_ne HO.out HR.out (by decide) (e ▸ hj))
           have H3 := hid hs.1
           have L3 : Hid (Below B w w3) := LX.out.trans (hs.2.below (fun i e => Nat.le_of_eq e.symm) hBr)
           have hB3 : B ≤ w3.heap.size := HLOW.out _ L3.out
           clear hs)
        | (at_builtin; refine wpList_append_own _ rfl (.tmp 26) (.tmp 29) 36 rfl B 9 i0 (.string ⟨#[]⟩) 1 16 Tryz.underlying36 hi0 hz0 hz1 hz2 rfl (by decide) _ _ _ rfl (hown.alloc _) _ 1 1 [.string (bx t)] rfl rfl (cellNew1 _ _ _) (one_bytes rfl) (by unfold maxLen; omega) (by omega) (by simp; omega) ?_; intro v' w4 hown' hgrow _))
      go_roundw
      case rel =>
        refine ⟨k + 1, by omega, by go_num, ?_, ?_, below_grown1 L3.out hown _ hB3 hgrow⟩
        · show World.ownsRow _ _ _ _ _ _ _
          rw [HSN.out]
          have e : svals (((textsR k r).1 ++ [t]).map bx) = svals ((textsR k r).1.map bx) ++ [.string (bx t)] := by simp [svals]
          rw [e]; exact hown'
        · show RdAt _ _ _
          rw [HSN.out]
          exact (H3.out.alloc _).grown hgrow (fun e => own_blk_ne hown H3.out (by decide) e.symm)
      case measure => simp [intOf]; omega
    · have ck : ¬ (k : Int) < n := by omega
      obtain rfl : k = n := by omega
      have HW := hid (owhole_any HR.out)
      obtain ⟨q, hq⟩ : ∃ q, wholeR (textsR k r).2 = q := ⟨_, rfl⟩
      rw [hq] at HW HD
      obtain ⟨a, c, rfl, -⟩ := own_slice HO.out
      clear hq
      go_wp2_with (go_at_call 105; refine HW.out.mono ?_; rintro e w3 ⟨rfl, rfl⟩)
      go_ret2
      refine ⟨⟨a, k, c, ?_, fun rs h => ?_⟩, LX.out⟩
      · rw [HD.out]; cases q <;> rfl
      · rw [HD.out] at h
        cases q
        · cases h
        · injection h with h
          subst h
          exact ⟨(textsR_len _ _).symm, HO.out⟩
end Go.Proofs.YtnhgfhbicaiilaaGreat
/- What is read of a book's bytes: the walk. -/
namespace Go.Proofs.YtnhgfhbicaiilaaGreat
open Go.RowKit Book
set_option linter.unusedVariables false

theorem Tryz.infoSl : (Tryz.prog.info? 36).map (fun i => (i.zero, i.size, i.bytes)) = some (some (.slice none 0 0), 1, 24) := by kernel_rfl
theorem Book.stepR_fits {crc : List UInt8 → Nat} {G : List UInt8} {rs : List (List UInt8)} {n : Nat} (h : stepR crc G = some (rs, n)) : 8 + n ≤ G.length := by
  by_cases h8 : G.length < 8
  · rw [stepR_short G h8] at h; cases h
  obtain ⟨e1, e2⟩ := numR_head G (by omega)
  unfold stepR at h
  simp only [e1, e2] at h
  split at h
  · cases h
  rename_i hc
  simp only [not_or] at hc
  have hn : numV (G.take 4) = n := by
    rw [Option.map_eq_some_iff] at h
    obtain ⟨x, -, hx⟩ := h
    injection hx
  rw [hn] at hc
  by_cases hl : (G.drop 8).length < n
  · rw [takeR_short _ _ hl] at hc; exact absurd rfl hc.1
  · simp at hl; omega
theorem Book.readF_some {crc : List UInt8 → Nat} {G : List UInt8} {rs : List (List UInt8)} {n : Nat} (f : Nat) (h : stepR crc G = some (rs, n)) : readF crc (f + 1) G = (rs :: (readF crc f (G.drop (8 + n))).1, 8 + n + (readF crc f (G.drop (8 + n))).2) := by
  show (match stepR crc G with
    | none => ([], 0)
    | some (l, n) => (l :: (readF crc f (G.drop (8 + n))).1, 8 + n + (readF crc f (G.drop (8 + n))).2)) = _
  rw [h]
theorem below_mono2 {B : Nat} {a b c : World} (h : Below B a b) (hB : B ≤ b.heap.size) (k : Below b.heap.size b c) : Below B a c := h.trans (k.mono hB)
def DeedRow (w : World) (B : Nat) (v : Value) (L : List (List (List UInt8))) : Prop := ∃ vs, w.ownsRow B 36 1 v L.length vs ∧ ∀ j (h : j < L.length), ∃ a c, vs[j]? = some (.slice a L[j].length c) ∧ w.ownsRow B 9 1 (.slice a L[j].length c) L[j].length (svals (L[j].map bx))
theorem own_base0 {w : World} {B B' : Nat} {e : TypeId} {s n : Nat} {v : Value} {xs : List Value} (h : w.ownsRow B e s v n xs) (hB : B' ≤ B) : w.ownsRow B' e s v n xs := own_low h (fun k hk => Nat.le_trans hB (h.lt k hk).1)
theorem deedRow_nil (w : World) (B : Nat) : DeedRow w B (.slice none 0 0) [] := ⟨[], World.ownsRow_nil _ _ _ _, fun j h => by cases h⟩
theorem deedRow_below {w w' : World} {B : Nat} {v : Value} {L : List (List (List UInt8))} (h : DeedRow w B v L) (hb : Below w.heap.size w w') : DeedRow w' B v L := by
  obtain ⟨vs, h1, h2⟩ := h
  exact ⟨vs, own_below h1 hb, fun j hj => by obtain ⟨a, c, e, ho⟩ := h2 j hj; exact ⟨a, c, e, own_below ho hb⟩⟩
theorem deedRow_push {w w' : World} {B : Nat} {v v' : Value} {L : List (List (List UInt8))} {vs : List Value} {rs : List (List UInt8)} {a : Option Addr} {c : Nat} {o : Obj}
    (h1 : w.ownsRow B 36 1 v L.length vs) (h2 : ∀ j (h : j < L.length), ∃ a c, vs[j]? = some (.slice a L[j].length c) ∧ w.ownsRow B 9 1 (.slice a L[j].length c) L[j].length (svals (L[j].map bx)))
    (hr : w.ownsRow B 9 1 (.slice a rs.length c) rs.length (svals (rs.map bx))) (ho : w'.ownsRow B 36 1 v' (L.length + 1) (vs ++ [.slice a rs.length c])) (hg : (w.alloc o).grownBy w' v.ownBlock) : DeedRow w' B v' (L ++ [rs]) := by
  have hl : vs.length = L.length := by have := h1.1; omega
  have hon : Only (fun k => v.ownBlock = some k) w w' := ((Only.refl _ w).alloc o).grown hg (fun k e => .inl e)
  have key : ∀ {u : Value} {n : Nat} {xs : List Value}, w.ownsRow B 9 1 u n xs → w'.ownsRow B 9 1 u n xs := fun hu => own_only hu hon (fun k hk => own_ne hu h1 (by decide) hk)
  refine ⟨vs ++ [.slice a rs.length c], by rw [List.length_append]; exact ho, fun j hj => ?_⟩
  by_cases hjl : j < L.length
  · obtain ⟨a', c', e, h3⟩ := h2 j hjl
    have e2 : (L ++ [rs])[j] = L[j] := List.getElem_append_left hjl
    rw [e2]
    exact ⟨a', c', by rw [List.getElem?_append_left (by omega)]; exact e, key h3⟩
  · have hj' : j = L.length := by rw [List.length_append] at hj; simp at hj; omega
    subst hj'
    have e2 : (L ++ [rs])[L.length] = rs := by simp
    rw [e2]
    exact ⟨a, c, by rw [List.getElem?_append_right (by omega), hl]; simp, key hr⟩
set_option maxRecDepth 100000 in
set_option maxHeartbeats 8000000 in
theorem read_book (l : List UInt8) (w : World) (hl : l.length ≤ 1000000000000) : Calls Tryz.prog 37 #[.string (bx l)] w fun e w' =>
    (∃ a c, e = .returned (.tuple #[.slice a (readR crcP l).1.length c, .int .i64 (readR crcP l).2]) ∧ DeedRow w' w.heap.size (.slice a (readR crcP l).1.length c) (readR crcP l).1) ∧ Below w.heap.size w w' := by
  obtain ⟨i0, hi0, hz0, hz1, hz2⟩ := info_parts Tryz.infoSl
  obtain ⟨Z, hZ⟩ : ∃ Z, readR crcP l = Z := ⟨_, rfl⟩
  have HZ : Hid (readF crcP l.length l = Z) := hZ
  rw [hZ]
  obtain ⟨B, hB⟩ : ∃ B, w.heap.size = B := ⟨_, rfl⟩
  have HBW := hid hB
  have HLOW : Hid (∀ w1, Below B w w1 → B ≤ w1.heap.size) := fun w1 h => by have := h.size; rw [HBW.out] at this; exact this
  rw [hB]
  obtain ⟨y, hy⟩ : ∃ y, bx l = y := ⟨_, rfl⟩
  have hys : y.size = l.length := by rw [← hy, bx_size]
  have HDR : Hid (∀ k, y.extract k y.size = bx (l.drop k)) := fun k => by rw [← hy, bx_drop]
  rw [hy]
  have HYS := hid hys
  have hyb : y.size ≤ 1000000000000 := by omega
  clear hZ hB hy hys hl
  go_enter Tryz.func37, Tryz.ntmps37
  go_wp2
  go_loopw [2, 3] (fun ov iv wr => ∃ (k : Nat) (L : List (List (List UInt8))), k ≤ y.size ∧ iv = .int .i64 k ∧ Hid (8 * L.length ≤ k) ∧ Hid (Z = (L ++ (readF crcP (l.length - L.length) (l.drop k)).1, k + (readF crcP (l.length - L.length) (l.drop k)).2)) ∧ Hid (DeedRow wr B ov L) ∧ Hid (Below B w wr)) (fun _ iv _ => y.size - (intOf iv).toNat)
  case atStart =>
    refine ⟨0, [], Nat.zero_le _, rfl, Nat.le_refl _, ?_, deedRow_nil _ _, Below.refl _ _⟩
    show Z = _
    rw [← HZ.out]; simp
  case round =>
    obtain ⟨k, L, hk, rfl, H8, HINV, HO, LX⟩ := hrel
    have hBr : B ≤ wr.heap.size := HLOW.out _ LX.out
    obtain ⟨G, hG⟩ : ∃ G, l.drop k = G := ⟨_, rfl⟩
    have hGl : G.length ≤ 1000000000000 := by rw [← hG, List.length_drop]; have := HYS.out; omega
    have HGL : Hid (k + G.length = y.size) := by show _ = _; rw [← hG, List.length_drop]; have := HYS.out; omega
    have HNX : Hid (∀ n, l.drop (k + n) = G.drop n) := fun n => by rw [← hG, List.drop_drop]
    obtain ⟨g, hg⟩ : ∃ g, wr.heap.size = g := ⟨_, rfl⟩
    have HG := hid hg
    have HNEW := hid (onew_any (y.extract k y.size) wr)
    have hdr := HDR.out k
    rw [hG] at hdr HINV
    rw [hdr, bx_list, ← hdr, hg] at HNEW
    obtain ⟨r1, hr1⟩ : ∃ r1, (numR (newR G)).2 = r1 := ⟨_, rfl⟩
    obtain ⟨N, hN⟩ : ∃ N, (numR (newR G)).1 = N := ⟨_, rfl⟩
    obtain ⟨r2, hr2⟩ : ∃ r2, (numR r1).2 = r2 := ⟨_, rfl⟩
    obtain ⟨C, hC⟩ : ∃ C, (numR r1).1 = C := ⟨_, rfl⟩
    obtain ⟨r3, hr3⟩ : ∃ r3, (takeR r2 N).2 = r3 := ⟨_, rfl⟩
    obtain ⟨b, hb⟩ : ∃ b, (takeR r2 N).1 = b := ⟨_, rfl⟩
    have HST : Hid (stepR crcP G = if r3.bad = true ∨ crcP b ≠ C then none else (recordsR b).map (fun l => (l, N))) := by
      show stepR crcP G = _
      unfold stepR
      simp only [hr1, hN, hr2, hC, hr3, hb]
    have hN32 : N < 4294967296 := by rw [← hN]; exact numV_lt _
    have hC32 : C < 4294967296 := by rw [← hC]; exact numV_lt _
    have hrl1 : r1.rest.length ≤ 1000000000000 := by rw [← hr1]; exact Nat.le_trans (takeR_rest _ 4) hGl
    have hrl2 : r2.rest.length ≤ 1000000000000 := by rw [← hr2]; exact Nat.le_trans (takeR_rest _ 4) hrl1
    have hbl : b.length ≤ 1000000000000 := by
      rw [← hb]; unfold takeR; split
      · simp
      · simp; omega
    have HN1 : Hid (∀ w', RdAt w' g (newR G) → Calls Tryz.prog 79 #[.pointer (some ⟨g, 0, none⟩)] w' fun e w'' => e = .returned (.int .u32 N) ∧ RdAt w'' g r1 ∧ Only (· = g) w' w'') := fun w' h => by
      have := onum_any h (by show G.length ≤ _; omega); rwa [hN, hr1] at this
    have HN2 : Hid (∀ w', RdAt w' g r1 → Calls Tryz.prog 79 #[.pointer (some ⟨g, 0, none⟩)] w' fun e w'' => e = .returned (.int .u32 C) ∧ RdAt w'' g r2 ∧ Only (· = g) w' w'') := fun w' h => by
      have := onum_any h (by omega); rwa [hC, hr2] at this
    have HTK : Hid (∀ w', RdAt w' g r2 → Calls Tryz.prog 80 #[.pointer (some ⟨g, 0, none⟩), .int .i64 N] w' fun e w'' => e = .returned (.string (bx b)) ∧ RdAt w'' g r3 ∧ Only (· = g) w' w'') := fun w' h => by
      have := otake_any N h (by omega) (by omega); rwa [hb, hr3] at this
    obtain ⟨R, hR⟩ : ∃ R, recordsR b = R := ⟨_, rfl⟩
    have HRC : Hid (∀ w', Calls Tryz.prog 81 #[.string (bx b)] w' fun e w'' => (∃ a n c, e = .returned (.tuple #[.slice a n c, .bool R.isSome]) ∧ (∀ rs, R = some rs → n = rs.length ∧ w''.ownsRow w'.heap.size 9 1 (.slice a n c) n (svals (rs.map bx)))) ∧ Below w'.heap.size w' w'') := fun w' => by
      have := records_any b w' hbl; rwa [hR] at this
    obtain ⟨q, hq⟩ : ∃ q, crcP b = q := ⟨_, rfl⟩
    have HSM : Hid (∀ w', Calls Tryz.prog 83 #[.string (bx b)] w' fun e w'' => e = .returned (.int .u32 q) ∧ Below w'.heap.size w' w'') := fun w' => by
      have := crcsum_any (bx b) w' (by rw [bx_size]; omega); rwa [bx_list, hq] at this
    rw [hR, hq] at HST
    obtain ⟨bad, hbad⟩ : ∃ bad, r3.bad = bad := ⟨_, rfl⟩
    have HBD : Hid (∀ w', RdAt w' g r3 → Calls Tryz.prog 82 #[.pointer (some ⟨g, 0, none⟩)] w' fun e w'' => e = .returned (.bool bad) ∧ w' = w'') := fun w' h => by
      have := obad_any h; rwa [hbad] at this
    rw [hbad] at HST
    obtain ⟨z, hz⟩ : ∃ z, bx b = z := ⟨_, rfl⟩
    rw [hz] at HTK HRC HSM
    have ew : IntKind.i64.wrap (N : Int) = N := by rw [IntKind.wrap_i64]; omega
    have ck1 : (0 : Int) ≤ (k : Int) := by omega
    have ck2 : (k : Int) ≤ (y.size : Int) := by omega
    clear hr1 hN hr2 hC hr3 hb hR hq hz hdr hbad hG hg hrl1 hrl2 hbl hGl
    by_cases hok : bad = false ∧ q = C ∧ R.isSome = true
    · obtain ⟨rfl, rfl, hsome⟩ := hok
      obtain ⟨rs, rfl⟩ := Option.isSome_iff_exists.1 hsome
      have hstep : stepR crcP G = some (rs, N) := by rw [HST.out]; simp
      have hfits := stepR_fits hstep
      have hfb : k + (8 + N) ≤ y.size := by have := HGL.out; omega
      have HF : Hid (l.length - L.length = (l.length - (L.length + 1)) + 1) := by show _ = _; have := HGL.out; have := HYS.out; have := H8.out; omega
      have HNEXT : Hid (Z = ((L ++ [rs]) ++ (readF crcP (l.length - (L.length + 1)) (l.drop (k + (8 + N)))).1, (k + (8 + N)) + (readF crcP (l.length - (L.length + 1)) (l.drop (k + (8 + N)))).2)) := by
        show Z = _
        rw [HINV.out, HF.out, HNX.out]
        rw [readF_some _ hstep]
        simp only [List.append_assoc, List.singleton_append, Prod.mk.injEq, true_and]
        omega
      clear hstep hfits hsome HST HINV
      obtain ⟨vs, ho1, ho2⟩ := HO.out
      have HO1 := hid ho1; have HO2 := hid ho2
      have hLk : L.length ≤ 1000000000000 := by have := H8.out; omega
      clear ho1 ho2 HO
      go_wp2_with (first
        | (go_at_call 78; refine HNEW.out.mono ?_; rintro e w1 ⟨rfl, hs1, hs2⟩; have H1 := hid hs1; have L1 : Hid (Below g wr w1) := hs2; clear hs1 hs2)
        | (go_at_call 79; refine (HN1.out _ H1.out).mono ?_; rintro e w2 ⟨rfl, hs⟩; have H2 := hid hs.1; have L2 : Hid (Below g wr w2) := L1.out.trans (hs.2.below (fun i e => Nat.le_of_eq e.symm) (by have := L1.out.size; have := HG.out; omega)); clear hs)
        | (go_at_call 79; refine (HN2.out _ H2.out).mono ?_; rintro e w3 ⟨rfl, hs⟩; have H3 := hid hs.1; have L3 : Hid (Below g wr w3) := L2.out.trans (hs.2.below (fun i e => Nat.le_of_eq e.symm) (by have := L2.out.size; have := HG.out; omega)); clear hs)
        | (go_at_call 80; refine (HTK.out _ H3.out).mono ?_; rintro e w4 ⟨rfl, hs⟩; have H4 := hid hs.1; have L4 : Hid (Below g wr w4) := L3.out.trans (hs.2.below (fun i e => Nat.le_of_eq e.symm) (by have := L3.out.size; have := HG.out; omega)); clear hs)
        | (go_at_call 81; refine (HRC.out _).mono ?_; rintro e w5 ⟨⟨a5, n5, c5, rfl, hs0⟩, hs⟩; obtain ⟨rfl, hown5⟩ := hs0 rs rfl; have HR5 := hid hown5; have H5 : Hid (RdAt w5 g r3) := H4.out.only (Only.of_below hs (fun _ => False)) (fun e => e); have hgw4 : g ≤ w4.heap.size := (by have := L4.out.size; have := HG.out; omega); have L5 : Hid (Below g wr w5) := L4.out.trans (hs.mono hgw4); clear hs hs0 hown5)
        | (go_at_call 82; refine (HBD.out _ H5.out).mono ?_; rintro e w' ⟨rfl, rfl⟩)
        | (go_at_call 83; refine (HSM.out _).mono ?_; rintro e w6 ⟨rfl, hs⟩; have hgw5 : g ≤ w5.heap.size := (by have := L5.out.size; have := HG.out; omega)
           have hlow : Below wr.heap.size wr w6 := (by rw [HG.out]; exact L5.out.trans (hs.mono hgw5))
           have L6 : Hid (Below B w w6) := below_mono2 LX.out hBr hlow
           have hown : w6.ownsRow B 36 1 _ L.length vs := own_below HO1.out hlow
           have HO6 : Hid (∀ j (h : j < L.length), ∃ a c, vs[j]? = some (.slice a L[j].length c) ∧ w6.ownsRow B 9 1 (.slice a L[j].length c) L[j].length (svals (L[j].map bx))) := fun j hj => (by obtain ⟨a, c, e, h⟩ := HO2.out j hj; exact ⟨a, c, e, own_below h hlow⟩)
           have HR6 : Hid (w6.ownsRow B 9 1 (.slice a5 rs.length c5) rs.length (svals (rs.map bx))) := own_base0 (own_below HR5.out hs) (Nat.le_trans hBr (by rw [HG.out]; exact hgw4))
           have hB6 : B ≤ w6.heap.size := HLOW.out _ L6.out
           clear hs hlow)
        | (at_builtin; refine wpList_append_own _ rfl (.tmp 41) (.tmp 43) 29 rfl B 36 i0 (.slice none 0 0) 1 24 Tryz.underlying29 hi0 hz0 hz1 hz2 rfl (by decide) _ _ _ rfl (hown.alloc _) _ 1 1 [.slice a5 rs.length c5] rfl rfl (cellNew1 _ _ _) (one_bytes rfl) (by unfold maxLen; omega) (by omega) (by simp; omega) ?_; intro v' w7 hown' hgrow _))
      go_roundw
      case rel => exact ⟨k + (8 + N), L ++ [rs], hfb, by go_num, by show _ ≤ _; rw [List.length_append]; have := H8.out; simp; omega, by show Z = _; rw [List.length_append]; exact HNEXT.out, deedRow_push hown HO6.out HR6.out hown' hgrow, below_grown1 L6.out hown _ hB6 hgrow⟩
      case measure => simp [intOf]; omega
    · have hstep : stepR crcP G = none := by
        rw [HST.out]
        cases bad
        · by_cases hqc : q = C
          · cases R
            · simp
            · exact absurd ⟨rfl, hqc, rfl⟩ hok
          · simp [hqc]
        · simp
      have HRES : Hid (Z = (L, k)) := by
        show Z = _
        rw [HINV.out, readF_none _ _ hstep]; simp
      clear hstep HST HINV
      obtain ⟨a, c, rfl, -⟩ := own_slice HO.out.choose_spec.1
      have hgo : bad = true ∨ bad = false ∧ ((q : Int) == (C : Int)) = false ∧ ¬ (q : Int) = C ∨ bad = false ∧ q = C ∧ R.isSome = false := by
        cases bad
        · by_cases hqc : q = C
          · right; right; refine ⟨rfl, hqc, ?_⟩
            cases h : R.isSome
            · rfl
            · exact absurd ⟨rfl, hqc, h⟩ hok
          · right; left; refine ⟨rfl, ?_, by omega⟩; rw [beq_eq_false_iff_ne]; omega
        · exact .inl rfl
      clear hok
      obtain ⟨s, hs⟩ : ∃ s, R.isSome = s := ⟨_, rfl⟩
      rw [hs] at hgo HRC
      clear hs
      rcases hgo with rfl | ⟨rfl, hq1, hq2⟩ | ⟨rfl, rfl, rfl⟩ <;> (
        go_wp2_with (first
        | (go_at_call 78; refine HNEW.out.mono ?_; rintro e w1 ⟨rfl, hs1, hs2⟩; have H1 := hid hs1; have L1 : Hid (Below g wr w1) := hs2; clear hs1 hs2)
        | (go_at_call 79; refine (HN1.out _ H1.out).mono ?_; rintro e w2 ⟨rfl, hs⟩; have H2 := hid hs.1; have L2 : Hid (Below g wr w2) := L1.out.trans (hs.2.below (fun i e => Nat.le_of_eq e.symm) (by have := L1.out.size; have := HG.out; omega)); clear hs)
        | (go_at_call 79; refine (HN2.out _ H2.out).mono ?_; rintro e w3 ⟨rfl, hs⟩; have H3 := hid hs.1; have L3 : Hid (Below g wr w3) := L2.out.trans (hs.2.below (fun i e => Nat.le_of_eq e.symm) (by have := L2.out.size; have := HG.out; omega)); clear hs)
        | (go_at_call 80; refine (HTK.out _ H3.out).mono ?_; rintro e w4 ⟨rfl, hs⟩; have H4 := hid hs.1; have L4 : Hid (Below g wr w4) := L3.out.trans (hs.2.below (fun i e => Nat.le_of_eq e.symm) (by have := L3.out.size; have := HG.out; omega)); clear hs)
        | (go_at_call 81; refine (HRC.out _).mono ?_; rintro e w5 ⟨⟨a5, n5, c5, rfl, hs0⟩, hs⟩; have H5 : Hid (RdAt w5 g r3) := H4.out.only (Only.of_below hs (fun _ => False)) (fun e => e); have hgw4 : g ≤ w4.heap.size := (by have := L4.out.size; have := HG.out; omega); have L5 : Hid (Below wr.heap.size wr w5) := (by show Below _ _ _; rw [HG.out]; exact L4.out.trans (hs.mono hgw4)); clear hs hs0)
        | (go_at_call 82; refine (HBD.out _ H5.out).mono ?_; rintro e w' ⟨rfl, rfl⟩)
        | (go_at_call 83; refine (HSM.out _).mono ?_; rintro e w6 ⟨rfl, hs⟩; have L6 : Hid (Below wr.heap.size wr w6) := below_then L5.out hs; clear hs))
        go_ret2
        refine ⟨⟨a, c, by rw [HRES.out]; rfl, ?_⟩, ?_⟩
        · rw [HRES.out]; exact deedRow_below HO.out (by first | exact L6.out | exact L5.out)
        · exact below_mono2 LX.out hBr (by first | exact L6.out | exact L5.out))
end Go.Proofs.YtnhgfhbicaiilaaGreat
/- Lists of lists of texts in memory, and in which blocks. -/
namespace Go.Proofs.YtnhgfhbicaiilaaGreat
open Go.RowKit Book
set_option linter.unusedVariables false

def SIn (G : Nat → Prop) (w : World) (a : Option Addr) (n : Nat) (l : List ByteArray) : Prop := StrsAt w a n l ∧ (n ≠ 0 → ∀ b off, a = some ⟨b, off, none⟩ → G b)
def GridIn (G : Nat → Prop) (w : World) (a : Option Addr) (n : Nat) (L : List (List ByteArray)) : Prop :=
  L.length = n ∧ n ≤ 9223372036854775807 ∧ (n = 0 ∨ ∃ b off, a = some ⟨b, off, none⟩ ∧ G b ∧ ∀ j (h : j < L.length), ∃ a' c', w.cell? ⟨b, off + j, none⟩ = some (.slice a' L[j].length c') ∧ SIn G w a' L[j].length L[j])
section
variable {G F : Nat → Prop} {w w' : World} {a : Option Addr} {n : Nat}
theorem strs_only {l : List ByteArray} (h : StrsAt w a n l) (ho : Only F w w') (hf : n ≠ 0 → ∀ b off, a = some ⟨b, off, none⟩ → ¬ F b) : StrsAt w' a n l := by
  obtain ⟨h1, h2, h3⟩ := h
  refine ⟨h1, h2, ?_⟩
  by_cases hn : n = 0
  · exact .inl hn
  · refine .inr ?_
    obtain ⟨b, off, ha, hc⟩ := h3.resolve_left hn
    exact ⟨b, off, ha, fun j hj => ho.cell (hc j hj) (hf hn b off ha)⟩
theorem SIn.only {l : List ByteArray} (h : SIn G w a n l) (ho : Only F w w') (hf : ∀ k, G k → ¬ F k) : SIn G w' a n l :=
  ⟨strs_only h.1 ho (fun hn b off e => hf b (h.2 hn b off e)), h.2⟩
theorem GridIn.only {L : List (List ByteArray)} (h : GridIn G w a n L) (ho : Only F w w') (hf : ∀ k, G k → ¬ F k) : GridIn G w' a n L := by
  obtain ⟨h1, h2, h3⟩ := h
  refine ⟨h1, h2, h3.imp id ?_⟩
  rintro ⟨b, off, ha, hb, hc⟩
  refine ⟨b, off, ha, hb, fun j hj => ?_⟩
  obtain ⟨a', c', e, hs⟩ := hc j hj
  exact ⟨a', c', ho.cell e (hf b hb), hs.only ho hf⟩
theorem GridIn.mono {L : List (List ByteArray)} {G' : Nat → Prop} (h : GridIn G w a n L) (hG : ∀ k, G k → G' k) : GridIn G' w a n L := by
  obtain ⟨h1, h2, h3⟩ := h
  refine ⟨h1, h2, h3.imp id ?_⟩
  rintro ⟨b, off, ha, hb, hc⟩
  refine ⟨b, off, ha, hG b hb, fun j hj => ?_⟩
  obtain ⟨a', c', e, hs⟩ := hc j hj
  exact ⟨a', c', e, hs.1, fun hn b off ha => hG b (hs.2 hn b off ha)⟩
theorem GridIn.get {L : List (List ByteArray)} (h : GridIn G w a n L) {j : Nat} (hj : j < n) : ∃ b off a' c', a = some ⟨b, off, none⟩ ∧ w.cell? ⟨b, off + j, none⟩ = some (.slice a' (L[j]'(by have := h.1; omega)).length c') ∧ SIn G w a' (L[j]'(by have := h.1; omega)).length (L[j]'(by have := h.1; omega)) := by
  obtain ⟨h1, h2, h3⟩ := h
  obtain ⟨b, off, ha, hb, hc⟩ := h3.resolve_left (by omega)
  obtain ⟨a', c', e, hs⟩ := hc j (by omega)
  exact ⟨b, off, a', c', ha, e, hs⟩
theorem GridIn.nil : GridIn G w a 0 [] := ⟨rfl, by omega, .inl rfl⟩
end
def grid (L : List (List (List UInt8))) : List (List ByteArray) := L.map fun rs => rs.map bx
theorem own_block {w : World} {B : Nat} {e : TypeId} {n c b off : Nat} {v : Value} {xs : List Value} (h : w.ownsRow B e 1 v n xs) (hv : v = .slice (some ⟨b, off, none⟩) n c) : off = 0 ∧ v.ownBlock = some b := by
  rcases h.2 with ⟨rfl, h0⟩ | ⟨g, cap, cur, rfl, _⟩
  · cases hv
  · injection hv with h1 h2 h3
    injection h1 with h1
    injection h1 with h4 h5 h6
    subst h4 h5
    exact ⟨rfl, rfl⟩
theorem gridIn_of_row {w : World} {B : Nat} {a : Option Addr} {c : Nat} {L : List (List (List UInt8))} (h : DeedRow w B (.slice a L.length c) L) (hm : L.length ≤ 9223372036854775807) (hm2 : ∀ rs ∈ L, rs.length ≤ 9223372036854775807) : GridIn (fun k => B ≤ k ∧ k < w.heap.size) w a L.length (grid L) := by
  obtain ⟨vs, h1, h2⟩ := h
  refine ⟨by simp [grid], hm, ?_⟩
  by_cases h0 : L.length = 0
  · exact .inl h0
  right
  have h1' := h1
  rcases h1.2 with ⟨e, e0⟩ | ⟨g, cap, cur, e, hb, hg, hn, hc, hsz, htk⟩
  · exact absurd e0 h0
  injection e with e1 e2 e3
  subst e1 e3
  have hlt : ∀ {u : Value} {k n : Nat} {t : TypeId} {xs : List Value}, w.ownsRow B t 1 u n xs → u.ownBlock = some k → B ≤ k ∧ k < w.heap.size := fun ho hk => ho.lt _ hk
  refine ⟨g, 0, rfl, hlt h1' rfl, fun j hj => ?_⟩
  have hjl : j < L.length := by simpa [grid] using hj
  obtain ⟨a', c', e, ho⟩ := h2 j hjl
  have he : (grid L)[j] = L[j].map bx := by simp [grid]
  have hel : (grid L)[j].length = L[j].length := by rw [he, List.length_map]
  refine ⟨a', c', ?_, ?_, ?_⟩
  · have h3 := h1'.cellAt j (by omega)
    rw [Nat.zero_add, hel]
    have h4 : vs[j]? = some (vs[j]'(by have := h1'.1; omega)) := List.getElem?_eq_getElem _
    rw [e] at h4
    have h5 : (⟨g, 0, none⟩ : Addr).add j = ⟨g, j, none⟩ := by unfold Addr.add; split <;> simp_all
    rw [← e, ← h3]
  · have ho' : w.ownsRow B 9 1 (.slice a' L[j].length c') (L[j].map bx).length (svals (L[j].map bx)) := by rw [List.length_map]; exact ho
    obtain ⟨a2, c2, e2, hs⟩ := own_strs ho' (by rw [List.length_map]; exact hm2 _ (List.getElem_mem _))
    injection e2 with e3 e4 e5
    subst e3
    rw [he]; exact hs
  · intro hn b off ha
    subst ha
    exact hlt ho (own_block ho rfl).2
end Go.Proofs.YtnhgfhbicaiilaaGreat
/- A call of a disk as the laws draw it, and what it keeps: plain Lean. -/
namespace Go.Proofs.YtnhgfhbicaiilaaGreat.Reel
open Go.RowKit
set_option linter.unusedVariables false

structure ActV where
  kind : Int
  name : ByteArray
  text : ByteArray
  n : Int
  fates : List Int
def doesS (S : St) (x : ActV) : St × Int :=
  if x.kind = 1 then appendS S x.name x.text
  else if x.kind = 2 then syncS S x.name
  else if x.kind = 3 then cutS S x.name x.n
  else if x.kind = 4 then swapS S x.name x.text
  else if x.kind = 5 then dropS S x.name
  else if x.kind = 6 then (offS S, 0)
  else if x.kind = 7 then (onS S x.fates, 0)
  else if x.kind = 8 then (armS S x.n, 0)
  else if x.kind = 9 then (roomS S x.n, 0)
  else (S, 0)
section
variable {S S' : St} {x y : ByteArray} {t : Spool} {n : Nat}
/-- acts, lives, armed, room as they were, but for an act -/
def Near (S S' : St) : Prop := S'.room = S.room ∧ ((S'.acts = S.acts ∧ S'.life = S.life ∧ S'.armed = S.armed) ∨ (S'.acts = (actS S).1.acts ∧ S'.life = (actS S).1.life ∧ S'.armed = (actS S).1.armed))
theorem Near.refl (S : St) : Near S S := ⟨rfl, .inl ⟨rfl, rfl, rfl⟩⟩
theorem Near.act (S : St) : Near S (actS S).1 := ⟨(act_l S).2.2.2, .inr ⟨rfl, rfl, rfl⟩⟩
theorem Near.fits (h : Near S S') (hf : S.Fits n) : S'.Fits (n + 1) := by
  obtain ⟨-, h⟩ := h
  rcases h with ⟨h1, h2, h3⟩ | ⟨h1, h2, h3⟩
  · obtain ⟨f1, f2, f3⟩ := hf
    exact ⟨by omega, by omega, by omega⟩
  · obtain ⟨f1, f2, f3⟩ := act_fits hf
    exact ⟨by omega, by omega, by omega⟩
theorem act_same {S1 S2 : St} (h1 : S1.acts = S2.acts) (h2 : S1.life = S2.life) (h3 : S1.armed = S2.armed) (h4 : S1.room = S2.room) : Near S2 (actS S1).1 := by
  refine ⟨by rw [(act_l S1).2.2.2, h4], .inr ?_⟩
  unfold actS
  rw [h3]
  split
  · exact ⟨by show S1.acts + 1 = S2.acts + 1; omega, h2, rfl⟩
  · split
    · exact ⟨by show S1.acts + 1 = S2.acts + 1; omega, by show S1.life + 1 = S2.life + 1; omega, rfl⟩
    · exact ⟨by show S1.acts + 1 = S2.acts + 1; omega, h2, rfl⟩
theorem putT_near (S : St) (x : ByteArray) (t : Spool) (U : Nat) : ({ putT S x t with used := U } : St).acts = S.acts ∧ ({ putT S x t with used := U } : St).life = S.life ∧ ({ putT S x t with used := U } : St).armed = S.armed ∧ ({ putT S x t with used := U } : St).room = S.room := ⟨rfl, rfl, rfl, rfl⟩
theorem append_near (S : St) (x s : ByteArray) : Near S (appendS S x s).1 := by
  unfold appendS
  split
  · exact Near.refl S
  split
  · exact Near.refl S
  split
  · exact Near.refl S
  split
  · split
    · exact Near.refl S
    · exact act_same rfl rfl rfl rfl
  · split
    · exact Near.refl S
    · exact act_same rfl rfl rfl rfl
theorem near_with {S1 : St} (h : S1.room = (actS S).1.room ∧ S1.acts = (actS S).1.acts ∧ S1.life = (actS S).1.life ∧ S1.armed = (actS S).1.armed) : Near S S1 :=
  ⟨by rw [h.1, (act_l S).2.2.2], .inr ⟨h.2.1, h.2.2.1, h.2.2.2⟩⟩
theorem sync_near (S : St) (x : ByteArray) : Near S (syncS S x).1 := by
  unfold syncS
  split
  · exact Near.refl S
  split
  · exact Near.refl S
  split
  · exact near_with ⟨rfl, rfl, rfl, rfl⟩
  · exact Near.act S
theorem cut_near (S : St) (x : ByteArray) (k : Int) : Near S (cutS S x k).1 := by
  unfold cutS
  split
  · exact Near.refl S
  split
  · exact Near.refl S
  split
  · exact Near.refl S
  split
  · exact near_with ⟨rfl, rfl, rfl, rfl⟩
  · exact Near.act S
theorem swap_near (S : St) (x y : ByteArray) : Near S (swapS S x y).1 := by
  unfold swapS
  split
  · exact Near.refl S
  split
  · exact Near.refl S
  split
  · exact Near.refl S
  split
  · split
    · exact Near.act S
    · exact near_with ⟨rfl, rfl, rfl, rfl⟩
  · exact Near.act S
theorem drop_near (S : St) (x : ByteArray) : Near S (dropS S x).1 := by
  unfold dropS
  split
  · exact Near.refl S
  split
  · exact Near.refl S
  split
  · exact near_with ⟨rfl, rfl, rfl, rfl⟩
  · exact Near.act S
theorem does_fits (v : ActV) (hf : S.Fits n) (hn : v.n ≤ 9223372036854775807) : (doesS S v).1.Fits (n + 1) := by
  have h0 : S.Fits (n + 1) := ⟨by have := hf.1; omega, by have := hf.2.1; omega, hf.2.2⟩
  unfold doesS
  split
  · exact (append_near S _ _).fits hf
  split
  · exact (sync_near S _).fits hf
  split
  · exact (cut_near S _ _).fits hf
  split
  · exact (swap_near S _ _).fits hf
  split
  · exact (drop_near S _).fits hf
  split
  · unfold offS; split
    · exact h0
    · exact ⟨by have := hf.1; show S.acts ≤ _; omega, by have := hf.2.1; show S.life + 1 ≤ _; omega, by show (0 : Nat) ≤ _; omega⟩
  split
  · unfold onS; split
    · exact h0
    · exact h0
  split
  · exact ⟨h0.1, h0.2.1, by show v.n.toNat ≤ _; omega⟩
  split
  · exact h0
  · exact h0
theorem does_room (v : ActV) (h9 : v.kind ≠ 9) : (doesS S v).1.room = S.room := by
  unfold doesS
  split
  · exact (append_near S _ _).1
  split
  · exact (sync_near S _).1
  split
  · exact (cut_near S _ _).1
  split
  · exact (swap_near S _ _).1
  split
  · exact (drop_near S _).1
  split
  · unfold offS; split <;> rfl
  split
  · unfold onS; split <;> rfl
  split
  · rfl
  rfl
theorem used_act (S : St) : (actS S).1.used = S.used := (act_l S).2.2.1
/-- there is never more than there is room for -/
theorem does_used (v : ActV) (hok : S.Ok) (h : S.used ≤ S.room) : (doesS S v).1.used ≤ S.room := by
  unfold doesS
  split
  · unfold appendS
    split
    · exact h
    split
    · exact h
    split
    · exact h
    split
    · split
      · exact h
      · rw [used_act]; show S.used + _ ≤ _; omega
    · split
      · exact h
      · rw [used_act]; show S.used + _ ≤ _; omega
  split
  · unfold syncS
    split
    · exact h
    split
    · exact h
    split
    · show (actS S).1.used ≤ _; rw [used_act]; exact h
    · rw [used_act]; exact h
  split
  · unfold cutS
    split
    · exact h
    split
    · exact h
    split
    · exact h
    split
    · show S.used - _ ≤ _; omega
    · rw [used_act]; exact h
  split
  · unfold swapS
    split
    · exact h
    split
    · exact h
    split
    · exact h
    split
    · split
      · rw [used_act]; exact h
      · show S.used - _ ≤ _; omega
    · rw [used_act]; exact h
  split
  · unfold dropS
    split
    · exact h
    split
    · exact h
    split
    · show S.used - _ ≤ _; omega
    · rw [used_act]; exact h
  split
  · unfold offS; split <;> exact h
  split
  · unfold onS; split
    · exact h
    · have := onT_size v.fates S.ts 0 (fun t ht => (hok.each t ht).2)
      rw [← hok.used] at this
      show size _ ≤ _; omega
  split
  · exact h
  split
  · exact h
  · exact h
theorem act_ne (S : St) : (actS S).2 ≠ 11 := by rcases act_err S with h | h <;> rw [h] <;> decide
theorem does_full (v : ActV) (h : (doesS S v).2 = 11) : v.kind = 1 ∧ (doesS S v).1 = S := by
  unfold doesS at h ⊢
  split at h
  · rename_i hk
    refine ⟨hk, ?_⟩
    rw [if_pos hk]
    unfold appendS at h ⊢
    split at h
    · exact absurd h (by simp)
    rename_i c1
    rw [if_neg c1]
    split at h
    · exact absurd h (by simp)
    rename_i c2
    rw [if_neg c2]
    split at h
    · rename_i c3; rw [if_pos c3]
    rename_i c3
    rw [if_neg c3]
    split at h
    · rename_i t ht
      split at h
      · rename_i c4; rw [if_pos c4]
      · exact absurd h (act_ne _)
    · rename_i ht
      split at h
      · rename_i c4; rw [if_pos c4]
      · exact absurd h (act_ne _)
  exfalso
  revert h
  split
  · unfold syncS
    split
    · (intro h; simp at h)
    split
    · (intro h; simp at h)
    split
    · (intro h; simp at h)
    · exact act_ne S
  split
  · unfold cutS
    split
    · (intro h; simp at h)
    split
    · (intro h; simp at h)
    split
    · (intro h; simp at h)
    split
    · (intro h; simp at h)
    · exact act_ne S
  split
  · unfold swapS
    split
    · (intro h; simp at h)
    split
    · (intro h; simp at h)
    split
    · (intro h; simp at h)
    split
    · split
      · exact fun h => by simp at h
      · exact fun h => by simp at h
    · exact act_ne S
  split
  · unfold dropS
    split
    · (intro h; simp at h)
    split
    · (intro h; simp at h)
    split
    · (intro h; simp at h)
    · exact act_ne S
  split
  · (intro h; simp at h)
  split
  · (intro h; simp at h)
  split
  · (intro h; simp at h)
  split
  · (intro h; simp at h)
  · (intro h; simp at h)
/-- the k-th reel's size -/
theorem size_nth (hok : S.Ok) (k : Nat) (hk : k < S.l.length) : sizeS S S.l[k] = ((S.ts.getD k ⟨[], 0⟩).bytes.length : Int) := by
  have hk2 : k < S.ts.length := by rw [hok.len]; exact hk
  have hm : (S.l[k], S.ts[k]) ∈ S.ents := by
    have hl : k < S.ents.length := by rw [ents_len hok]; exact hk
    obtain ⟨h1, h2, e⟩ := ents_get (S := S) k hl
    rw [← e]; exact List.getElem_mem _
  unfold sizeS
  rw [(at_iff hok).2 hm]
  simp [List.getD_eq_getElem?_getD, hk2]
theorem size_take (ts : List Spool) (k : Nat) (hk : k < ts.length) : size (ts.take (k + 1)) = size (ts.take k) + (ts.getD k ⟨[], 0⟩).bytes.length := by
  rw [List.take_succ_eq_append_getElem hk, size_append]
  simp [size, List.getD_eq_getElem?_getD, hk]
theorem size_take_le (ts : List Spool) (k : Nat) : size (ts.take k) ≤ size ts := by
  have := size_append (ts.take k) (ts.drop k)
  rw [List.take_append_drop] at this; omega
end
end Go.Proofs.YtnhgfhbicaiilaaGreat.Reel
