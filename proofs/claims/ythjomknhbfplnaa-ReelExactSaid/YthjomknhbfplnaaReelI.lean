/- The reel: On. -/
import Derived.Test.YthjomknhbfplnaaReelH
import Derived.Test.YthjomknhbfplnaaReelOn
import Derived.Test.YthjomknhbfplnaaAllPtr
namespace Go.Proofs.Ythjomknhbfplnaa
open Go.RowKit Reel
attribute [local go_sem] Oper.semAt_some
set_option linter.unusedVariables false

/-- the slice with the base a and n places reads as the list l of ints -/
def IntsAt (w : World) (a : Option Addr) (n : Nat) (l : List Int) : Prop :=
  l.length = n ∧ n ≤ 9223372036854775807 ∧ (∀ x ∈ l, -9223372036854775808 ≤ x ∧ x ≤ 9223372036854775807) ∧ (n = 0 ∨ ∃ b off, a = some ⟨b, off, none⟩ ∧ ∀ j, j < n → w.cell? ⟨b, off + j, none⟩ = some (.int .i64 (l.getD j 0)))
theorem IntsAt.only {F : Nat → Prop} {w w' : World} {a : Option Addr} {n : Nat} {l : List Int} (h : IntsAt w a n l) (ho : Only F w w') (hf : n ≠ 0 → ∀ b off, a = some ⟨b, off, none⟩ → ¬ F b) : IntsAt w' a n l := by
  obtain ⟨h1, h2, h3, h4⟩ := h
  by_cases hn : n = 0
  · exact ⟨h1, h2, h3, .inl hn⟩
  replace hf := hf hn
  refine ⟨h1, h2, h3, h4.imp id ?_⟩
  rintro ⟨b, off, ha, hc⟩
  exact ⟨b, off, ha, fun j hj => ho.cell (hc j hj) (hf b off ha)⟩

theorem kept_int (f t : Int) (k : Nat) (w : World) (ht : t = k) (hf : -9223372036854775808 ≤ f) (hf2 : f ≤ 9223372036854775807) (hk : k ≤ 4194304) (hk0 : 0 < k) :
    Calls Try.prog 44 #[.int .i64 f, .int .i64 t] w fun e w' => e = .returned (.tuple #[.int .i64 (kept f k).1, .bool (kept f k).2]) ∧ w = w' := by
  subst ht; exact kept_any f k w hf hf2 hk hk0
theorem tear_snoc (a : List UInt8) (c : UInt8) : tear (a ++ [c]) = a ++ [c ^^^ 0x55] := by unfold tear; simp
theorem bvals_set (a : List UInt8) (c d : UInt8) : (bvals (a ++ [c])).set a.length (.int .u8 (d.toNat : Int)) = bvals (a ++ [d]) := by
  unfold bvals
  rw [List.map_append, List.map_append, List.set_append_right _ _ (by simp)]
  simp
theorem set_tp {R : List RM} {j : Nat} {r r' : RM} (hi : R[j]? = some r) (hb : r'.b = r.b) : (R.set j r').map tp = R.map tp := by
  rw [List.map_set]
  apply List.ext_getElem?
  intro i
  rw [List.getElem?_set]
  split
  · rename_i e; subst e
    rw [List.getElem?_map, hi]
    simp [tp, hb, (List.getElem?_eq_some_iff.1 hi).1]
  · rfl
theorem df_set0 {p m : Nat} {ks vs : Value} {R : List RM} {r r' : RM} {i : Nat} (hi : R[i]? = some r) (hb : r'.b = r.b) (hv : r'.v.ownBlock = r.v.ownBlock) {k : Nat} (hk : DF p m ks vs (R.set i r') k) : DF p m ks vs R k := by
  have hm : r ∈ R := List.mem_of_getElem? hi
  rcases hk with hk | hk | ⟨x, hx, hk⟩
  · exact .inl hk
  · exact .inr (.inl hk)
  · rcases List.mem_or_eq_of_mem_set hx with hx | rfl
    · exact df_r hx hk
    · rcases hk with hk | hk
      · exact df_r hm (.inl (hk.trans hb))
      · rw [hv] at hk; exact df_r hm (.inr hk)
/-- the last byte of a tape is another one -/
theorem tear_step {W : World} {p m : Nat} {ks vs : Value} {R : List RM} {S : St} {i : Nat} {r : RM} (h : DMem W p m ks vs R S) (hi : R[i]? = some r) (a : List UInt8) (c : UInt8) (hb : r.t.bytes = a ++ [c]) :
    ∃ g cap, r.v = .slice (some ⟨g, 0, none⟩) (a.length + 1) cap ∧ W.cell? ⟨g, a.length, none⟩ = some (.int .u8 (c.toNat : Int)) ∧ W.frozen? ⟨g, a.length, none⟩ = false ∧
      DMem (W.setCell ⟨g, a.length, none⟩ (.int .u8 ((c ^^^ 0x55).toNat : Int))) p m ks vs (R.set i ⟨r.b, r.v, { r.t with bytes := a ++ [c ^^^ 0x55] }⟩) { S with ts := S.ts.set i { r.t with bytes := a ++ [c ^^^ 0x55] } } ∧
      Only (TF r) W (W.setCell ⟨g, a.length, none⟩ (.int .u8 ((c ^^^ 0x55).toNat : Int))) := by
  have hm : r ∈ R := List.mem_of_getElem? hi
  have ht := h.tapes.1 r hm
  have hl : r.t.bytes.length = a.length + 1 := by rw [hb]; simp
  have how := ht.2
  rcases ht.2.2 with ⟨e1, e2⟩ | ⟨g, cap, cur, hv, hb0, hg, hn, hc, hsz, htk⟩
  · omega
  · rw [hl] at hv hn
    rw [Nat.mul_one] at hsz htk
    have B : Blk W g 5 cur := hg
    have O : Only (· = g) W (W.setCell ⟨g, a.length, none⟩ (.int .u8 ((c ^^^ 0x55).toNat : Int))) := (Only.refl (· = g) W).setCell (p := ⟨g, a.length, none⟩) (.inl rfl) _
    have OT : Only (TF r) W (W.setCell ⟨g, a.length, none⟩ (.int .u8 ((c ^^^ 0x55).toNat : Int))) := O.mono (fun i e => .inr (by subst e; rw [hv]; rfl))
    refine ⟨g, cap, hv, ?_, B.frozen _, ?_, OT⟩
    · rw [B.cell, ← Array.getElem?_toList, ← List.getElem?_take_of_lt (j := r.t.bytes.length) (by omega), htk, hb]
      simp [bvals]
    · refine h.tape hi OT (r' := ⟨r.b, r.v, { r.t with bytes := a ++ [c ^^^ 0x55] }⟩) ⟨ht.1.only O (fun e => ?_), ?_⟩ rfl (.inl rfl)
      · have := B.ne ht.1 (by decide); exact this e.symm
      · refine ⟨by rw [bvals_length, Nat.mul_one], .inr ⟨g, cap, _, by rw [hv]; simp, hb0, B.set a.length _, by simpa using hn, hc, by simp [hsz], ?_⟩⟩
        have h5 : (a ++ [c ^^^ 0x55]).length = r.t.bytes.length := by rw [hb]; simp
        show List.take ((a ++ [c ^^^ 0x55]).length * 1) _ = _
        rw [h5, Nat.mul_one, Array.toList_setIfInBounds, List.take_set, htk, hb, bvals_set]
/-- all of a tape is safe -/
theorem safe_step {W : World} {p m : Nat} {ks vs : Value} {R : List RM} {S : St} {i : Nat} {r : RM} (h : DMem W p m ks vs R S) (hi : R[i]? = some r) (k : Int) (hk : k = r.t.bytes.length) :
    W.cell? ⟨r.b, 1, none⟩ = some (.int .i64 r.t.safe) ∧ W.frozen? ⟨r.b, 1, none⟩ = false ∧ (∃ a c, W.cell? ⟨r.b, 0, none⟩ = some (.slice a r.t.bytes.length c)) ∧
      DMem (W.setCell ⟨r.b, 1, none⟩ (.int .i64 k)) p m ks vs (R.set i ⟨r.b, r.v, ⟨r.t.bytes, r.t.bytes.length⟩⟩) { S with ts := S.ts.set i ⟨r.t.bytes, r.t.bytes.length⟩ } ∧
      Only (TF r) W (W.setCell ⟨r.b, 1, none⟩ (.int .i64 k)) := by
  subst hk
  have hm : r ∈ R := List.mem_of_getElem? hi
  have ht := h.tapes.1 r hm
  obtain ⟨a, c, hv, hc⟩ := own_slice ht.2
  have O : Only (· = r.b) W (W.setCell ⟨r.b, 1, none⟩ (.int .i64 r.t.bytes.length)) := (Only.refl (· = r.b) W).setCell (p := ⟨r.b, 1, none⟩) (.inl rfl) _
  refine ⟨(ht.1.cell 1).trans rfl, ht.1.frozen 1, ⟨a, c, by have := ht.1.cell 0; rw [hv] at this; exact this.trans rfl⟩, ?_, O.mono (fun i e => .inl e)⟩
  exact h.tape hi (O.mono (fun i e => .inl e)) (r' := ⟨r.b, r.v, ⟨r.t.bytes, r.t.bytes.length⟩⟩) ⟨by simpa using ht.1.set 1 (.int .i64 r.t.bytes.length), own_only ht.2 O (fun k hk e => by subst e; exact ht.v_ne_b ht hk)⟩ rfl (.inl rfl)

/-- what holds between two rounds -/
def OnI (w : World) (p m : Nat) (ks vs : Value) (R : List RM) (S : St) (F : Nat → Prop) (a : Option Addr) (n c : Nat) (fs : List Int) (pre : List (Fin S.l.length)) (W : World) : Prop :=
  (∃ R', DMem W p m ks vs R' (midS S fs (pre.map (·.1))) ∧ R'.map tp = R.map tp ∧ (∀ k, DF p m ks vs R' k → F k)) ∧ Only F w W ∧ w.heap.size + 4 ≤ W.heap.size ∧
  Blk W w.heap.size 25 #[.pointer (some ⟨p, 0, none⟩)] ∧ Blk W (w.heap.size + 1) 23 #[.slice a n c] ∧ Blk W (w.heap.size + 1 + 1) 3 #[.int .i64 (procT fs S.ts (pre.map (·.1))).2]
theorem onI_from {w : World} {p m : Nat} {ks vs : Value} {R : List RM} {S : St} {F : Nat → Prop} {a : Option Addr} {n c : Nat} {fs : List Int} (hF : ∀ k, F k → k < w.heap.size) : OwnFrom (w.heap.size + 4) (OnI w p m ks vs R S F a n c fs) := by
  rintro pre W W' row ⟨⟨R', h1, h2, h3⟩, h4, h5, h6, h7, h8⟩ hg hr
  have O : Only (fun k => row = some k) W W' := ⟨hg.os, hg.tape, hg.output, hg.size, fun k hk hn => hg.block k hk (fun e => hn e.symm)⟩
  have hB : ∀ k, row = some k → w.heap.size + 4 ≤ k := fun k hk => (hr k hk).1
  refine ⟨⟨R', h1.only O (fun k hk e => by have := hF k (h3 k hk); have := hB k e; omega), h2, h3⟩, h4.trans O (fun i e => .inr (by have := hB i e; omega)), by have := hg.size; omega,
    h6.only O (fun e => by have := hB _ e; omega), h7.only O (fun e => by have := hB _ e; omega), h8.only O (fun e => by have := hB _ e; omega)⟩
theorem keepsFrom_only {F : Nat → Prop} {B : Nat} {A C : World} (h : Only F A C) (hF : ∀ k, F k → k < B) : KeepsFrom B A C :=
  ⟨h.size, fun k o hk e _ => (h.block k (Array.getElem?_eq_some_iff.1 e).1 (fun hf => by have := hF k hf; omega)).trans e⟩

set_option maxRecDepth 100000 in
set_option maxHeartbeats 8000000 in
theorem on_any (p : Nat) (F : Nat → Prop) (S : St) (a : Option Addr) (n c : Nat) (fs : List Int) (w : World) (h : DiskAt w p F S) (hI : IntsAt w a n fs) (hFa : n ≠ 0 → ∀ b off, a = some ⟨b, off, none⟩ → ¬ F b) :
    Calls Try.prog 14 #[.pointer (some ⟨p, 0, none⟩), .slice a n c] w fun e w' => e = .returned (.tuple #[]) ∧ DiskAt w' p (grow F w w') (onS S fs) ∧ Only F w w' := by
  obtain ⟨hF, hok, m, ks, vs, R, h, hDF⟩ := h
  have hpl : p < w.heap.size := Blk.lt h.blk
  have hpn0 : p ≠ w.heap.size := by omega
  have hpn1 : p ≠ w.heap.size + 1 := by omega
  have hpn2 : p ≠ w.heap.size + 1 + 1 := by omega
  obtain ⟨c0, c1, c2, c3, c4, c5, c6⟩ := h.blk.cells
  have f3 := Blk.frozen h.blk 3
  cases hd : S.down
  · rw [hd] at c3
    have HF : Hid (DiskAt ((w.alloc (.cells #[.pointer (some ⟨p, 0, none⟩)] 25)).alloc (.cells #[.slice a n c] 23)) p (grow F w ((w.alloc (.cells #[.pointer (some ⟨p, 0, none⟩)] 25)).alloc (.cells #[.slice a n c] 23))) (onS S fs) ∧ Only F w ((w.alloc (.cells #[.pointer (some ⟨p, 0, none⟩)] 25)).alloc (.cells #[.slice a n c] 23))) := by
      have e : onS S fs = S := by unfold onS; rw [if_pos hd]
      rw [e]
      have O : Only NoF w ((w.alloc (.cells #[.pointer (some ⟨p, 0, none⟩)] 25)).alloc (.cells #[.slice a n c] 23)) := ((Only.refl NoF w).alloc _).alloc _
      exact ⟨DiskAt.mk' hF (O.mono (fun _ e => e.elim)) hok (h.only O (fun _ _ e => e)) (fun k hk => .inl (hDF k hk)), O.mono (fun _ e => e.elim)⟩
    clear h hd hok hDF hI hFa
    go_enter Try.func14, Try.ntmps14
    go_wp2
    exact bodyPost_ret (results_none rfl _ _ _) rfl ⟨rfl, HF.out⟩
  · rw [hd] at c3
    have W3e : ∃ W3, W3 = (((w.setCell ⟨p, 3, none⟩ (.bool false)).alloc (.cells #[.pointer (some ⟨p, 0, none⟩)] 25)).alloc (.cells #[.slice a n c] 23)).alloc (.cells #[.int .i64 0] 3) := ⟨_, rfl⟩
    obtain ⟨W3, hW3⟩ := W3e
    have hO3 : Only F w W3 := by rw [hW3]; exact ((((Only.refl F w).setCell (p := ⟨p, 3, none⟩) (.inl (hDF _ df_p)) _).alloc _).alloc _).alloc _
    have hm0 : DMem (w.setCell ⟨p, 3, none⟩ (.bool false)) p m ks vs R { S with down := false } := by
      have O : Only (· = p) w (w.setCell ⟨p, 3, none⟩ (.bool false)) := (Only.refl (· = p) w).setCell (p := ⟨p, 3, none⟩) (.inl rfl) _
      refine h.own O ?_ rfl rfl
      have := Blk.set h.blk 3 (.bool false)
      unfold DBlk
      simpa using this
    have hz0 : (w.setCell ⟨p, 3, none⟩ (.bool false)).heap.size = w.heap.size := by simp [World.setCell]
    have hm3 : DMem W3 p m ks vs R { S with down := false } := by
      rw [hW3]; exact hm0.only ((((Only.refl NoF _).alloc _).alloc _).alloc _) (fun _ _ e => e)
    have hz3 : W3.heap.size = w.heap.size + 3 := by rw [hW3]; simp [World.setCell]
    have bd : Blk W3 w.heap.size 25 #[.pointer (some ⟨p, 0, none⟩)] := by
      have := ((Blk.new (w.setCell ⟨p, 3, none⟩ (.bool false)) 25 #[.pointer (some ⟨p, 0, none⟩)]).alloc (.cells #[.slice a n c] 23)).alloc (.cells #[.int .i64 0] 3)
      rw [hz0] at this; rw [hW3]; exact this
    have bf : Blk W3 (w.heap.size + 1) 23 #[.slice a n c] := by
      have := (Blk.new ((w.setCell ⟨p, 3, none⟩ (.bool false)).alloc (.cells #[.pointer (some ⟨p, 0, none⟩)] 25)) 23 #[.slice a n c]).alloc (.cells #[.int .i64 0] 3)
      rw [World.size_alloc, hz0] at this; rw [hW3]; exact this
    have bi : Blk W3 (w.heap.size + 1 + 1) 3 #[.int .i64 0] := by
      have := Blk.new (((w.setCell ⟨p, 3, none⟩ (.bool false)).alloc (.cells #[.pointer (some ⟨p, 0, none⟩)] 25)).alloc (.cells #[.slice a n c] 23)) 3 #[.int .i64 0]
      rw [World.size_alloc, World.size_alloc, hz0] at this; rw [hW3]; exact this
    have q0 := hm3.blk.cells.1
    have q1 := bd.cell 0
    rw [hW3] at q0 q1
    simp only [List.getElem?_toArray, List.getElem?_cons_zero] at q1
    have CA := hid (allPtr_any (some ⟨m, 0, none⟩) W3)
    have HM := hid hm3; have HBD := hid bd; have HBF := hid bf; have HBI := hid bi; have HO := hid hO3; have HZ := hid hz3; have HWW := hid hW3
    have HH := hid h
    clear hm3 bd bf bi hO3 hz3 hm0 hz0 h
    refine (callsIn_wide (n := 5)).1 ?_
    refine callsIn_of_wp_marks Try.func14 rfl trivial ?_ rfl
    simp only [Try.ntmps14, List.size_toArray, List.length_cons, List.length_nil, Nat.reduceAdd, Nat.reduceSub, Array.replicate_succ, Array.replicate_zero, List.push_toArray, List.append_toArray, List.nil_append, List.cons_append]
    clear hW3
    gi_wp2_with fail
    rw [← HWW.out]
    refine ⟨trivial, (callsIn_wide.2 CA.out).mono ?_⟩; rintro e w' ⟨rfl, rfl⟩
    gi_wp2_with fail
    have hz4 : (W3.alloc (.cells #[.pointer (some ⟨m, 0, none⟩)] 53)).heap.size = w.heap.size + 4 := by rw [World.size_alloc, HZ.out]
    have hm4 : DMem (W3.alloc (.cells #[.pointer (some ⟨m, 0, none⟩)] 53)) p m ks vs R { S with down := false } := HM.out.only ((Only.refl NoF W3).alloc _) (fun _ _ e => e)
    have hI0 : OnI w p m ks vs R S F a n c fs [] (W3.alloc (.cells #[.pointer (some ⟨m, 0, none⟩)] 53)) :=
      ⟨⟨R, by rw [List.map_nil, midS_nil S fs hok]; exact hm4, rfl, hDF⟩, HO.out.alloc _, by omega, HBD.out.alloc _, HBF.out.alloc _, HBI.out.alloc _⟩
    refine wpIn_rangeFunc_ownG (n := 5) rfl (by omega) (gf := 64) (lb := #[.pointer (some ⟨W3.heap.size, 0, none⟩)]) rfl trivial (enters_of Try.func64 (by kernel_rfl) rfl)
      (allStopsPtr (5 - 1) W3.heap.size m (w.heap.size + 4) ks vs S.l (R.map tp) _ (by omega) ((Blk.new W3 _ _).cell 0) hm4.map (by omega)) keepC_t keepC_b (Below.refl _ _) (fun _ => rfl)
      (OnI w p m ks vs R S F a n c fs) (fun _ _ _ => False) (by rw [hz4]; exact onI_from hF) (fun _ _ _ _ _ hs _ _ => hs) hI0 ?a1 ?assign ?body ?done ?stop
    case assign =>
      intro l x W K hK
      simp only [encsPtr, encPtr]
      gi_wp2
      exact hK
    case stop =>
      rintro D c pre W _ _ h _
      exact h.elim
    case done =>
      rintro D xs W hD rfl hi hK
      have hi2 := (onI_from (m := m) (ks := ks) (vs := vs) (R := R) (a := a) (n := n) (c := c) (fs := fs) hF).putObj (.deferred none) hi (by omega) hK rfl
      have HFIN : Hid (DiskAt (W.putObj D (.deferred none)) p (grow F w (W.putObj D (.deferred none))) (onS S fs) ∧ Only F w (W.putObj D (.deferred none))) := by
        obtain ⟨⟨R', h1, h2, h3⟩, h4, -⟩ := hi2
        have e : midS S fs ((List.finRange S.l.length).map (·.1)) = onS S fs := by
          have e0 : (List.finRange S.l.length).map (fun x => x.1) = List.range S.l.length := List.ext_getElem (by simp) (by intro i h1 h2; simp)
          rw [e0, ← hok.len]; exact midS_all S fs hd
        rw [e] at h1
        exact ⟨DiskAt.mk' hF h4 (on_ok hok fs) h1 (fun k hk => .inl (h3 k hk)), h4⟩
      clear hi hi2
      gi_wp2
      refine ⟨by simp, .inl ⟨_, _, rfl, run_takeDeferred hK, ?_⟩⟩
      exact ⟨_, results_none rfl _ _ _, rfl, HFIN.out⟩
    case body =>
      rintro l pre ⟨j, hj⟩ W ⟨⟨R', hm, htp, hDF'⟩, hO, hsz, bD, bF, bI⟩ hlen
      obtain ⟨T, hT⟩ : ∃ T, procT fs S.ts (pre.map (·.1)) = T := ⟨_, rfl⟩
      have hcnt : T.2 ≤ pre.length := by have := procT_cnt fs S.ts (pre.map (·.1)); rw [hT] at this; simpa using this
      have hfew := hok.few
      have hSm : midS S fs (pre.map (·.1)) = { S with down := false, ts := T.1, used := size T.1 } := by unfold midS; rw [hT]
      have hSok := midS_ok hok fs (pre.map (·.1))
      rw [hSm] at hm hSok
      rw [hT] at bI
      have hRl : R'.length = S.l.length := hm.len
      have hjR : j < R'.length := by omega
      obtain ⟨r, hr⟩ : ∃ r, R'[j] = r := ⟨_, rfl⟩
      have hri : R'[j]? = some r := by rw [List.getElem?_eq_getElem hjR, hr]
      have hrm : r ∈ R' := List.mem_of_getElem? hri
      have hgt : (Option.map tp R[j]?).getD none = some ⟨r.b, 0, none⟩ := by
        have : Option.map tp R[j]? = Option.map tp R'[j]? := by rw [← List.getElem?_map, ← List.getElem?_map, htp]
        rw [this, hri]; rfl
      have hTj : T.1[j]? = some r.t := by
        have := hm.ts
        rw [show T.1 = R'.map (·.t) from this, List.getElem?_map, hri]; rfl
      have he := hSok.each r.t (by obtain ⟨_, e⟩ := List.getElem?_eq_some_iff.1 hTj; rw [← e]; exact List.getElem_mem _)
      have ht := hm.tapes.1 r hrm
      obtain ⟨ra, rc, hv, hrc⟩ := own_slice ht.2
      have d0 := ht.1.cell 0
      have d1 := ht.1.cell 1
      simp [hv] at d0 d1
      have e0 := bD.cell 0
      have e1 := bF.cell 0
      have e2 := bI.cell 0
      simp at e0 e1 e2
      -- what is to be shown of the world behind the round
      have HNEXT : Hid (∀ (W' : World) (R2 : List RM) (T2 : List Spool × Nat), T2 = oneT fs T j → DMem W' p m ks vs R2 { S with down := false, ts := T2.1, used := size T2.1 } → R2.map tp = R'.map tp → (∀ k, DF p m ks vs R2 k → DF p m ks vs R' k) → Only (fun k => F k ∨ k = w.heap.size + 1 + 1) W W' → Blk W' (w.heap.size + 1 + 1) 3 #[.int .i64 T2.2] →
          KeepsFrom (W3.alloc (.cells #[.pointer (some ⟨m, 0, none⟩)] 53)).heap.size W W' ∧ KeepC (w.heap.size + 4) W W' ∧ OnI w p m ks vs R S F a n c fs (pre ++ [⟨j, hj⟩]) W') := by
        rintro W' R2 T2 rfl hm2 htp2 hdf2 o2 bi2
        have hlow : ∀ k, (F k ∨ k = w.heap.size + 1 + 1) → k < w.heap.size + 4 := fun k hk => by
          rcases hk with hk | hk
          · have := hF k hk; omega
          · omega
        have hmap : (pre ++ [(⟨j, hj⟩ : Fin S.l.length)]).map (·.1) = pre.map (·.1) ++ [j] := by simp
        refine ⟨keepsFrom_only o2 (by rw [hz4]; exact hlow), keepC_only o2 hlow, ⟨R2, ?_, htp2.trans htp, fun k hk => hDF' k (hdf2 k hk)⟩, hO.trans o2 (fun i e => ?_), by have := o2.size; omega, bD.only o2 (fun e => ?_), bF.only o2 (fun e => ?_), ?_⟩
        · rw [hmap]; unfold midS; rw [procT_snoc, hT]; exact hm2
        · rcases e with e | e
          · exact .inl e
          · exact .inr (by omega)
        · rcases e with e | e
          · have := hF _ e; omega
          · omega
        · rcases e with e | e
          · have := hF _ e; omega
          · omega
        · rw [hmap, procT_snoc, hT]; exact bi2
      have HSZT : Hid (size T.1 ≤ 67108864) := hSok.most
      obtain ⟨L, hL⟩ : ∃ L, r.t.bytes.length = L := ⟨_, rfl⟩
      obtain ⟨Z, hZ⟩ : ∃ Z, r.t.safe = Z := ⟨_, rfl⟩
      rw [hL, hZ] at he
      rw [hL] at d0
      rw [hZ] at d1
      have HM := hid hm; have HRI := hid hri; have HTJ := hid hTj; have HBI := hid bI; have HL := hid hL; have HZZ := hid hZ
      have hLZ1 := he.1
      have hLZ2 := he.2
      have HT0 := hid ht
      rw [hgt]
      clear hm hri hTj hT hSm hSok hgt hr hRl hL hZ bI bD bF he ht hv
      by_cases htail : L = Z
      · have h1 : Hid (oneT fs T j = T) := by
          unfold Hid oneT; rw [HTJ.out]; simp only
          rw [if_pos (by rw [HL.out, HZZ.out]; exact htail)]
        have tb : ((L : Int) - Z == 0) = true := by rw [beq_iff_eq]; omega
        have tb2 : (L : Int) - Z = 0 := by omega
        clear htail
        gi_wp2
        refine regionIn_quiet (C := fun w' => ∃ q, w' = W.drewN q) (by rintro ⟨_, _, h⟩; exact h) (by kernel_rfl) (by kernel_rfl) (by kernel_rfl) ⟨1, rfl⟩ ?_
        repeat (go_big_quiet_step (fail))
        refine wpQuiet_nil ?_
        intro w' hw'
        obtain ⟨q, rfl⟩ := hw'
        gi_wp2
        exact HNEXT.out (W.drewN q) R' T h1.out.symm (HM.out.only ((Only.refl NoF W).drewN q) (fun _ _ e => e)) rfl (fun k hk => hk) ((Only.refl _ W).drewN q) HBI.out
      · have hK0 : 0 < L - Z := by omega
        have hKm : L - Z ≤ 4194304 := by omega
        have hKe : (L : Int) - Z = ((L - Z : Nat) : Int) := by omega
        have HKE := hid hKe
        have tb : ((L : Int) - Z == 0) = false := by rw [beq_eq_false_iff_ne]; omega
        have HONE : Hid (oneT fs T j = (T.1.set j (left r.t (fateOf fs T.2)), if fs = [] then T.2 else T.2 + 1)) := by
          unfold Hid oneT; rw [HTJ.out]; simp only
          rw [if_neg (by rw [HL.out, HZZ.out]; exact htail)]
        clear hKe htail
        obtain ⟨i1, i2, i3, i4⟩ := hI
        by_cases hn0 : n = 0
        · have hfs : fs = [] := List.length_eq_zero_iff.1 (by omega)
          have hT2 : (T.1.set j (left r.t (fateOf fs T.2)), if fs = [] then T.2 else T.2 + 1) = (T.1.set j (left r.t 0), T.2) := by unfold fateOf; rw [if_pos hfs, if_pos hfs]
          have HONE2 : Hid (oneT fs T j = (T.1.set j (left r.t 0), T.2)) := HONE.out.trans hT2
          clear hT2 hfs i1 i3 i4 HONE
          subst hn0
          gi_wp2
          refine regionIn_quiet (C := fun w' => ∃ q, w' = W.drewN q) (by rintro ⟨_, _, h⟩; exact h) (by kernel_rfl) (by kernel_rfl) (by kernel_rfl) ⟨1, rfl⟩ ?_
          repeat (go_big_quiet_step (fail))
          refine wpQuiet_nil ?_
          intro w' hw'
          obtain ⟨q, rfl⟩ := hw'
          gi_wp2_with fail
          have hf1 : (-9223372036854775808 : Int) ≤ 0 := by omega
          have hf2 : (0 : Int) ≤ 9223372036854775807 := by omega
          obtain ⟨Wk, hWk⟩ : ∃ Wk, Wk = W.drewN q := ⟨_, rfl⟩
          have HMK : Hid (DMem Wk p m ks vs R' { S with down := false, ts := T.1, used := size T.1 }) := by rw [hWk]; exact HM.out.only ((Only.refl NoF W).drewN q) (fun _ _ e => e)
          have HBK : Hid (Blk Wk (w.heap.size + 1 + 1) 3 #[.int .i64 T.2]) := by rw [hWk]; exact HBI.out
          have OWK : Hid (Only (fun k => F k ∨ k = w.heap.size + 1 + 1) W Wk) := by rw [hWk]; exact (Only.refl _ W).drewN q
          have w0 : Wk.cell? ⟨w.heap.size, 0, none⟩ = some (.pointer (some ⟨p, 0, none⟩)) := by rw [hWk]; exact e0
          have w1 : Wk.cell? ⟨r.b, 1, none⟩ = some (.int .i64 Z) := by rw [hWk]; exact d1
          rw [← hWk]
          clear hWk
          -- kept, and what is left: f the fate, Wk the world
          obtain ⟨n0, hn0'⟩ : ∃ n0, (kept 0 (L - Z)).1 = n0 := ⟨_, rfl⟩
          obtain ⟨tr, htr⟩ : ∃ tr, (kept 0 (L - Z)).2 = tr := ⟨_, rfl⟩
          have hn0le : n0 ≤ L - Z := by rw [← hn0']; exact kept_le _ _
          have CK := kept_int 0 ((L : Int) - Z) (L - Z) Wk HKE.out hf1 hf2 hKm hK0
          rw [hn0', htr] at CK
          have HLEFT : Hid (left r.t 0 = ⟨if tr = true ∧ 0 < n0 then tear (r.t.bytes.take (Z + n0)) else r.t.bytes.take (Z + n0), (if tr = true ∧ 0 < n0 then tear (r.t.bytes.take (Z + n0)) else r.t.bytes.take (Z + n0)).length⟩) := by
            unfold Hid left
            rw [HL.out, HZZ.out, hn0', htr]
          have hBl : (r.t.bytes.take (Z + n0)).length = Z + n0 := by rw [List.length_take, HL.out]; omega
          have hsz1 : L ≤ size T.1 := by rw [← HL.out]; exact Reel.size_mem (List.mem_of_getElem? HTJ.out)
          have hsz2 := HSZT.out
          have HUSED : Hid (size T.1 - (L - (Z + n0)) = size (T.1.set j (left r.t 0))) := by
            obtain ⟨hjl, hje⟩ := List.getElem?_eq_some_iff.1 HTJ.out
            have := size_set T.1 j hjl (left r.t 0)
            rw [hje, HL.out] at this
            have h5 : (left r.t 0).bytes.length = Z + n0 := by
              rw [HLEFT.out]; show (if _ then tear _ else _ : List UInt8).length = _
              split
              · rw [tear_len, hBl]
              · exact hBl
            rw [h5] at this
            unfold Hid; omega
          -- all that lies behind cut
          have HREST : Hid (∀ w2, (∃ v', v'.ownBlock = r.v.ownBlock ∧ DMem w2 p m ks vs (R'.set j ⟨r.b, v', cutT r.t (Z + n0)⟩) { S with down := false, ts := T.1.set j (cutT r.t (Z + n0)), used := size T.1 - (L - (Z + n0)) }) → Only (fun k => k = p ∨ k = r.b) Wk.drew w2 →
              ∃ R2, DMem w2 p m ks vs R2 { S with down := false, ts := T.1.set j (cutT r.t (Z + n0)), used := size T.1 - (L - (Z + n0)) } ∧ (∃ v', R2[j]? = some ⟨r.b, v', cutT r.t (Z + n0)⟩) ∧
                (∀ W5 R5 t5, DMem W5 p m ks vs R5 { S with down := false, ts := T.1.set j t5, used := size T.1 - (L - (Z + n0)) } → R5.map tp = R2.map tp → (∀ k, DF p m ks vs R5 k → DF p m ks vs R2 k) → (∀ r5, R2[j]? = some r5 → Only (TF r5) w2 W5) → t5 = left r.t 0 →
                  KeepsFrom (W3.alloc (.cells #[.pointer (some ⟨m, 0, none⟩)] 53)).heap.size W W5 ∧ KeepC (w.heap.size + 4) W W5 ∧ OnI w p m ks vs R S F a 0 c fs (pre ++ [⟨j, hj⟩]) W5)) := by
            rintro w2 ⟨v', hv', hm2⟩ o2
            have hlt := (List.getElem?_eq_some_iff.1 HRI.out).1
            have hget : (R'.set j ⟨r.b, v', cutT r.t (Z + n0)⟩)[j]? = some ⟨r.b, v', cutT r.t (Z + n0)⟩ := by rw [List.getElem?_set_self hlt]
            refine ⟨_, hm2, ⟨v', hget⟩, ?_⟩
            rintro W5 R5 t5 hm5 htp5 hdf5 o5 rfl
            have htp2 : (R'.set j ⟨r.b, v', cutT r.t (Z + n0)⟩).map tp = R'.map tp := set_tp HRI.out rfl
            have o5' := o5 _ hget
            have hF1 : ∀ k, (k = p ∨ TF r k) → F k := fun k hk => by
              rcases hk with rfl | hk
              · exact hDF' _ df_p
              · exact hDF' _ (df_r (List.mem_of_getElem? HRI.out) hk)
            have O : Only (fun k => F k ∨ k = w.heap.size + 1 + 1) W W5 := by
              refine (OWK.out.drew.trans o2 (fun i e => .inl (.inl ?_))).trans o5' (fun i e => .inl (.inl ?_))
              · rcases e with rfl | rfl
                · exact hF1 _ (.inl rfl)
                · exact hF1 _ (.inr (.inl rfl))
              · rcases e with rfl | e
                · exact hF1 _ (.inr (.inl rfl))
                · rw [hv'] at e; exact hF1 _ (.inr (.inr e))
            refine HNEXT.out W5 R5 (T.1.set j (left r.t 0), T.2) HONE2.out.symm ?_ (htp5.trans htp2) (fun k hk => df_set0 (r' := ⟨r.b, v', cutT r.t (Z + n0)⟩) HRI.out rfl hv' (hdf5 k hk)) O ?_
            · rw [← HUSED.out]; exact hm5
            · refine ((HBK.out.drew).only o2 (fun e => ?_)).only o5' (fun e => ?_)
              · rcases e with e | e
                · have := hF _ (hF1 _ (.inl rfl)); omega
                · have := hF _ (hF1 r.b (.inr (.inl rfl))); omega
              · have : F (w.heap.size + 1 + 1) := by
                  rcases e with e | e
                  · exact hF1 _ (.inr (.inl e))
                  · rw [hv'] at e; exact hF1 _ (.inr (.inr e))
                have := hF _ this; omega
          have HCUT : Hid (Calls Try.prog 45 #[.pointer (some ⟨p, 0, none⟩), .pointer (some ⟨r.b, 0, none⟩), .int .i64 ((Z : Int) + n0)] Wk.drew fun e w2 => e = .returned (.tuple #[]) ∧ (∃ v', v'.ownBlock = r.v.ownBlock ∧ DMem w2 p m ks vs (R'.set j ⟨r.b, v', cutT r.t (Z + n0)⟩) { S with down := false, ts := T.1.set j (cutT r.t (Z + n0)), used := size T.1 - (L - (Z + n0)) }) ∧ Only (fun k => k = p ∨ k = r.b) Wk.drew w2) := by
            have := cut_mem p m ks vs R' _ j r (Z + n0) Wk.drew HMK.out.drew HRI.out (by rw [HL.out]; omega) (by rw [HL.out]; exact hsz1) hsz2 (by rw [HZZ.out]; omega)
            rw [HL.out] at this
            unfold Hid
            rw [show (Z : Int) + n0 = ((Z + n0 : Nat) : Int) by omega]
            exact this
          have HBL := hid hBl
          have hM0 : Z + n0 ≤ 4194304 := by omega
          clear hn0' htr hBl hsz2
          refine ⟨trivial, (callsIn_inR CK).mono ?_⟩; rintro e w' ⟨rfl, rfl⟩
          clear CK
          gi_wp2_with fail
          refine regionIn_tail (by rintro ⟨_, _, h⟩; exact h) 8 (by kernel_rfl) (by kernel_rfl) (by kernel_rfl) ?_
          simp only [List.take_succ_cons, List.take_zero, List.drop_succ_cons, List.drop_zero]
          repeat still_step
          refine wpStill_nil ?_
          change wpList _ _ _ _ _ Wk.drew
          go_wp2_with fail
          refine HCUT.out.mono ?_; rintro e w2 ⟨rfl, hm2, o2⟩
          obtain ⟨R2, hm2, ⟨v', hg2⟩, hrest⟩ := HREST.out w2 hm2 o2
          have HRST := hid hrest; have HM2 := hid hm2; have HG2 := hid hg2
          clear hrest hm2 hg2 o2
          go_wp2_with fail
          by_cases htorn : tr = true ∧ 0 < n0
          · obtain ⟨rfl, hn0p⟩ := htorn
            have hex : ∃ A cb, r.t.bytes.take (Z + n0) = A ++ [cb] := by
              have hne : r.t.bytes.take (Z + n0) ≠ [] := fun e => by have := HBL.out; rw [e] at this; simp at this; omega
              exact ⟨_, _, (List.dropLast_concat_getLast hne).symm⟩
            obtain ⟨A, cb, hA⟩ := hex
            have hAl : A.length + 1 = Z + n0 := by have := HBL.out; rw [hA] at this; simpa using this
            obtain ⟨g, cap, hv2, k1, k2, hm3, o3⟩ := tear_step (HM2.out.drew) HG2.out A cb hA
            have hlt2 := (List.getElem?_eq_some_iff.1 HG2.out).1
            have hg3 : (R2.set j ⟨r.b, v', { cutT r.t (Z + n0) with bytes := A ++ [cb ^^^ 0x55] }⟩)[j]? = some ⟨r.b, v', { cutT r.t (Z + n0) with bytes := A ++ [cb ^^^ 0x55] }⟩ := by rw [List.getElem?_set_self hlt2]
            have HG3 := hid hg3
            obtain rfl : v' = .slice (some ⟨g, 0, none⟩) (A.length + 1) cap := hv2
            have ht2 := (HM2.out.drew).tapes.1 _ (List.mem_of_getElem? HG2.out)
            have z0 : w2.cell? ⟨r.b, 0, none⟩ = some (.slice (some ⟨g, 0, none⟩) (A.length + 1) cap) := (ht2.1.cell 0).trans rfl
            have hx : bits .xor .u8 (cb.toNat : Int) 85 = ((cb ^^^ 0x55).toNat : Int) := by
              rw [u8_xor _ _ (by omega) (by have := cb.toNat_lt; omega) (by omega) (by omega)]
              rfl
            have hw1 : IntKind.i64.wrap (A.length : Int) = A.length := by rw [IntKind.wrap_i64]; omega
            have hcb := cb.toNat_lt
            have hlt1 : (A.length : Int) < A.length + 1 := by omega
            have gn0 : (0 : Int) < n0 := by omega
            have HO3 := hid o3; have HA := hid hA; have HH3 := hid hm3; have HAL := hid hAl
            clear hm3 hg3 o3 ht2 hA hAl
            gi_wp2_with fail
            refine regionIn_tail (by rintro ⟨_, _, h⟩; exact h) 14 (by kernel_rfl) (by kernel_rfl) (by kernel_rfl) ?_
            simp only [List.take_succ_cons, List.take_zero, List.drop_succ_cons, List.drop_zero]
            repeat still_step
            refine wpStill_nil ?_
            change wpList _ _ _ _ _ w2.drew
            go_wp2_with fail
            generalize hW4 : (w2.setCell ⟨g, A.length, none⟩ (.int .u8 ((cb.toNat ^^^ 85 : Nat) : Int))).drew = W4
            have EW : w2.drew.setCell ⟨g, A.length, none⟩ (.int .u8 ((cb ^^^ 0x55).toNat : Int)) = W4 := by rw [← hW4]; go_simp
            have hm3 := HH3.out
            have o3 := HO3.out
            rw [EW] at hm3 o3
            clear hW4 EW
            obtain ⟨s1, s2, ⟨sa, sc, s3⟩, hm4, o4⟩ := safe_step hm3 HG3.out ((A.length : Int) + 1) (by simp)
            have s4 : W4.cell? ⟨r.b, 0, none⟩ = some (.slice sa (A.length + 1) sc) := by rw [s3]; simp
            have HM4 := hid hm4; have HO3 := hid o3; have HO4 := hid o4
            clear hm3 hm4 o3 o4 s3 k1 k2 z0
            gi_wp2_with fail
            have hm4 := HM4.out
            simp only [List.set_set] at hm4
            have o5 : ∀ r5, R2[j]? = some r5 → Only (TF r5) w2 (W4.setCell ⟨r.b, 1, none⟩ (.int .i64 ((A.length : Int) + 1))) := fun r5 h5 => by
              rw [HG2.out] at h5
              obtain rfl := Option.some.inj h5
              exact ((Only.refl (TF ⟨r.b, .slice (some ⟨g, 0, none⟩) (A.length + 1) cap, cutT r.t (Z + n0)⟩) w2).drew.trans HO3.out (fun i e => .inl e)).trans HO4.out (fun i e => .inl e)
            have hfin := HRST.out _ _ _ hm4 (set_tp HG2.out rfl) (fun k hk => by refine df_set0 HG2.out ?_ ?_ hk <;> rfl) o5 (by rw [HLEFT.out]; simp [hn0p, HA.out, tear_snoc])
            first | exact hfin | (rw [hz4] at hfin; exact hfin)
          · obtain ⟨s1, s2, ⟨sa, sc, s3⟩, hm4, o4⟩ := safe_step HM2.out HG2.out ((Z : Int) + n0) (by show _ = (((r.t.bytes.take (Z + n0)).length : Nat) : Int); rw [HBL.out]; omega)
            have s4 : w2.cell? ⟨r.b, 0, none⟩ = some (.slice sa (Z + n0 : Nat) sc) := by rw [s3]; show some (Value.slice sa (r.t.bytes.take (Z + n0)).length sc) = _; rw [HBL.out]
            have HM4 := hid hm4; have HO4 := hid o4
            clear hm4 o4 s3
            have hfin : KeepsFrom (W3.alloc (.cells #[.pointer (some ⟨m, 0, none⟩)] 53)).heap.size W (w2.setCell ⟨r.b, 1, none⟩ (.int .i64 ((Z : Int) + n0))) ∧ KeepC (w.heap.size + 4) W (w2.setCell ⟨r.b, 1, none⟩ (.int .i64 ((Z : Int) + n0))) ∧ OnI w p m ks vs R S F a 0 c fs (pre ++ [⟨j, hj⟩]) (w2.setCell ⟨r.b, 1, none⟩ (.int .i64 ((Z : Int) + n0))) := by
              have hm4 := HM4.out
              simp only [List.set_set] at hm4
              have o5 : ∀ r5, R2[j]? = some r5 → Only (TF r5) w2 (w2.setCell ⟨r.b, 1, none⟩ (.int .i64 ((Z : Int) + n0))) := fun r5 h5 => by
                rw [HG2.out] at h5
                obtain rfl := Option.some.inj h5
                exact HO4.out
              exact HRST.out _ _ _ hm4 (set_tp HG2.out rfl) (fun k hk => by refine df_set0 HG2.out ?_ ?_ hk <;> rfl) o5 (by rw [HLEFT.out, if_neg htorn]; rfl)
            have HFIN := hid hfin
            clear hfin
            by_cases htr : tr = true
            · subst htr
              have gn1 : ¬ 0 < n0 := fun h0 => htorn ⟨rfl, h0⟩
              have gn2 : ¬ (0 : Int) < n0 := by omega
              clear htorn
              gi_wp2_with fail
              have hfin := HFIN.out
              first | exact hfin | (rw [hz4] at hfin; exact hfin)
            · obtain rfl : tr = false := by simpa using htr
              clear htorn htr
              gi_wp2_with fail
              have hfin := HFIN.out
              first | exact hfin | (rw [hz4] at hfin; exact hfin)
        · have hnp : 0 < n := by omega
          have hne : fs ≠ [] := fun e => by rw [e] at i1; simp at i1; omega
          rcases i4 with h0 | ⟨fb, fo, ha, hfc⟩
          · exact absurd h0 hn0
          obtain ⟨K, hK⟩ : ∃ K, T.2 % n = K := ⟨_, rfl⟩
          have hKn : K < n := by rw [← hK]; exact Nat.mod_lt _ hnp
          obtain ⟨fv, hfv⟩ : ∃ fv, fs.getD K 0 = fv := ⟨_, rfl⟩
          have hfm : fv ∈ fs := by
            rw [← hfv, List.getD_eq_getElem?_getD, List.getElem?_eq_getElem (by omega)]
            exact List.getElem_mem _
          have hf1 : (-9223372036854775808 : Int) ≤ fv := (i3 fv hfm).1
          have hf2 : fv ≤ 9223372036854775807 := (i3 fv hfm).2
          have hT2 : (T.1.set j (left r.t (fateOf fs T.2)), if fs = [] then T.2 else T.2 + 1) = (T.1.set j (left r.t fv), T.2 + 1) := by unfold fateOf; rw [if_neg hne, if_neg hne, i1, hK, hfv]
          have HONE2 : Hid (oneT fs T j = (T.1.set j (left r.t fv), T.2 + 1)) := HONE.out.trans hT2
          have cF : W.cell? ⟨fb, fo + K, none⟩ = some (.int .i64 fv) := by rw [← hfv]; exact hO.cell (hfc K hKn) (hFa hn0 _ _ ha)
          have f2 : W.frozen? ⟨w.heap.size + 1 + 1, 0, none⟩ = false := HBI.out.frozen 0
          have tm : (T.2 : Int).tmod (n : Int) = (K : Int) := by rw [← hK]; exact (Int.ofNat_tmod _ _).symm
          have nz : ¬ (n : Int) = 0 := by omega
          have nz2 : ((n : Int) == 0) = false := by rw [beq_eq_false_iff_ne]; exact nz
          have nz3 : ¬ n = 0 := hn0
          have kn : (K : Int) < n := by omega
          have kw : IntKind.i64.wrap (K : Int) = K := by rw [IntKind.wrap_i64]; omega
          have tw : IntKind.i64.wrap ((T.2 : Int) + 1) = T.2 + 1 := by rw [IntKind.wrap_i64]; omega
          have HFM := hid hfm; have HFC := hid hfc; have HFAA := hid hFa
          subst ha
          have HNE := hid hne; have HI1 := hid i1; have HI3 := hid i3; have HKK := hid hK; have HFV := hid hfv
          clear hT2 HONE hfm hfc hFa hne i1 i3 hK hfv
          gi_wp2
          refine regionIn_quiet (C := fun w' => ∃ q, w' = W.drewN q) (by rintro ⟨_, _, h⟩; exact h) (by kernel_rfl) (by kernel_rfl) (by kernel_rfl) ⟨1, rfl⟩ ?_
          repeat (go_big_quiet_step (fail))
          refine wpQuiet_nil ?_
          intro w' hw'
          obtain ⟨q, rfl⟩ := hw'
          gi_wp2_with fail
          refine regionIn_quiet (C := fun w' => ∃ q, w' = W.drewN q) (by rintro ⟨_, _, h⟩; exact h) (by kernel_rfl) (by kernel_rfl) (by kernel_rfl) ⟨q + 1, rfl⟩ ?_
          repeat (go_big_quiet_step (fail))
          refine wpQuiet_nil ?_
          intro w' hw'
          obtain ⟨q, rfl⟩ := hw'
          gi_wp2_with fail
          obtain ⟨Wk, hWk⟩ : ∃ Wk, Wk = (W.drewN q).setCell ⟨w.heap.size + 1 + 1, 0, none⟩ (.int .i64 ((T.2 : Int) + 1)) := ⟨_, rfl⟩
          have O : Only (· = w.heap.size + 1 + 1) W Wk := by rw [hWk]; exact ((Only.refl (· = w.heap.size + 1 + 1) W).drewN q).setCell (p := ⟨w.heap.size + 1 + 1, 0, none⟩) (.inl rfl) _
          have HMK : Hid (DMem Wk p m ks vs R' { S with down := false, ts := T.1, used := size T.1 }) := HM.out.only O (fun k hk e => by have := hF k (hDF' k hk); omega)
          have HBK : Hid (Blk Wk (w.heap.size + 1 + 1) 3 #[.int .i64 ((T.2 + 1 : Nat) : Int)]) := by
            have h0 : Blk (W.drewN q) (w.heap.size + 1 + 1) 3 #[.int .i64 T.2] := HBI.out
            have h1 := h0.set 0 (.int .i64 ((T.2 : Int) + 1))
            rw [hWk]
            unfold Hid
            simpa using h1
          have OWK : Hid (Only (fun k => F k ∨ k = w.heap.size + 1 + 1) W Wk) := O.mono (fun k e => .inr e)
          have w0 : Wk.cell? ⟨w.heap.size, 0, none⟩ = some (.pointer (some ⟨p, 0, none⟩)) := O.cell e0 (fun (e : w.heap.size = w.heap.size + 1 + 1) => by omega)
          have w1 : Wk.cell? ⟨r.b, 1, none⟩ = some (.int .i64 Z) := O.cell d1 (fun (e : r.b = w.heap.size + 1 + 1) => by have := hF _ (hDF' _ (df_r hrm (.inl rfl))); omega)
          rw [← hWk]
          clear hWk O tm kn kw tw cF
          -- kept, and what is left: f the fate, Wk the world
          obtain ⟨n0, hn0'⟩ : ∃ n0, (kept fv (L - Z)).1 = n0 := ⟨_, rfl⟩
          obtain ⟨tr, htr⟩ : ∃ tr, (kept fv (L - Z)).2 = tr := ⟨_, rfl⟩
          have hn0le : n0 ≤ L - Z := by rw [← hn0']; exact kept_le _ _
          have CK := kept_int fv ((L : Int) - Z) (L - Z) Wk HKE.out hf1 hf2 hKm hK0
          rw [hn0', htr] at CK
          have HLEFT : Hid (left r.t fv = ⟨if tr = true ∧ 0 < n0 then tear (r.t.bytes.take (Z + n0)) else r.t.bytes.take (Z + n0), (if tr = true ∧ 0 < n0 then tear (r.t.bytes.take (Z + n0)) else r.t.bytes.take (Z + n0)).length⟩) := by
            unfold Hid left
            rw [HL.out, HZZ.out, hn0', htr]
          have hBl : (r.t.bytes.take (Z + n0)).length = Z + n0 := by rw [List.length_take, HL.out]; omega
          have hsz1 : L ≤ size T.1 := by rw [← HL.out]; exact Reel.size_mem (List.mem_of_getElem? HTJ.out)
          have hsz2 := HSZT.out
          have HUSED : Hid (size T.1 - (L - (Z + n0)) = size (T.1.set j (left r.t fv))) := by
            obtain ⟨hjl, hje⟩ := List.getElem?_eq_some_iff.1 HTJ.out
            have := size_set T.1 j hjl (left r.t fv)
            rw [hje, HL.out] at this
            have h5 : (left r.t fv).bytes.length = Z + n0 := by
              rw [HLEFT.out]; show (if _ then tear _ else _ : List UInt8).length = _
              split
              · rw [tear_len, hBl]
              · exact hBl
            rw [h5] at this
            unfold Hid; omega
          -- all that lies behind cut
          have HREST : Hid (∀ w2, (∃ v', v'.ownBlock = r.v.ownBlock ∧ DMem w2 p m ks vs (R'.set j ⟨r.b, v', cutT r.t (Z + n0)⟩) { S with down := false, ts := T.1.set j (cutT r.t (Z + n0)), used := size T.1 - (L - (Z + n0)) }) → Only (fun k => k = p ∨ k = r.b) Wk.drew w2 →
              ∃ R2, DMem w2 p m ks vs R2 { S with down := false, ts := T.1.set j (cutT r.t (Z + n0)), used := size T.1 - (L - (Z + n0)) } ∧ (∃ v', R2[j]? = some ⟨r.b, v', cutT r.t (Z + n0)⟩) ∧
                (∀ W5 R5 t5, DMem W5 p m ks vs R5 { S with down := false, ts := T.1.set j t5, used := size T.1 - (L - (Z + n0)) } → R5.map tp = R2.map tp → (∀ k, DF p m ks vs R5 k → DF p m ks vs R2 k) → (∀ r5, R2[j]? = some r5 → Only (TF r5) w2 W5) → t5 = left r.t fv →
                  KeepsFrom (W3.alloc (.cells #[.pointer (some ⟨m, 0, none⟩)] 53)).heap.size W W5 ∧ KeepC (w.heap.size + 4) W W5 ∧ OnI w p m ks vs R S F (some ⟨fb, fo, none⟩) n c fs (pre ++ [⟨j, hj⟩]) W5)) := by
            rintro w2 ⟨v', hv', hm2⟩ o2
            have hlt := (List.getElem?_eq_some_iff.1 HRI.out).1
            have hget : (R'.set j ⟨r.b, v', cutT r.t (Z + n0)⟩)[j]? = some ⟨r.b, v', cutT r.t (Z + n0)⟩ := by rw [List.getElem?_set_self hlt]
            refine ⟨_, hm2, ⟨v', hget⟩, ?_⟩
            rintro W5 R5 t5 hm5 htp5 hdf5 o5 rfl
            have htp2 : (R'.set j ⟨r.b, v', cutT r.t (Z + n0)⟩).map tp = R'.map tp := set_tp HRI.out rfl
            have o5' := o5 _ hget
            have hF1 : ∀ k, (k = p ∨ TF r k) → F k := fun k hk => by
              rcases hk with rfl | hk
              · exact hDF' _ df_p
              · exact hDF' _ (df_r (List.mem_of_getElem? HRI.out) hk)
            have O : Only (fun k => F k ∨ k = w.heap.size + 1 + 1) W W5 := by
              refine (OWK.out.drew.trans o2 (fun i e => .inl (.inl ?_))).trans o5' (fun i e => .inl (.inl ?_))
              · rcases e with rfl | rfl
                · exact hF1 _ (.inl rfl)
                · exact hF1 _ (.inr (.inl rfl))
              · rcases e with rfl | e
                · exact hF1 _ (.inr (.inl rfl))
                · rw [hv'] at e; exact hF1 _ (.inr (.inr e))
            refine HNEXT.out W5 R5 (T.1.set j (left r.t fv), T.2 + 1) HONE2.out.symm ?_ (htp5.trans htp2) (fun k hk => df_set0 (r' := ⟨r.b, v', cutT r.t (Z + n0)⟩) HRI.out rfl hv' (hdf5 k hk)) O ?_
            · rw [← HUSED.out]; exact hm5
            · refine ((HBK.out.drew).only o2 (fun e => ?_)).only o5' (fun e => ?_)
              · rcases e with e | e
                · have := hF _ (hF1 _ (.inl rfl)); omega
                · have := hF _ (hF1 r.b (.inr (.inl rfl))); omega
              · have : F (w.heap.size + 1 + 1) := by
                  rcases e with e | e
                  · exact hF1 _ (.inr (.inl e))
                  · rw [hv'] at e; exact hF1 _ (.inr (.inr e))
                have := hF _ this; omega
          have HCUT : Hid (Calls Try.prog 45 #[.pointer (some ⟨p, 0, none⟩), .pointer (some ⟨r.b, 0, none⟩), .int .i64 ((Z : Int) + n0)] Wk.drew fun e w2 => e = .returned (.tuple #[]) ∧ (∃ v', v'.ownBlock = r.v.ownBlock ∧ DMem w2 p m ks vs (R'.set j ⟨r.b, v', cutT r.t (Z + n0)⟩) { S with down := false, ts := T.1.set j (cutT r.t (Z + n0)), used := size T.1 - (L - (Z + n0)) }) ∧ Only (fun k => k = p ∨ k = r.b) Wk.drew w2) := by
            have := cut_mem p m ks vs R' _ j r (Z + n0) Wk.drew HMK.out.drew HRI.out (by rw [HL.out]; omega) (by rw [HL.out]; exact hsz1) hsz2 (by rw [HZZ.out]; omega)
            rw [HL.out] at this
            unfold Hid
            rw [show (Z : Int) + n0 = ((Z + n0 : Nat) : Int) by omega]
            exact this
          have HBL := hid hBl
          have hM0 : Z + n0 ≤ 4194304 := by omega
          clear hn0' htr hBl hsz2
          refine ⟨trivial, (callsIn_inR CK).mono ?_⟩; rintro e w' ⟨rfl, rfl⟩
          clear CK
          gi_wp2_with fail
          refine regionIn_tail (by rintro ⟨_, _, h⟩; exact h) 8 (by kernel_rfl) (by kernel_rfl) (by kernel_rfl) ?_
          simp only [List.take_succ_cons, List.take_zero, List.drop_succ_cons, List.drop_zero]
          repeat still_step
          refine wpStill_nil ?_
          change wpList _ _ _ _ _ Wk.drew
          go_wp2_with fail
          refine HCUT.out.mono ?_; rintro e w2 ⟨rfl, hm2, o2⟩
          obtain ⟨R2, hm2, ⟨v', hg2⟩, hrest⟩ := HREST.out w2 hm2 o2
          have HRST := hid hrest; have HM2 := hid hm2; have HG2 := hid hg2
          clear hrest hm2 hg2 o2
          go_wp2_with fail
          by_cases htorn : tr = true ∧ 0 < n0
          · obtain ⟨rfl, hn0p⟩ := htorn
            have hex : ∃ A cb, r.t.bytes.take (Z + n0) = A ++ [cb] := by
              have hne : r.t.bytes.take (Z + n0) ≠ [] := fun e => by have := HBL.out; rw [e] at this; simp at this; omega
              exact ⟨_, _, (List.dropLast_concat_getLast hne).symm⟩
            obtain ⟨A, cb, hA⟩ := hex
            have hAl : A.length + 1 = Z + n0 := by have := HBL.out; rw [hA] at this; simpa using this
            obtain ⟨g, cap, hv2, k1, k2, hm3, o3⟩ := tear_step (HM2.out.drew) HG2.out A cb hA
            have hlt2 := (List.getElem?_eq_some_iff.1 HG2.out).1
            have hg3 : (R2.set j ⟨r.b, v', { cutT r.t (Z + n0) with bytes := A ++ [cb ^^^ 0x55] }⟩)[j]? = some ⟨r.b, v', { cutT r.t (Z + n0) with bytes := A ++ [cb ^^^ 0x55] }⟩ := by rw [List.getElem?_set_self hlt2]
            have HG3 := hid hg3
            obtain rfl : v' = .slice (some ⟨g, 0, none⟩) (A.length + 1) cap := hv2
            have ht2 := (HM2.out.drew).tapes.1 _ (List.mem_of_getElem? HG2.out)
            have z0 : w2.cell? ⟨r.b, 0, none⟩ = some (.slice (some ⟨g, 0, none⟩) (A.length + 1) cap) := (ht2.1.cell 0).trans rfl
            have hx : bits .xor .u8 (cb.toNat : Int) 85 = ((cb ^^^ 0x55).toNat : Int) := by
              rw [u8_xor _ _ (by omega) (by have := cb.toNat_lt; omega) (by omega) (by omega)]
              rfl
            have hw1 : IntKind.i64.wrap (A.length : Int) = A.length := by rw [IntKind.wrap_i64]; omega
            have hcb := cb.toNat_lt
            have hlt1 : (A.length : Int) < A.length + 1 := by omega
            have gn0 : (0 : Int) < n0 := by omega
            have HO3 := hid o3; have HA := hid hA; have HH3 := hid hm3; have HAL := hid hAl
            clear hm3 hg3 o3 ht2 hA hAl
            gi_wp2_with fail
            refine regionIn_tail (by rintro ⟨_, _, h⟩; exact h) 14 (by kernel_rfl) (by kernel_rfl) (by kernel_rfl) ?_
            simp only [List.take_succ_cons, List.take_zero, List.drop_succ_cons, List.drop_zero]
            repeat still_step
            refine wpStill_nil ?_
            change wpList _ _ _ _ _ w2.drew
            go_wp2_with fail
            generalize hW4 : (w2.setCell ⟨g, A.length, none⟩ (.int .u8 ((cb.toNat ^^^ 85 : Nat) : Int))).drew = W4
            have EW : w2.drew.setCell ⟨g, A.length, none⟩ (.int .u8 ((cb ^^^ 0x55).toNat : Int)) = W4 := by rw [← hW4]; go_simp
            have hm3 := HH3.out
            have o3 := HO3.out
            rw [EW] at hm3 o3
            clear hW4 EW
            obtain ⟨s1, s2, ⟨sa, sc, s3⟩, hm4, o4⟩ := safe_step hm3 HG3.out ((A.length : Int) + 1) (by simp)
            have s4 : W4.cell? ⟨r.b, 0, none⟩ = some (.slice sa (A.length + 1) sc) := by rw [s3]; simp
            have HM4 := hid hm4; have HO3 := hid o3; have HO4 := hid o4
            clear hm3 hm4 o3 o4 s3 k1 k2 z0
            gi_wp2_with fail
            have hm4 := HM4.out
            simp only [List.set_set] at hm4
            have o5 : ∀ r5, R2[j]? = some r5 → Only (TF r5) w2 (W4.setCell ⟨r.b, 1, none⟩ (.int .i64 ((A.length : Int) + 1))) := fun r5 h5 => by
              rw [HG2.out] at h5
              obtain rfl := Option.some.inj h5
              exact ((Only.refl (TF ⟨r.b, .slice (some ⟨g, 0, none⟩) (A.length + 1) cap, cutT r.t (Z + n0)⟩) w2).drew.trans HO3.out (fun i e => .inl e)).trans HO4.out (fun i e => .inl e)
            have hfin := HRST.out _ _ _ hm4 (set_tp HG2.out rfl) (fun k hk => by refine df_set0 HG2.out ?_ ?_ hk <;> rfl) o5 (by rw [HLEFT.out]; simp [hn0p, HA.out, tear_snoc])
            first | exact hfin | (rw [hz4] at hfin; exact hfin)
          · obtain ⟨s1, s2, ⟨sa, sc, s3⟩, hm4, o4⟩ := safe_step HM2.out HG2.out ((Z : Int) + n0) (by show _ = (((r.t.bytes.take (Z + n0)).length : Nat) : Int); rw [HBL.out]; omega)
            have s4 : w2.cell? ⟨r.b, 0, none⟩ = some (.slice sa (Z + n0 : Nat) sc) := by rw [s3]; show some (Value.slice sa (r.t.bytes.take (Z + n0)).length sc) = _; rw [HBL.out]
            have HM4 := hid hm4; have HO4 := hid o4
            clear hm4 o4 s3
            have hfin : KeepsFrom (W3.alloc (.cells #[.pointer (some ⟨m, 0, none⟩)] 53)).heap.size W (w2.setCell ⟨r.b, 1, none⟩ (.int .i64 ((Z : Int) + n0))) ∧ KeepC (w.heap.size + 4) W (w2.setCell ⟨r.b, 1, none⟩ (.int .i64 ((Z : Int) + n0))) ∧ OnI w p m ks vs R S F (some ⟨fb, fo, none⟩) n c fs (pre ++ [⟨j, hj⟩]) (w2.setCell ⟨r.b, 1, none⟩ (.int .i64 ((Z : Int) + n0))) := by
              have hm4 := HM4.out
              simp only [List.set_set] at hm4
              have o5 : ∀ r5, R2[j]? = some r5 → Only (TF r5) w2 (w2.setCell ⟨r.b, 1, none⟩ (.int .i64 ((Z : Int) + n0))) := fun r5 h5 => by
                rw [HG2.out] at h5
                obtain rfl := Option.some.inj h5
                exact HO4.out
              exact HRST.out _ _ _ hm4 (set_tp HG2.out rfl) (fun k hk => by refine df_set0 HG2.out ?_ ?_ hk <;> rfl) o5 (by rw [HLEFT.out, if_neg htorn]; rfl)
            have HFIN := hid hfin
            clear hfin
            by_cases htr : tr = true
            · subst htr
              have gn1 : ¬ 0 < n0 := fun h0 => htorn ⟨rfl, h0⟩
              have gn2 : ¬ (0 : Int) < n0 := by omega
              clear htorn
              gi_wp2_with fail
              have hfin := HFIN.out
              first | exact hfin | (rw [hz4] at hfin; exact hfin)
            · obtain rfl : tr = false := by simpa using htr
              clear htorn htr
              gi_wp2_with fail
              have hfin := HFIN.out
              first | exact hfin | (rw [hz4] at hfin; exact hfin)
end Go.Proofs.Ythjomknhbfplnaa
