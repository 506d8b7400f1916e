/- The reference's rows of reels: set; what insertion and removal come to. -/
import Derived.Test.YthjomknhbfplnaaRefD
namespace Go.Proofs.Ythjomknhbfplnaa
open Go.RowKit Reel
set_option linter.unusedVariables false

theorem own_some {w : World} {B : Nat} {e : TypeId} {s n : Nat} {v : Value} {xs : List Value} (h : w.ownsRow B e s v n xs) (hn : 0 < n) : ∃ g c, v = .slice (some ⟨g, 0, none⟩) n c ∧ B ≤ g ∧ n ≤ c := by
  rcases h.2 with ⟨rfl, h0⟩ | ⟨g, cap, cur, rfl, hb, hg, hn', r⟩
  · omega
  · exact ⟨g, cap, rfl, hb, hn'⟩
set_option maxRecDepth 100000 in
set_option maxHeartbeats 8000000 in
theorem rset_any (L : List Ent) (k : Nat) (e : Ent) (v : Value) (w : World) (hrow : w.ownsRow 0 79 3 v L.length (rvals L)) (hL : L.length ≤ 64) (hk : k < L.length) :
    Calls Try.prog 71 #[v, .int .i64 k, .agg #[.string e.1, .string (bt e.2.bytes), .int .i64 e.2.safe]] w fun en w' => ∃ v', en = .returned v' ∧ w'.ownsRow w.heap.size 79 3 v' (L.set k e).length (rvals (L.set k e)) ∧ Below w.heap.size w w' := by
  obtain ⟨i0, hi0, hz0, hz1, hz2⟩ := info_parts Try.infoRl
  obtain ⟨g, c, rfl, -, hnc⟩ := own_some hrow (by omega)
  obtain ⟨W, hW⟩ : ∃ W, w.alloc (.cells #[.string e.1, .string (bt e.2.bytes), .int .i64 e.2.safe] 79) = W := ⟨_, rfl⟩
  obtain ⟨gx, hgx⟩ : ∃ gx, w.heap.size = gx := ⟨_, rfl⟩
  have BX : Hid (Blk W gx 79 #[.string e.1, .string (bt e.2.bytes), .int .i64 e.2.safe]) := by rw [← hW, ← hgx]; exact Blk.new _ _ _
  have HWS : Hid (W.heap.size = gx + 1) := by rw [← hW, ← hgx]; show (w.alloc _).heap.size = _; simp
  have HBW : Hid (Below gx w W) := by rw [← hW]; exact (Below.refl _ _).alloc (by omega) _
  have HR : Hid (W.ownsRow 0 79 3 (.slice (some ⟨g, 0, none⟩) L.length c) L.length (rvals L)) := own_below hrow (HBW.out.mono (by omega))
  have HNEWS : Hid (∀ o, ∀ j u, (rvals L)[j]? = some u → (W.alloc o).cell? ((⟨g, 0, none⟩ : Addr).add j) = some u) := fun o j u h => by
    have hb : Below W.heap.size W (W.alloc o) := (Below.refl _ _).alloc (Nat.le_refl _) _
    have h2 := own_below HR.out hb
    have hjl : j < L.length * 3 := by rw [← rvals_len]; exact (List.getElem?_eq_some_iff.1 h).1
    have hj : (⟨g, 0, none⟩ : Addr).add j = ⟨g, j, none⟩ := by unfold Addr.add; split <;> simp_all
    rw [hj, h2.cellAt j hjl, h]
  have HMADE : Hid ((W.alloc (.cells #[] 79)).ownsRow (gx + 1) 79 3 (.slice (some ⟨gx + 1, 0, none⟩) 0 0) 0 []) := by
    have := World.ownsRow_made (e := 79) (size := 3) (base := gx + 1) W #[] 0 (Nat.le_of_eq HWS.out.symm) (by unfold maxLen; omega) rfl
    rw [HWS.out] at this
    exact this
  have HW := hid hW
  have HONE : Hid (∀ u ∈ rvals L, u.oneCell' = true) := fun u hu => by
    unfold rvals at hu
    obtain ⟨y, _, hy⟩ := List.mem_flatMap.1 hu
    exact rcell_one y u hy
  have hlen := rvals_len L
  have HLEN := hid hlen
  clear hrow hW hlen
  subst hgx
  have HMADE' : Hid (((w.alloc (.cells #[.string e.1, .string (bt e.2.bytes), .int .i64 e.2.safe] 79)).alloc (.cells #[] 79)).ownsRow (w.heap.size + 1) 79 3 (.slice (some ⟨w.heap.size + 1, 0, none⟩) 0 0) 0 []) := by rw [HW.out]; exact HMADE.out
  have HNEWS' : Hid (∀ o, ∀ j u, (rvals L)[j]? = some u → ((w.alloc (.cells #[.string e.1, .string (bt e.2.bytes), .int .i64 e.2.safe] 79)).alloc o).cell? ((⟨g, 0, none⟩ : Addr).add j) = some u) := by rw [HW.out]; exact HNEWS.out
  have HDONE : Hid (∀ (v' : Value) (w3 : World), ((w.alloc (.cells #[.string e.1, .string (bt e.2.bytes), .int .i64 e.2.safe] 79)).alloc (.cells #[] 79)).grownBy w3 (some (w.heap.size + 1)) → Below (w.heap.size + 1) W w3) := fun v' w3 hg => by
    rw [HW.out] at hg
    exact ((Below.refl (w.heap.size + 1) W).alloc (Nat.le_of_eq HWS.out.symm) (.cells #[] 79)).grown hg (by simp; have := HWS.out; omega) (fun q hq => by simp at hq; omega)
  have HCELLS : Hid (∀ g3 c3 w3, Hid (w3.ownsRow (w.heap.size + 1) 79 3 (.slice (some ⟨g3, 0, none⟩) (0 + L.length) c3) (0 + L.length) ([] ++ rvals L)) → Hid (Below (w.heap.size + 1) W w3) →
      w3.cell? ⟨w.heap.size, 0, none⟩ = some (.string e.1) ∧ w3.cell? ⟨w.heap.size, 1, none⟩ = some (.string (bt e.2.bytes)) ∧ w3.cell? ⟨w.heap.size, 2, none⟩ = some (.int .i64 e.2.safe) ∧
      w3.cell? ⟨g3, k * 3, none⟩ = some (.string L[k].1) ∧ w3.cell? ⟨g3, k * 3 + 1, none⟩ = some (.string (bt L[k].2.bytes)) ∧ w3.cell? ⟨g3, k * 3 + 2, none⟩ = some (.int .i64 L[k].2.safe) ∧
      w3.frozen? ⟨g3, k * 3, none⟩ = false ∧ w3.frozen? ⟨g3, k * 3 + 1, none⟩ = false ∧ w3.frozen? ⟨g3, k * 3 + 2, none⟩ = false) := fun g3 c3 w3 ho hb => by
    have hbx : Blk w3 w.heap.size 79 #[.string e.1, .string (bt e.2.bytes), .int .i64 e.2.safe] := (hb.out.block _ (by omega)).trans BX.out
    have ho' : w3.ownsRow (w.heap.size + 1) 79 3 (.slice (some ⟨g3, 0, none⟩) (0 + L.length) c3) (0 + L.length) (rvals L) := ho.out
    have hc : ∀ q, q < 3 → w3.cell? ⟨g3, k * 3 + q, none⟩ = (rcell L[k])[q]? := fun q hq => by
      rw [ho'.cellAt _ (by omega), rvals_get L k q hk hq]
    exact ⟨hbx.cell 0, hbx.cell 1, hbx.cell 2, (hc 0 (by omega)).trans rfl, (hc 1 (by omega)).trans rfl, (hc 2 (by omega)).trans rfl, ho'.frozenAt _, ho'.frozenAt _, ho'.frozenAt _⟩
  have ck0 : (0 : Int) ≤ (k : Int) := by omega
  have ck1 : (k : Int) < L.length := by omega
  go_enter Try.func71, Try.ntmps71
  go_wp2_with (at_builtin; have hmade := HMADE'.out; refine wpList_append_own _ rfl (.tmp 8) (.tmp 9) 75 rfl (w.heap.size + 1) 79 i0 (.agg #[.string ⟨#[]⟩, .string ⟨#[]⟩, .int .i64 0]) 3 40 Try.underlying75 hi0 hz0 hz1 hz2 rfl (by decide) _ _ _ rfl hmade _ L.length c (rvals L) rfl HLEN.out (HNEWS'.out _) HONE.out (by unfold maxLen; omega) (by omega) (by simp) ?_; intro v' w3 hown3 hgrow3 _; have bel3 := HDONE.out v' w3 hgrow3; have HO3 := hid hown3; have BEL3 := hid bel3; clear hown3 hgrow3 bel3 hmade; obtain ⟨g3, c3, rfl, hg3, hc3⟩ := own_some HO3.out (by omega); obtain ⟨r0, r1, r2, r3, r4, r5, f0, f1, f2⟩ := HCELLS.out g3 c3 w3 HO3 BEL3)
  go_ret
  refine ⟨_, rfl, ?_⟩
  have h1 := HO3.out.stored (k * 3) (.string e.1)
  have h2 := h1.1.stored (k * 3 + 1) (.string (bt e.2.bytes))
  have h3 := h2.1.stored (k * 3 + 2) (.int .i64 e.2.safe)
  have hr := h3.1
  rw [Nat.zero_add, List.nil_append, rvals_set L k e hk] at hr
  rw [List.length_set]
  refine ⟨own_base hr (by omega), ?_⟩
  have hb1 : Below (w.heap.size + 1) W _ := BEL3.out.setCell (p := ⟨g3, k * 3, none⟩) hg3 (.string e.1)
  exact HBW.out.trans ((((BEL3.out.setCell (p := ⟨g3, k * 3, none⟩) hg3 _).setCell (p := ⟨g3, k * 3 + 1, none⟩) hg3 _).setCell (p := ⟨g3, k * 3 + 2, none⟩) hg3 _).mono (by omega))

/-! what insertion and removal come to -/
section
variable {S : St} {x : ByteArray} {t : Spool}
theorem insF_lt (e : Ent) : ∀ (L : List Ent) (s : List Ent × Bool), (∀ y ∈ L, lt' e.1 y.1 = false) → L.foldl (insStep e) s = (s.1 ++ L, s.2)
  | [], s, _ => by simp
  | y :: r, s, h => by
    rw [List.foldl_cons, insStep_no e s y (.inr (h y (List.mem_cons_self ..))), insF_lt e r _ (fun z hz => h z (List.mem_cons_of_mem _ hz))]
    simp
theorem insF_done (e : Ent) : ∀ (L : List Ent) (s : List Ent × Bool), s.2 = true → L.foldl (insStep e) s = (s.1 ++ L, true)
  | [], s, h => by simp [← h]
  | y :: r, s, h => by
    rw [List.foldl_cons, insStep_no e s y (.inl h)]
    have := insF_done e r (s.1 ++ [y], s.2) h
    rw [this]; simp
theorem insE_split (e : Ent) (A B : List Ent) (hA : ∀ y ∈ A, lt' e.1 y.1 = false) (hB : ∀ y ∈ B, lt' e.1 y.1 = true) : insE e (A ++ B) = A ++ e :: B := by
  unfold insE insF
  rw [List.foldl_append, insF_lt e A _ hA]
  cases B with
  | nil => simp
  | cons y r =>
    rw [List.foldl_cons, insStep_yes e _ y rfl (hB y (List.mem_cons_self ..)), insF_done e r _ rfl]
    simp
theorem ents_take_names (h : S.Ok) (i : Nat) : (S.ents.take i).map (·.1) = S.l.take i := by rw [List.map_take, ents_fst h]
theorem ents_drop_names (h : S.Ok) (i : Nat) : (S.ents.drop i).map (·.1) = S.l.drop i := by rw [List.map_drop, ents_fst h]
theorem insE_put (h : S.Ok) (hx : hasN S.l x = false) (t : Spool) : insE (x, t) S.ents = (putT S x t).ents := by
  rw [ents_put_no h hx]
  conv => lhs; rw [← List.take_append_drop (posOf S.l x) S.ents]
  refine insE_split (x, t) _ _ (fun y hy => ?_) (fun y hy => ?_)
  · have : y.1 ∈ S.l.take (posOf S.l x) := by rw [← ents_take_names h]; exact List.mem_map_of_mem hy
    exact lt_asymm (take_lt h.rising x y.1 this)
  · have : y.1 ∈ S.l.drop (posOf S.l x) := by rw [← ents_drop_names h]; exact List.mem_map_of_mem hy
    exact drop_gt h.rising (by rw [← hasN_no]; exact hx) y.1 this
theorem eraseIdx_del (h : S.Ok) (hx : hasN S.l x = true) : S.ents.eraseIdx (posOf S.l x) = (delT S x).ents := by
  rw [ents_del h hx, List.eraseIdx_eq_take_drop_succ]
theorem set_put (h : S.Ok) (hx : hasN S.l x = true) (t : Spool) : S.ents.set (posOf S.l x) (x, t) = (putT S x t).ents := (ents_put_has h hx).symm
end
end Go.Proofs.Ythjomknhbfplnaa
