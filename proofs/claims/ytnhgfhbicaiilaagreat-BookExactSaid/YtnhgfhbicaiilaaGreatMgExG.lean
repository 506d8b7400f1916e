/- Texts in a row: RefI, RefJ, RefK, RefL, RfD, RfE, RfF, RfG, RfH, BkTwin. -/
import Derived.Test.YtnhgfhbicaiilaaGreatMgExF
import Derived.Deep.CutBlock
/- The reference's disk: Swap. -/
namespace Go.Proofs.YtnhgfhbicaiilaaGreat
open Go.RowKit Reel
set_option linter.unusedVariables false

section
variable {w w1 w2 W : World} {u : Nat} {v v1 : Value} {S S1 : St} {x : ByteArray}
theorem rwith_post (h : RefAt w u v S) (hb : Below w.heap.size w W) (L : List Ent) (e : Ent) (a : Option Addr) (c : Nat) (hR : ReelsAt W a L.length L) (hL : L.length ≤ 64) :
    Calls Tryz.prog 72 #[.slice a L.length c, .agg #[.string e.1, .string (bt e.2.bytes), .int .i64 e.2.safe]] W (RowPost w W u v S (insE e L)) :=
  (rwith_any L e a c W hR hL).mono fun en w' hp => h.rowPost hb hp
theorem insE_repl {T : St} (hT : T.Ok) {yt : ByteArray} (t : Spool) (i : Nat) (hi : i < T.ents.length) (hx : T.ents[i].1 = yt) : insE (yt, t) (T.ents.eraseIdx i) = T.ents.set i (yt, t) := by
  have hil : i < T.l.length := by rw [ents_len hT] at hi; exact hi
  have hTi : T.l[i] = yt := by obtain ⟨_, e⟩ := ents_name hT hi; rw [← e, hx]
  have hp := List.pairwise_iff_getElem.1 hT.rising
  rw [List.eraseIdx_eq_take_drop_succ, insE_split (yt, t) _ _ (fun y hy => ?_) (fun y hy => ?_), List.set_eq_take_append_cons_drop, if_pos hi]
  · have hm : y.1 ∈ T.l.take i := by rw [← ents_take_names hT]; exact List.mem_map_of_mem hy
    obtain ⟨j, hj, e⟩ := List.getElem_of_mem hm
    rw [List.length_take] at hj
    rw [List.getElem_take] at e
    have := hp j i (by omega) hil (by omega)
    rw [hTi, e] at this
    exact lt_asymm this
  · have hm : y.1 ∈ T.l.drop (i + 1) := by rw [← ents_drop_names hT]; exact List.mem_map_of_mem hy
    obtain ⟨j, hj, e⟩ := List.getElem_of_mem hm
    rw [List.length_drop] at hj
    rw [List.getElem_drop] at e
    have := hp i (i + 1 + j) hil (by omega) (by omega)
    rw [hTi, e] at this
    exact this
theorem getElem_eq_of_eq {α : Type} {L L' : List α} (h : L = L') {i : Nat} (hi : i < L.length) : ∃ hi' : i < L'.length, L[i] = L'[i] := by subst h; exact ⟨hi, rfl⟩
/-- what Swap comes to, in the reference's words -/
theorem swap_ents (hok : S.Ok) {t : Spool} (ht : at_ S x = some t) (yt : ByteArray) (hto : isName yt = true) (ha : (actS S).2 = 0) (hd : S.down = false) :
    (∀ (hn : ∀ i (hi : i < (S.ents.eraseIdx (posOf S.l x)).length), (S.ents.eraseIdx (posOf S.l x))[i].1 ≠ yt), (swapS S x yt).1.ents = insE (yt, t) (S.ents.eraseIdx (posOf S.l x))) ∧
    (∀ i (hi : i < (S.ents.eraseIdx (posOf S.l x)).length), (S.ents.eraseIdx (posOf S.l x))[i].1 = yt → (swapS S x yt).1.ents = insE (yt, t) ((S.ents.eraseIdx (posOf S.l x)).eraseIdx i)) := by
  obtain ⟨l1, l2, l3, _⟩ := act_l S
  have hx := (at_some ht).1
  obtain ⟨hk, -, he⟩ := at_place hok ht
  have hsz := Reel.size_mem (at_mem ht)
  rw [← hok.used] at hsz
  have hT : St.Ok { delT (actS S).1 x with used := S.used - t.bytes.length } := (act_ok hok).del (t := t) (by rw [at_act]; exact ht) _ (by rw [l3]; omega)
  obtain ⟨T, hTd⟩ : ∃ T : St, { delT (actS S).1 x with used := S.used - t.bytes.length } = T := ⟨_, rfl⟩
  have hTe : T.ents = S.ents.eraseIdx (posOf S.l x) := by rw [← hTd]; exact drop_ents hok ht _
  rw [hTd] at hT
  by_cases hxt : x = yt
  · have e1 : swapS S x yt = ((actS S).1, 0) := by unfold swapS; rw [if_neg (by rw [hd]; simp), ht]; exact (if_neg (by rw [hto]; simp)).trans ((if_pos ha).trans (if_pos hxt))
    rw [e1]
    refine ⟨fun _ => ?_, fun i hi e => ?_⟩
    · have := insE_repl hok t (posOf S.l x) hk (by rw [he])
      rw [← hxt, this, act_ents]
      conv => lhs; rw [← List.set_getElem_self hk, he]
    · exfalso
      obtain ⟨hi', e2⟩ := getElem_eq_of_eq hTe.symm hi
      obtain ⟨q, hmem⟩ : ∃ q, (yt, q) ∈ T.ents := ⟨(T.ents[i]).2, by rw [← e, e2]; exact List.getElem_mem _⟩
      rw [← hTd] at hmem
      have hmem' : (yt, q) ∈ (delT (actS S).1 x).ents := hmem
      rw [del_mem (act_ok hok) (by rw [l1]; exact hx)] at hmem'
      exact hmem'.2 hxt.symm
  · have e1 : swapS S x yt = (putT { delT (actS S).1 x with used := S.used - lenAt S yt } yt t, 0) := by unfold swapS; rw [if_neg (by rw [hd]; simp), ht]; exact (if_neg (by rw [hto]; simp)).trans ((if_pos ha).trans (if_neg hxt))
    rw [e1]
    have hent : (putT { delT (actS S).1 x with used := S.used - lenAt S yt } yt t).ents = (putT T yt t).ents := by rw [← hTd]; rfl
    rw [show (putT { delT (actS S).1 x with used := S.used - lenAt S yt } yt t, (0 : Int)).1.ents = _ from hent]
    refine ⟨fun hn => ?_, fun i hi e => ?_⟩
    · have hno : hasN T.l yt = false := by
        cases hh : hasN T.l yt
        · rfl
        · exfalso
          obtain ⟨h3, h4⟩ := pos_get hT.rising hh
          have hkT : posOf T.l yt < T.ents.length := by rw [ents_len hT]; exact h3
          obtain ⟨_, e5⟩ := ents_name hT hkT
          obtain ⟨hi', e6⟩ := getElem_eq_of_eq hTe hkT
          exact hn _ hi' (by rw [← e6, e5, h4])
      rw [← hTe, insE_put hT hno]
    · obtain ⟨hi', e2⟩ := getElem_eq_of_eq hTe.symm hi
      rw [e2] at e
      have hpl := place_found hT hi' e
      have hh : hasN T.l yt = true := by
        obtain ⟨hl, e5⟩ := ents_name hT hi'
        rw [hasN_iff, ← e, e5]; exact List.getElem_mem _
      unfold placeI at hpl
      rw [if_pos hh] at hpl
      have hpos : posOf T.l yt = i := by omega
      rw [← hTe, insE_repl hT t i hi' e, ents_put_has hT hh, hpos]
theorem swap_alike (yt : ByteArray) {t : Spool} (ht : at_ S x = some t) (hto : isName yt = true) (ha : (actS S).2 = 0) (hd : S.down = false) : Alike16 (actS S).1 (swapS S x yt).1 ∧ (swapS S x yt).2 = 0 := by
  by_cases hxt : x = yt
  · have e1 : swapS S x yt = ((actS S).1, 0) := by unfold swapS; rw [if_neg (by rw [hd]; simp), ht]; exact (if_neg (by rw [hto]; simp)).trans ((if_pos ha).trans (if_pos hxt))
    rw [e1]; exact ⟨⟨rfl, rfl, rfl, rfl, rfl⟩, rfl⟩
  · have e1 : swapS S x yt = (putT { delT (actS S).1 x with used := S.used - lenAt S yt } yt t, 0) := by unfold swapS; rw [if_neg (by rw [hd]; simp), ht]; exact (if_neg (by rw [hto]; simp)).trans ((if_pos ha).trans (if_neg hxt))
    rw [e1]; exact ⟨⟨rfl, rfl, rfl, rfl, rfl⟩, rfl⟩
set_option maxRecDepth 100000 in
set_option maxHeartbeats 8000000 in
theorem rswap_any (x yt : ByteArray) (h : RefAt w u v S) (N : Nat) (hf : S.Fits N) (hn : N < big) (hok : (swapS S x yt).1.Ok) (hto : yt.size ≤ 9223372036854775807) : Calls Tryz.prog 59 #[.pointer (some ⟨u, 0, none⟩), .string x, .string yt] w fun e w' => e = .returned (.int .i64 (swapS S x yt).2) ∧ RStep w w' u v (swapS S x yt).1 := by
  have HFD := hid (rfound_any x h)
  have HS0 : Hid (RStep w w u v S) := ⟨v, h, Only.refl _ _, .inl rfl⟩
  by_cases hd : S.down = true
  · have e1 : swapS S x yt = (S, 10) := by unfold swapS; rw [if_pos hd]
    have e2 : foundI S x = (0, 10) := by unfold foundI; rw [if_pos hd]
    rw [e2] at HFD; rw [e1]
    clear h hd e1 e2 hok hf
    go_enter Tryz.func59, Tryz.ntmps59
    go_wp2_with (go_at_call 75; refine HFD.out.mono ?_; rintro e w' ⟨rfl, rfl⟩)
    go_ret
    exact ⟨rfl, HS0.out⟩
  cases ht : at_ S x with
  | none =>
    have e1 : swapS S x yt = (S, 12) := by unfold swapS; rw [if_neg hd, ht]
    have e2 : foundI S x = (0, 12) := by unfold foundI; rw [if_neg hd, ht]
    rw [e2] at HFD; rw [e1]
    clear h hd ht e1 e2 hok hf
    go_enter Tryz.func59, Tryz.ntmps59
    go_wp2_with (go_at_call 75; refine HFD.out.mono ?_; rintro e w' ⟨rfl, rfl⟩)
    go_ret
    exact ⟨rfl, HS0.out⟩
  | some t =>
    have hd' : S.down = false := by simpa using hd
    obtain ⟨hk, -, he⟩ := at_place h.ok ht
    have hfew := ents_few h.ok
    have e2 : foundI S x = ((posOf S.l x : Int), 0) := by unfold foundI; rw [if_neg hd, ht]
    rw [e2] at HFD
    have HAC := hid (ract_any h hd' N hf hn)
    obtain ⟨k, hkk⟩ : ∃ k, posOf S.l x = k := ⟨_, rfl⟩
    by_cases hit : isName yt = false
    · have e1 : swapS S x yt = (S, 1) := by unfold swapS; rw [if_neg hd, ht]; exact if_pos hit
      rw [e1]
      simp only [hkk] at HFD
      have hc : yt.size < 1 ∨ 32 < yt.size := by
        have hz : ¬ (1 ≤ yt.size ∧ yt.size ≤ 32) := by intro hh; have : isName yt = true := decide_eq_true hh; rw [this] at hit; cases hit
        omega
      clear h hd hd' ht e1 e2 hok he hf hit
      rcases hc with hc | hc
      · have hc1 : yt.size = 0 := by omega
        have g1 : (yt.size : Int) < 1 := by omega
        go_enter Tryz.func59, Tryz.ntmps59
        go_wp2_with (go_at_call 75; refine HFD.out.mono ?_; rintro e w' ⟨rfl, rfl⟩)
        go_ret
        exact ⟨rfl, HS0.out⟩
      · have g1 : ¬ (yt.size : Int) < 1 := by omega
        have g2 : (32 : Int) < yt.size := by omega
        go_enter Tryz.func59, Tryz.ntmps59
        go_wp2_with (go_at_call 75; refine HFD.out.mono ?_; rintro e w' ⟨rfl, rfl⟩)
        go_ret
        exact ⟨rfl, HS0.out⟩
    have hto' : isName yt = true := by simpa using hit
    have hz : 1 ≤ yt.size ∧ yt.size ≤ 32 := of_decide_eq_true hto'
    have g1 : ¬ (yt.size : Int) < 1 := by omega
    have g2 : ¬ (32 : Int) < yt.size := by omega
    by_cases ha : (actS S).2 = 0
    · obtain ⟨hal, hz2⟩ := swap_alike yt ht hto' ha hd'
      obtain ⟨hp1, hp2⟩ := swap_ents h.ok ht yt hto' ha hd'
      rw [hz2]
      rw [show decide ((actS S).2 = 10) = false by rw [ha]; rfl] at HAC
      obtain ⟨S2, hS2⟩ : ∃ S2 : St, (swapS S x yt).1 = S2 := ⟨_, rfl⟩
      rw [hS2] at hok hal hp1 hp2 ⊢
      obtain ⟨y, hy⟩ : ∃ y, bt t.bytes = y := ⟨_, rfl⟩
      obtain ⟨sf, hsf⟩ : ∃ sf, t.safe = sf := ⟨_, rfl⟩
      simp only [hkk] at HFD
      simp only [hkk] at hk he hp1 hp2
      have HOK := hid hok; have HAL := hid hal
      have hE1 : (actS S).1.ents = S.ents := act_ents S
      obtain ⟨S1, hS1⟩ : ∃ S1, (actS S).1 = S1 := ⟨_, rfl⟩
      rw [hS1] at HAC HAL hE1
      rw [← hE1] at hp1 hp2
      have hk1 : k < S1.ents.length := by rw [hE1]; exact hk
      have hf64 : S1.ents.length ≤ 64 := by rw [hE1]; exact hfew
      have HWO : Hid (∀ w1 v1 W, RefAt w1 u v1 S1 → Below w1.heap.size w1 W → Calls Tryz.prog 84 #[v1, .int .i64 k] W fun en w' => ∃ a c, en = .returned (.slice a (S1.ents.eraseIdx k).length c) ∧ Hid (ReelsAt w' a (S1.ents.eraseIdx k).length (S1.ents.eraseIdx k)) ∧ Below W.heap.size W w') := fun w1 v1 W hr hb => by
        obtain ⟨a, c, rfl, hc, hR⟩ := own_reels (own_below hr.row hb)
        refine (rwithout_any S1.ents k a c W hR hf64 (by omega)).mono ?_
        rintro en w' ⟨v', rfl, q1, q2⟩
        obtain ⟨a', c', rfl, -, hR'⟩ := own_reels q1
        exact ⟨a', c', rfl, hR', q2⟩
      have hDl : (S1.ents.eraseIdx k).length ≤ 64 := by have := List.length_eraseIdx_le S1.ents k; omega
      have HP1 : Hid ((∀ i (y : Ent), (S1.ents.eraseIdx k)[i]? = some y → y.1 ≠ yt) → S2.ents = insE (yt, t) (S1.ents.eraseIdx k)) := fun hh => hp1 (fun i hi => hh i _ (List.getElem?_eq_getElem hi))
      have HP2 : Hid (∀ i (y : Ent), (S1.ents.eraseIdx k)[i]? = some y → y.1 = yt → S2.ents = insE (yt, t) ((S1.ents.eraseIdx k).eraseIdx i)) := fun i y hy h1 => by
        obtain ⟨hi, e⟩ := List.getElem?_eq_some_iff.1 hy
        exact hp2 i hi (by rw [e]; exact h1)
      obtain ⟨D, hD⟩ : ∃ D, S1.ents.eraseIdx k = D := ⟨_, rfl⟩
      rw [hD] at hDl HWO HP1 HP2
      have HWI : Hid (∀ w1 v1 W L a c, RefAt w1 u v1 S1 → Below w1.heap.size w1 W → ReelsAt W a L.length L → L.length ≤ 64 → S2.ents = insE (yt, t) L → Calls Tryz.prog 72 #[.slice a L.length c, .agg #[.string yt, .string y, .int .i64 sf]] W fun en w' => ∃ v' a n c, v' = .slice a n c ∧ en = .returned v' ∧ (∀ p z, W.cell? p = some z → w'.cell? p = some z) ∧ w'.frozen? ⟨u, 0, none⟩ = false ∧ Hid (RStep w1 (w'.setCell ⟨u, 0, none⟩ v') u v1 S2)) := fun w1 v1 W L a c hr hb hR hL hE => by
        have := rwith_post hr hb L (yt, t) a c hR hL
        simp only [hy, hsf] at this
        refine this.mono ?_
        rintro en w' ⟨v', a, c, hv, rfl, q1, q2, q3⟩
        exact ⟨v', a, _, c, hv, rfl, q1, q2, q3.out S2 HAL.out hE HOK.out⟩
      have HREEL : Hid (∀ w1 v1, RefAt w1 u v1 S1 → ∃ g c, v1 = .slice (some ⟨g, 0, none⟩) S1.ents.length c ∧ w1.cell? ⟨g, k * 3, none⟩ = some (.string x) ∧ w1.cell? ⟨g, k * 3 + 1, none⟩ = some (.string y) ∧ w1.cell? ⟨g, k * 3 + 2, none⟩ = some (.int .i64 sf)) := fun w1 v1 hr => by
        obtain ⟨g, c, hv, q0, q1, q2⟩ := hr.reel hk1
        have he1 : S1.ents[k] = (x, t) := by simp only [hE1]; exact he
        rw [he1] at q0 q1 q2
        rw [hy] at q1; rw [hsf] at q2
        exact ⟨g, c, hv, q0, q1, q2⟩
      have ck0 : (0 : Int) ≤ (k : Int) := by omega
      have ck1 : (k : Int) < S1.ents.length := by omega
      clear h hd hd' ht hok hp1 hp2 hal hS2 hkk hE1 hS1 he hk hf hy hsf hD hz2 ha hit hto' hz e2 hk1
      go_enter Tryz.func59, Tryz.ntmps59
      go_wp2_with (first
        | (go_at_call 75; refine HFD.out.mono ?_; rintro e w' ⟨rfl, rfl⟩)
        | (go_at_call 74; refine HAC.out.mono ?_; rintro e w1 ⟨rfl, v1, r1, r2, r3⟩; obtain ⟨g, c, rfl, q0, q1, q2⟩ := HREEL.out w1 v1 r1; have R1 := hid r1; have R2 := hid r2; have R3 := hid r3; obtain ⟨c0, -, -, -, -, -⟩ := r1.cells; have hul := r1.lt; have u0 : (w1.alloc (.cells #[.string yt, .string y, .int .i64 sf] 84)).cell? ⟨u, 0, none⟩ = some (.slice (some ⟨g, 0, none⟩) S1.ents.length c) := (World.cell?_of_block (Below.heap_alloc _ _ _ hul)).trans c0; clear r1 r2 r3))
      generalize hW2 : (w1.alloc (.cells #[.string yt, .string y, .int .i64 sf] 84)) = W2 at u0 ⊢
      obtain ⟨gx, hgx⟩ : ∃ gx, w1.heap.size = gx := ⟨_, rfl⟩
      have BX : Hid (Blk W2 gx 84 #[.string yt, .string y, .int .i64 sf]) := by rw [← hW2, ← hgx]; exact Blk.new _ _ _
      have HB2 : Hid (Below w1.heap.size w1 W2) := by rw [← hW2]; exact (Below.refl _ _).alloc (Nat.le_refl _) _
      refine (HWO.out w1 _ W2 R1.out HB2.out).mono ?_; rintro e w3 ⟨la, lc, rfl, hR, hb3⟩
      have HR3 := hid hR
      have HB3 : Hid (Below W2.heap.size W2 w3) := hb3
      have HB13 : Hid (Below w1.heap.size w1 w3) := HB2.out.trans (hb3.mono HB2.out.size)
      have BX3 : Hid (Blk w3 gx 84 #[.string yt, .string y, .int .i64 sf]) := (hb3.block gx (Blk.lt BX.out)).trans BX.out
      have HU3 : Hid (w3.cell? ⟨u, 0, none⟩ = some (.slice (some ⟨g, 0, none⟩) S1.ents.length c)) := (World.cell?_of_block (hb3.block u (World.block_lt_of_cell? W2 ⟨u, 0, none⟩ u0))).trans u0
      have x0 : w3.cell? ⟨gx, 0, none⟩ = some (.string yt) := Blk.cell BX3.out 0
      have x1 : w3.cell? ⟨gx, 1, none⟩ = some (.string y) := Blk.cell BX3.out 1
      have x2 : w3.cell? ⟨gx, 2, none⟩ = some (.int .i64 sf) := Blk.cell BX3.out 2
      rw [hgx]
      clear hR hb3 hW2 hgx q0 q1 q2 u0 c0 hul
      go_wp2_with fail
      go_loop [10, 11] (fun lv iv => lv = .slice la D.length lc ∧ ∃ i : Nat, i ≤ D.length ∧ iv = .int .i64 i ∧ Hid (∀ j (y : Ent), j < i → D[j]? = some y → y.1 ≠ yt)) (fun _ iv => D.length - (intOf iv).toNat)
      case atStart => exact ⟨rfl, 0, by omega, rfl, fun j _ hj => absurd hj (by omega)⟩
      case round =>
        obtain ⟨rfl, i, hi, rfl, HN⟩ := hrel
        by_cases hlt : i < D.length
        · have ci0 : (0 : Int) ≤ (i : Int) := by omega
          have ci : (i : Int) < D.length := by omega
          obtain ⟨lg, rfl, l0, l1, l2⟩ := HR3.out.get hlt
          have hDi : D[i]? = some D[i] := List.getElem?_eq_getElem hlt
          obtain ⟨d, hd⟩ : ∃ d, D[i] = d := ⟨_, rfl⟩
          rw [hd] at l0 l1 l2 hDi
          have HDI := hid hDi
          clear hd hDi
          by_cases hx : d.1 = yt
          · have HE := hid (HP2.out i d HDI.out hx)
            rw [hx] at l0
            have hle : (D.eraseIdx i).length ≤ 64 := by have := List.length_eraseIdx_le D i; omega
            have HWO2 := hid (rwithout_any D i (some ⟨lg, 0, none⟩) lc w3 HR3.out hDl (by omega))
            clear hx l1 l2
            go_wp2_with (first
              | (go_at_call 84; refine HWO2.out.mono ?_; rintro e w4 ⟨v', rfl, o4, b4⟩; obtain ⟨ma, mc, rfl, -, hR4⟩ := own_reels o4; have HR4 := hid hR4; have HB14 : Hid (Below w1.heap.size w1 w4) := HB13.out.trans (b4.mono HB13.out.size); have BX4 : Hid (Blk w4 gx 84 #[.string yt, .string y, .int .i64 sf]) := (b4.block gx (Blk.lt BX3.out)).trans BX3.out; have y0 : w4.cell? ⟨gx, 0, none⟩ = some (.string yt) := Blk.cell BX4.out 0; have y1 : w4.cell? ⟨gx, 1, none⟩ = some (.string y) := Blk.cell BX4.out 1; have y2 : w4.cell? ⟨gx, 2, none⟩ = some (.int .i64 sf) := Blk.cell BX4.out 2; have HU4 : Hid (w4.cell? ⟨u, 0, none⟩ = some (.slice (some ⟨g, 0, none⟩) S1.ents.length c)) := (World.cell?_of_block (b4.block u (World.block_lt_of_cell? w3 ⟨u, 0, none⟩ HU3.out))).trans HU3.out; clear o4 b4 hR4)
              | (go_at_call 72; refine (HWI.out w1 _ _ _ _ _ R1.out HB14.out HR4.out hle HE.out).mono ?_; rintro e w' ⟨v', va, vn, vc, rfl, rfl, up, fz, hst⟩; have t0 := up ⟨u, 0, none⟩ _ HU4.out; clear up))
            go_ret
            exact ⟨rfl, RStep.next R1.out R2.out R3.out hst.out⟩
          · have hne := bstr_ne hx
            have HX := hid hx
            clear hx
            go_wp2_with fail
            go_round
            case rel =>
              refine ⟨rfl, i + 1, by omega, by go_num, fun j y' hj hy' => ?_⟩
              by_cases e : j = i
              · subst e; rw [HDI.out] at hy'; cases hy'; exact HX.out
              · exact HN.out j y' (by omega) hy'
            case measure => simp [intOf]; omega
        · have ci : ¬ (i : Int) < D.length := by omega
          have HE := hid (HP1.out (fun j y' hy' => HN.out j y' (by have := (List.getElem?_eq_some_iff.1 hy').1; omega) hy'))
          go_wp2_with (first
            | (go_at_call 72; refine (HWI.out w1 _ _ _ _ _ R1.out HB13.out HR3.out hDl HE.out).mono ?_; rintro e w' ⟨v', va, vn, vc, rfl, rfl, up, fz, hst⟩; have t0 := up ⟨u, 0, none⟩ _ HU3.out; clear up))
          go_ret
          exact ⟨rfl, RStep.next R1.out R2.out R3.out hst.out⟩
    · have ha10 : (actS S).2 = 10 := by rcases act_err S with e | e; exact absurd e ha; exact e
      have e1 : swapS S x yt = actS S := by unfold swapS; rw [if_neg hd, ht]; exact (if_neg hit).trans (if_neg ha)
      rw [e1, ha10]
      rw [show decide ((actS S).2 = 10) = true from decide_eq_true ha10] at HAC
      simp only [hkk] at HFD
      clear h hd hd' ht e1 e2 ha ha10 hok hkk he hf hit hto' hz hk
      go_enter Tryz.func59, Tryz.ntmps59
      go_wp2_with (first
        | (go_at_call 75; refine HFD.out.mono ?_; rintro e w' ⟨rfl, rfl⟩)
        | (go_at_call 74; refine HAC.out.mono ?_; rintro e w1 ⟨rfl, hst⟩; have HST := hid hst; clear hst))
      go_ret
      exact ⟨rfl, HST.out⟩
end
end Go.Proofs.YtnhgfhbicaiilaaGreat
/- The reference's disk: Append. -/
namespace Go.Proofs.YtnhgfhbicaiilaaGreat
open Go.RowKit Reel
set_option linter.unusedVariables false

theorem bt_append (l : List UInt8) (s : ByteArray) : bt l ++ s = bt (l ++ s.data.toList) := by
  apply ba_ext
  rw [bt_list, ByteArray.data_append, Array.toList_append]
  unfold bt; rfl
section
variable {w w1 w2 W : World} {u : Nat} {v v1 : Value} {S S1 : St} {x : ByteArray}
/-- the tail of Append: the reel is there -/
def TailPost (w w' : World) (u : Nat) (v : Value) (S2 : St) (er : Int) (e : Ending) : Prop := e = .returned (.int .i64 er) ∧ RStep w w' u v S2
theorem put_split (hok : S.Ok) (hx : hasN S.l x = false) (a b : Spool) : ∃ hp : posOf S.l x < (putT S x a).ents.length, (putT S x a).ents[posOf S.l x] = (x, a) ∧ (putT S x a).ents.set (posOf S.l x) (x, b) = (putT S x b).ents := by
  have hpl : posOf S.l x ≤ S.ents.length := by rw [ents_len hok]; exact posOf_le _ _
  have htl : (S.ents.take (posOf S.l x)).length = posOf S.l x := by rw [List.length_take]; omega
  have e := ents_put_no (t := a) hok hx
  have e2 := ents_put_no (t := b) hok hx
  refine ⟨by rw [e, List.length_append, htl, List.length_cons]; omega, ?_, ?_⟩
  · simp only [e]
    rw [List.getElem_append_right (by omega)]
    simp [htl]
  · rw [e, e2, List.set_append_right _ _ (by omega), htl, Nat.sub_self]; rfl
/-- bytes may be wound on: what has to be known -/
structure Onto (S Sm S2 : St) (x s : ByteArray) (k : Nat) (y : ByteArray) (sf : Nat) (b : Spool) : Prop where
  lt : k < Sm.ents.length
  at_ : Sm.ents[k]? = some (x, ⟨y.data.toList, sf⟩)
  ents : S2.ents = Sm.ents.set k (x, ⟨(y ++ s).data.toList, sf⟩)
  alike : Alike16 Sm S2
  ok : S2.Ok
  few : Sm.ents.length ≤ 64
  len : y.size + s.size ≤ 4194304
theorem bt_toList (y : ByteArray) : bt y.data.toList = y := ba_ext (bt_list _)
theorem ronto_set {s y : ByteArray} {k sf : Nat} {b : Spool} {Sm S2 : St} (ho : Onto S Sm S2 x s k y sf b) (h : RefAt w1 u v1 Sm) (hb : Below w1.heap.size w1 W) :
    Calls Tryz.prog 73 #[v1, .int .i64 k, .agg #[.string x, .string (y ++ s), .int .i64 sf]] W fun en w' => ∃ v' a n c, v' = .slice a n c ∧ en = .returned v' ∧ (∀ p z, W.cell? p = some z → w'.cell? p = some z) ∧ w'.frozen? ⟨u, 0, none⟩ = false ∧ Hid (RStep w1 (w'.setCell ⟨u, 0, none⟩ v') u v1 S2) := by
  have := rset_post h hb k (x, ⟨(y ++ s).data.toList, sf⟩) ho.lt
  simp only [bt_toList] at this
  refine this.mono ?_
  rintro en w' ⟨v', a, c, hv, rfl, q1, q2, q3⟩
  exact ⟨v', a, _, c, hv, rfl, q1, q2, q3.out S2 ho.alike ho.ents ho.ok⟩
theorem ronto_reel {s y : ByteArray} {k sf : Nat} {b : Spool} {Sm S2 : St} (ho : Onto S Sm S2 x s k y sf b) (h : RefAt w1 u v1 Sm) : ∃ g c, v1 = .slice (some ⟨g, 0, none⟩) Sm.ents.length c ∧ w1.cell? ⟨g, k * 3, none⟩ = some (.string x) ∧ w1.cell? ⟨g, k * 3 + 1, none⟩ = some (.string y) ∧ w1.cell? ⟨g, k * 3 + 2, none⟩ = some (.int .i64 sf) := by
  obtain ⟨g, c, hv, q0, q1, q2⟩ := h.reel ho.lt
  have e := ho.at_
  rw [List.getElem?_eq_getElem ho.lt] at e
  injection e with e
  rw [e] at q0 q1 q2
  simp only [bt_toList] at q1
  exact ⟨g, c, hv, q0, q1, q2⟩
theorem ract_step (h : RStep w w1 u v S1) (hd : S1.down = false) (n : Nat) (hf : S1.Fits n) (hn : n < big) : Calls Tryz.prog 74 #[.pointer (some ⟨u, 0, none⟩)] w1 fun e w' => e = .returned (.bool (decide ((actS S1).2 = 10))) ∧ RStep w w' u v (actS S1).1 := by
  obtain ⟨v1, r1, r2, r3⟩ := h
  refine (ract_any r1 hd n hf hn).mono ?_
  rintro e w' ⟨rfl, hs⟩
  exact ⟨rfl, RStep.next r1 r2 r3 hs⟩
theorem ok_of_act (h : (actS S).1.Ok) : S.Ok := by
  obtain ⟨l1, l2, l3, l4⟩ := act_l S
  exact h.with_ l1.symm l2.symm l3.symm (by rw [← l4]; exact h.room)
set_option maxRecDepth 100000 in
set_option maxHeartbeats 8000000 in
theorem rappend_any (x s : ByteArray) (h : RefAt w u v S) (N : Nat) (hf : S.Fits N) (hn : N < big) (hok : (appendS S x s).1.Ok) (hx63 : x.size ≤ 9223372036854775807) (hs63 : s.size ≤ 140737488355328) : Calls Tryz.prog 24 #[.pointer (some ⟨u, 0, none⟩), .string x, .string s] w fun e w' => e = .returned (.int .i64 (appendS S x s).2) ∧ RStep w w' u v (appendS S x s).1 := by
  have HRD := hid (rready_any h)
  have HPL := hid (rplace_any x h)
  have HAL := hid fun n => calls_same (rall_any (h.drewN n))
  have HS0 : Hid (∀ n, RStep w (w.drewN n) u v S) := fun n => ⟨v, h.drewN n, (Only.refl _ _).drewN n, .inl rfl⟩
  have HS1 : Hid (RStep w w u v S) := ⟨v, h, Only.refl _ _, .inl rfl⟩
  by_cases hd : S.down = true
  · have e1 : appendS S x s = (S, 10) := by unfold appendS; rw [if_pos hd]
    rw [hd] at HRD; rw [e1]
    clear h hd e1 hok hf
    go_enter Tryz.func24, Tryz.ntmps24
    go_wp2_with (go_at_call 69; refine HRD.out.mono ?_; rintro e w' ⟨rfl, rfl⟩)
    go_ret
    exact ⟨rfl, HS1.out⟩
  have hd' : S.down = false := by simpa using hd
  rw [hd'] at HRD
  by_cases hit : isName x = false
  · have e1 : appendS S x s = (S, 1) := by unfold appendS; rw [if_neg hd, if_pos hit]
    rw [e1]
    have hc : x.size < 1 ∨ 32 < x.size := by
      have hz : ¬ (1 ≤ x.size ∧ x.size ≤ 32) := by intro hh; have : isName x = true := decide_eq_true hh; rw [this] at hit; cases hit
      omega
    clear h hd hd' e1 hok hf hit
    rcases hc with hc | hc
    · have hc1 : x.size = 0 := by omega
      have g1 : (x.size : Int) < 1 := by omega
      go_enter Tryz.func24, Tryz.ntmps24
      go_wp2_with (go_at_call 69; refine HRD.out.mono ?_; rintro e w' ⟨rfl, rfl⟩)
      go_ret
      exact ⟨rfl, HS1.out⟩
    · have g1 : ¬ (x.size : Int) < 1 := by omega
      have g2 : (32 : Int) < x.size := by omega
      go_enter Tryz.func24, Tryz.ntmps24
      go_wp2_with (go_at_call 69; refine HRD.out.mono ?_; rintro e w' ⟨rfl, rfl⟩)
      go_ret
      exact ⟨rfl, HS1.out⟩
  have hit' : isName x = true := by simpa using hit
  have hz : 1 ≤ x.size ∧ x.size ≤ 32 := of_decide_eq_true hit'
  have g1 : ¬ (x.size : Int) < 1 := by omega
  have g2 : ¬ (32 : Int) < x.size := by omega
  obtain ⟨c0, c1, -, -, -, -⟩ := h.cells
  have hfew := ents_few h.ok
  have hroom := h.ok.room
  have hmost := h.ok.most
  have hul := ents_len h.ok
  have hok0 := h.ok
  cases ht : at_ S x with
  | none =>
    have hno := at_none h.ok ht
    rw [at_place_none h.ok ht] at HPL
    by_cases hA : 64 ≤ S.ents.length ∨ S.room < S.used + s.size ∨ 4194304 < s.size
    · have e1 : appendS S x s = (S, 11) := by
        unfold appendS
        rw [if_neg hd, if_neg (by rw [hit']; simp)]
        split
        · rfl
        · rw [ht]; exact if_pos (by omega)
      rw [e1]
      obtain ⟨a, c, rfl, hcc, -⟩ := own_reels h.row
      obtain ⟨LL, hLL⟩ : ∃ LL, S.ents.length = LL := ⟨_, rfl⟩
      obtain ⟨US, hUS⟩ : ∃ US, S.used = US := ⟨_, rfl⟩
      obtain ⟨RM, hRM⟩ : ∃ RM, S.room = RM := ⟨_, rfl⟩
      rw [hLL] at c0 hA hfew hcc; rw [hUS] at hA hmost HAL; rw [hRM] at hA c1 hroom
      have ew : IntKind.i64.wrap ((US : Int) + s.size) = (US : Int) + s.size := by rw [IntKind.wrap_i64]; omega
      clear h hd hd' e1 hok hf hit hit' hz hno ht hLL hUS hRM hul
      rcases Nat.lt_or_ge LL 64 with h1 | h1
      · rcases Nat.lt_or_ge RM (US + s.size) with h2 | h2
        · have a1 : decide ((64 : Int) ≤ LL) = false := by simp; omega
          have a2 : decide ((RM : Int) < US + s.size) = true := by simp; omega
          clear hA
          go_enter Tryz.func24, Tryz.ntmps24
          go_wp2_with (first
            | (go_at_call 69; refine HRD.out.mono ?_; rintro e w' ⟨rfl, rfl⟩)
            | (go_at_call 70; refine HPL.out.mono ?_; rintro e w' ⟨rfl, rfl⟩))
          go_quiet ((go_at_call 71; exact Calls.quiet_of_same (HAL.out _)))
          go_wp2
          go_ret
          exact ⟨rfl, HS0.out _⟩
        · have a1 : decide ((64 : Int) ≤ LL) = false := by simp; omega
          have a2 : decide ((RM : Int) < US + s.size) = false := by simp; omega
          have a3 : decide ((4194304 : Int) < s.size) = true := by simp; omega
          clear hA
          go_enter Tryz.func24, Tryz.ntmps24
          go_wp2_with (first
            | (go_at_call 69; refine HRD.out.mono ?_; rintro e w' ⟨rfl, rfl⟩)
            | (go_at_call 70; refine HPL.out.mono ?_; rintro e w' ⟨rfl, rfl⟩))
          go_quiet ((go_at_call 71; exact Calls.quiet_of_same (HAL.out _)))
          go_wp2
          go_ret
          exact ⟨rfl, HS0.out _⟩
      · have a1 : decide ((64 : Int) ≤ LL) = true := by simp; omega
        clear hA
        go_enter Tryz.func24, Tryz.ntmps24
        go_wp2_with (first
          | (go_at_call 69; refine HRD.out.mono ?_; rintro e w' ⟨rfl, rfl⟩)
          | (go_at_call 70; refine HPL.out.mono ?_; rintro e w' ⟨rfl, rfl⟩))
        go_quiet ((go_at_call 71; exact Calls.quiet_of_same (HAL.out _)))
        go_wp2
        go_ret
        exact ⟨rfl, HS0.out _⟩
    · obtain ⟨hA1, hA2, hA3⟩ : S.ents.length < 64 ∧ S.used + s.size ≤ S.room ∧ s.size ≤ 4194304 := by omega
      have e1 : appendS S x s = actS { putT S x ⟨s.data.toList, 0⟩ with used := S.used + s.size } := by
        unfold appendS
        rw [if_neg hd, if_neg (by rw [hit']; simp), if_neg (by omega), ht]; exact if_neg (by omega)
      rw [e1] at hok ⊢
      have hok2 := ok_of_act hok
      obtain ⟨hp, hpa, hps⟩ := put_split hok0 hno ⟨[], 0⟩ ⟨s.data.toList, 0⟩
      have hSmok : (putT S x ⟨[], 0⟩).Ok := by
        have := hok0.ins hno hit' (by rw [← hul]; exact hA1) (t' := ⟨[], 0⟩) (by simp) (Nat.zero_le _) S.used (by simp) hmost
        exact this
      have hins := insE_put hok0 hno ⟨[], 0⟩
      have hplm := place_found hSmok hp (by rw [hpa])
      obtain ⟨S2, hS2⟩ : ∃ S2 : St, { putT S x ⟨s.data.toList, 0⟩ with used := S.used + s.size } = S2 := ⟨_, rfl⟩
      have hS2d : S2.down = false := by rw [← hS2]; exact hd'
      have hS2f : S2.Fits N := by rw [← hS2]; exact hf
      have HSA : Hid (Alike16 S (putT S x ⟨[], 0⟩)) := ⟨rfl, rfl, rfl, rfl, rfl⟩
      obtain ⟨k, hk⟩ : ∃ k, posOf S.l x = k := ⟨_, rfl⟩
      obtain ⟨y, hy⟩ : ∃ y : ByteArray, ⟨#[]⟩ = y := ⟨_, rfl⟩
      obtain ⟨sf, hsf⟩ : ∃ sf : Nat, 0 = sf := ⟨_, rfl⟩
      have ONTO : Hid (Onto S (putT S x ⟨[], 0⟩) S2 x s k y sf ⟨s.data.toList, 0⟩) := by
        rw [← hS2, ← hk, ← hy, ← hsf]
        refine ⟨hp, by rw [List.getElem?_eq_getElem hp, hpa], ?_, ⟨rfl, rfl, rfl, rfl, rfl⟩, hok2, ents_few hSmok, by show 0 + s.size ≤ _; omega⟩
        show (putT S x ⟨s.data.toList, 0⟩).ents = _
        rw [← hps]
        congr 2
      rw [hS2]
      rw [hk] at hplm
      have HAC : Hid (∀ w', RStep w w' u v S2 → Calls Tryz.prog 74 #[.pointer (some ⟨u, 0, none⟩)] w' fun e w'' => e = .returned (.bool (decide ((actS S2).2 = 10))) ∧ RStep w w'' u v (actS S2).1) := fun w' hs => ract_step hs hS2d N hS2f hn
      obtain ⟨a, c, rfl, hcc, hR⟩ := own_reels h.row
      have HWI : Hid (∀ n, Calls Tryz.prog 72 #[.slice a S.ents.length c, .agg #[.string x, .string ⟨#[]⟩, .int .i64 0]] (w.drewN n) fun en w' => ∃ v' a' n' c', v' = .slice a' n' c' ∧ en = .returned v' ∧ (∀ p z, w.cell? p = some z → w'.cell? p = some z) ∧ w'.frozen? ⟨u, 0, none⟩ = false ∧ Hid (RStep w (w'.setCell ⟨u, 0, none⟩ v') u (.slice a S.ents.length c) (putT S x ⟨[], 0⟩))) := fun n => by
        have := rwith_post h (below_drewN (Below.refl _ _) n) S.ents (x, ⟨[], 0⟩) a c hR hfew
        refine this.mono ?_
        rintro en w' ⟨v', a', c', hv, rfl, q1, q2, q3⟩
        exact ⟨v', a', _, c', hv, rfl, q1, q2, q3.out _ HSA.out hins.symm hSmok⟩
      obtain ⟨Sm, hSm⟩ : ∃ Sm, putT S x ⟨[], 0⟩ = Sm := ⟨_, rfl⟩
      rw [hSm] at ONTO HWI hplm
      have HPM : Hid (∀ w' v', RefAt w' u v' Sm → Calls Tryz.prog 70 #[.pointer (some ⟨u, 0, none⟩), .string x] w' fun e w'' => e = .returned (.int .i64 k) ∧ w' = w'') := fun w' v' hr => by
        have := rplace_any x hr
        rw [hplm] at this; exact this
      obtain ⟨LL, hLL⟩ : ∃ LL, S.ents.length = LL := ⟨_, rfl⟩
      obtain ⟨US, hUS⟩ : ∃ US, S.used = US := ⟨_, rfl⟩
      obtain ⟨RM, hRM⟩ : ∃ RM, S.room = RM := ⟨_, rfl⟩
      rw [hLL] at c0 hA1 hfew hcc HWI HAC ⊢; rw [hUS] at hA2 hmost HAL; rw [hRM] at hA2 c1 hroom
      have ew : IntKind.i64.wrap ((US : Int) + s.size) = (US : Int) + s.size := by rw [IntKind.wrap_i64]; omega
      have a1 : decide ((64 : Int) ≤ LL) = false := by simp; omega
      have a2 : decide ((RM : Int) < US + s.size) = false := by simp; omega
      have a3 : decide ((4194304 : Int) < s.size) = false := by simp; omega
      clear h hd hd' e1 hok hf hit hit' hz hno ht hRM hul hA hok2 hp hpa hps hSmok hins hplm hS2 hS2d hS2f hk hy hsf hR hSm hok0 HS0 HS1 hUS hLL
      go_enter Tryz.func24, Tryz.ntmps24
      go_wp2_with (first
        | (go_at_call 69; refine HRD.out.mono ?_; rintro e w' ⟨rfl, rfl⟩)
        | (go_at_call 70; refine HPL.out.mono ?_; rintro e w' ⟨rfl, rfl⟩))
      go_quiet ((go_at_call 71; exact Calls.quiet_of_same (HAL.out _)))
      go_wp2_with (first
        | (go_at_call 72; refine (HWI.out _).mono ?_; rintro e w' ⟨v', va, vn, vc, rfl, rfl, up, fz, hst⟩; have t0 := up ⟨u, 0, none⟩ _ c0; clear up))
      generalize hwq : World.setCell _ _ _ = wq at hst ⊢
      obtain ⟨v1, r1, o1, p1⟩ := hst.out
      have R1 := hid r1; have OQ := hid o1; have VQ := hid p1
      clear hst r1 o1 p1 t0 fz hwq c0 c1
      refine (HPM.out _ _ R1.out).mono ?_; rintro e w'' ⟨rfl, rfl⟩
      obtain ⟨g, c, rfl, q0, q1, q2⟩ := ronto_reel ONTO.out R1.out
      obtain ⟨c0, -, -, -, -, -⟩ := R1.out.cells
      have hkl := ONTO.out.lt; have hf64 := ONTO.out.few; have hlen := ONTO.out.len
      have ck0 : (0 : Int) ≤ (k : Int) := by omega
      have ck1 : (k : Int) < Sm.ents.length := by omega
      have hcat : ¬ 9223372036854775807 < y.size + s.size := by omega
      have W0 : (wq.alloc (.cells #[.string x, .string (y ++ s), .int .i64 sf] 84)).cell? ⟨u, 0, none⟩ = some (.slice (some ⟨g, 0, none⟩) Sm.ents.length c) := (World.cell?_of_block (Below.heap_alloc _ _ _ R1.out.lt)).trans c0
      have GX : Hid (Blk (wq.alloc (.cells #[.string x, .string (y ++ s), .int .i64 sf] 84)) wq.heap.size 84 #[.string x, .string (y ++ s), .int .i64 sf]) := Blk.new _ _ _
      go_wp2
      go_region_with ((first
        | (go_at_call 73; refine (ronto_set ONTO.out R1.out ?_).mono ?_; (exact ((Below.refl _ _).alloc (Nat.le_refl _) _).drew); rintro e w' ⟨v', va, vn, vc, rfl, rfl, up, fz, hst⟩; have t0 := up ⟨u, 0, none⟩ _ W0; have t1 := up ⟨wq.heap.size, 0, none⟩ _ (Blk.cell GX.out 0); have t2 := up ⟨wq.heap.size, 1, none⟩ _ (Blk.cell GX.out 1); have t3 := up ⟨wq.heap.size, 2, none⟩ _ (Blk.cell GX.out 2); clear up)))
      all_goals
        rcases act_err S2 with ha | ha
        all_goals
          have HA := hid (HAC.out _ (RStep.next R1.out OQ.out VQ.out hst.out))
          rw [ha] at HA
          have HAE := hid ha
          clear ha
          go_wp2_with (go_at_call 74; refine HA.out.mono ?_; rintro e w6 ⟨rfl, h6⟩; have H6 := hid h6; clear h6)
          go_ret
          exact ⟨ret_int HAE.out.symm, H6.out⟩
  | some t =>
    obtain ⟨hk, hpl, he⟩ := at_place h.ok ht
    rw [hpl] at HPL
    have hsafe := h.ok.each t (at_mem ht)
    obtain ⟨y, hy⟩ : ∃ y, bt t.bytes = y := ⟨_, rfl⟩
    have hylen : t.bytes.length = y.size := by rw [← hy, bt_size]
    obtain ⟨gr, cr, hvr, q0, q1, q2⟩ := h.reel hk
    obtain ⟨k, hkk⟩ : ∃ k, posOf S.l x = k := ⟨_, rfl⟩
    simp only [hkk] at hk he q0 q1 q2 HPL
    rw [he] at q0 q1 q2
    simp only [hy] at q1
    by_cases hA : S.room < S.used + s.size ∨ 4194304 < t.bytes.length + s.size
    · have e1 : appendS S x s = (S, 11) := by
        unfold appendS
        rw [if_neg hd, if_neg (by rw [hit']; simp)]
        split
        · rfl
        · rw [ht]; exact if_pos (by omega)
      rw [e1]
      subst hvr
      rw [hylen] at hA hsafe
      obtain ⟨LL, hLL⟩ : ∃ LL, S.ents.length = LL := ⟨_, rfl⟩
      obtain ⟨US, hUS⟩ : ∃ US, S.used = US := ⟨_, rfl⟩
      obtain ⟨RM, hRM⟩ : ∃ RM, S.room = RM := ⟨_, rfl⟩
      rw [hLL] at c0 hfew hk; rw [hUS] at hA hmost HAL; rw [hRM] at hA c1 hroom
      have ew : IntKind.i64.wrap ((US : Int) + s.size) = (US : Int) + s.size := by rw [IntKind.wrap_i64]; omega
      have ew2 : IntKind.i64.wrap ((y.size : Int) + s.size) = (y.size : Int) + s.size := by rw [IntKind.wrap_i64]; omega
      have b0 : decide ((k : Int) < 0) = false := by simp
      have b1 : decide ((0 : Int) ≤ k) = true := by simp
      have ck0 : (0 : Int) ≤ (k : Int) := by omega
      have ck1 : (k : Int) < LL := by omega
      clear h hd hd' e1 hok hf hit hit' hz ht hLL hUS hRM hul he hpl hy hylen hkk
      rcases Nat.lt_or_ge RM (US + s.size) with h2 | h2
      · have a2 : decide ((RM : Int) < US + s.size) = true := by simp; omega
        clear hA
        go_enter Tryz.func24, Tryz.ntmps24
        go_wp2_with (first
          | (go_at_call 69; refine HRD.out.mono ?_; rintro e w' ⟨rfl, rfl⟩)
          | (go_at_call 70; refine HPL.out.mono ?_; rintro e w' ⟨rfl, rfl⟩))
        go_quiet ((go_at_call 71; exact Calls.quiet_of_same (HAL.out _)))
        go_wp2
        go_ret
        exact ⟨rfl, HS0.out _⟩
      · have a2 : decide ((RM : Int) < US + s.size) = false := by simp; omega
        rcases Nat.lt_or_ge 4194304 s.size with h3 | h3
        · have a3 : decide ((4194304 : Int) < s.size) = true := by simp; omega
          clear hA
          go_enter Tryz.func24, Tryz.ntmps24
          go_wp2_with (first
            | (go_at_call 69; refine HRD.out.mono ?_; rintro e w' ⟨rfl, rfl⟩)
            | (go_at_call 70; refine HPL.out.mono ?_; rintro e w' ⟨rfl, rfl⟩))
          go_quiet ((go_at_call 71; exact Calls.quiet_of_same (HAL.out _)))
          go_wp2
          go_ret
          exact ⟨rfl, HS0.out _⟩
        · have a3 : decide ((4194304 : Int) < s.size) = false := by simp; omega
          have a4 : decide ((4194304 : Int) < y.size + s.size) = true := by simp; omega
          clear hA
          go_enter Tryz.func24, Tryz.ntmps24
          go_wp2_with (first
            | (go_at_call 69; refine HRD.out.mono ?_; rintro e w' ⟨rfl, rfl⟩)
            | (go_at_call 70; refine HPL.out.mono ?_; rintro e w' ⟨rfl, rfl⟩))
          go_quiet ((go_at_call 71; exact Calls.quiet_of_same (HAL.out _)))
          go_wp2
          go_ret
          exact ⟨rfl, HS0.out _⟩
    · obtain ⟨hA2, hA3⟩ : S.used + s.size ≤ S.room ∧ t.bytes.length + s.size ≤ 4194304 := by omega
      have e1 : appendS S x s = actS { putT S x { t with bytes := t.bytes ++ s.data.toList } with used := S.used + s.size } := by
        unfold appendS
        rw [if_neg hd, if_neg (by rw [hit']; simp), if_neg (by omega), ht]; exact if_neg (by omega)
      rw [e1] at hok ⊢
      have hok2 := ok_of_act hok
      have hsp := set_put h.ok (at_some ht).1 { t with bytes := t.bytes ++ s.data.toList }
      obtain ⟨S2, hS2⟩ : ∃ S2 : St, { putT S x { t with bytes := t.bytes ++ s.data.toList } with used := S.used + s.size } = S2 := ⟨_, rfl⟩
      have hS2d : S2.down = false := by rw [← hS2]; exact hd'
      have hS2f : S2.Fits N := by rw [← hS2]; exact hf
      obtain ⟨sf, hsf⟩ : ∃ sf : Nat, t.safe = sf := ⟨_, rfl⟩
      have ONTO : Hid (Onto S S S2 x s k y sf t) := by
        rw [← hS2, ← hsf]
        refine ⟨hk, by rw [List.getElem?_eq_getElem hk, he, ← hy, bt_list], ?_, ⟨rfl, rfl, rfl, rfl, rfl⟩, hok2, hfew, by omega⟩
        show (putT S x _).ents = _
        rw [← hsp, hkk, ← hy, bt_append, bt_list]
      rw [hS2]
      have HAC : Hid (∀ w', RStep w w' u v S2 → Calls Tryz.prog 74 #[.pointer (some ⟨u, 0, none⟩)] w' fun e w'' => e = .returned (.bool (decide ((actS S2).2 = 10))) ∧ RStep w w'' u v (actS S2).1) := fun w' hs => ract_step hs hS2d N hS2f hn
      have RW : Hid (∀ n, RefAt (w.drewN n) u v S) := fun n => h.drewN n
      rw [hylen] at hA3
      rw [hsf] at q2
      subst hvr
      obtain ⟨LL, hLL⟩ : ∃ LL, S.ents.length = LL := ⟨_, rfl⟩
      obtain ⟨US, hUS⟩ : ∃ US, S.used = US := ⟨_, rfl⟩
      obtain ⟨RM, hRM⟩ : ∃ RM, S.room = RM := ⟨_, rfl⟩
      rw [hLL] at c0 hfew hk; rw [hUS] at hA2 hmost HAL; rw [hRM] at hA2 c1 hroom
      have ew : IntKind.i64.wrap ((US : Int) + s.size) = (US : Int) + s.size := by rw [IntKind.wrap_i64]; omega
      have ew2 : IntKind.i64.wrap ((y.size : Int) + s.size) = (y.size : Int) + s.size := by rw [IntKind.wrap_i64]; omega
      have b0 : decide ((k : Int) < 0) = false := by simp
      have b1 : decide ((0 : Int) ≤ k) = true := by simp
      have ck0 : (0 : Int) ≤ (k : Int) := by omega
      have ck1 : (k : Int) < LL := by omega
      have a2 : decide ((RM : Int) < US + s.size) = false := by simp; omega
      have a3 : decide ((4194304 : Int) < s.size) = false := by simp; omega
      have a4 : decide ((4194304 : Int) < y.size + s.size) = false := by simp; omega
      clear h hd hd' e1 hok hf hit hit' hz ht hRM hul he hpl hy hylen hkk hA hok2 hsp hS2 hS2d hS2f hsf hok0 HS0 HS1 hUS hsafe
      go_enter Tryz.func24, Tryz.ntmps24
      go_wp2_with (first
        | (go_at_call 69; refine HRD.out.mono ?_; rintro e w' ⟨rfl, rfl⟩)
        | (go_at_call 70; refine HPL.out.mono ?_; rintro e w' ⟨rfl, rfl⟩))
      go_quiet ((go_at_call 71; exact Calls.quiet_of_same (HAL.out _)))
      obtain ⟨wq, hwq⟩ : ∃ wq, w.drewN nq = wq := ⟨_, rfl⟩
      obtain ⟨v1, hv1⟩ : ∃ v1, Value.slice (some ⟨gr, 0, none⟩) S.ents.length cr = v1 := ⟨_, rfl⟩
      have R1 : Hid (RefAt wq u v1 S) := by rw [← hwq, ← hv1]; exact RW.out _
      have OQ : Hid (Only (· = u) w wq) := by rw [← hwq]; exact (Only.refl _ _).drewN _
      have VQ : Hid (v1 = .slice (some ⟨gr, 0, none⟩) S.ents.length cr ∨ ∀ k, v1.ownBlock = some k → w.heap.size ≤ k) := .inl hv1.symm
      rw [hwq]
      clear hwq RW c0 c1 q0 q1 q2 ck0 ck1 hLL hv1
      obtain ⟨g, c, rfl, q0, q1, q2⟩ := ronto_reel ONTO.out R1.out
      obtain ⟨c0, -, -, -, -, -⟩ := R1.out.cells
      have hkl := ONTO.out.lt; have hf64 := ONTO.out.few; have hlen := ONTO.out.len
      have ck0 : (0 : Int) ≤ (k : Int) := by omega
      have ck1 : (k : Int) < S.ents.length := by omega
      have hcat : ¬ 9223372036854775807 < y.size + s.size := by omega
      have W0 : (wq.alloc (.cells #[.string x, .string (y ++ s), .int .i64 sf] 84)).cell? ⟨u, 0, none⟩ = some (.slice (some ⟨g, 0, none⟩) S.ents.length c) := (World.cell?_of_block (Below.heap_alloc _ _ _ R1.out.lt)).trans c0
      have GX : Hid (Blk (wq.alloc (.cells #[.string x, .string (y ++ s), .int .i64 sf] 84)) wq.heap.size 84 #[.string x, .string (y ++ s), .int .i64 sf]) := Blk.new _ _ _
      go_wp2
      go_region_with ((first
        | (go_at_call 73; refine (ronto_set ONTO.out R1.out ?_).mono ?_; (exact ((Below.refl _ _).alloc (Nat.le_refl _) _).drew); rintro e w' ⟨v', va, vn, vc, rfl, rfl, up, fz, hst⟩; have t0 := up ⟨u, 0, none⟩ _ W0; have t1 := up ⟨wq.heap.size, 0, none⟩ _ (Blk.cell GX.out 0); have t2 := up ⟨wq.heap.size, 1, none⟩ _ (Blk.cell GX.out 1); have t3 := up ⟨wq.heap.size, 2, none⟩ _ (Blk.cell GX.out 2); clear up)))
      all_goals
        rcases act_err S2 with ha | ha
        all_goals
          have HA := hid (HAC.out _ (RStep.next R1.out OQ.out VQ.out hst.out))
          rw [ha] at HA
          have HAE := hid ha
          clear ha
          go_wp2_with (go_at_call 74; refine HA.out.mono ?_; rintro e w6 ⟨rfl, h6⟩; have H6 := hid h6; clear h6)
          go_ret
          exact ⟨ret_int HAE.out.symm, H6.out⟩
end
end Go.Proofs.YtnhgfhbicaiilaaGreat
/- The reference's left. -/
namespace Go.Proofs.YtnhgfhbicaiilaaGreat
open Go.RowKit Reel
set_option linter.unusedVariables false
attribute [local go_sem ↓] Go.wp_at_zero Go.wp_at_succ

theorem left_plain (t : Spool) (f : Int) (h : ¬ ((kept f (t.bytes.length - t.safe)).2 = true ∧ 0 < (kept f (t.bytes.length - t.safe)).1)) : left t f = ⟨t.bytes.take (t.safe + (kept f (t.bytes.length - t.safe)).1), (t.bytes.take (t.safe + (kept f (t.bytes.length - t.safe)).1)).length⟩ := by
  unfold left; simp only [if_neg h]
theorem left_torn (t : Spool) (f : Int) (h : (kept f (t.bytes.length - t.safe)).2 = true ∧ 0 < (kept f (t.bytes.length - t.safe)).1) : left t f = ⟨tear (t.bytes.take (t.safe + (kept f (t.bytes.length - t.safe)).1)), (tear (t.bytes.take (t.safe + (kept f (t.bytes.length - t.safe)).1))).length⟩ := by
  unfold left; simp only [if_pos h]
set_option maxRecDepth 100000 in
set_option maxHeartbeats 4000000 in
theorem rleft_any (e : Ent) (f : Int) (w : World) (h1 : -9223372036854775808 ≤ f) (h2 : f ≤ 9223372036854775807) (hs : e.2.safe ≤ e.2.bytes.length) (hl : e.2.bytes.length ≤ 4194304) :
    Calls Tryz.prog 63 #[.agg #[.string e.1, .string (bt e.2.bytes), .int .i64 e.2.safe], .int .i64 f] w fun en w' => en = .returned (.agg #[.string e.1, .string (bt (left e.2 f).bytes), .int .i64 (left e.2 f).safe]) ∧ Below w.heap.size w w' := by
  obtain ⟨x, t⟩ := e
  simp only at hs hl ⊢
  obtain ⟨y, hy⟩ : ∃ y, bt t.bytes = y := ⟨_, rfl⟩
  have hylen : t.bytes.length = y.size := by rw [← hy, bt_size]
  obtain ⟨n0, hn0⟩ : ∃ n0, (kept f (t.bytes.length - t.safe)).1 = n0 := ⟨_, rfl⟩
  obtain ⟨tn, htn⟩ : ∃ tn, (kept f (t.bytes.length - t.safe)).2 = tn := ⟨_, rfl⟩
  have hnle : n0 ≤ t.bytes.length - t.safe := by rw [← hn0]; exact kept_le _ _
  have hex : y.extract 0 (t.safe + n0) = bt (t.bytes.take (t.safe + n0)) := by rw [← hy]; exact bt_take _ _ (by omega)
  have hkept : (0 ≤ f ∧ tn = false ∧ (f = n0 ∨ (n0 = t.bytes.length - t.safe ∧ (n0 : Int) < f))) ∨ (f < 0 ∧ tn = true ∧ (f = -(n0 : Int) ∨ (n0 = t.bytes.length - t.safe ∧ f < -(n0 : Int)))) := by
    unfold kept at hn0 htn
    split at hn0
    · rename_i h0
      rw [if_pos h0] at htn
      simp only at hn0 htn
      left; refine ⟨h0, htn.symm, ?_⟩; omega
    · rename_i h0
      rw [if_neg h0] at htn
      right
      split at hn0
      · rename_i h3
        rw [if_pos h3] at htn
        simp only at hn0 htn
        refine ⟨by omega, htn.symm, ?_⟩; omega
      · rename_i h3
        rw [if_neg h3] at htn
        simp only at hn0 htn
        refine ⟨by omega, htn.symm, ?_⟩; omega
  by_cases htorn : tn = true ∧ 0 < n0
  · obtain ⟨rfl, hnp⟩ := htorn
    have hz : (t.bytes.take (t.safe + n0)).length = t.safe + n0 := by rw [List.length_take]; omega
    have hL : left t f = ⟨tear (t.bytes.take (t.safe + n0)), (tear (t.bytes.take (t.safe + n0))).length⟩ := by
      have := left_torn t f (by rw [hn0, htn]; exact ⟨rfl, hnp⟩)
      rw [hn0] at this; exact this
    have hzs : (y.extract 0 (t.safe + n0)).size = t.safe + n0 := by rw [hex, bt_size, hz]
    rw [hL, tear_len, hz]
    obtain ⟨Z, hZ⟩ : ∃ Z, t.safe + n0 = Z := ⟨_, rfl⟩
    have hsplit : ∃ A cb, t.bytes.take Z = A ++ [cb] ∧ A.length = Z - 1 := by
      have hne : t.bytes.take Z ≠ [] := by intro h0; have := congrArg List.length h0; rw [← hZ, hz] at this; simp at this; omega
      refine ⟨(t.bytes.take Z).dropLast, (t.bytes.take Z).getLast hne, (List.dropLast_concat_getLast hne).symm, ?_⟩
      rw [List.length_dropLast, ← hZ, hz]
    obtain ⟨A, cb, hA, hAl⟩ := hsplit
    have hzz : y.extract 0 Z = bt (A ++ [cb]) := by rw [← hZ, hex, hZ, hA]
    obtain ⟨z, hz2⟩ : ∃ z, y.extract 0 Z = z := ⟨_, rfl⟩
    have hzsz : z.size = Z := by rw [← hz2, ← hZ]; exact hzs
    have hzl : z.data.toList = A ++ [cb] := by rw [← hz2, hzz, bt_list]
    have hZ1 : 1 ≤ Z := by omega
    have HRES : Hid (z.extract 0 (Z - 1) ++ ⟨#[cb ^^^ 0x55]⟩ = bt (tear (t.bytes.take Z))) := by
      show z.extract 0 (Z - 1) ++ ⟨#[cb ^^^ 0x55]⟩ = bt (tear (t.bytes.take Z))
      rw [hA, tear_snoc]
      apply ba_ext
      rw [bt_list, ByteArray.data_append, Array.toList_append, ByteArray.data_extract, Array.toList_extract, hzl]
      simp [List.extract, ← hAl]
    have hgl : Z - 1 < z.size := by omega
    have hcb : z[Z - 1] = cb := by
      have h1 : z.data.toList[Z - 1]? = some cb := by rw [hzl, ← hAl]; simp
      rw [List.getElem?_eq_getElem (by simpa using hgl)] at h1
      injection h1
    simp only [hZ]
    rw [← HRES.out]
    show Calls _ _ _ _ fun en w' => en = .returned (.agg #[.string x, .string (z.extract 0 (Z - 1) ++ ⟨#[cb ^^^ 0x55]⟩), .int .i64 (Z : Int)]) ∧ _
    obtain ⟨sf, hsf⟩ : ∃ sf, t.safe = sf := ⟨_, rfl⟩
    rw [hsf] at hkept hs hnle hZ ⊢
    rw [hylen] at hkept hs hl hnle
    rw [hy]
    obtain ⟨K, hK⟩ : ∃ K, y.size - sf = K := ⟨_, rfl⟩
    have hsub : IntKind.i64.wrap ((y.size : Int) - sf) = (K : Int) := by rw [IntKind.wrap_i64]; omega
    rw [hK] at hkept hnle
    have HZE : Hid (y.extract 0 (sf + n0) = z) := by show y.extract 0 (sf + n0) = z; rw [hZ, hz2]
    have HZZ := hid hzsz
    have HCB : Hid (∀ h : z.size - 1 < z.size, z[z.size - 1]'h = cb) := fun h => by simp only [hzsz]; exact hcb
    have hle : sf + n0 ≤ y.size := by omega
    have hlei : (sf : Int) + n0 ≤ y.size := by omega
    have hz4 : z.size ≤ 4194304 := by rw [hzsz]; omega
    have hz1 : 1 ≤ z.size := by rw [hzsz]; exact hZ1
    have hw1 : IntKind.i64.wrap ((z.size : Int) - 1) = ((z.size - 1 : Nat) : Int) := by rw [IntKind.wrap_i64]; omega
    have hi0 : (0 : Int) ≤ (z.size : Int) - 1 := by omega
    have hi1 : ((z.size - 1 : Nat) : Int) < z.size := by omega
    have gz : decide ((0 : Int) < n0) = true := by simp; omega
    have HK := hid hK
    have HRZ : Hid (∀ R, z.extract 0 (z.size - 1) ++ ⟨#[cb ^^^ 0x55]⟩ = R → R.size = Z) := fun R hR => by
      rw [← hR, ByteArray.size_append, ByteArray.size_extract]
      show min (z.size - 1) z.size - 0 + 1 = Z
      omega
    have hx : ∀ h : z.size - 1 < z.size, bits .xor .u8 ((z[z.size - 1]'h).toNat : Int) 85 = ((cb ^^^ 0x55).toNat : Int) := fun h => by
      rw [HCB.out h, u8_xor _ _ (by omega) (by have := cb.toNat_lt; omega) (by omega) (by omega)]
      simp
    have hconv : (convert 77 9 (.slice (some ⟨w.heap.size + 1 + 1, 0, none⟩) 1 1)).run Tryz.prog (((w.alloc (.cells #[.string x, .string y, .int .i64 sf] 84)).alloc (.cells #[.string ⟨#[]⟩, .string ⟨#[]⟩, .int .i64 0] 84)).alloc (.cells #[.int .u8 ((cb.toNat ^^^ 85 : Nat) : Int)] 5)).drew = .ok (.string ⟨#[cb ^^^ 0x55]⟩) (((w.alloc (.cells #[.string x, .string y, .int .i64 sf] 84)).alloc (.cells #[.string ⟨#[]⟩, .string ⟨#[]⟩, .int .i64 0] 84)).alloc (.cells #[.int .u8 ((cb.toNat ^^^ 85 : Nat) : Int)] 5)).drew := by
      refine run_convert_bytes_back _ _ _ _ _ 1 [cb ^^^ 0x55] Tryz.underlying77 Tryz.underlying5 Tryz.underlying9 ?_
      intro j hj
      obtain rfl : j = 0 := by simpa using hj
      have := (Blk.new ((w.alloc (.cells #[.string x, .string y, .int .i64 sf] 84)).alloc (.cells #[.string ⟨#[]⟩, .string ⟨#[]⟩, .int .i64 0] 84)) 5 #[.int .u8 ((cb.toNat ^^^ 85 : Nat) : Int)]).cell 0
      simpa [Addr.add] using this
    clear hL hex hz hn0 htn hy hylen hsf hzs hZ hAl hzz hz2 hzsz hzl HRES hcb hgl hZ1 hK hA
    obtain ⟨hf0, hfn⟩ : f < 0 ∧ (f = -(n0 : Int) ∨ (n0 = K ∧ f < -(n0 : Int))) := by
      rcases hkept with ⟨_, h, _⟩ | ⟨h1, _, h2⟩
      · cases h
      · exact ⟨h1, h2⟩
    clear hkept
    rcases hfn with rfl | ⟨rfl, hfn⟩
    · have g0 : decide (-(n0 : Int) < 0) = true := by simp; omega
      have g1 : decide ((K : Int) < n0) = false := by simp; omega
      go_enter Tryz.func63, Tryz.ntmps63
      go_wp2_with fail
      rw [HZE.out]
      clear hle hlei hs
      go_region_with ((fail))
      obtain ⟨R, hR⟩ : ∃ R, z.extract 0 (z.size - 1) ++ ⟨#[cb ^^^ 0x55]⟩ = R := ⟨_, rfl⟩
      have HRS := hid (HRZ.out R hR)
      have HRR := hid hR
      rw [hR]
      clear hR hconv hx
      go_wp2
      exact bodyPost_ret (v := .agg #[.string x, .string R, .int .i64 (R.size : Int)]) (by simp [results, Tryz.results63, go_sem]) rfl ⟨by rw [HRS.out, ← HZZ.out, HRR.out], ((((Below.refl _ _).alloc (Nat.le_refl _) _).alloc (by simp) _).alloc (by simp; omega) _).drew⟩
    · have g0 : decide (f < 0) = true := by simp; omega
      by_cases hfm : f = -9223372036854775808
      · subst hfm
        have g3 : wrap64 9223372036854775808 = -9223372036854775808 := by decide +kernel
        go_enter Tryz.func63, Tryz.ntmps63
        go_wp2_with fail
        rw [HZE.out]
        clear hle hlei hs
        go_region_with ((fail))
        obtain ⟨R, hR⟩ : ∃ R, z.extract 0 (z.size - 1) ++ ⟨#[cb ^^^ 0x55]⟩ = R := ⟨_, rfl⟩
        have HRS := hid (HRZ.out R hR)
        have HRR := hid hR
        rw [hR]
        clear hR hconv hx
        go_wp2
        exact bodyPost_ret (v := .agg #[.string x, .string R, .int .i64 (R.size : Int)]) (by simp [results, Tryz.results63, go_sem]) rfl ⟨by rw [HRS.out, ← HZZ.out, HRR.out], ((((Below.refl _ _).alloc (Nat.le_refl _) _).alloc (by simp) _).alloc (by simp; omega) _).drew⟩
      · have g1 : decide ((n0 : Int) < -f) = true := by simp; omega
        have g2 : IntKind.i64.wrap (-f) = -f := by rw [IntKind.wrap_i64]; omega
        go_enter Tryz.func63, Tryz.ntmps63
        go_wp2_with fail
        rw [HZE.out]
        clear hle hlei hs
        go_region_with ((fail))
        obtain ⟨R, hR⟩ : ∃ R, z.extract 0 (z.size - 1) ++ ⟨#[cb ^^^ 0x55]⟩ = R := ⟨_, rfl⟩
        have HRS := hid (HRZ.out R hR)
        have HRR := hid hR
        rw [hR]
        clear hR hconv hx
        go_wp2
        exact bodyPost_ret (v := .agg #[.string x, .string R, .int .i64 (R.size : Int)]) (by simp [results, Tryz.results63, go_sem]) rfl ⟨by rw [HRS.out, ← HZZ.out, HRR.out], ((((Below.refl _ _).alloc (Nat.le_refl _) _).alloc (by simp) _).alloc (by simp; omega) _).drew⟩
  · have hL : left t f = ⟨t.bytes.take (t.safe + n0), (t.bytes.take (t.safe + n0)).length⟩ := by
      have := left_plain t f (by rw [hn0, htn]; exact htorn)
      rw [hn0] at this; exact this
    have hz : (t.bytes.take (t.safe + n0)).length = t.safe + n0 := by rw [List.length_take]; omega
    rw [hL, ← hex, hz]
    have HEX : Hid ((y.extract 0 (t.safe + n0)).size = t.safe + n0) := by show _ = _; rw [hex, bt_size, hz]
    obtain ⟨sf, hsf⟩ : ∃ sf, t.safe = sf := ⟨_, rfl⟩
    rw [hsf] at hkept hs hnle HEX ⊢
    rw [hylen] at hkept hs hl hnle
    rw [hy]
    obtain ⟨K, hK⟩ : ∃ K, y.size - sf = K := ⟨_, rfl⟩
    have hsub : IntKind.i64.wrap ((y.size : Int) - sf) = (K : Int) := by rw [IntKind.wrap_i64]; omega
    have hyk : (y.size : Int) = sf + K := by omega
    have HYK := hid hyk; have HSUB := hid hsub
    rw [hK] at hkept hnle
    clear hL hex hz hn0 htn hy hylen hsf hyk hsub
    have HMIN : Hid (min (sf + n0) y.size = sf + n0) := by show min (sf + n0) y.size = sf + n0; omega
    have hsub := HSUB.out
    have hle : sf + n0 ≤ y.size := by omega
    have hlei : (sf : Int) + n0 ≤ y.size := by omega
    rcases hkept with ⟨hf0, htf, hfn⟩ | ⟨hf0, htf, hfn⟩
    · rcases hfn with rfl | ⟨rfl, hfn⟩
      · have g0 : decide ((n0 : Int) < 0) = false := by simp
        have g1 : decide ((K : Int) < n0) = false := by simp; omega
        clear hK
        go_enter Tryz.func63, Tryz.ntmps63
        go_wp2_with fail
        first
          | exact bodyPost_ret (v := .agg #[.string x, .string (y.extract 0 (sf + n0)), .int .i64 ((sf : Int) + (n0 : Int))]) (by simp [results, Tryz.results63, go_sem]) rfl ⟨by rw [show ((sf : Int) + (n0 : Int)) = ((sf + n0 : Nat) : Int) by omega], ((Below.refl _ _).alloc (Nat.le_refl _) _).alloc (by simp) _⟩
          | exact bodyPost_ret (v := .agg #[.string x, .string (y.extract 0 sf), .int .i64 (sf : Int)]) (by simp [results, Tryz.results63, go_sem]) rfl ⟨rfl, ((Below.refl _ _).alloc (Nat.le_refl _) _).alloc (by simp) _⟩
      · have g0 : decide (f < 0) = false := by simp; omega
        have g1 : decide ((n0 : Int) < f) = true := by simp; omega
        clear hK
        go_enter Tryz.func63, Tryz.ntmps63
        go_wp2_with fail
        first
          | exact bodyPost_ret (v := .agg #[.string x, .string (y.extract 0 (sf + n0)), .int .i64 ((sf : Int) + (n0 : Int))]) (by simp [results, Tryz.results63, go_sem]) rfl ⟨by rw [show ((sf : Int) + (n0 : Int)) = ((sf + n0 : Nat) : Int) by omega], ((Below.refl _ _).alloc (Nat.le_refl _) _).alloc (by simp) _⟩
          | exact bodyPost_ret (v := .agg #[.string x, .string (y.extract 0 sf), .int .i64 (sf : Int)]) (by simp [results, Tryz.results63, go_sem]) rfl ⟨rfl, ((Below.refl _ _).alloc (Nat.le_refl _) _).alloc (by simp) _⟩
    · have hK0 : n0 = 0 ∧ K = 0 ∧ f < 0 := by
        have : ¬ 0 < n0 := fun h => htorn ⟨htf, h⟩
        refine ⟨by omega, ?_, hf0⟩
        rcases hfn with h | ⟨h, _⟩
        · omega
        · omega
      obtain ⟨hn00, hK00, hf0⟩ := hK0
      subst hn00 hK00
      have g0 : decide (f < 0) = true := by simp; omega
      clear hfn hK
      by_cases hfm : f = -9223372036854775808
      · subst hfm
        have g3 : wrap64 9223372036854775808 = -9223372036854775808 := by decide +kernel
        go_enter Tryz.func63, Tryz.ntmps63
        go_wp2_with fail
        first
          | exact bodyPost_ret (v := .agg #[.string x, .string (y.extract 0 (sf + 0)), .int .i64 ((sf : Int) + ((0 : Nat) : Int))]) (by simp [results, Tryz.results63, go_sem]) rfl ⟨by rw [show ((sf : Int) + ((0 : Nat) : Int)) = ((sf + 0 : Nat) : Int) by omega], ((Below.refl _ _).alloc (Nat.le_refl _) _).alloc (by simp) _⟩
          | exact bodyPost_ret (v := .agg #[.string x, .string (y.extract 0 sf), .int .i64 (sf : Int)]) (by simp [results, Tryz.results63, go_sem]) rfl ⟨rfl, ((Below.refl _ _).alloc (Nat.le_refl _) _).alloc (by simp) _⟩
      · have g1 : decide ((0 : Int) < -f) = true := by simp; omega
        have g2 : IntKind.i64.wrap (-f) = -f := by rw [IntKind.wrap_i64]; omega
        go_enter Tryz.func63, Tryz.ntmps63
        go_wp2_with fail
        first
          | exact bodyPost_ret (v := .agg #[.string x, .string (y.extract 0 (sf + 0)), .int .i64 ((sf : Int) + ((0 : Nat) : Int))]) (by simp [results, Tryz.results63, go_sem]) rfl ⟨by rw [show ((sf : Int) + ((0 : Nat) : Int)) = ((sf + 0 : Nat) : Int) by omega], ((Below.refl _ _).alloc (Nat.le_refl _) _).alloc (by simp) _⟩
          | exact bodyPost_ret (v := .agg #[.string x, .string (y.extract 0 sf), .int .i64 (sf : Int)]) (by simp [results, Tryz.results63, go_sem]) rfl ⟨rfl, ((Below.refl _ _).alloc (Nat.le_refl _) _).alloc (by simp) _⟩
end Go.Proofs.YtnhgfhbicaiilaaGreat
/- The reference's On. -/
namespace Go.Proofs.YtnhgfhbicaiilaaGreat
open Go.RowKit Reel
set_option linter.unusedVariables false

def onStep (fs : List Int) (s : List Ent × Nat) (e : Ent) : List Ent × Nat := if e.2.bytes.length = e.2.safe then (s.1 ++ [e], s.2) else (s.1 ++ [(e.1, left e.2 (fateOf fs s.2))], s.2 + 1)
def onF (fs : List Int) (L : List Ent) : List Ent × Nat := L.foldl (onStep fs) ([], 0)
theorem onF_snoc (fs : List Int) (L : List Ent) (e : Ent) : onF fs (L ++ [e]) = onStep fs (onF fs L) e := by unfold onF; rw [List.foldl_append]; rfl
theorem onF_len (fs : List Int) (L : List Ent) : (onF fs L).1.length = L.length ∧ (onF fs L).2 ≤ L.length := by
  suffices h : ∀ (L : List Ent) (s : List Ent × Nat), (L.foldl (onStep fs) s).1.length = s.1.length + L.length ∧ (L.foldl (onStep fs) s).2 ≤ s.2 + L.length by
    have := h L ([], 0); simpa [onF] using this
  intro L
  induction L with
  | nil => intro s; simp
  | cons e r ih =>
    intro s
    rw [List.foldl_cons]
    obtain ⟨h1, h2⟩ := ih (onStep fs s e)
    unfold onStep at h1 h2 ⊢
    split at h1
    · rename_i hc
      rw [if_pos hc] at h2 ⊢
      simp only [List.length_append, List.length_cons, List.length_nil] at h1 h2 ⊢
      exact ⟨by omega, by omega⟩
    · rename_i hc
      rw [if_neg hc] at h2 ⊢
      simp only [List.length_append, List.length_cons, List.length_nil] at h1 h2 ⊢
      exact ⟨by omega, by omega⟩
theorem onF_all (fs : List Int) : ∀ (l : List ByteArray) (ts : List Spool) (a : List Ent) (i : Nat), l.length = ts.length → ((l.zip ts).foldl (onStep fs) (a, i)).1 = a ++ l.zip (onT fs i ts)
  | [], [], a, i, _ => by simp [onT]
  | x :: l, t :: ts, a, i, h => by
    rw [List.zip_cons_cons, List.foldl_cons, onT]
    by_cases hc : t.bytes.length = t.safe
    · rw [if_pos hc]
      have e : onStep fs (a, i) (x, t) = (a ++ [(x, t)], i) := by unfold onStep; exact if_pos hc
      rw [e, onF_all fs l ts _ i (by simpa using h)]
      simp
    · rw [if_neg hc]
      have e : onStep fs (a, i) (x, t) = (a ++ [(x, left t (fateOf fs i))], i + 1) := by unfold onStep; exact if_neg hc
      rw [e, onF_all fs l ts _ (i + 1) (by simpa using h)]
      by_cases hf : fs = []
      · subst hf
        have hi : ∀ (ts : List Spool) (i j : Nat), onT [] i ts = onT [] j ts := by
          intro ts
          induction ts with
          | nil => intro i j; rfl
          | cons t r ih => intro i j; unfold onT; simp; rw [ih i j]
        rw [if_pos rfl, if_pos rfl, hi ts (i + 1) i]
        simp [fateOf]
      · rw [if_neg hf, if_neg hf]
        simp [fateOf, hf]
theorem on_ents (S : St) (hok : S.Ok) (fs : List Int) (hd : S.down = true) : (onS S fs).ents = (onF fs S.ents).1 := by
  unfold onS onF St.ents
  rw [if_neg (by rw [hd]; simp)]
  have := onF_all fs S.l S.ts [] 0 hok.len.symm
  rw [this]; rfl
theorem rvals3 (w : World) (g : Nat) (t : TypeId) (e e' : Ent) (h : Blk w g t #[.string e.1, .string (bt e.2.bytes), .int .i64 e.2.safe]) :
    Blk (((w.setCell ⟨g, 0, none⟩ (.string e'.1)).setCell ⟨g, 1, none⟩ (.string (bt e'.2.bytes))).setCell ⟨g, 2, none⟩ (.int .i64 e'.2.safe)) g t #[.string e'.1, .string (bt e'.2.bytes), .int .i64 e'.2.safe] := by
  have := ((h.set 0 (.string e'.1)).set 1 (.string (bt e'.2.bytes))).set 2 (.int .i64 e'.2.safe)
  simpa using this
theorem cellNew3s (w : World) (o : Obj) (e : Ent) (t : TypeId) : ∀ j u, (rcell e)[j]? = some u → ((w.alloc o).alloc (.cells #[.string e.1, .string (bt e.2.bytes), .int .i64 e.2.safe] t)).cell? ((⟨w.heap.size + 1, 0, none⟩ : Addr).add j) = some u := by
  have := cellNew3 (w.alloc o) e t
  rw [World.size_alloc] at this
  exact this
theorem cellNew3h (w : World) (H : Nat) (hH : w.heap.size = H) (e : Ent) (t : TypeId) : ∀ j u, (rcell e)[j]? = some u → (w.alloc (.cells #[.string e.1, .string (bt e.2.bytes), .int .i64 e.2.safe] t)).cell? ((⟨H, 0, none⟩ : Addr).add j) = some u := by
  subst hH; exact cellNew3 w e t
section
variable {w w1 w2 W : World} {u : Nat} {v v1 : Value} {S S1 : St} {x : ByteArray}
set_option maxRecDepth 100000 in
set_option maxHeartbeats 8000000 in
theorem ron_any (a : Option Addr) (n c : Nat) (fs : List Int) (h : RefAt w u v S) (hI : IntsAt w a n fs) (hFa : n ≠ 0 → ∀ b off, a = some ⟨b, off, none⟩ → b ≠ u) :
    Calls Tryz.prog 20 #[.pointer (some ⟨u, 0, none⟩), .slice a n c] w fun e w' => e = .returned (.tuple #[]) ∧ RStep w w' u v (onS S fs) := by
  obtain ⟨c0, -, c2, -, -, -⟩ := h.cells
  have f2 := Blk.frozen h.blk 2
  by_cases hd : S.down = true
  · rw [hd] at c2
    obtain ⟨i0, hi0, hz0, hz1, hz2⟩ := info_parts Tryz.infoRl
    have hfew := ents_few h.ok
    obtain ⟨W1, hW1⟩ : ∃ W1, w.setCell ⟨u, 2, none⟩ (.bool false) = W1 := ⟨_, rfl⟩
    obtain ⟨S1, hS1⟩ : ∃ S1 : St, { S with down := false } = S1 := ⟨_, rfl⟩
    have O1 : Only (· = u) w W1 := by rw [← hW1]; exact (Only.refl (· = u) w).setCell (p := ⟨u, 2, none⟩) (.inl rfl) _
    have hS1ok : S1.Ok := by rw [← hS1]; exact h.ok.with_ rfl rfl rfl h.ok.room
    have hS1e : S1.ents = S.ents := by rw [← hS1]; rfl
    have R1 : Hid (RefAt W1 u v S1) := by
      refine ⟨?_, by rw [hS1e]; exact own_only h.row O1 (fun k hk e => h.ne (by rw [hk, e])), hS1ok⟩
      have := Blk.set h.blk 2 (.bool false)
      rw [← hW1, ← hS1]; simpa using this
    have HO1 := hid O1
    have HIW : Hid (IntsAt W1 a n fs) := by
      obtain ⟨i1, i2, i3, i4⟩ := hI
      refine ⟨i1, i2, i3, ?_⟩
      by_cases hn0 : n = 0
      · exact .inl hn0
      · rcases i4 with i4 | ⟨b, off, ha, hc⟩
        · exact .inl i4
        · exact .inr ⟨b, off, ha, fun j hj => O1.cell (hc j hj) (fun e => hFa hn0 b off ha e)⟩
    have hfsn : fs.length = n := hI.1
    have hn63 := hI.2.1
    have HFS : Hid (∀ y ∈ fs, -9223372036854775808 ≤ y ∧ y ≤ 9223372036854775807) := hI.2.2.1
    have HEACH : Hid (∀ k (hk : k < S.ents.length), S.ents[k].2.bytes.length ≤ 4194304 ∧ S.ents[k].2.safe ≤ S.ents[k].2.bytes.length) := fun k hk => by
      obtain ⟨_, h2, e⟩ := ents_get (S := S) k hk
      rw [e]; exact h.ok.each _ (List.getElem_mem _)
    have HON : Hid ((onS S fs).ents = (onF fs S.ents).1) := on_ents S h.ok fs hd
    have HOK := hid (on_ok h.ok fs)
    have HAL : Hid (Alike16 S1 (onS S fs)) := by
      rw [← hS1]; unfold onS; rw [if_neg (by rw [hd]; simp)]; exact ⟨rfl, rfl, rfl, rfl, rfl⟩
    obtain ⟨S2, hS2⟩ : ∃ S2, onS S fs = S2 := ⟨_, rfl⟩
    rw [hS2] at HON HOK HAL ⊢
    obtain ⟨va, vc, rfl, hvc, -⟩ := own_reels h.row
    have HR : Hid (ReelsAt W1 va S.ents.length S.ents) := by
      obtain ⟨va', vc', e, -, hR'⟩ := own_reels R1.out.row
      rw [hS1e] at e hR'
      injection e with e1 e2 e3
      rw [e1]; exact hR'
    have hWsz : W1.heap.size = w.heap.size := by rw [← hW1]; simp [World.setCell]
    have HWSZ := hid hWsz
    have HFA := hid hFa
    have HS1E := hid hS1e
    have HW1 := hid hW1
    obtain ⟨L, hL⟩ : ∃ L, S.ents = L := ⟨_, rfl⟩
    have HLL := hid hL
    rw [hL] at hfew hvc HON HR HS1E c0
    have HEACH' : Hid (∀ k (hk : k < L.length), L[k].2.bytes.length ≤ 4194304 ∧ L[k].2.safe ≤ L[k].2.bytes.length) := by subst hL; exact HEACH
    have hwu : w.heap.size ≠ u := by have := h.lt; omega
    clear h hI hFa hW1 hS1 O1 hS1ok hS1e hS2 hWsz HEACH hL hd
    go_enter Tryz.func20, Tryz.ntmps20
    go_wp2_with fail
    rw [HW1.out]
    have hwsz := HWSZ.out
    go_loopw [4, 5, 6] (fun cv ov iv wr => ∃ (k : Nat), k ≤ L.length ∧ iv = .int .i64 k ∧ cv = .int .i64 (onF fs (L.take k)).2 ∧ Hid (wr.ownsRow w.heap.size 84 3 ov (onF fs (L.take k)).1.length (rvals (onF fs (L.take k)).1)) ∧ Hid (Below w.heap.size W1 wr)) (fun _ _ iv _ => L.length - (intOf iv).toNat)
    case atStart =>
      refine ⟨0, by omega, rfl, rfl, ?_, (Below.refl _ _).alloc (Nat.le_of_eq HWSZ.out.symm) _⟩
      have := World.ownsRow_made (e := 84) (size := 3) (base := w.heap.size) W1 #[] 0 (Nat.le_of_eq HWSZ.out.symm) (by unfold maxLen; omega) rfl
      rw [HWSZ.out] at this
      exact this
    case round =>
      obtain ⟨k, hk, rfl, rfl, HO, bel⟩ := hrel
      have hszr : w.heap.size ≤ wr.heap.size := by have := bel.out.size; rw [HWSZ.out] at this; exact this
      have RW : Hid (RefAt wr u (.slice va S.ents.length vc) S1) := R1.out.later (bel.out.mono (Nat.le_of_eq HWSZ.out))
      obtain ⟨d0, -, -, -, -, -⟩ := RW.out.cells
      rw [HLL.out] at d0
      obtain ⟨hl1, hl2⟩ := onF_len fs (L.take k)
      have hlen : (onF fs (L.take k)).1.length = k := by rw [hl1, List.length_take]; omega
      have hcnt : (onF fs (L.take k)).2 ≤ 64 := by rw [List.length_take] at hl2; omega
      have hle : (onF fs (L.take k)).1.length ≤ 64 := by omega
      by_cases hlt : k < L.length
      · have ck : (k : Int) < L.length := by omega
        have ck0 : (0 : Int) ≤ (k : Int) := by omega
        obtain ⟨g, rfl, hc0, hc1, hc2⟩ := (HR.out.later (Nat.le_of_eq HWSZ.out) bel.out).get hlt
        have hE := HEACH'.out k hlt
        have HT : Hid (onF fs (L.take (k + 1)) = onStep fs (onF fs (L.take k)) L[k]) := by
          show onF fs (L.take (k + 1)) = onStep fs (onF fs (L.take k)) L[k]
          rw [List.take_succ_eq_append_getElem hlt, onF_snoc]
        obtain ⟨y, hy⟩ : ∃ y, L[k] = y := ⟨_, rfl⟩
        rw [hy] at hc0 hc1 hc2 HT hE
        obtain ⟨hE1, hE2⟩ := hE
        have hbs : (bt y.2.bytes).size = y.2.bytes.length := bt_size _
        have HBS := hid hbs
        have hbz : (bt y.2.bytes).size ≤ 4194304 := by omega
        clear hy hl1 hl2 hbs
        obtain ⟨q, hq⟩ : ∃ q, (onF fs (L.take k)).2 = q := ⟨_, rfl⟩
        rw [hq] at hcnt ⊢
        by_cases hsafe : y.2.bytes.length = y.2.safe
        · have HE : Hid (onF fs (L.take (k + 1)) = ((onF fs (L.take k)).1 ++ [y], q)) := by
            show onF fs (L.take (k + 1)) = _
            rw [HT.out]; unfold onStep; rw [if_pos hsafe, hq]
          have g1 : ¬ (y.2.safe : Int) < (bt y.2.bytes).size := by rw [HBS.out]; omega
          have HOO : Hid (wr.ownsRow w.heap.size 84 3 u5 (onF fs (L.take k)).1.length (rvals (onF fs (L.take k)).1)) := HO
          have HOA : Hid (∀ o, (wr.alloc o).ownsRow w.heap.size 84 3 u5 (onF fs (L.take k)).1.length (rvals (onF fs (L.take k)).1)) := fun o => HO.out.alloc o
          have BELA : Hid (∀ o, Below w.heap.size W1 (wr.alloc o)) := fun o => bel.out.alloc hszr o
          clear HT hsafe hq hE1 hE2
          go_wp2_with (at_builtin; refine wpList_append_own _ rfl (.tmp 59) (.tmp 61) 57 rfl w.heap.size 84 i0 (.agg #[.string ⟨#[]⟩, .string ⟨#[]⟩, .int .i64 0]) 3 40 Tryz.underlying57 hi0 hz0 hz1 hz2 rfl (by decide) _ _ _ rfl ((HOA.out _).alloc _) _ 1 1 (rcell y) rfl rfl (cellNew3s _ _ _ _) (rcell_one y) (by unfold maxLen; omega) (by omega) (by simp; omega) ?_; intro v' w5 hown5 hgrow5 _; have bel5 := below_grown1 (BELA.out _) (HOA.out _) _ (by simp; omega) hgrow5; have HO5 := hid (own_reel_snoc hown5); have BEL5 := hid bel5; clear hown5 hgrow5 bel5)
          go_roundw
          case rel => exact ⟨k + 1, by omega, by go_num, by rw [HE.out], by rw [HE.out]; exact HO5, BEL5⟩
          case measure => simp [intOf]; omega
        · obtain ⟨fv, hfv⟩ : ∃ fv, fateOf fs q = fv := ⟨_, rfl⟩
          obtain ⟨y', hy'⟩ : ∃ y' : Ent, (y.1, left y.2 fv) = y' := ⟨_, rfl⟩
          have HE : Hid (onF fs (L.take (k + 1)) = ((onF fs (L.take k)).1 ++ [y'], q + 1)) := by
            show onF fs (L.take (k + 1)) = _
            rw [HT.out]; unfold onStep; rw [if_neg hsafe, hq, hfv, hy']
          have g1 : (y.2.safe : Int) < (bt y.2.bytes).size := by rw [HBS.out]; omega
          have hfb : -9223372036854775808 ≤ fv ∧ fv ≤ 9223372036854775807 := by
            rw [← hfv]; unfold fateOf
            split
            · omega
            · rename_i hne
              have hpos : 0 < fs.length := List.length_pos_iff.2 hne
              have hlt' : q % fs.length < fs.length := Nat.mod_lt _ hpos
              rw [List.getD_eq_getElem?_getD, List.getElem?_eq_getElem hlt']
              exact HFS.out _ (List.getElem_mem _)
          have HLF : Hid (∀ W', Calls Tryz.prog 63 #[.agg #[.string y.1, .string (bt y.2.bytes), .int .i64 y.2.safe], .int .i64 fv] W' fun en w' => en = .returned (.agg #[.string y'.1, .string (bt y'.2.bytes), .int .i64 y'.2.safe]) ∧ Below W'.heap.size W' w') := fun W' => by
            have := rleft_any y fv W' hfb.1 hfb.2 hE2 hE1
            rw [← hy']; exact this
          have HOA : Hid (∀ w4, Below (wr.alloc (.cells #[.string y.1, .string (bt y.2.bytes), .int .i64 y.2.safe] 84)).heap.size (wr.alloc (.cells #[.string y.1, .string (bt y.2.bytes), .int .i64 y.2.safe] 84)) w4 →
              Hid (Blk w4 wr.heap.size 84 #[.string y.1, .string (bt y.2.bytes), .int .i64 y.2.safe]) ∧
              Hid ((((w4.setCell ⟨wr.heap.size, 0, none⟩ (.string y'.1)).setCell ⟨wr.heap.size, 1, none⟩ (.string (bt y'.2.bytes))).setCell ⟨wr.heap.size, 2, none⟩ (.int .i64 y'.2.safe)).ownsRow w.heap.size 84 3 u5 (onF fs (L.take k)).1.length (rvals (onF fs (L.take k)).1)) ∧
              Hid (Below w.heap.size W1 (((w4.setCell ⟨wr.heap.size, 0, none⟩ (.string y'.1)).setCell ⟨wr.heap.size, 1, none⟩ (.string (bt y'.2.bytes))).setCell ⟨wr.heap.size, 2, none⟩ (.int .i64 y'.2.safe))) ∧ wr.heap.size + 1 ≤ w4.heap.size) := fun w4 hb => by
            have hbk : Blk w4 wr.heap.size 84 #[.string y.1, .string (bt y.2.bytes), .int .i64 y.2.safe] := (hb.block _ (by simp)).trans (Blk.new _ _ _)
            have ho3 : Only (· = wr.heap.size) w4 (((w4.setCell ⟨wr.heap.size, 0, none⟩ (.string y'.1)).setCell ⟨wr.heap.size, 1, none⟩ (.string (bt y'.2.bytes))).setCell ⟨wr.heap.size, 2, none⟩ (.int .i64 y'.2.safe)) := (((Only.refl (· = wr.heap.size) w4).setCell (p := ⟨wr.heap.size, 0, none⟩) (.inl rfl) _).setCell (p := ⟨wr.heap.size, 1, none⟩) (.inl rfl) _).setCell (p := ⟨wr.heap.size, 2, none⟩) (.inl rfl) _
            have hb4 : Below w.heap.size W1 w4 := (bel.out.alloc hszr _).trans (hb.mono (by simp; omega))
            refine ⟨hbk, own_only (own_below (HO.out.alloc _) hb) ho3 (fun q hq e => ?_), hb4.trans (ho3.below (fun q e => by rw [e]; exact hszr) ?_), ?_⟩
            · have := own_lt HO.out hq; rw [e] at this; omega
            · have := hb4.size; rw [HWSZ.out] at this; exact this
            · have := hb.size; simp at this; exact this
          clear HT hsafe hq hE1 hE2 hy'
          have hc64 : q < 64 ∨ 64 ≤ q := by omega
          have ew : IntKind.i64.wrap ((q : Int) + 1) = (q : Int) + 1 := by rw [IntKind.wrap_i64]; omega
          have hqn : ((q : Int) + 1) = ((q + 1 : Nat) : Int) := by omega
          have HQN := hid hqn
          clear hqn hc64
          by_cases hn0 : n = 0
          · have hfv0 : fv = 0 := by
              rw [← hfv]; unfold fateOf; rw [if_pos (by apply List.length_eq_zero_iff.1; omega)]
            subst hfv0
            have gn : ¬ (0 : Int) < n := by omega
            clear hfv hfb hn0
            go_wp2_with (first
              | (go_at_call 63; refine (HLF.out _).mono ?_; rintro e w4 ⟨rfl, hb4⟩; obtain ⟨B4, OW4, BE4, hs4⟩ := HOA.out w4 hb4; have z0 : w4.cell? ⟨wr.heap.size, 0, none⟩ = some (.string y.1) := Blk.cell B4.out 0; have z1 : w4.cell? ⟨wr.heap.size, 1, none⟩ = some (.string (bt y.2.bytes)) := Blk.cell B4.out 1; have z2 : w4.cell? ⟨wr.heap.size, 2, none⟩ = some (.int .i64 y.2.safe) := Blk.cell B4.out 2; have y0 : w4.frozen? ⟨wr.heap.size, 0, none⟩ = false := Blk.frozen B4.out 0; have y1 : w4.frozen? ⟨wr.heap.size, 1, none⟩ = false := Blk.frozen B4.out 1; have y2 : w4.frozen? ⟨wr.heap.size, 2, none⟩ = false := Blk.frozen B4.out 2; clear hb4)
              | (at_builtin; refine wpList_append_own _ rfl (.tmp 59) (.tmp 61) 57 rfl w.heap.size 84 i0 (.agg #[.string ⟨#[]⟩, .string ⟨#[]⟩, .int .i64 0]) 3 40 Tryz.underlying57 hi0 hz0 hz1 hz2 rfl (by decide) _ _ _ rfl (OW4.out.alloc _) _ 1 1 (rcell y') rfl rfl (cellNew3h _ _ (by simp [World.setCell]) _ _) (rcell_one y') (by unfold maxLen; omega) (by omega) (by simp [World.setCell]; omega) ?_; intro v' w5 hown5 hgrow5 _; have bel5 := below_grown1 BE4.out OW4.out _ (by simp [World.setCell]; omega) hgrow5; have HO5 := hid (own_reel_snoc hown5); have BEL5 := hid bel5; clear hown5 hgrow5 bel5))
            go_roundw
            case rel => exact ⟨k + 1, by omega, by go_num, by rw [HE.out]; go_num, by rw [HE.out]; exact HO5, BEL5⟩
            case measure => simp [intOf]; omega
          · obtain ⟨fb, foff, rfl, hfc⟩ : ∃ b off, a = some ⟨b, off, none⟩ ∧ ∀ j, j < n → wr.cell? ⟨b, off + j, none⟩ = some (.int .i64 (fs.getD j 0)) := by
              obtain ⟨-, -, -, i4⟩ := HIW.out
              rcases i4 with i4 | ⟨b, off, ha, hc⟩
              · exact absurd i4 hn0
              · refine ⟨b, off, ha, fun j hj => ?_⟩
                have hcj := hc j hj
                have hblt := World.block_lt_of_cell? _ _ hcj
                rw [HWSZ.out] at hblt
                exact (World.cell?_of_block (bel.out.block b hblt)).trans hcj
            obtain ⟨m, hm⟩ : ∃ m, q % n = m := ⟨_, rfl⟩
            have hmlt : m < n := by rw [← hm]; exact Nat.mod_lt _ (by omega)
            have hfcm := hfc m hmlt
            have hgd : fs.getD m 0 = fv := by
              rw [← hfv]; unfold fateOf
              rw [if_neg (by intro e; rw [e] at hfsn; simp at hfsn; omega), hfsn, hm]
            rw [hgd] at hfcm
            have hfca : (wr.alloc (.cells #[.string y.1, .string (bt y.2.bytes), .int .i64 y.2.safe] 84)).cell? ⟨fb, foff + m, none⟩ = some (.int .i64 fv) := (World.cell?_of_block (Below.heap_alloc _ _ _ (World.block_lt_of_cell? _ _ hfcm))).trans hfcm
            have tm : (q : Int).tmod (n : Int) = (m : Int) := by rw [← hm]; exact (Int.ofNat_tmod _ _).symm
            have gn : (0 : Int) < n := by omega
            have gn0 : ((n : Int) == 0) = false := by rw [beq_eq_false_iff_ne]; omega
            have gm0 : (0 : Int) ≤ (m : Int) := by omega
            have gm1 : (m : Int) < n := by omega
            clear hfv hfb hm hfc hgd
            go_wp2_with (first
              | (go_at_call 63; refine (HLF.out _).mono ?_; rintro e w4 ⟨rfl, hb4⟩; obtain ⟨B4, OW4, BE4, hs4⟩ := HOA.out w4 hb4; have z0 : w4.cell? ⟨wr.heap.size, 0, none⟩ = some (.string y.1) := Blk.cell B4.out 0; have z1 : w4.cell? ⟨wr.heap.size, 1, none⟩ = some (.string (bt y.2.bytes)) := Blk.cell B4.out 1; have z2 : w4.cell? ⟨wr.heap.size, 2, none⟩ = some (.int .i64 y.2.safe) := Blk.cell B4.out 2; have y0 : w4.frozen? ⟨wr.heap.size, 0, none⟩ = false := Blk.frozen B4.out 0; have y1 : w4.frozen? ⟨wr.heap.size, 1, none⟩ = false := Blk.frozen B4.out 1; have y2 : w4.frozen? ⟨wr.heap.size, 2, none⟩ = false := Blk.frozen B4.out 2; clear hb4)
              | (at_builtin; refine wpList_append_own _ rfl (.tmp 59) (.tmp 61) 57 rfl w.heap.size 84 i0 (.agg #[.string ⟨#[]⟩, .string ⟨#[]⟩, .int .i64 0]) 3 40 Tryz.underlying57 hi0 hz0 hz1 hz2 rfl (by decide) _ _ _ rfl (OW4.out.alloc _) _ 1 1 (rcell y') rfl rfl (cellNew3h _ _ (by simp [World.setCell]) _ _) (rcell_one y') (by unfold maxLen; omega) (by omega) (by simp [World.setCell]; omega) ?_; intro v' w5 hown5 hgrow5 _; have bel5 := below_grown1 BE4.out OW4.out _ (by simp [World.setCell]; omega) hgrow5; have HO5 := hid (own_reel_snoc hown5); have BEL5 := hid bel5; clear hown5 hgrow5 bel5))
            go_roundw
            case rel => exact ⟨k + 1, by omega, by go_num, by rw [HE.out]; go_num, by rw [HE.out]; exact HO5, BEL5⟩
            case measure => simp [intOf]; omega
      · have ck : ¬ (k : Int) < L.length := by omega
        have hall : L.take k = L := List.take_of_length_le (by omega)
        rw [hall] at HO
        have e0 : wr.frozen? ⟨u, 0, none⟩ = false := Blk.frozen RW.out.blk 0
        obtain ⟨oa, oc, rfl, hoc, -⟩ := own_reels HO.out
        have HFIN : Hid (RStep w (wr.setCell ⟨u, 0, none⟩ (.slice oa (onF fs L).1.length oc)) u (.slice va S.ents.length vc) S2) := by
          refine RStep.next R1.out HO1.out (.inl rfl) (R1.out.store (bel.out.mono (Nat.le_of_eq HWSZ.out)) ?_ HAL.out HON.out HOK.out)
          rw [HWSZ.out]; exact HO.out
        clear hall hlen
        go_wp2_with fail
        go_end0
        exact ⟨rfl, HFIN.out⟩
  · have hd' : S.down = false := by simpa using hd
    rw [hd'] at c2
    have e : onS S fs = S := by unfold onS; rw [if_pos hd']
    rw [e]
    have HS : Hid (RStep w w u v S) := ⟨v, h, Only.refl _ _, .inl rfl⟩
    clear h hI hFa hd hd' e c0
    go_enter Tryz.func20, Tryz.ntmps20
    go_wp2
    exact bodyPost_ret (results_none rfl _ _ _) rfl ⟨rfl, HS.out⟩
end
end Go.Proofs.YtnhgfhbicaiilaaGreat
/- The reference's body of records, and its errors ahead of the acts (layer 17). -/
namespace Go.Proofs.YtnhgfhbicaiilaaGreat
open Go.RowKit Book Reel
set_option linter.unusedVariables false

theorem bodyL_take (rs : List (List UInt8)) (k : Nat) (h : k < rs.length) : (rs.take (k + 1)).flatMap textL = (rs.take k).flatMap textL ++ textL rs[k] := by
  rw [List.take_succ_eq_append_getElem h, List.flatMap_append]; simp
theorem flat_le : ∀ (rs : List (List UInt8)) (k : Nat), (∀ x ∈ rs, x.length ≤ 262144) → ((rs.take k).flatMap textL).length ≤ k * 262148
  | [], k, _ => by simp
  | x :: r, 0, _ => by simp
  | x :: r, k + 1, h => by
    have := flat_le r k (fun y hy => h y (List.mem_cons_of_mem _ hy))
    have hx := h x (List.mem_cons_self ..)
    rw [List.take_succ_cons, List.flatMap_cons, List.length_append, textL_len]
    omega
set_option maxRecDepth 100000 in
set_option maxHeartbeats 4000000 in
theorem rbody_any (a : Option Addr) (n c : Nat) (rs : List ByteArray) (w : World) (hS : StrsAt w a n rs) (hn : n ≤ 64) (hsz : ∀ x ∈ rs, x.size ≤ 262144) :
    Calls Tryz.prog 92 #[.slice a n c] w fun e w' => e = .returned (.string (bx (bodyL (lists rs)))) ∧ Below w.heap.size w w' := by
  have hl : rs.length = n := hS.1
  have HL := hid hl
  have HS := hid hS; have HSZ := hid hsz
  have HB : Hid (bodyL (lists rs) = numL n ++ (lists rs).flatMap textL) := by show _ = _; unfold bodyL; rw [lists_len, HL.out]
  obtain ⟨Z, hZ⟩ : ∃ Z, bodyL (lists rs) = Z := ⟨_, rfl⟩
  rw [hZ] at HB ⊢
  have ew : IntKind.u32.wrap (n : Int) = n := by rw [IntKind.wrap_u32]; omega
  have HN := hid (rnumw_any n (by omega) w)
  have HST : Hid (∀ k, bx (numL n ++ ((lists rs).take k).flatMap textL) = bx (numL n ++ ((lists rs).take k).flatMap textL)) := fun _ => rfl
  have HSS : Hid (∀ k, (bx (numL n ++ ((lists rs).take k).flatMap textL)).size ≤ 4 + k * 262148) := fun k => by
    rw [bx_size, List.length_append, numL_len]
    have := flat_le (lists rs) k (fun x hx => by
      obtain ⟨y, hy, rfl⟩ := List.mem_map.1 hx
      have := HSZ.out y hy
      have e : y.data.toList.length = y.size := by rw [Array.length_toList]; rfl
      omega)
    omega
  obtain ⟨s0, hs0⟩ : ∃ s0, bx (numL n) = s0 := ⟨_, rfl⟩
  have HS0 := hid hs0
  rw [hs0] at HN
  clear hS hsz hZ hs0 hl HST
  go_enter Tryz.func92, Tryz.ntmps92
  go_wp2_with fail
  refine HN.out.mono ?_; rintro e w1 ⟨rfl, b1⟩
  have B1 := hid b1
  clear b1
  go_wp2_with fail
  go_loopw [3, 4] (fun sv iv wr => ∃ k : Nat, k ≤ n ∧ iv = .int .i64 k ∧ sv = .string (bx (numL n ++ ((lists rs).take k).flatMap textL)) ∧ Hid (Below w.heap.size w wr)) (fun _ iv _ => n - (intOf iv).toNat)
  case atStart => exact ⟨0, Nat.zero_le _, rfl, by rw [← HS0.out]; simp, B1⟩
  case round =>
    obtain ⟨k, hk, rfl, rfl, LX⟩ := hrel
    by_cases hlt : k < n
    · have ck : (k : Int) < n := by omega
      have ck0 : (0 : Int) ≤ (k : Int) := by omega
      obtain ⟨ab, aoff, rfl, hab, hac⟩ := strs_get HS.out hlt
      obtain ⟨x, hx⟩ : ∃ x, rs.getD k ByteArray.empty = x := ⟨_, rfl⟩
      rw [hx] at hac
      have hkl : k < rs.length := by rw [HL.out]; exact hlt
      have hxk : rs[k] = x := by rw [← hx, List.getD_eq_getElem?_getD, List.getElem?_eq_getElem hkl]; rfl
      have hxs : x.size ≤ 262144 := HSZ.out x (by rw [← hxk]; exact List.getElem_mem _)
      have hcell : wr.cell? ⟨ab, aoff + k, none⟩ = some (.string x) := (LX.out.cell hab).trans hac
      have HT := hid (rtextw_any x (by omega) wr)
      have HNX : Hid (bx (numL n ++ ((lists rs).take k).flatMap textL) ++ bx (textL x.data.toList) = bx (numL n ++ ((lists rs).take (k + 1)).flatMap textL)) := by
        show _ = _
        rw [bodyL_take _ _ (by rw [lists_len]; exact hkl), bx_append]
        have : (lists rs)[k]'(by rw [lists_len]; exact hkl) = x.data.toList := by unfold lists; rw [List.getElem_map, hxk]
        rw [this, List.append_assoc]
      have hz1 := HSS.out k
      obtain ⟨S, hSS⟩ : ∃ S, bx (numL n ++ ((lists rs).take k).flatMap textL) = S := ⟨_, rfl⟩
      obtain ⟨t, ht⟩ : ∃ t, bx (textL x.data.toList) = t := ⟨_, rfl⟩
      have htz : t.size ≤ 262148 := by
        rw [← ht, bx_size, textL_len]
        have e : x.data.toList.length = x.size := by rw [Array.length_toList]; rfl
        omega
      rw [hSS] at HNX hz1 ⊢
      rw [ht] at HT HNX
      have hcat : ¬ 9223372036854775807 < S.size + t.size := by omega
      clear hSS ht hx hxk hkl hac
      go_wp2_with (go_at_call 115; refine HT.out.mono ?_; rintro e w3 ⟨rfl, b3⟩; have B3 := hid (below_then LX.out b3); clear b3)
      go_roundw
      case rel => exact ⟨k + 1, by omega, by go_num, by rw [HNX.out], B3⟩
      case measure => simp [intOf]; omega
    · obtain rfl : k = n := by omega
      have ck : ¬ (k : Int) < k := by omega
      have HF : Hid (numL k ++ ((lists rs).take k).flatMap textL = Z) := by
        show _ = _
        rw [List.take_of_length_le (by rw [lists_len, HL.out]; exact Nat.le_refl _), HB.out]
      rw [HF.out]
      go_wp2
      go_ret
      exact ⟨rfl, LX.out⟩
theorem rbytes_any (a : Option Addr) (n c : Nat) (rs : List ByteArray) (w : World) (hS : StrsAt w a n rs) (hv : Valid (lists rs)) :
    Calls Tryz.prog 51 #[.slice a n c] w fun e w' => e = .returned (.string (bx (deedL crcP (lists rs)))) ∧ Below w.heap.size w w' := by
  have hn : n ≤ 64 := by have := hv.2.1; rw [lists_len] at this; have := hS.1; omega
  have HBD := hid (rbody_any a n c rs w hS hn (fun x hx => by
    have := hv.2.2.1 x.data.toList (List.mem_map.2 ⟨x, hx, rfl⟩)
    have e : x.data.toList.length = x.size := by rw [Array.length_toList]; rfl
    omega))
  have hbl := hv.2.2.2
  obtain ⟨Y, hY⟩ : ∃ Y, bodyL (lists rs) = Y := ⟨_, rfl⟩
  have HD : Hid (deedL crcP (lists rs) = numL Y.length ++ numL (crcP Y) ++ Y) := by show deedL crcP (lists rs) = _; unfold deedL frameL; rw [hY]
  rw [hY] at HBD hbl
  obtain ⟨D, hD⟩ : ∃ D, deedL crcP (lists rs) = D := ⟨_, rfl⟩
  rw [hD] at HD ⊢
  have hys := bx_size Y
  have hyl := bx_list Y
  have HN1 : Hid (∀ w', Calls Tryz.prog 93 #[.int .u32 Y.length] w' fun e w'' => e = .returned (.string (bx (numL Y.length))) ∧ Below w'.heap.size w' w'') := fun w' => rnumw_any _ (by omega) w'
  have HN2 : Hid (∀ w', Calls Tryz.prog 93 #[.int .u32 (crcP Y)] w' fun e w'' => e = .returned (.string (bx (numL (crcP Y)))) ∧ Below w'.heap.size w' w'') := fun w' => rnumw_any _ (crcP_ok.lt Y) w'
  have HSM : Hid (∀ w', Calls Tryz.prog 88 #[.string (bx Y)] w' fun e w'' => e = .returned (.int .u32 (crcP Y)) ∧ w' = w'') := fun w' => by have := rsum_any (bx Y) w' (by omega); rwa [hyl] at this
  have HCAT : Hid (bx (numL Y.length) ++ bx (numL (crcP Y)) ++ bx Y = bx D) := by show _ = _; rw [HD.out, bx_append, bx_append]
  have n1 : (bx (numL Y.length)).size = 4 := bx_size _
  have n2 : (bx (numL (crcP Y))).size = 4 := bx_size _
  obtain ⟨m, hm⟩ : ∃ m, crcP Y = m := ⟨_, rfl⟩
  rw [hm] at HN2 HSM HCAT n2
  obtain ⟨y, hy⟩ : ∃ y, bx Y = y := ⟨_, rfl⟩
  rw [hy] at HBD HSM HCAT hys
  rw [← hys] at HN1 HCAT n1
  have hyz : y.size ≤ 1048576 := by omega
  obtain ⟨s1, hs1⟩ : ∃ s1, bx (numL y.size) = s1 := ⟨_, rfl⟩
  obtain ⟨s2, hs2⟩ : ∃ s2, bx (numL m) = s2 := ⟨_, rfl⟩
  rw [hs1] at HN1 HCAT n1
  rw [hs2] at HN2 HCAT n2
  have ew : IntKind.u32.wrap (y.size : Int) = y.size := by rw [IntKind.wrap_u32]; omega
  have k1 : ¬ 9223372036854775807 < s1.size + s2.size := by omega
  have k2 : ¬ 9223372036854775807 < (s1 ++ s2).size + y.size := by rw [ByteArray.size_append]; omega
  clear hS hv hn hY hD hm hy hs1 hs2 hys hyl n1 n2 hbl HD
  go_enter Tryz.func51, Tryz.ntmps51
  go_wp2_with (first
    | (go_at_call 92; refine HBD.out.mono ?_; rintro e w1 ⟨rfl, b1⟩; have B1 := hid b1; clear b1)
    | (go_at_call 88; refine (HSM.out _).mono ?_; rintro e w' ⟨rfl, rfl⟩)
    | (go_at_call 93; with_reducible refine (HN2.out w2).mono ?_; rintro e w3 ⟨rfl, b3⟩; have B3 := hid (below_then B2.out b3); clear b3)
    | (go_at_call 93; refine (HN1.out _).mono ?_; rintro e w2 ⟨rfl, b2⟩; have B2 := hid (below_then B1.out b2); clear b2))
  go_ret
  refine ⟨?_, B3.out⟩
  show Ending.returned (.string (s1 ++ s2 ++ y)) = _
  rw [HCAT.out]
end Go.Proofs.YtnhgfhbicaiilaaGreat
/- The reference's errors ahead of the acts (layer 17). -/
namespace Go.Proofs.YtnhgfhbicaiilaaGreat
open Go.RowKit Book Reel
set_option linter.unusedVariables false

/-- the reference's book in memory -/
def RBk (w : World) (r u : Nat) (x : ByteArray) (life : Nat) (dead : Bool) : Prop := Blk w r 68 #[.pointer (some ⟨u, 0, none⟩), .string x, .int .i64 life, .bool dead]
def stateE (T : St) (life : Nat) (dead : Bool) : Bool := dead || T.down || decide (T.life ≠ life)
theorem readyS_err (T : St) (life : Nat) (dead : Bool) (rs : List (List UInt8)) : (readyS T life dead rs).2 = if (bodyE rs).2 = 0 ∧ stateE T life dead = true then 10 else (bodyE rs).2 := by
  unfold readyS stateE
  simp only [Bool.or_eq_true, decide_eq_true_eq, or_assoc]
theorem bodyE_long {rs : List (List UInt8)} (h1 : rs.length ≠ 0) (h2 : rs.length ≤ 64) (h3 : ∃ x ∈ rs, 262144 < x.length) : (bodyE rs).2 = 5 := by
  unfold bodyE; rw [if_neg h1, if_neg (by omega), if_pos h3]
theorem bodyE_big {rs : List (List UInt8)} (h1 : rs.length ≠ 0) (h2 : rs.length ≤ 64) (h3 : ¬ ∃ x ∈ rs, 262144 < x.length) : (bodyE rs).2 = if 1048576 < (bodyL rs).length then 5 else 0 := by
  unfold bodyE; rw [if_neg h1, if_neg (by omega), if_neg h3]; split <;> rfl
set_option maxRecDepth 100000 in
set_option maxHeartbeats 4000000 in
theorem rcheck_any (a : Option Addr) (n c : Nat) (rs : List ByteArray) (w : World) {u r : Nat} {v : Value} {T : St} {x : ByteArray} {life : Nat} {dead : Bool} (hR : RefAt w u v T) (hb : RBk w r u x life dead) (hS : StrsAt w a n rs) (hsz : ∀ x ∈ rs, x.size ≤ 9223372036854775807) :
    Calls Tryz.prog 50 #[.pointer (some ⟨r, 0, none⟩), .slice a n c] w fun e w' => e = .returned (.int .i64 (readyS T life dead (lists rs)).2) ∧ Below w.heap.size w w' := by
  have hl : rs.length = n := hS.1
  have hn63 := hS.2.1
  have HL := hid hl
  have HS := hid hS; have HSZ := hid hsz
  have HRD := hid (readyS_err T life dead (lists rs))
  obtain ⟨E, hE⟩ : ∃ E, (readyS T life dead (lists rs)).2 = E := ⟨_, rfl⟩
  rw [hE] at HRD ⊢
  have HDOWN : Hid (∀ w1 q, Below w.heap.size w w1 → Calls Tryz.prog 40 #[.pointer (some ⟨u, 0, none⟩)] (w1.drewN q) fun e w' => e = .returned (.bool T.down) ∧ w1.drewN q = w') := fun w1 q h => rdown_any ((hR.later h).drewN q)
  have HLIFE : Hid (∀ w1 q, Below w.heap.size w w1 → Calls Tryz.prog 44 #[.pointer (some ⟨u, 0, none⟩)] (w1.drewN q) fun e w' => e = .returned (.int .i64 T.life) ∧ w1.drewN q = w') := fun w1 q h => rlife_any ((hR.later h).drewN q)
  have HBK : Hid (∀ w1, Below w.heap.size w w1 → RBk w1 r u x life dead) := fun w1 h => Blk.only hb (Only.of_below h NoF) (fun e => e)
  clear hR hb hS hsz hE hl
  by_cases h0 : n = 0
  · subst h0
    have hE : Hid (E = 1) := by
      show E = 1
      rw [HRD.out]
      have : (bodyE (lists rs)).2 = 1 := by unfold bodyE; rw [if_pos (by rw [lists_len, HL.out])]
      rw [this, if_neg (by simp)]
    go_enter Tryz.func50, Tryz.ntmps50
    go_wp2
    go_ret
    exact ⟨ret_int (by rw [hE.out]), Below.refl _ _⟩
  have h0b : ((n : Int) == 0) = false := by rw [beq_eq_false_iff_ne]; omega
  by_cases h64 : 64 < n
  · have hE : Hid (E = 6) := by
      show E = 6
      rw [HRD.out]
      have : (bodyE (lists rs)).2 = 6 := by unfold bodyE; rw [if_neg (by rw [lists_len, HL.out]; exact h0), if_pos (by rw [lists_len, HL.out]; exact h64)]
      rw [this, if_neg (by simp)]
    have g : (64 : Int) < n := by omega
    go_enter Tryz.func50, Tryz.ntmps50
    go_wp2
    go_ret
    exact ⟨ret_int (by rw [hE.out]), Below.refl _ _⟩
  have g : ¬ (64 : Int) < n := by omega
  have H0 := hid h0; have H64 : Hid (n ≤ 64) := by show n ≤ 64; omega
  clear h0 h64
  go_enter Tryz.func50, Tryz.ntmps50
  go_wp2
  go_loopw [5] (fun iv wr => ∃ k : Nat, k ≤ n ∧ iv = .int .i64 k ∧ Hid (∀ j (h : j < rs.length), j < k → rs[j].size ≤ 262144) ∧ w = wr) (fun iv _ => n - (intOf iv).toNat)
  case atStart => exact ⟨0, Nat.zero_le _, rfl, (fun j h hj => by omega), rfl⟩
  case round =>
    obtain ⟨k, hk, rfl, HK, rfl⟩ := hrel
    by_cases hlt : k < n
    · have ck : (k : Int) < n := by omega
      have ck0 : (0 : Int) ≤ (k : Int) := by omega
      obtain ⟨ab, aoff, rfl, hab, hac⟩ := strs_get HS.out hlt
      obtain ⟨y, hy⟩ : ∃ y, rs.getD k ByteArray.empty = y := ⟨_, rfl⟩
      rw [hy] at hac
      have hkl : k < rs.length := by rw [HL.out]; exact hlt
      have hyk : rs[k] = y := by rw [← hy, List.getD_eq_getElem?_getD, List.getElem?_eq_getElem hkl]; rfl
      have HYK := hid hyk
      clear hy
      by_cases hlong : 262144 < y.size
      · have g1 : (262144 : Int) < y.size := by omega
        have hE : Hid (E = 5) := by
          show E = 5
          have : (bodyE (lists rs)).2 = 5 := bodyE_long (by rw [lists_len, HL.out]; exact H0.out) (by rw [lists_len, HL.out]; exact H64.out) ⟨y.data.toList, List.mem_map.2 ⟨y, by rw [← hyk]; exact List.getElem_mem _, rfl⟩, by
            have e : y.data.toList.length = y.size := by rw [Array.length_toList]; rfl
            omega⟩
          rw [HRD.out, this, if_neg (by simp)]
        clear hyk
        go_wp2
        go_ret
        exact ⟨ret_int (by rw [hE.out]), Below.refl _ _⟩
      · have g1 : ¬ (262144 : Int) < y.size := by omega
        clear hyk
        go_wp2
        go_roundw
        case rel =>
          refine ⟨k + 1, by omega, by go_num, fun j h hj => ?_, trivial⟩
          by_cases hjk : j < k
          · exact HK.out j h hjk
          · obtain rfl : j = k := by omega
            rw [HYK.out]; omega
        case measure => simp [intOf]; omega
    · obtain rfl : k = n := by omega
      have ck : ¬ (k : Int) < k := by omega
      have HALL : Hid (∀ x ∈ rs, x.size ≤ 262144) := fun x hx => by
        obtain ⟨j, hj, rfl⟩ := List.getElem_of_mem hx
        exact HK.out j hj (by rw [← HL.out]; exact hj)
      have HBD := hid (rbody_any a k c rs w HS.out H64.out HALL.out)
      have HBE : Hid ((bodyE (lists rs)).2 = if 1048576 < (bodyL (lists rs)).length then 5 else 0) := bodyE_big (by rw [lists_len, HL.out]; exact H0.out) (by rw [lists_len, HL.out]; exact H64.out) (by
        rintro ⟨x, hx, hx2⟩
        obtain ⟨y, hy, rfl⟩ := List.mem_map.1 hx
        have := HALL.out y hy
        have e : y.data.toList.length = y.size := by rw [Array.length_toList]; rfl
        omega)
      have hbz := bx_size (bodyL (lists rs))
      obtain ⟨Y, hY⟩ : ∃ Y, bx (bodyL (lists rs)) = Y := ⟨_, rfl⟩
      rw [hY] at HBD hbz
      rw [← hbz] at HBE
      clear hbz hY
      by_cases hbig : 1048576 < Y.size
      · have g1 : (1048576 : Int) < Y.size := by omega
        have hE : Hid (E = 5) := by
          show E = 5
          have := HBE.out
          rw [if_pos hbig] at this
          rw [HRD.out, this, if_neg (by simp)]
        go_wp2_with (go_at_call 92; refine HBD.out.mono ?_; rintro e w1 ⟨rfl, b1⟩; have B1 := hid b1; clear b1)
        go_ret
        exact ⟨ret_int (by rw [hE.out]), B1.out⟩
      · have g1 : ¬ (1048576 : Int) < Y.size := by omega
        have hE : Hid (E = if stateE T life dead = true then 10 else 0) := by
          show E = _
          have := HBE.out
          rw [if_neg hbig] at this
          rw [HRD.out, this]
          simp
        clear hbig
        go_wp2_with (go_at_call 92; refine HBD.out.mono ?_; rintro e w1 ⟨rfl, b1⟩; have B1 := hid b1; have hBK := HBK.out w1 b1; have c0 : w1.cell? ⟨r, 0, none⟩ = some (.pointer (some ⟨u, 0, none⟩)) := hBK.cell 0; have c2 : w1.cell? ⟨r, 2, none⟩ = some (.int .i64 life) := hBK.cell 2; have c3 : w1.cell? ⟨r, 3, none⟩ = some (.bool dead) := hBK.cell 3; clear b1 hBK)
        obtain ⟨dn, hdn⟩ : ∃ dn, T.down = dn := ⟨_, rfl⟩
        obtain ⟨lf, hlf⟩ : ∃ lf, T.life = lf := ⟨_, rfl⟩
        have hE2 : Hid (E = if (dead || dn || decide (lf ≠ life)) = true then 10 else 0) := by
          show E = _
          rw [hE.out]; unfold stateE; rw [hdn, hlf]
        have HD2 := hid (fun q => HDOWN.out w1 q B1.out)
        have HL2 := hid (fun q => HLIFE.out w1 q B1.out)
        rw [hdn] at HD2
        rw [hlf] at HL2
        clear hE hdn hlf HDOWN HLIFE
        have fin : ∀ q, Below w.heap.size w (w1.drewN q) := fun q => below_drewN B1.out q
        have FIN := hid fin
        clear fin
        have hcs : (dead = true ∧ True) ∨ (dead = false ∧ dn = true) ∨ (dead = false ∧ dn = false ∧ ((lf : Int) != (life : Int)) = true ∧ lf ≠ life) ∨ (dead = false ∧ dn = false ∧ ((lf : Int) != (life : Int)) = false ∧ lf = life) := by
          by_cases h : lf = life
          · cases dead <;> cases dn <;> simp [h]
          · cases dead <;> cases dn <;> simp [h] <;> omega
        rcases hcs with ⟨rfl, -⟩ | ⟨rfl, rfl⟩ | ⟨rfl, rfl, hl1, hl2⟩ | ⟨rfl, rfl, hl1, hl2⟩
        · have hF : Hid (E = 10) := by show E = 10; rw [hE2.out]; rfl
          clear hE2
          go_quiet (fail)
          go_wp2
          go_ret
          exact ⟨ret_int (by rw [hF.out]), FIN.out _⟩
        · have hF : Hid (E = 10) := by show E = 10; rw [hE2.out]; rfl
          clear hE2
          go_quiet (first | (go_at_call 40; exact Calls.quiet_of_same ((HD2.out _).mono fun _ _ h => ⟨h.1, h.2.symm⟩)))
          go_wp2
          go_ret
          exact ⟨ret_int (by rw [hF.out]), FIN.out _⟩
        · have hF : Hid (E = 10) := by show E = 10; rw [hE2.out]; simp [hl2]
          clear hE2 hl2
          go_quiet (first
            | (go_at_call 40; exact Calls.quiet_of_same ((HD2.out _).mono fun _ _ h => ⟨h.1, h.2.symm⟩))
            | (go_at_call 44; exact Calls.quiet_of_same ((HL2.out _).mono fun _ _ h => ⟨h.1, h.2.symm⟩)))
          go_wp2
          go_ret
          exact ⟨ret_int (by rw [hF.out]), FIN.out _⟩
        · have hF : Hid (E = 0) := by show E = 0; rw [hE2.out]; simp [hl2]
          clear hE2 hl2
          go_quiet (first
            | (go_at_call 40; exact Calls.quiet_of_same ((HD2.out _).mono fun _ _ h => ⟨h.1, h.2.symm⟩))
            | (go_at_call 44; exact Calls.quiet_of_same ((HL2.out _).mono fun _ _ h => ⟨h.1, h.2.symm⟩)))
          go_wp2
          go_ret
          exact ⟨ret_int (by rw [hF.out]), FIN.out _⟩
/-! states are sound behind each act -/
theorem ok_sees {S : St} (h : S.Ok) : Sees S (Reel.at_ S) := ⟨h, fun _ => rfl⟩
theorem ok_append {S : St} (h : S.Ok) (x s : ByteArray) : (appendS S x s).1.Ok := by
  by_cases hd : S.down = true
  · unfold appendS; rw [if_pos hd]; exact h
  · have hd : S.down = false := by cases e : S.down; rfl; exact absurd e hd
    by_cases hx : isName x = true
    · rcases append_sees (ok_sees h) hd s hx with ⟨-, e⟩ | ⟨-, e, -⟩ | ⟨-, e, -⟩
      · rw [e]; exact h
      · exact e.ok
      · exact e.ok
    · unfold appendS; rw [if_neg (by rw [hd]; simp), if_pos (by cases e : isName x; rfl; exact absurd e hx)]; exact h
theorem ok_sync {S : St} (h : S.Ok) (x : ByteArray) : (syncS S x).1.Ok := by
  by_cases hd : S.down = true
  · unfold syncS; rw [if_pos hd]; exact h
  · have hd : S.down = false := by cases e : S.down; rfl; exact absurd e hd
    cases ht : Reel.at_ S x with
    | none => unfold syncS; rw [if_neg (by rw [hd]; simp), ht]; exact h
    | some t => rcases sync_sees (ok_sees h) hd ht with ⟨-, e, -⟩ | ⟨-, e, -⟩ <;> exact e.ok
theorem ok_drop {S : St} (h : S.Ok) (x : ByteArray) : (dropS S x).1.Ok := by
  by_cases hd : S.down = true
  · unfold dropS; rw [if_pos hd]; exact h
  · have hd : S.down = false := by cases e : S.down; rfl; exact absurd e hd
    cases ht : Reel.at_ S x with
    | none => unfold dropS; rw [if_neg (by rw [hd]; simp), ht]; exact h
    | some t => rcases drop_sees (ok_sees h) hd ht with ⟨-, e, -⟩ | ⟨-, e, -⟩ <;> exact e.ok
theorem ok_swap {S : St} (h : S.Ok) (x y : ByteArray) (hy : isName y = true) (hne : x ≠ y) : (swapS S x y).1.Ok := by
  by_cases hd : S.down = true
  · unfold swapS; rw [if_pos hd]; exact h
  · have hd : S.down = false := by cases e : S.down; rfl; exact absurd e hd
    cases ht : Reel.at_ S x with
    | none => unfold swapS; rw [if_neg (by rw [hd]; simp), ht]; exact h
    | some t => rcases swap_sees (ok_sees h) hd ht hy hne with ⟨-, e, -⟩ | ⟨-, e, -⟩ <;> exact e.ok
theorem ok_cut {S : St} (h : S.Ok) (x : ByteArray) (n : Nat) (hn : n ≤ (readS S x).1.length) : (cutS S x n).1.Ok := by
  by_cases hd : S.down = true
  · unfold cutS; rw [if_pos hd]; exact h
  · have hd : S.down = false := by cases e : S.down; rfl; exact absurd e hd
    cases ht : Reel.at_ S x with
    | none => unfold cutS; rw [if_neg (by rw [hd]; simp), ht]; exact h
    | some t =>
      have hr : (readS S x).1 = t.bytes := by unfold readS; rw [if_neg (by rw [hd]; simp), ht]
      rw [hr] at hn
      rcases cut_sees (ok_sees h) hd ht n hn with ⟨-, e, -⟩ | ⟨-, e, -⟩ <;> exact e.ok
end Go.Proofs.YtnhgfhbicaiilaaGreat
/- The reference's deeds (layer 17). -/
namespace Go.Proofs.YtnhgfhbicaiilaaGreat
open Go.RowKit Book Reel
set_option linter.unusedVariables false

/-- the reference's book and disk, since w0 -/
def BStep (w0 w : World) (u r : Nat) (v0 : Value) (T : St) (x : ByteArray) (life : Nat) (dead : Bool) : Prop :=
  ∃ v, RefAt w u v T ∧ RBk w r u x life dead ∧ Only (fun k => k = u ∨ k = r) w0 w ∧ (v = v0 ∨ ∀ k, v.ownBlock = some k → w0.heap.size ≤ k)
section
variable {w0 w w' : World} {u r n : Nat} {v0 : Value} {T T' : St} {x : ByteArray} {life : Nat} {dead : Bool}
theorem BStep.start {v : Value} (h : RefAt w u v T) (hb : RBk w r u x life dead) : BStep w w u r v T x life dead := ⟨v, h, hb, Only.refl _ _, .inl rfl⟩
theorem BStep.ok (h : BStep w0 w u r v0 T x life dead) : T.Ok := by obtain ⟨v, h1, -⟩ := h; exact h1.ok
theorem BStep.size (h : BStep w0 w u r v0 T x life dead) : w0.heap.size ≤ w.heap.size := by obtain ⟨v, -, -, h, -⟩ := h; exact h.size
theorem BStep.below (h : BStep w0 w u r v0 T x life dead) (hb : Below w.heap.size w w') : BStep w0 w' u r v0 T x life dead := by
  obtain ⟨v, h1, h2, h3, h4⟩ := h
  exact ⟨v, h1.later hb, Blk.only h2 (Only.of_below hb NoF) (fun e => e), h3.then (Only.of_below hb _), h4⟩
theorem BStep.cells (h : BStep w0 w u r v0 T x life dead) : w.cell? ⟨r, 0, none⟩ = some (.pointer (some ⟨u, 0, none⟩)) ∧ w.cell? ⟨r, 1, none⟩ = some (.string x) ∧ w.cell? ⟨r, 2, none⟩ = some (.int .i64 life) ∧ w.cell? ⟨r, 3, none⟩ = some (.bool dead) := by
  obtain ⟨v, -, h2, -⟩ := h
  exact ⟨Blk.cell h2 0, Blk.cell h2 1, Blk.cell h2 2, Blk.cell h2 3⟩
theorem BStep.op {P : Program} {f : FuncId} {args : Array Value} {X : Ending} (h : BStep w0 w u r v0 T x life dead) (hur : u ≠ r) (hop : ∀ v, RefAt w u v T → Calls P f args w fun e w' => e = X ∧ RStep w w' u v T') : Calls P f args w fun e w' => e = X ∧ BStep w0 w' u r v0 T' x life dead := by
  obtain ⟨v1, a, b, c, d⟩ := h
  refine (hop v1 a).mono fun e w' ⟨he, v2, e1, e2, e3⟩ => ⟨he, v2, e1, Blk.only b e2 (fun e => hur e.symm), c.then (e2.mono (fun k hk => .inl hk)), ?_⟩
  rcases e3 with rfl | e3
  · exact d
  · exact .inr fun k hk => Nat.le_trans c.size (e3 k hk)
theorem BStep.kill (h : BStep w0 w u r v0 T x life dead) (hur : u ≠ r) (d : Bool) : BStep w0 (w.setCell ⟨r, 3, none⟩ (.bool d)) u r v0 T x life d := by
  obtain ⟨v1, a, b, c, e⟩ := h
  have ho : Only (· = r) w (w.setCell ⟨r, 3, none⟩ (.bool d)) := (Only.refl (· = r) w).setCell (p := ⟨r, 3, none⟩) (.inl rfl) _
  refine ⟨v1, ⟨Blk.only a.blk ho (fun e => hur e), own_only a.row ho (fun k hk e => own_blk_ne a.row b (by decide) (by rw [hk, e])), a.ok⟩, ?_, c.then (ho.mono (fun k hk => .inr hk)), e⟩
  have := Blk.set b 3 (.bool d)
  show Blk _ _ _ _; simpa using this
theorem rdone_any (e : Int) (h : BStep w0 w u r v0 T x life dead) (hur : u ≠ r) : Calls Tryz.prog 52 #[.pointer (some ⟨r, 0, none⟩), .int .i64 e] w fun en w' => en = .returned (.int .i64 e) ∧ BStep w0 w' u r v0 T x life (dead || decide (e = 10)) := by
  have c3 := h.cells.2.2.2
  have f3 : w.frozen? ⟨r, 3, none⟩ = false := by obtain ⟨v, -, h2, -⟩ := h; exact Blk.frozen h2 3
  have HK := hid (h.kill hur true)
  have HH := hid h
  clear h
  by_cases h10 : e = 10
  · subst h10
    go_enter Tryz.func52, Tryz.ntmps52
    go_wp2
    go_ret
    exact ⟨rfl, by simpa using HK.out⟩
  · have hb : (e == 10) = false := by simpa using h10
    have hd : (dead || decide (e = 10)) = dead := by simp [h10]
    rw [hd]
    clear h10 hd
    go_enter Tryz.func52, Tryz.ntmps52
    go_wp2
    go_ret
    exact ⟨rfl, HH.out⟩
theorem seq_last (F : St → St × Int) (S : St) (dead : Bool) : seqS [F] S dead = ((F S).1, (F S).2, dead || decide ((F S).2 = 10)) := by
  show (if (F S).2 = 0 then _ else _) = _
  split
  · rename_i h; rw [h]; show ((F S).1, (0 : Int), dead) = _; simp
  · rfl
theorem seq_more (F : St → St × Int) (r : List (St → St × Int)) (S : St) (dead : Bool) : seqS (F :: r) S dead = if (F S).2 = 0 then seqS r (F S).1 dead else ((F S).1, (F S).2, dead || decide ((F S).2 = 10)) := rfl
set_option maxRecDepth 100000 in
set_option maxHeartbeats 4000000 in
theorem radd_any (a : Option Addr) (m c : Nat) (rs : List ByteArray) (h : BStep w0 w u r v0 T x life dead) (hur : u ≠ r) (hf : T.Fits n) (hn : n + 3 < big) (hx : x.size ≤ 1000) (hS : StrsAt w a m rs) (hsz : ∀ x ∈ rs, x.size ≤ 9223372036854775807) :
    Calls Tryz.prog 11 #[.pointer (some ⟨r, 0, none⟩), .slice a m c] w fun e w' => e = .returned (.int .i64 (addB T x life dead (lists rs)).2.1) ∧ BStep w0 w' u r v0 (addB T x life dead (lists rs)).1 x life (addB T x life dead (lists rs)).2.2 := by
  have HCK : Hid (Calls Tryz.prog 50 #[.pointer (some ⟨r, 0, none⟩), .slice a m c] w fun e w' => e = .returned (.int .i64 (readyS T life dead (lists rs)).2) ∧ Below w.heap.size w w') := by
    obtain ⟨v1, h1, h2, -⟩ := h
    exact rcheck_any a m c rs w h1 h2 hS hsz
  have HH := hid h
  have HS := hid hS
  have HR := hid (readyS_err T life dead (lists rs))
  have HADD : Hid (addB T x life dead (lists rs) = if (readyS T life dead (lists rs)).2 = 0 then seqS (addL x (bx (readyS T life dead (lists rs)).1)) T dead else (T, (readyS T life dead (lists rs)).2, dead)) := rfl
  have HRE : Hid ((readyS T life dead (lists rs)).1 = frameL crcP (bodyE (lists rs)).1) := rfl
  obtain ⟨Z, hZ⟩ : ∃ Z, addB T x life dead (lists rs) = Z := ⟨_, rfl⟩
  rw [hZ] at HADD ⊢
  obtain ⟨E, hE⟩ : ∃ E, (readyS T life dead (lists rs)).2 = E := ⟨_, rfl⟩
  obtain ⟨y, hy⟩ : ∃ y, (readyS T life dead (lists rs)).1 = y := ⟨_, rfl⟩
  rw [hE] at HCK HR
  rw [hE, hy] at HADD
  rw [hy] at HRE
  clear h hS hsz hZ hE hy
  by_cases hE0 : E = 0
  · subst hE0
    have hb0 : (bodyE (lists rs)).2 = 0 := by
      have := HR.out
      split at this
      · cases this
      · exact this.symm
    obtain ⟨hval, hbe⟩ := bodyE_ok hb0
    have HVAL := hid hval
    have hyd : y = deedL crcP (lists rs) := by rw [HRE.out, hbe]; rfl
    have hyz : y.length ≤ 1048584 := by rw [hyd, deed_len]; have := hval.2.2.2; omega
    have HZ : Hid (Z = seqS (addL x (bx y)) T dead) := by have := HADD.out; rw [if_pos rfl] at this; exact this
    have HBY : Hid (∀ w1, Below w.heap.size w w1 → Calls Tryz.prog 51 #[.slice a m c] w1 fun e w' => e = .returned (.string (bx y)) ∧ Below w1.heap.size w1 w') := fun w1 hb => by
      rw [hyd]; exact rbytes_any a m c rs w1 (HS.out.later hb) HVAL.out
    have hys := bx_size y
    obtain ⟨Y, hY⟩ : ∃ Y, bx y = Y := ⟨_, rfl⟩
    rw [hY] at HBY HZ hys
    have hYz : Y.size ≤ 140737488355328 := by omega
    have HAP : Hid (∀ w1, BStep w0 w1 u r v0 T x life dead → Calls Tryz.prog 24 #[.pointer (some ⟨u, 0, none⟩), .string x, .string Y] w1 fun e w' => e = .returned (.int .i64 (appendS T x Y).2) ∧ BStep w0 w' u r v0 (appendS T x Y).1 x life dead) := fun w1 hb =>
      hb.op hur (fun v hv => rappend_any x Y hv n hf (by omega) (ok_append hv.ok x Y) (by omega) hYz)
    have HF2 : Hid ((appendS T x Y).1.Fits (n + 1)) := (append_near T x Y).fits hf
    have HZ2 : Hid (Z = if (appendS T x Y).2 = 0 then ((syncS (appendS T x Y).1 x).1, (syncS (appendS T x Y).1 x).2, dead || decide ((syncS (appendS T x Y).1 x).2 = 10)) else ((appendS T x Y).1, (appendS T x Y).2, dead || decide ((appendS T x Y).2 = 10))) := by
      show Z = _
      rw [HZ.out]; unfold addL; rw [seq_more, seq_last]
    obtain ⟨A, hA⟩ : ∃ A, appendS T x Y = A := ⟨_, rfl⟩
    rw [hA] at HAP HF2 HZ2
    have HSY : Hid (∀ w1, BStep w0 w1 u r v0 A.1 x life dead → Calls Tryz.prog 53 #[.pointer (some ⟨u, 0, none⟩), .string x] w1 fun e w' => e = .returned (.int .i64 (syncS A.1 x).2) ∧ BStep w0 w' u r v0 (syncS A.1 x).1 x life dead) := fun w1 hb =>
      hb.op hur (fun v hv => rsync_any x hv (n + 1) HF2.out (by omega) (ok_sync hv.ok x))
    obtain ⟨C, hC⟩ : ∃ C, syncS A.1 x = C := ⟨_, rfl⟩
    rw [hC] at HSY HZ2
    obtain ⟨A1, ea⟩ := A
    obtain ⟨C1, ec⟩ := C
    simp only at HAP HSY HZ2
    clear hA hC hval hbe hb0 hyd hyz hys hY HZ HADD HRE HR hf HF2
    go_enter Tryz.func11, Tryz.ntmps11
    go_wp2_with fail
    refine HCK.out.mono ?_; rintro e w1 ⟨rfl, b1⟩
    have B1 := hid b1; have H1 := hid (HH.out.below b1)
    have hc := H1.out.cells
    have hs0 : w1.cell? ⟨r, 0, none⟩ = some (.pointer (some ⟨u, 0, none⟩)) ∧ w1.cell? ⟨r, 1, none⟩ = some (.string x) := ⟨hc.1, hc.2.1⟩
    clear b1 hc
    go_wp2_with fail
    go_region_held3 (fun v => v.cell? ⟨r, 0, none⟩ = some (.pointer (some ⟨u, 0, none⟩)) ∧ v.cell? ⟨r, 1, none⟩ = some (.string x)) ((first | exact hs0 | exact hs1 | exact hs2 | go_keep)) ((first
      | (go_at_call 51; refine (HBY.out w1.drew B1.out.drew).mono ?_; rintro e w2 ⟨rfl, b2⟩; have H2 := hid ((H1.out.below ((Below.refl _ _).drew)).below b2); have hs1 : w2.cell? ⟨r, 0, none⟩ = some (.pointer (some ⟨u, 0, none⟩)) ∧ w2.cell? ⟨r, 1, none⟩ = some (.string x) := ⟨H2.out.cells.1, H2.out.cells.2.1⟩)
      | (go_at_call 24; refine (HAP.out w2 H2.out).mono ?_; rintro e w3 ⟨rfl, h3⟩; have H3 := hid h3; have hs2 : w3.cell? ⟨r, 0, none⟩ = some (.pointer (some ⟨u, 0, none⟩)) ∧ w3.cell? ⟨r, 1, none⟩ = some (.string x) := ⟨H3.out.cells.1, H3.out.cells.2.1⟩)))
    have HH3 := H3
    by_cases h0 : ea = 0
    · subst h0
      have HZ3 : Hid (Z = (C1, ec, dead || decide (ec = 10))) := by have := HZ2.out; rw [if_pos rfl] at this; exact this
      clear HZ2
      go_wp2_with fail
      go_region_held3 (fun v => v.cell? ⟨r, 0, none⟩ = some (.pointer (some ⟨u, 0, none⟩)) ∧ v.cell? ⟨r, 1, none⟩ = some (.string x)) ((first | exact hs2 | exact hs3 | exact hs4 | go_keep)) ((first
        | (go_at_call 53; refine (HSY.out _ (HH3.out.below ((Below.refl _ _).drew))).mono ?_; rintro e w4 ⟨rfl, h4⟩; have H4 := hid h4; have hs3 : w4.cell? ⟨r, 0, none⟩ = some (.pointer (some ⟨u, 0, none⟩)) ∧ w4.cell? ⟨r, 1, none⟩ = some (.string x) := ⟨H4.out.cells.1, H4.out.cells.2.1⟩)
        | (go_at_call 52; refine (rdone_any _ H4.out hur).mono ?_; rintro e w5 ⟨rfl, h5⟩; have H5 := hid h5; have hs4 : w5.cell? ⟨r, 0, none⟩ = some (.pointer (some ⟨u, 0, none⟩)) ∧ w5.cell? ⟨r, 1, none⟩ = some (.string x) := ⟨H5.out.cells.1, H5.out.cells.2.1⟩)))
      go_wp2_with fail
      go_ret
      rw [HZ3.out]
      exact ⟨rfl, H5.out⟩
    · have hb : (ea == 0) = false := by simpa using h0
      have HZ3 : Hid (Z = (A1, ea, dead || decide (ea = 10))) := by have := HZ2.out; rw [if_neg h0] at this; exact this
      clear HZ2 h0
      go_wp2_with (go_at_call 52; refine (rdone_any _ HH3.out hur).mono ?_; rintro e w5 ⟨rfl, h5⟩; have H5 := hid h5; clear h5)
      go_ret
      rw [HZ3.out]
      exact ⟨rfl, H5.out⟩
  · have hb : (E == 0) = false := by simpa using hE0
    have HZ3 : Hid (Z = (T, E, dead)) := by have := HADD.out; rw [if_neg hE0] at this; exact this
    clear HADD HR HRE hE0
    go_enter Tryz.func11, Tryz.ntmps11
    go_wp2_with fail
    refine HCK.out.mono ?_; rintro e w1 ⟨rfl, b1⟩
    have H1 := hid (HH.out.below b1)
    clear b1
    go_wp2_with fail
    go_ret
    rw [HZ3.out]
    exact ⟨rfl, H1.out⟩
end
end Go.Proofs.YtnhgfhbicaiilaaGreat
/- The reference's book renewed (layer 17). -/
namespace Go.Proofs.YtnhgfhbicaiilaaGreat
open Go.RowKit Book Reel
set_option linter.unusedVariables false

theorem tilde_ne (x : ByteArray) : tilde x ≠ x := by
  intro e
  have := congrArg ByteArray.size e
  rw [tilde_size] at this; omega
theorem ok_drop1 {S : St} (h : S.Ok) (x : ByteArray) : (drop1 S x).1.Ok := by
  unfold drop1; split
  · exact h
  · exact ok_drop h x
section
variable {w w' : World} {u r n : Nat} {v0 : Value} {T T' : St} {x : ByteArray} {life : Nat} {dead : Bool}
set_option maxRecDepth 100000 in
set_option maxHeartbeats 4000000 in
theorem rrenew_any (a : Option Addr) (m c : Nat) (rs : List ByteArray) (h : BStep w w u r v0 T x life dead) (hur : u ≠ r) (hf : T.Fits n) (hn : n + 5 < big) (hx : x.size ≤ 1000) (hxn : isName x = true) (hS : StrsAt w a m rs) (hsl : m ≠ 0 → ∀ b off, a = some ⟨b, off, none⟩ → b ≠ u ∧ b ≠ r) (hsz : ∀ x ∈ rs, x.size ≤ 9223372036854775807) :
    Calls Tryz.prog 13 #[.pointer (some ⟨r, 0, none⟩), .slice a m c] w fun e w' => e = .returned (.int .i64 (renewB T x life dead (lists rs)).2.1) ∧ BStep w w' u r v0 (renewB T x life dead (lists rs)).1 x life (renewB T x life dead (lists rs)).2.2 := by
  have HCK : Hid (Calls Tryz.prog 50 #[.pointer (some ⟨r, 0, none⟩), .slice a m c] w fun e w' => e = .returned (.int .i64 (readyS T life dead (lists rs)).2) ∧ Below w.heap.size w w') := by
    obtain ⟨v1, h1, h2, -⟩ := h
    exact rcheck_any a m c rs w h1 h2 hS hsz
  have HH := hid h
  have HS := hid hS
  have HR := hid (readyS_err T life dead (lists rs))
  have HADD : Hid (renewB T x life dead (lists rs) = if (readyS T life dead (lists rs)).2 = 0 then seqS (renewL x (tilde x) (bx (readyS T life dead (lists rs)).1)) T dead else (T, (readyS T life dead (lists rs)).2, dead)) := rfl
  have HRE : Hid ((readyS T life dead (lists rs)).1 = frameL crcP (bodyE (lists rs)).1) := rfl
  obtain ⟨Z, hZ⟩ : ∃ Z, renewB T x life dead (lists rs) = Z := ⟨_, rfl⟩
  rw [hZ] at HADD ⊢
  obtain ⟨E, hE⟩ : ∃ E, (readyS T life dead (lists rs)).2 = E := ⟨_, rfl⟩
  obtain ⟨y, hy⟩ : ∃ y, (readyS T life dead (lists rs)).1 = y := ⟨_, rfl⟩
  rw [hE] at HCK HR
  rw [hE, hy] at HADD
  rw [hy] at HRE
  clear h hS hsz hZ hE hy
  by_cases hE0 : E = 0
  · subst hE0
    have hb0 : (bodyE (lists rs)).2 = 0 := by
      have := HR.out
      split at this
      · cases this
      · exact this.symm
    obtain ⟨hval, hbe⟩ := bodyE_ok hb0
    have HVAL := hid hval
    have hyd : y = deedL crcP (lists rs) := by rw [HRE.out, hbe]; rfl
    have hyz : y.length ≤ 1048584 := by rw [hyd, deed_len]; have := hval.2.2.2; omega
    have HZ : Hid (Z = seqS (renewL x (tilde x) (bx y)) T dead) := by have := HADD.out; rw [if_pos rfl] at this; exact this
    have HBY : Hid (∀ w1 T1 d1, BStep w w1 u r v0 T1 x life d1 → Calls Tryz.prog 51 #[.slice a m c] w1 fun e w' => e = .returned (.string (bx y)) ∧ Below w1.heap.size w1 w') := fun w1 T1 d1 hb => by
      obtain ⟨v1, -, -, ho, -⟩ := hb
      rw [hyd]; exact rbytes_any a m c rs w1 (strs_only HS.out ho (fun hm b off e hk => by have := hsl hm b off e; omega)) HVAL.out
    have hys := bx_size y
    have htn := tilde_ne x
    have HTT : Hid (x ++ ⟨#[126]⟩ = tilde x) := rfl
    have htz := tilde_size x
    obtain ⟨t, ht⟩ : ∃ t, tilde x = t := ⟨_, rfl⟩
    rw [ht] at HZ htn HTT htz
    have htz2 : t.size ≤ 1001 := by omega
    have hcat : ¬ 9223372036854775807 < x.size + 1 := by omega
    obtain ⟨Y, hY⟩ : ∃ Y, bx y = Y := ⟨_, rfl⟩
    rw [hY] at HBY HZ hys
    have hYz : Y.size ≤ 140737488355328 := by omega
    have HSIZE : Hid (∀ w1, BStep w w1 u r v0 T x life dead → Calls Tryz.prog 27 #[.pointer (some ⟨u, 0, none⟩), .string t] w1 fun e w' => e = .returned (.int .i64 (sizeS T t)) ∧ BStep w w' u r v0 T x life dead) := fun w1 hb => by
      have hbb := hb
      obtain ⟨v1, h1, -⟩ := hb
      exact (rsize_any t h1).mono fun e w' ⟨he, q, hq⟩ => ⟨he, by rw [hq]; exact hbb.below (below_drewN (Below.refl _ _) q)⟩
    have HDROP : Hid (∀ w1, BStep w w1 u r v0 T x life dead → Calls Tryz.prog 41 #[.pointer (some ⟨u, 0, none⟩), .string t] w1 fun e w' => e = .returned (.int .i64 (dropS T t).2) ∧ BStep w w' u r v0 (dropS T t).1 x life dead) := fun w1 hb =>
      hb.op hur (fun v hv => rdrop_any t hv n hf (by omega) (ok_drop hv.ok t))
    have HD1 : Hid (drop1 T t = if sizeS T t < 0 then (T, 0) else dropS T t) := rfl
    have HF1 : Hid ((drop1 T t).1.Fits (n + 1)) := (drop1_near T t).fits hf
    obtain ⟨D, hD⟩ : ∃ D, drop1 T t = D := ⟨_, rfl⟩
    have HZA : Hid (Z = if D.2 = 0 then (if (appendS D.1 t Y).2 = 0 then (if (syncS (appendS D.1 t Y).1 t).2 = 0 then ((swapS (syncS (appendS D.1 t Y).1 t).1 t x).1, (swapS (syncS (appendS D.1 t Y).1 t).1 t x).2, dead || decide ((swapS (syncS (appendS D.1 t Y).1 t).1 t x).2 = 10)) else ((syncS (appendS D.1 t Y).1 t).1, (syncS (appendS D.1 t Y).1 t).2, dead || decide ((syncS (appendS D.1 t Y).1 t).2 = 10))) else ((appendS D.1 t Y).1, (appendS D.1 t Y).2, dead || decide ((appendS D.1 t Y).2 = 10))) else (D.1, D.2, dead || decide (D.2 = 10))) := by
      show Z = _
      rw [HZ.out]; unfold renewL; rw [seq_more, seq_more, seq_more, seq_last, hD]
    rw [hD] at HD1 HF1
    have HAP : Hid (∀ w1, BStep w w1 u r v0 D.1 x life dead → Calls Tryz.prog 24 #[.pointer (some ⟨u, 0, none⟩), .string t, .string Y] w1 fun e w' => e = .returned (.int .i64 (appendS D.1 t Y).2) ∧ BStep w w' u r v0 (appendS D.1 t Y).1 x life dead) := fun w1 hb =>
      hb.op hur (fun v hv => rappend_any t Y hv (n + 1) HF1.out (by omega) (ok_append hv.ok t Y) (by omega) hYz)
    have HF2 : Hid ((appendS D.1 t Y).1.Fits (n + 2)) := (append_near D.1 t Y).fits HF1.out
    obtain ⟨A, hA⟩ : ∃ A, appendS D.1 t Y = A := ⟨_, rfl⟩
    rw [hA] at HAP HF2 HZA
    have HSY : Hid (∀ w1, BStep w w1 u r v0 A.1 x life dead → Calls Tryz.prog 53 #[.pointer (some ⟨u, 0, none⟩), .string t] w1 fun e w' => e = .returned (.int .i64 (syncS A.1 t).2) ∧ BStep w w' u r v0 (syncS A.1 t).1 x life dead) := fun w1 hb =>
      hb.op hur (fun v hv => rsync_any t hv (n + 2) HF2.out (by omega) (ok_sync hv.ok t))
    have HF3 : Hid ((syncS A.1 t).1.Fits (n + 3)) := (sync_near A.1 t).fits HF2.out
    obtain ⟨C, hC⟩ : ∃ C, syncS A.1 t = C := ⟨_, rfl⟩
    rw [hC] at HSY HZA HF3
    have HSW : Hid (∀ w1, BStep w w1 u r v0 C.1 x life dead → Calls Tryz.prog 59 #[.pointer (some ⟨u, 0, none⟩), .string t, .string x] w1 fun e w' => e = .returned (.int .i64 (swapS C.1 t x).2) ∧ BStep w w' u r v0 (swapS C.1 t x).1 x life dead) := fun w1 hb =>
      hb.op hur (fun v hv => rswap_any t x hv (n + 3) HF3.out (by omega) (ok_swap hv.ok t x hxn htn) (by omega))
    obtain ⟨G, hG⟩ : ∃ G, swapS C.1 t x = G := ⟨_, rfl⟩
    rw [hG] at HSW HZA
    obtain ⟨D1, ed⟩ := D
    obtain ⟨A1, ea⟩ := A
    obtain ⟨C1, ec⟩ := C
    obtain ⟨G1, eg⟩ := G
    simp only at HAP HSY HSW HZA
    obtain ⟨zz, hzz⟩ : ∃ zz, sizeS T t = zz := ⟨_, rfl⟩
    rw [hzz] at HSIZE HD1
    clear hD hA hC hG hval hbe hb0 hyd hyz hys hY HZ HADD HRE HR hf HF1 HF2 HF3 htn htz ht hzz
    go_enter Tryz.func13, Tryz.ntmps13
    go_wp2_with fail
    refine HCK.out.mono ?_; rintro e w1 ⟨rfl, b1⟩
    have B1 := hid b1; have H1 := hid (HH.out.below b1)
    have c0 := H1.out.cells.1
    have c1 := H1.out.cells.2.1
    have HTX := HTT.out
    clear b1
    go_wp2_with fail
    refine (HSIZE.out w1 H1.out).mono ?_; rintro e w2 ⟨rfl, h2⟩
    have H2 := hid h2
    have d0 := H2.out.cells.1
    clear h2 c0 c1 HTX
    go_upto_if 27 with fail
    go_cut [] (fun wx => ed = 0 ∧ Hid (BStep w wx u r v0 D1 x life dead))
    case first =>
      by_cases hz : zz < 0
      · have hge : ¬ (0 : Int) ≤ zz := by omega
        have he := HD1.out
        rw [if_pos hz] at he
        injection he with he1 he2
        subst he1 he2
        clear hz
        go_wp2_with fail
        go_meet
        case rel => exact ⟨trivial, H2⟩
      · have hge : (0 : Int) ≤ zz := by omega
        have he := HD1.out
        rw [if_neg hz] at he
        rw [← he] at HDROP
        simp only at HDROP
        clear hz he HD1
        go_wp2_with fail
        refine (HDROP.out w2 H2.out).mono ?_; rintro e w3 ⟨rfl, h3⟩
        have H3 := hid h3
        clear h3
        by_cases h0 : ed = 0
        · subst h0
          go_wp2_with fail
          go_meet
          case rel => exact ⟨trivial, H3⟩
        · have hb : (ed == 0) = false := by simpa using h0
          have HZ3 : Hid (Z = (D1, ed, dead || decide (ed = 10))) := by have := HZA.out; rw [if_neg h0] at this; exact this
          clear HZA h0
          go_wp2_with (go_at_call 52; refine (rdone_any _ H3.out hur).mono ?_; rintro e w5 ⟨rfl, h5⟩; have H5 := hid h5; clear h5)
          go_ret
          rw [HZ3.out]
          exact ⟨rfl, H5.out⟩
    case rest =>
    obtain ⟨rfl, H3⟩ := hcut
    have HZB : Hid (Z = if ea = 0 then if ec = 0 then (G1, eg, dead || decide (eg = 10)) else (C1, ec, dead || decide (ec = 10)) else (A1, ea, dead || decide (ea = 10))) := by have := HZA.out; rw [if_pos rfl] at this; exact this
    have hs0 : wc.cell? ⟨r, 0, none⟩ = some (.pointer (some ⟨u, 0, none⟩)) := H3.out.cells.1
    clear HZA HD1 HDROP HSIZE H2 d0 H1 HH B1
    go_upto_region 9 with fail
    go_region_held3 (fun v => v.cell? ⟨r, 0, none⟩ = some (.pointer (some ⟨u, 0, none⟩))) ((first | exact hs0 | exact hs1 | exact hs2 | go_keep)) ((first
      | (go_at_call 51; refine (HBY.out wc.drew _ _ (H3.out.below ((Below.refl _ _).drew))).mono ?_; rintro e w4 ⟨rfl, b4⟩; have H4 := hid ((H3.out.below ((Below.refl _ _).drew)).below b4); have hs1 : w4.cell? ⟨r, 0, none⟩ = some (.pointer (some ⟨u, 0, none⟩)) := H4.out.cells.1)
      | (go_at_call 24; refine (HAP.out w4 H4.out).mono ?_; rintro e w5 ⟨rfl, h5⟩; have H5 := hid h5; have hs2 : w5.cell? ⟨r, 0, none⟩ = some (.pointer (some ⟨u, 0, none⟩)) := H5.out.cells.1)))
    have HH5 := H5
    by_cases h0 : ea = 0
    · subst h0
      have HZC : Hid (Z = if ec = 0 then (G1, eg, dead || decide (eg = 10)) else (C1, ec, dead || decide (ec = 10))) := by have := HZB.out; rw [if_pos rfl] at this; exact this
      clear HZB
      go_wp2_with fail
      refine (HSY.out _ HH5.out).mono ?_; rintro e w6 ⟨rfl, h6⟩
      have H6 := hid h6
      have hc := h6.cells
      have hs3 : w6.cell? ⟨r, 0, none⟩ = some (.pointer (some ⟨u, 0, none⟩)) ∧ w6.cell? ⟨r, 1, none⟩ = some (.string x) := ⟨hc.1, hc.2.1⟩
      clear h6 hc hs2
      by_cases h0 : ec = 0
      · subst h0
        have HZ3 : Hid (Z = (G1, eg, dead || decide (eg = 10))) := by have := HZC.out; rw [if_pos rfl] at this; exact this
        clear HZC
        go_wp2_with fail
        go_region_held3 (fun v => v.cell? ⟨r, 0, none⟩ = some (.pointer (some ⟨u, 0, none⟩)) ∧ v.cell? ⟨r, 1, none⟩ = some (.string x)) ((first | exact hs3 | exact hs4 | exact hs5 | go_keep)) ((first
          | (go_at_call 59; refine (HSW.out _ (H6.out.below ((Below.refl _ _).drew))).mono ?_; rintro e w7 ⟨rfl, h7⟩; have H7 := hid h7; have hs4 : w7.cell? ⟨r, 0, none⟩ = some (.pointer (some ⟨u, 0, none⟩)) ∧ w7.cell? ⟨r, 1, none⟩ = some (.string x) := ⟨H7.out.cells.1, H7.out.cells.2.1⟩)
          | (go_at_call 52; refine (rdone_any _ H7.out hur).mono ?_; rintro e w8 ⟨rfl, h8⟩; have H8 := hid h8; have hs5 : w8.cell? ⟨r, 0, none⟩ = some (.pointer (some ⟨u, 0, none⟩)) ∧ w8.cell? ⟨r, 1, none⟩ = some (.string x) := ⟨H8.out.cells.1, H8.out.cells.2.1⟩)))
        go_wp2_with fail
        go_ret
        rw [HZ3.out]
        exact ⟨rfl, H8.out⟩
      · have hb : (ec == 0) = false := by simpa using h0
        have HZ3 : Hid (Z = (C1, ec, dead || decide (ec = 10))) := by have := HZC.out; rw [if_neg h0] at this; exact this
        clear HZC h0
        go_wp2_with (go_at_call 52; refine (rdone_any _ H6.out hur).mono ?_; rintro e w8 ⟨rfl, h8⟩; have H8 := hid h8; clear h8)
        go_ret
        rw [HZ3.out]
        exact ⟨rfl, H8.out⟩
    · have hb : (ea == 0) = false := by simpa using h0
      have HZ3 : Hid (Z = (A1, ea, dead || decide (ea = 10))) := by have := HZB.out; rw [if_neg h0] at this; exact this
      clear HZB h0
      go_wp2_with (go_at_call 52; refine (rdone_any _ HH5.out hur).mono ?_; rintro e w8 ⟨rfl, h8⟩; have H8 := hid h8; clear h8)
      go_ret
      rw [HZ3.out]
      exact ⟨rfl, H8.out⟩
  · have hb : (E == 0) = false := by simpa using hE0
    have HZ3 : Hid (Z = (T, E, dead)) := by have := HADD.out; rw [if_neg hE0] at this; exact this
    clear HADD HR HRE hE0
    go_enter Tryz.func13, Tryz.ntmps13
    go_wp2_with fail
    refine HCK.out.mono ?_; rintro e w1 ⟨rfl, b1⟩
    have H1 := hid (HH.out.below b1)
    clear b1
    go_wp2_with fail
    go_ret
    rw [HZ3.out]
    exact ⟨rfl, H1.out⟩
end
end Go.Proofs.YtnhgfhbicaiilaaGreat
/- The reference's book opened (layer 17). -/
namespace Go.Proofs.YtnhgfhbicaiilaaGreat
open Go.RowKit Book Reel
set_option linter.unusedVariables false

section
variable {w w1 w' : World} {u r n : Nat} {v : Value} {T S1 S2 : St} {x : ByteArray} {life : Nat} {dead : Bool}
theorem RStep.start (h : RefAt w u v T) : RStep w w u v T := ⟨v, h, Only.refl _ _, .inl rfl⟩
theorem RStep.op {P : Program} {f : FuncId} {args : Array Value} {X : Ending} (h : RStep w w1 u v S1) (hop : ∀ v1, RefAt w1 u v1 S1 → Calls P f args w1 fun e w' => e = X ∧ RStep w1 w' u v1 S2) : Calls P f args w1 fun e w' => e = X ∧ RStep w w' u v S2 := by
  obtain ⟨v1, a, b, c⟩ := h
  exact (hop v1 a).mono fun e w' ⟨he, hs⟩ => ⟨he, RStep.next a b c hs⟩
theorem RStep.below (h : RStep w w1 u v S1) (hb : Below w1.heap.size w1 w') : RStep w w' u v S1 := by
  obtain ⟨v1, a, b, c⟩ := h
  exact ⟨v1, a.later hb, b.then (Only.of_below hb _), c⟩
theorem RStep.size (h : RStep w w1 u v S1) : w.heap.size ≤ w1.heap.size := by obtain ⟨v1, a, b, c⟩ := h; exact b.size
theorem RStep.lt (h : RStep w w1 u v S1) : u < w1.heap.size := by obtain ⟨v1, a, b, c⟩ := h; exact a.lt
def ROpenPost (w : World) (u : Nat) (v : Value) (T : St) (x : ByteArray) (e : Ending) (w' : World) : Prop :=
  ((openS T x).2.1 = 0 ∧ ∃ r a c, e = .returned (.tuple #[.pointer (some ⟨r, 0, none⟩), .slice a (openS T x).2.2.length c, .int .i64 0]) ∧ RBk w' r u x (openS T x).1.life false ∧ w.heap.size ≤ r
      ∧ GridIn (fun k => w.heap.size ≤ k ∧ k < w'.heap.size) w' a (openS T x).2.2.length (grid (openS T x).2.2))
  ∨ ((openS T x).2.1 ≠ 0 ∧ e = .returned (.tuple #[.pointer none, .slice none 0 0, .int .i64 (openS T x).2.1]))
set_option maxRecDepth 100000 in
set_option maxHeartbeats 4000000 in
theorem ropen_any (h : RefAt w u v T) (hf : T.Fits n) (hn : n + 3 < big) (hx1 : 1 ≤ x.size) (hx2 : x.size ≤ 31) :
    Calls Tryz.prog 8 #[.pointer (some ⟨u, 0, none⟩), .string x] w fun e w' => ROpenPost w u v T x e w' ∧ RStep w w' u v (openS T x).1 := by
  have HDN := hid (rdown_any h)
  have H0 := hid (RStep.start h)
  obtain ⟨dn, hdn⟩ : ∃ dn, T.down = dn := ⟨_, rfl⟩
  rw [hdn] at HDN
  cases dn
  case true =>
    have e : openS T x = (T, 10, []) := by unfold openS; exact if_pos hdn
    unfold ROpenPost
    rw [e]
    clear h hdn e
    go_enter Tryz.func8, Tryz.ntmps8
    go_wp2_with (go_at_call 40; refine HDN.out.mono ?_; rintro e w' ⟨rfl, rfl⟩)
    go_ret3
    exact ⟨.inr ⟨by simp, rfl⟩, H0.out⟩
  case false =>
  have HOP : Hid (openS T x = if (openA T x).2 ≠ 0 then ((openA T x).1, (openA T x).2, []) else if (openB (openA T x).1 x).2 ≠ 0 then ((openB (openA T x).1 x).1, (openB (openA T x).1 x).2, []) else ((openB (openA T x).1 x).1, 0, (openR (openA T x).1 x).1)) := by
    show openS T x = _
    unfold openS
    rw [if_neg (by rw [hdn]; simp), if_neg (by omega)]
  have HOA : Hid (openA T x = if 0 ≤ sizeS T (tilde x) then dropS T (tilde x) else (T, 0)) := rfl
  have HTT : Hid (x ++ ⟨#[126]⟩ = tilde x) := rfl
  obtain ⟨t, ht⟩ : ∃ t, tilde x = t := ⟨_, rfl⟩
  rw [ht] at HOA HTT
  have hcat : ¬ 9223372036854775807 < x.size + 1 := by omega
  have HSIZE : Hid (Calls Tryz.prog 27 #[.pointer (some ⟨u, 0, none⟩), .string t] w fun e w' => e = .returned (.int .i64 (sizeS T t)) ∧ RStep w w' u v T) :=
    (rsize_any t h).mono fun e w' ⟨he, q, hq⟩ => ⟨he, by rw [hq]; exact H0.out.below (below_drewN (Below.refl _ _) q)⟩
  have HDROP : Hid (∀ w1, RStep w w1 u v T → Calls Tryz.prog 41 #[.pointer (some ⟨u, 0, none⟩), .string t] w1 fun e w' => e = .returned (.int .i64 (dropS T t).2) ∧ RStep w w' u v (dropS T t).1) := fun w1 hb =>
    hb.op (fun v1 hv => rdrop_any t hv n hf (by omega) (ok_drop hv.ok t))
  have HFA : Hid ((openA T x).1.Fits (n + 1)) := (openA_near T x).fits hf
  have HOB : Hid (openB (openA T x).1 x = if (openR (openA T x).1 x).2 < (readS (openA T x).1 x).1.length then cutS (openA T x).1 x (openR (openA T x).1 x).2 else ((openA T x).1, 0)) := rfl
  have HOR : Hid (openR (openA T x).1 x = readR crcP (readS (openA T x).1 x).1) := rfl
  obtain ⟨A, hA⟩ : ∃ A, openA T x = A := ⟨_, rfl⟩
  rw [hA] at HOP HOA HFA HOB HOR
  have HREAD : Hid (∀ w1, RStep w w1 u v A.1 → Calls Tryz.prog 30 #[.pointer (some ⟨u, 0, none⟩), .string x] w1 fun e w' => e = .returned (.tuple #[.string (bx (readS A.1 x).1), .int .i64 (readS A.1 x).2]) ∧ w1 = w') := fun w1 hb => by
    obtain ⟨v1, a, -⟩ := hb
    exact rread_any x a
  have HLEN : Hid (∀ w1, RStep w w1 u v A.1 → (readS A.1 x).1.length ≤ 4194304) := fun w1 hb => by
    obtain ⟨v1, a, -⟩ := hb
    exact readS_len a.ok x
  obtain ⟨R, hR⟩ : ∃ R, (readS A.1 x).1 = R := ⟨_, rfl⟩
  obtain ⟨er, her⟩ : ∃ er, (readS A.1 x).2 = er := ⟨_, rfl⟩
  have HCNT : Hid (∀ w1, R.length ≤ 4194304 → Calls Tryz.prog 42 #[.string (bx R)] w1 fun e w' => (∃ a c, e = .returned (.tuple #[.slice a (readR crcP R).1.length c, .int .i64 (readR crcP R).2]) ∧ DeedRow w' w1.heap.size (.slice a (readR crcP R).1.length c) (readR crcP R).1) ∧ Below w1.heap.size w1 w') := fun w1 hl => rcounts_any R w1 (by omega)
  have hle := readR_le crcP R
  have hfew := readR_few crcP R
  rw [hR] at HREAD HLEN HOB HOR
  rw [her] at HREAD
  rw [HOR.out] at HOB HOP
  obtain ⟨Q, hQ⟩ : ∃ Q, readR crcP R = Q := ⟨_, rfl⟩
  rw [hQ] at HCNT hle HOB HOP hfew
  have HFEW := hid hfew
  have HLE := hid hle
  have hbz := bx_size R
  have HCUT : Hid (∀ w1, RStep w w1 u v A.1 → Calls Tryz.prog 43 #[.pointer (some ⟨u, 0, none⟩), .string x, .int .i64 (Q.2 : Int)] w1 fun e w' => e = .returned (.int .i64 (cutS A.1 x Q.2).2) ∧ RStep w w' u v (cutS A.1 x Q.2).1) := fun w1 hb =>
    hb.op (fun v1 hv => rcut_any x Q.2 hv (n + 1) HFA.out (by omega) (ok_cut hv.ok x Q.2 (by rw [hR]; exact HLE.out.1)))
  have HCUTX : Hid (∀ {w1 : World} (v1 : Value), RefAt w1 u v1 A.1 → Calls Tryz.prog 43 #[.pointer (some ⟨u, 0, none⟩), .string x, .int .i64 (Q.2 : Int)] w1 fun e w' => e = .returned (.int .i64 (cutS A.1 x Q.2).2) ∧ RStep w1 w' u v1 (cutS A.1 x Q.2).1) := fun v1 hv =>
    rcut_any x Q.2 hv (n + 1) HFA.out (by omega) (ok_cut hv.ok x Q.2 (by rw [hR]; exact HLE.out.1))
  have HLIFE : Hid (∀ w1 S, RStep w w1 u v S → Calls Tryz.prog 44 #[.pointer (some ⟨u, 0, none⟩)] w1 fun e w' => e = .returned (.int .i64 S.life) ∧ w1 = w') := fun w1 S hb => by
    obtain ⟨v1, a, -⟩ := hb
    exact rlife_any a
  obtain ⟨y, hy⟩ : ∃ y, bx R = y := ⟨_, rfl⟩
  rw [hy] at HREAD HCNT hbz
  obtain ⟨C, hC⟩ : ∃ C, openB A.1 x = C := ⟨_, rfl⟩
  rw [hC] at HOB HOP
  obtain ⟨O, hO⟩ : ∃ O, openS T x = O := ⟨_, rfl⟩
  have HPOST : Hid (∀ e w', ROpenPost w u v T x e w' = ((O.2.1 = 0 ∧ ∃ r a c, e = .returned (.tuple #[.pointer (some ⟨r, 0, none⟩), .slice a O.2.2.length c, .int .i64 0]) ∧ RBk w' r u x O.1.life false ∧ w.heap.size ≤ r ∧ GridIn (fun k => w.heap.size ≤ k ∧ k < w'.heap.size) w' a O.2.2.length (grid O.2.2)) ∨ (O.2.1 ≠ 0 ∧ e = .returned (.tuple #[.pointer none, .slice none 0 0, .int .i64 O.2.1])))) := fun e w' => by unfold ROpenPost; rw [hO]
  rw [hO] at HOP ⊢
  obtain ⟨zz, hzz⟩ : ∃ zz, sizeS T t = zz := ⟨_, rfl⟩
  rw [hzz] at HSIZE HOA
  have HRL := hid hbz
  have HTX := HTT.out
  clear h hdn hA hR her hQ hy hC hO hzz ht hf hle hfew hbz HOR HFA H0
  obtain ⟨A1, ea⟩ := A
  obtain ⟨C1, ec⟩ := C
  simp only at HREAD HLEN HCUT HCUTX HOP HOB
  have g1 : ¬ (x.size : Int) < 1 := by omega
  have g2 : ¬ (31 : Int) < x.size := by omega
  go_enter Tryz.func8, Tryz.ntmps8
  go_wp2_with (go_at_call 40; refine HDN.out.mono ?_; rintro e w' ⟨rfl, rfl⟩)
  go_at_call 27
  refine HSIZE.out.mono ?_; rintro e w2 ⟨rfl, h2⟩
  have H2 := hid h2
  clear h2
  go_upto_if 29 with fail
  go_cut [] (fun wx => ea = 0 ∧ Hid (RStep w wx u v A1))
  case first =>
    by_cases hz : 0 ≤ zz
    · have he := HOA.out
      rw [if_pos hz] at he
      rw [← he] at HDROP
      simp only at HDROP
      clear he HOA
      go_wp2_with fail
      refine (HDROP.out w2 H2.out).mono ?_; rintro e w3 ⟨rfl, h3⟩
      have H3 := hid h3
      clear h3
      by_cases h0 : ea = 0
      · subst h0
        go_wp2_with fail
        go_meet
        case rel => exact ⟨trivial, H3⟩
      · have hb : (ea == 0) = false := by simpa using h0
        have HF : Hid (O = (A1, ea, [])) := by have := HOP.out; rw [if_pos h0] at this; exact this
        have HN := hid h0
        clear h0 HOP
        go_wp2_with fail
        go_ret3
        rw [HPOST.out, HF.out]
        exact ⟨.inr ⟨HN.out, rfl⟩, H3.out⟩
    · have he := HOA.out
      rw [if_neg hz] at he
      injection he with he1 he2
      subst he1 he2
      go_wp2_with fail
      go_meet
      case rel => exact ⟨trivial, H2⟩
  case rest =>
  obtain ⟨rfl, H3⟩ := hcut
  have HOP2 : Hid (O = if ec ≠ 0 then (C1, ec, []) else (C1, 0, Q.1)) := by have := HOP.out; rw [if_neg (by simp)] at this; exact this
  clear HOP HOA HDROP HSIZE H2 HDN HTX
  go_wp2_with fail
  refine (HREAD.out wc H3.out).mono ?_; rintro e w' ⟨rfl, rfl⟩
  go_wp2_with fail
  refine (HCNT.out wc (HLEN.out wc H3.out)).mono ?_; rintro e w4 ⟨⟨a4, c4, rfl, hrow⟩, b4⟩
  have H4 := hid (H3.out.below b4)
  have HRW := hid hrow
  have hlt := H3.out.lt
  have HU : Hid (u < wc.heap.size) := hlt
  have hq1 : Q.1.length ≤ 9223372036854775807 := by have := HLE.out.2; have := HLEN.out wc H3.out; omega
  have HG4 : Hid (GridIn (fun k => wc.heap.size ≤ k ∧ k < w4.heap.size) w4 a4 Q.1.length (grid Q.1)) := gridIn_of_row hrow hq1 (fun rs hr => by have := HFEW.out rs hr; omega)
  have HS4 : Hid (w.heap.size ≤ wc.heap.size) := H3.out.size
  have HLL : Hid (R.length ≤ 4194304) := HLEN.out wc H3.out
  clear hrow b4 hlt
  go_upto_if 51 with fail
  go_cut [] (fun wx => ec = 0 ∧ Hid (RStep w wx u v C1) ∧ Hid (GridIn (fun k => w.heap.size ≤ k ∧ k < wx.heap.size) wx a4 Q.1.length (grid Q.1)))
  case first =>
    by_cases hz : Q.2 < R.length
    · have hz1 : (Q.2 : Int) < y.size := by have := HRL.out; omega
      have he := HOB.out
      rw [if_pos hz] at he
      rw [← he] at HCUT
      simp only at HCUT
      have HC4 : Hid (∀ w1, RStep w w1 u v A1 → Calls Tryz.prog 43 #[.pointer (some ⟨u, 0, none⟩), .string x, .int .i64 (Q.2 : Int)] w1 fun e w' => e = .returned (.int .i64 ec) ∧ RStep w w' u v C1) := HCUT.out
      have HC5 : Hid (Calls Tryz.prog 43 #[.pointer (some ⟨u, 0, none⟩), .string x, .int .i64 (Q.2 : Int)] w4 fun e w' => e = .returned (.int .i64 ec) ∧ RStep w w' u v C1 ∧ Only (· = u) w4 w') := by
        obtain ⟨v1, a1, b1, d1⟩ := H4.out
        have hfits := HCUTX.out v1 a1
        exact hfits.mono fun e w' ⟨e1, e2⟩ => ⟨by rw [e1]; exact congrArg (fun q => Ending.returned (.int .i64 q.2)) he.symm, by
          have := RStep.next a1 b1 d1 e2
          rw [← he] at this; exact this, by obtain ⟨v2, -, ho, -⟩ := e2; exact ho⟩
      clear he HOB hz HCUT HC4
      go_wp2_with fail
      refine HC5.out.mono ?_; rintro e w5 ⟨rfl, h5, o5⟩
      have H5 := hid h5
      have HG5 : Hid (GridIn (fun k => w.heap.size ≤ k ∧ k < w5.heap.size) w5 a4 Q.1.length (grid Q.1)) := (HG4.out.only o5 (fun k hk e => by have := HU.out; omega)).mono (fun k hk => ⟨Nat.le_trans HS4.out hk.1, Nat.lt_of_lt_of_le hk.2 o5.size⟩)
      clear h5 o5
      by_cases h0 : ec = 0
      · subst h0
        go_wp2_with fail
        go_meet
        case rel => exact ⟨trivial, H5, HG5⟩
      · have hb : (ec == 0) = false := by simpa using h0
        have HF : Hid (O = (C1, ec, [])) := by have := HOP2.out; rw [if_pos h0] at this; exact this
        have HN := hid h0
        clear h0 HOP2
        go_wp2_with fail
        go_ret3
        rw [HPOST.out, HF.out]
        exact ⟨.inr ⟨HN.out, rfl⟩, H5.out⟩
    · have hz1 : ¬ (Q.2 : Int) < y.size := by have := HRL.out; omega
      have he := HOB.out
      rw [if_neg hz] at he
      injection he with he1 he2
      subst he1 he2
      clear hz
      go_wp2_with fail
      go_meet
      case rel => exact ⟨trivial, H4, HG4.out.mono (fun k hk => ⟨Nat.le_trans HS4.out hk.1, hk.2⟩)⟩
  case rest =>
  obtain ⟨rfl, H5, HG5⟩ := hcut
  have HF : Hid (O = (C1, 0, Q.1)) := by have := HOP2.out; rw [if_neg (by simp)] at this; exact this
  clear HOP2 HG4 H4 HOB HCUT
  go_wp2_with (go_at_call 44; refine (HLIFE.out _ _ H5.out).mono ?_; rintro e w' ⟨rfl, rfl⟩)
  go_ret3
  rw [HPOST.out, HF.out]
  have hsz : ∀ o, (wc.alloc o).heap.size = wc.heap.size + 1 := fun o => by simp
  refine ⟨.inl ⟨rfl, wc.heap.size, a4, c4, rfl, Blk.new wc _ _, H5.out.size, ?_⟩, H5.out.below ((Below.refl _ _).alloc (Nat.le_refl _) _)⟩
  exact (HG5.out.only (F := NoF) ((Only.refl _ _).alloc _) (fun k _ e => e)).mono (fun k hk => ⟨hk.1, by rw [hsz]; omega⟩)
end
end Go.Proofs.YtnhgfhbicaiilaaGreat
/- The book and the reference's book, side by side. -/
namespace Go.Proofs.YtnhgfhbicaiilaaGreat
open Go.RowKit Book Reel
set_option linter.unusedVariables false

structure Twin (B : Nat) (w0 wx : World) (p b u r : Nat) (K : Nat → Prop) (S T : St) (n life : Nat) (dead dead' : Bool) : Prop where
  mid : Mid B w0 wx p b K S n life dead
  ref : ∃ v, RefAt wx u v T ∧ ∀ k, v.ownBlock = some k → K k ∧ B ≤ k
  bk : RBk wx r u J life dead'
  ku : K u
  kr : K r
  bu : B ≤ u
  br : B ≤ r
  ur : u ≠ r
  fitsT : T.Fits n
  hl : life ≤ 9223372036854775807
section
variable {B n m life p b b' u r : Nat} {w0 wx w' : World} {K K' G : Nat → Prop} {S S' T T' : St} {dead dead' d d' : Bool}
theorem Twin.bnu (h : Twin B w0 wx p b u r K S T n life dead dead') : b ≠ u := by
  obtain ⟨v, h1, -⟩ := h.ref
  exact Blk.ne h.mid.on.book h1.blk (by decide)
theorem Twin.bnr (h : Twin B w0 wx p b u r K S T n life dead dead') : b ≠ r := Blk.ne h.mid.on.book h.bk (by decide)
/-- an act of the book's -/
theorem Twin.deed (h : Twin B w0 wx p b u r K S T n life dead dead') (he : BkOn K w' p b S' J life d) (ho : Only (fun k => ¬ K k ∨ k = b) wx w') (hf : S'.Fits m) (hm : n ≤ m) : Twin B w0 w' p b u r K S' T m life d dead' := by
  have hbu := h.bnu
  have hbr := h.bnr
  obtain ⟨v, h1, h2⟩ := h.ref
  refine ⟨h.mid.deed he ho hf, ⟨v, ⟨Blk.only h1.blk ho (fun e => e.elim (fun e => e h.ku) (fun e => hbu e.symm)), own_only h1.row ho (fun k hk e => e.elim (fun e => e (h2 k hk).1) (fun e => own_blk_ne h1.row h.mid.on.book (by decide) (by rw [hk, e]))), h1.ok⟩, h2⟩, Blk.only h.bk ho (fun e => e.elim (fun e => e h.kr) (fun e => hbr e.symm)), h.ku, h.kr, h.bu, h.br, h.ur, fits_more h.fitsT hm, h.hl⟩
/-- an act of the disk's -/
theorem Twin.disk (h : Twin B w0 wx p b u r K S T n life dead dead') (he : DK K w' p S') (ho : Only (fun k => ¬ K k) wx w') (hf : S'.Fits m) (hm : n ≤ m) : Twin B w0 w' p b u r K S' T m life dead dead' :=
  h.deed ⟨he, Blk.only h.mid.on.book ho (fun e => e h.mid.on.kb), h.mid.on.kb⟩ (ho.mono (fun k hk => .inl hk)) hf hm
theorem Twin.below (h : Twin B w0 wx p b u r K S T n life dead dead') (hb : Below wx.heap.size wx w') : Twin B w0 w' p b u r K S T n life dead dead' := by
  obtain ⟨v, h1, h2⟩ := h.ref
  exact ⟨⟨h.mid.on.below hb, h.mid.fits, h.mid.low, h.mid.bb, h.mid.bel.trans (hb.mono h.mid.size), Nat.le_trans h.mid.size hb.size⟩, ⟨v, h1.later hb, h2⟩, Blk.only h.bk (Only.of_below hb NoF) (fun e => e), h.ku, h.kr, h.bu, h.br, h.ur, h.fitsT, h.hl⟩
theorem Twin.more (h : Twin B w0 wx p b u r K S T n life dead dead') (hb : Below wx.heap.size wx w') : Twin B w0 w' p b u r (Grew K wx w') S T n life dead dead' := by
  obtain ⟨v, h1, h2⟩ := h.ref
  exact ⟨h.mid.step (G := NoF) (Only.of_below hb NoF) (fun k e => e.elim), ⟨v, h1.later hb, fun k hk => ⟨.inl (h2 k hk).1, (h2 k hk).2⟩⟩, Blk.only h.bk (Only.of_below hb NoF) (fun e => e), .inl h.ku, .inl h.kr, h.bu, h.br, h.ur, h.fitsT, h.hl⟩
theorem Twin.fits (h : Twin B w0 wx p b u r K S T n life dead dead') (hm : n ≤ m) : Twin B w0 wx p b u r K S T m life dead dead' :=
  ⟨⟨h.mid.on, fits_more h.mid.fits hm, h.mid.low, h.mid.bb, h.mid.bel, h.mid.size⟩, h.ref, h.bk, h.ku, h.kr, h.bu, h.br, h.ur, fits_more h.fitsT hm, h.hl⟩
/-- an act of the reference's -/
theorem Twin.refop {P : Program} {f : FuncId} {args : Array Value} {X : Ending} (h : Twin B w0 wx p b u r K S T n life dead dead') (hf : T'.Fits n)
    (hop : ∀ v, BStep wx wx u r v T J life dead' → Calls P f args wx fun e w' => e = X ∧ BStep wx w' u r v T' J life d) :
    Calls P f args wx fun e w' => e = X ∧ Twin B w0 w' p b u r (Grew K wx w') S T' n life dead d ∧ Only (fun k => k = u ∨ k = r) wx w' := by
  obtain ⟨v, h1, h2⟩ := h.ref
  refine (hop v (BStep.start h1 h.bk)).mono fun e w' ⟨he, v', a1, a2, a3, a4⟩ => ⟨he, ?_, a3⟩
  have hbu := h.bnu
  have hbr := h.bnr
  refine ⟨h.mid.step a3 (fun k hk => ?_), ⟨v', a1, fun k hk => ?_⟩, a2, .inl h.ku, .inl h.kr, h.bu, h.br, h.ur, hf, h.hl⟩
  · rcases hk with rfl | rfl
    · exact ⟨h.ku, h.bu, Ne.symm hbu⟩
    · exact ⟨h.kr, h.br, Ne.symm hbr⟩
  · rcases a4 with rfl | a4
    · exact ⟨.inl (h2 k hk).1, (h2 k hk).2⟩
    · exact ⟨.inr ⟨a4 k hk, (a1.row.lt k hk).2⟩, Nat.le_trans h.mid.size (a4 k hk)⟩
theorem Twin.rdisk {P : Program} {f : FuncId} {args : Array Value} {X : Ending} (h : Twin B w0 wx p b u r K S T n life dead dead') (hf : T'.Fits n)
    (hop : ∀ v, RefAt wx u v T → Calls P f args wx fun e w' => e = X ∧ RStep wx w' u v T') :
    Calls P f args wx fun e w' => e = X ∧ Twin B w0 w' p b u r (Grew K wx w') S T' n life dead dead' ∧ Only (fun k => k = u ∨ k = r) wx w' :=
  h.refop hf (fun v hv => hv.op h.ur hop)
theorem Twin.strs {a : Option Addr} {k : Nat} {l : List ByteArray} (h : Twin B w0 wx p b u r K S T n life dead dead') (hB : w0.heap.size = B) (hs : StrsAt w0 a k l) : StrsAt wx a k l ∧ (k ≠ 0 → ∀ b' off, a = some ⟨b', off, none⟩ → b' ≠ u ∧ b' ≠ r) := by
  refine ⟨hs.later (by rw [hB]; exact h.mid.bel), fun hk b' off ha => ?_⟩
  have hlt : b' < w0.heap.size := by
    obtain ⟨b2, off2, ha2, hc⟩ := hs.2.2.resolve_left hk
    rw [ha] at ha2
    injection ha2 with ha2
    injection ha2 with e1 e2 e3
    subst e1
    exact World.block_lt_of_cell? w0 _ (hc 0 (by omega))
  have := h.bu; have := h.br
  omega
theorem Twin.ints {a : Option Addr} {k : Nat} {l : List Int} (h : Twin B w0 wx p b u r K S T n life dead dead') (hB : w0.heap.size = B) (hs : IntsAt w0 a k l) : IntsAt wx a k l ∧ (k ≠ 0 → ∀ b' off, a = some ⟨b', off, none⟩ → K b' ∧ b' ≠ u) := by
  refine ⟨ints_later hs (by rw [hB]; exact h.mid.bel), fun hk b' off ha => ?_⟩
  have hlt := ints_lt hs hk b' off ha
  have := h.bu
  exact ⟨h.mid.low b' (by omega), by omega⟩
end
theorem off_fits {S : St} {n : Nat} (h : S.Fits n) : (offS S).Fits (n + 1) := by
  obtain ⟨h1, h2, h3⟩ := h
  unfold offS
  split
  · exact ⟨by omega, by omega, h3⟩
  · exact ⟨by show S.acts ≤ _; omega, by show S.life + 1 ≤ _; omega, by show (0 : Nat) ≤ _; omega⟩
theorem on_fits {S : St} {n : Nat} (h : S.Fits n) (fs : List Int) : (onS S fs).Fits n := by
  unfold onS
  split
  · exact h
  · exact ⟨h.1, h.2.1, h.2.2⟩
theorem arm_fits {S : St} {n : Nat} (h : S.Fits n) (k : Int) (hk : k ≤ 9223372036854775807) : (armS S k).Fits n := ⟨h.1, h.2.1, by show k.toNat ≤ _; omega⟩
theorem room_fits {S : St} {n : Nat} (h : S.Fits n) (k : Int) : (roomS S k).Fits n := h
end Go.Proofs.YtnhgfhbicaiilaaGreat
