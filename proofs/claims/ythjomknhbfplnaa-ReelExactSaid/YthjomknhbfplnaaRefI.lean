/- The reference's disk: Swap. -/
import Derived.Test.YthjomknhbfplnaaRefH
namespace Go.Proofs.Ythjomknhbfplnaa
open Go.RowKit Reel
set_option linter.unusedVariables false

section
variable {w w1 w2 W : World} {u : Nat} {v v1 : Value} {S S1 : St} {x : ByteArray}
theorem rwith_post (h : RefAt w u v S) (hb : Below w.heap.size w W) (L : List Ent) (e : Ent) (a : Option Addr) (c : Nat) (hR : ReelsAt W a L.length L) (hL : L.length ≤ 64) :
    Calls Try.prog 70 #[.slice a L.length c, .agg #[.string e.1, .string (bt e.2.bytes), .int .i64 e.2.safe]] W (RowPost w W u v S (insE e L)) :=
  (rwith_any L e a c W hR hL).mono fun en w' hp => h.rowPost hb hp
theorem insE_repl {T : St} (hT : T.Ok) {to : ByteArray} (t : Spool) (i : Nat) (hi : i < T.ents.length) (hx : T.ents[i].1 = to) : insE (to, t) (T.ents.eraseIdx i) = T.ents.set i (to, t) := by
  have hil : i < T.l.length := by rw [ents_len hT] at hi; exact hi
  have hTi : T.l[i] = to := by obtain ⟨_, e⟩ := ents_name hT hi; rw [← e, hx]
  have hp := List.pairwise_iff_getElem.1 hT.rising
  rw [List.eraseIdx_eq_take_drop_succ, insE_split (to, t) _ _ (fun y hy => ?_) (fun y hy => ?_), List.set_eq_take_append_cons_drop, if_pos hi]
  · have hm : y.1 ∈ T.l.take i := by rw [← ents_take_names hT]; exact List.mem_map_of_mem hy
    obtain ⟨j, hj, e⟩ := List.getElem_of_mem hm
    rw [List.length_take] at hj
    rw [List.getElem_take] at e
    have := hp j i (by omega) hil (by omega)
    rw [hTi, e] at this
    exact lt_asymm this
  · have hm : y.1 ∈ T.l.drop (i + 1) := by rw [← ents_drop_names hT]; exact List.mem_map_of_mem hy
    obtain ⟨j, hj, e⟩ := List.getElem_of_mem hm
    rw [List.length_drop] at hj
    rw [List.getElem_drop] at e
    have := hp i (i + 1 + j) hil (by omega) (by omega)
    rw [hTi, e] at this
    exact this
theorem getElem_eq_of_eq {α : Type} {L L' : List α} (h : L = L') {i : Nat} (hi : i < L.length) : ∃ hi' : i < L'.length, L[i] = L'[i] := by subst h; exact ⟨hi, rfl⟩
/-- what Swap comes to, in the reference's words -/
theorem swap_ents (hok : S.Ok) {t : Spool} (ht : at_ S x = some t) (to : ByteArray) (hto : isName to = true) (ha : (actS S).2 = 0) (hd : S.down = false) :
    (∀ (hn : ∀ i (hi : i < (S.ents.eraseIdx (posOf S.l x)).length), (S.ents.eraseIdx (posOf S.l x))[i].1 ≠ to), (swapS S x to).1.ents = insE (to, t) (S.ents.eraseIdx (posOf S.l x))) ∧
    (∀ i (hi : i < (S.ents.eraseIdx (posOf S.l x)).length), (S.ents.eraseIdx (posOf S.l x))[i].1 = to → (swapS S x to).1.ents = insE (to, t) ((S.ents.eraseIdx (posOf S.l x)).eraseIdx i)) := by
  obtain ⟨l1, l2, l3, _⟩ := act_l S
  have hx := (at_some ht).1
  obtain ⟨hk, -, he⟩ := at_place hok ht
  have hsz := Reel.size_mem (at_mem ht)
  rw [← hok.used] at hsz
  have hT : St.Ok { delT (actS S).1 x with used := S.used - t.bytes.length } := (act_ok hok).del (t := t) (by rw [at_act]; exact ht) _ (by rw [l3]; omega)
  obtain ⟨T, hTd⟩ : ∃ T : St, { delT (actS S).1 x with used := S.used - t.bytes.length } = T := ⟨_, rfl⟩
  have hTe : T.ents = S.ents.eraseIdx (posOf S.l x) := by rw [← hTd]; exact drop_ents hok ht _
  rw [hTd] at hT
  by_cases hxt : x = to
  · have e1 : swapS S x to = ((actS S).1, 0) := by unfold swapS; rw [if_neg (by rw [hd]; simp), ht]; exact (if_neg (by rw [hto]; simp)).trans ((if_pos ha).trans (if_pos hxt))
    rw [e1]
    refine ⟨fun _ => ?_, fun i hi e => ?_⟩
    · have := insE_repl hok t (posOf S.l x) hk (by rw [he])
      rw [← hxt, this, act_ents]
      conv => lhs; rw [← List.set_getElem_self hk, he]
    · exfalso
      obtain ⟨hi', e2⟩ := getElem_eq_of_eq hTe.symm hi
      obtain ⟨q, hmem⟩ : ∃ q, (to, q) ∈ T.ents := ⟨(T.ents[i]).2, by rw [← e, e2]; exact List.getElem_mem _⟩
      rw [← hTd] at hmem
      have hmem' : (to, q) ∈ (delT (actS S).1 x).ents := hmem
      rw [del_mem (act_ok hok) (by rw [l1]; exact hx)] at hmem'
      exact hmem'.2 hxt.symm
  · have e1 : swapS S x to = (putT { delT (actS S).1 x with used := S.used - lenAt S to } to t, 0) := by unfold swapS; rw [if_neg (by rw [hd]; simp), ht]; exact (if_neg (by rw [hto]; simp)).trans ((if_pos ha).trans (if_neg hxt))
    rw [e1]
    have hent : (putT { delT (actS S).1 x with used := S.used - lenAt S to } to t).ents = (putT T to t).ents := by rw [← hTd]; rfl
    rw [show (putT { delT (actS S).1 x with used := S.used - lenAt S to } to t, (0 : Int)).1.ents = _ from hent]
    refine ⟨fun hn => ?_, fun i hi e => ?_⟩
    · have hno : hasN T.l to = false := by
        cases hh : hasN T.l to
        · rfl
        · exfalso
          obtain ⟨h3, h4⟩ := pos_get hT.rising hh
          have hkT : posOf T.l to < T.ents.length := by rw [ents_len hT]; exact h3
          obtain ⟨_, e5⟩ := ents_name hT hkT
          obtain ⟨hi', e6⟩ := getElem_eq_of_eq hTe hkT
          exact hn _ hi' (by rw [← e6, e5, h4])
      rw [← hTe, insE_put hT hno]
    · obtain ⟨hi', e2⟩ := getElem_eq_of_eq hTe.symm hi
      rw [e2] at e
      have hpl := place_found hT hi' e
      have hh : hasN T.l to = true := by
        obtain ⟨hl, e5⟩ := ents_name hT hi'
        rw [hasN_iff, ← e, e5]; exact List.getElem_mem _
      unfold placeI at hpl
      rw [if_pos hh] at hpl
      have hpos : posOf T.l to = i := by omega
      rw [← hTe, insE_repl hT t i hi' e, ents_put_has hT hh, hpos]
theorem swap_alike (to : ByteArray) {t : Spool} (ht : at_ S x = some t) (hto : isName to = true) (ha : (actS S).2 = 0) (hd : S.down = false) : Alike16 (actS S).1 (swapS S x to).1 ∧ (swapS S x to).2 = 0 := by
  by_cases hxt : x = to
  · have e1 : swapS S x to = ((actS S).1, 0) := by unfold swapS; rw [if_neg (by rw [hd]; simp), ht]; exact (if_neg (by rw [hto]; simp)).trans ((if_pos ha).trans (if_pos hxt))
    rw [e1]; exact ⟨⟨rfl, rfl, rfl, rfl, rfl⟩, rfl⟩
  · have e1 : swapS S x to = (putT { delT (actS S).1 x with used := S.used - lenAt S to } to t, 0) := by unfold swapS; rw [if_neg (by rw [hd]; simp), ht]; exact (if_neg (by rw [hto]; simp)).trans ((if_pos ha).trans (if_neg hxt))
    rw [e1]; exact ⟨⟨rfl, rfl, rfl, rfl, rfl⟩, rfl⟩
set_option maxRecDepth 100000 in
set_option maxHeartbeats 8000000 in
theorem rswap_any (x to : ByteArray) (h : RefAt w u v S) (N : Nat) (hf : S.Fits N) (hn : N < big) (hok : (swapS S x to).1.Ok) (hto : to.size ≤ 9223372036854775807) : Calls Try.prog 51 #[.pointer (some ⟨u, 0, none⟩), .string x, .string to] w fun e w' => e = .returned (.int .i64 (swapS S x to).2) ∧ RStep w w' u v (swapS S x to).1 := by
  have HFD := hid (rfound_any x h)
  have HS0 : Hid (RStep w w u v S) := ⟨v, h, Only.refl _ _, .inl rfl⟩
  by_cases hd : S.down = true
  · have e1 : swapS S x to = (S, 10) := by unfold swapS; rw [if_pos hd]
    have e2 : foundI S x = (0, 10) := by unfold foundI; rw [if_pos hd]
    rw [e2] at HFD; rw [e1]
    clear h hd e1 e2 hok hf
    go_enter Try.func51, Try.ntmps51
    go_wp2_with (go_at_call 57; refine HFD.out.mono ?_; rintro e w' ⟨rfl, rfl⟩)
    go_ret
    exact ⟨rfl, HS0.out⟩
  cases ht : at_ S x with
  | none =>
    have e1 : swapS S x to = (S, 12) := by unfold swapS; rw [if_neg hd, ht]
    have e2 : foundI S x = (0, 12) := by unfold foundI; rw [if_neg hd, ht]
    rw [e2] at HFD; rw [e1]
    clear h hd ht e1 e2 hok hf
    go_enter Try.func51, Try.ntmps51
    go_wp2_with (go_at_call 57; refine HFD.out.mono ?_; rintro e w' ⟨rfl, rfl⟩)
    go_ret
    exact ⟨rfl, HS0.out⟩
  | some t =>
    have hd' : S.down = false := by simpa using hd
    obtain ⟨hk, -, he⟩ := at_place h.ok ht
    have hfew := ents_few h.ok
    have e2 : foundI S x = ((posOf S.l x : Int), 0) := by unfold foundI; rw [if_neg hd, ht]
    rw [e2] at HFD
    have HAC := hid (ract_any h hd' N hf hn)
    obtain ⟨k, hkk⟩ : ∃ k, posOf S.l x = k := ⟨_, rfl⟩
    by_cases hit : isName to = false
    · have e1 : swapS S x to = (S, 1) := by unfold swapS; rw [if_neg hd, ht]; exact if_pos hit
      rw [e1]
      simp only [hkk] at HFD
      have hc : to.size < 1 ∨ 32 < to.size := by
        have hz : ¬ (1 ≤ to.size ∧ to.size ≤ 32) := by intro hh; have : isName to = true := decide_eq_true hh; rw [this] at hit; cases hit
        omega
      clear h hd hd' ht e1 e2 hok he hf hit
      rcases hc with hc | hc
      · have hc1 : to.size = 0 := by omega
        have g1 : (to.size : Int) < 1 := by omega
        go_enter Try.func51, Try.ntmps51
        go_wp2_with (go_at_call 57; refine HFD.out.mono ?_; rintro e w' ⟨rfl, rfl⟩)
        go_ret
        exact ⟨rfl, HS0.out⟩
      · have g1 : ¬ (to.size : Int) < 1 := by omega
        have g2 : (32 : Int) < to.size := by omega
        go_enter Try.func51, Try.ntmps51
        go_wp2_with (go_at_call 57; refine HFD.out.mono ?_; rintro e w' ⟨rfl, rfl⟩)
        go_ret
        exact ⟨rfl, HS0.out⟩
    have hto' : isName to = true := by simpa using hit
    have hz : 1 ≤ to.size ∧ to.size ≤ 32 := of_decide_eq_true hto'
    have g1 : ¬ (to.size : Int) < 1 := by omega
    have g2 : ¬ (32 : Int) < to.size := by omega
    by_cases ha : (actS S).2 = 0
    · obtain ⟨hal, hz2⟩ := swap_alike to ht hto' ha hd'
      obtain ⟨hp1, hp2⟩ := swap_ents h.ok ht to hto' ha hd'
      rw [hz2]
      rw [show decide ((actS S).2 = 10) = false by rw [ha]; rfl] at HAC
      obtain ⟨S2, hS2⟩ : ∃ S2 : St, (swapS S x to).1 = S2 := ⟨_, rfl⟩
      rw [hS2] at hok hal hp1 hp2 ⊢
      obtain ⟨y, hy⟩ : ∃ y, bt t.bytes = y := ⟨_, rfl⟩
      obtain ⟨sf, hsf⟩ : ∃ sf, t.safe = sf := ⟨_, rfl⟩
      simp only [hkk] at HFD
      simp only [hkk] at hk he hp1 hp2
      have HOK := hid hok; have HAL := hid hal
      have hE1 : (actS S).1.ents = S.ents := act_ents S
      obtain ⟨S1, hS1⟩ : ∃ S1, (actS S).1 = S1 := ⟨_, rfl⟩
      rw [hS1] at HAC HAL hE1
      rw [← hE1] at hp1 hp2
      have hk1 : k < S1.ents.length := by rw [hE1]; exact hk
      have hf64 : S1.ents.length ≤ 64 := by rw [hE1]; exact hfew
      have HWO : Hid (∀ w1 v1 W, RefAt w1 u v1 S1 → Below w1.heap.size w1 W → Calls Try.prog 73 #[v1, .int .i64 k] W fun en w' => ∃ a c, en = .returned (.slice a (S1.ents.eraseIdx k).length c) ∧ Hid (ReelsAt w' a (S1.ents.eraseIdx k).length (S1.ents.eraseIdx k)) ∧ Below W.heap.size W w') := fun w1 v1 W hr hb => by
        obtain ⟨a, c, rfl, hc, hR⟩ := own_reels (own_below hr.row hb)
        refine (rwithout_any S1.ents k a c W hR hf64 (by omega)).mono ?_
        rintro en w' ⟨v', rfl, q1, q2⟩
        obtain ⟨a', c', rfl, -, hR'⟩ := own_reels q1
        exact ⟨a', c', rfl, hR', q2⟩
      have hDl : (S1.ents.eraseIdx k).length ≤ 64 := by have := List.length_eraseIdx_le S1.ents k; omega
      have HP1 : Hid ((∀ i (y : Ent), (S1.ents.eraseIdx k)[i]? = some y → y.1 ≠ to) → S2.ents = insE (to, t) (S1.ents.eraseIdx k)) := fun hh => hp1 (fun i hi => hh i _ (List.getElem?_eq_getElem hi))
      have HP2 : Hid (∀ i (y : Ent), (S1.ents.eraseIdx k)[i]? = some y → y.1 = to → S2.ents = insE (to, t) ((S1.ents.eraseIdx k).eraseIdx i)) := fun i y hy h1 => by
        obtain ⟨hi, e⟩ := List.getElem?_eq_some_iff.1 hy
        exact hp2 i hi (by rw [e]; exact h1)
      obtain ⟨D, hD⟩ : ∃ D, S1.ents.eraseIdx k = D := ⟨_, rfl⟩
      rw [hD] at hDl HWO HP1 HP2
      have HWI : Hid (∀ w1 v1 W L a c, RefAt w1 u v1 S1 → Below w1.heap.size w1 W → ReelsAt W a L.length L → L.length ≤ 64 → S2.ents = insE (to, t) L → Calls Try.prog 70 #[.slice a L.length c, .agg #[.string to, .string y, .int .i64 sf]] W fun en w' => ∃ v' a n c, v' = .slice a n c ∧ en = .returned v' ∧ (∀ p z, W.cell? p = some z → w'.cell? p = some z) ∧ w'.frozen? ⟨u, 0, none⟩ = false ∧ Hid (RStep w1 (w'.setCell ⟨u, 0, none⟩ v') u v1 S2)) := fun w1 v1 W L a c hr hb hR hL hE => by
        have := rwith_post hr hb L (to, t) a c hR hL
        simp only [hy, hsf] at this
        refine this.mono ?_
        rintro en w' ⟨v', a, c, hv, rfl, q1, q2, q3⟩
        exact ⟨v', a, _, c, hv, rfl, q1, q2, q3.out S2 HAL.out hE HOK.out⟩
      have HREEL : Hid (∀ w1 v1, RefAt w1 u v1 S1 → ∃ g c, v1 = .slice (some ⟨g, 0, none⟩) S1.ents.length c ∧ w1.cell? ⟨g, k * 3, none⟩ = some (.string x) ∧ w1.cell? ⟨g, k * 3 + 1, none⟩ = some (.string y) ∧ w1.cell? ⟨g, k * 3 + 2, none⟩ = some (.int .i64 sf)) := fun w1 v1 hr => by
        obtain ⟨g, c, hv, q0, q1, q2⟩ := hr.reel hk1
        have he1 : S1.ents[k] = (x, t) := by simp only [hE1]; exact he
        rw [he1] at q0 q1 q2
        rw [hy] at q1; rw [hsf] at q2
        exact ⟨g, c, hv, q0, q1, q2⟩
      have ck0 : (0 : Int) ≤ (k : Int) := by omega
      have ck1 : (k : Int) < S1.ents.length := by omega
      clear h hd hd' ht hok hp1 hp2 hal hS2 hkk hE1 hS1 he hk hf hy hsf hD hz2 ha hit hto' hz e2 hk1
      go_enter Try.func51, Try.ntmps51
      go_wp2_with (first
        | (go_at_call 57; refine HFD.out.mono ?_; rintro e w' ⟨rfl, rfl⟩)
        | (go_at_call 72; refine HAC.out.mono ?_; rintro e w1 ⟨rfl, v1, r1, r2, r3⟩; obtain ⟨g, c, rfl, q0, q1, q2⟩ := HREEL.out w1 v1 r1; have R1 := hid r1; have R2 := hid r2; have R3 := hid r3; obtain ⟨c0, -, -, -, -, -⟩ := r1.cells; have hul := r1.lt; have u0 : (w1.alloc (.cells #[.string to, .string y, .int .i64 sf] 79)).cell? ⟨u, 0, none⟩ = some (.slice (some ⟨g, 0, none⟩) S1.ents.length c) := (World.cell?_of_block (Below.heap_alloc _ _ _ hul)).trans c0; clear r1 r2 r3))
      generalize hW2 : (w1.alloc (.cells #[.string to, .string y, .int .i64 sf] 79)) = W2 at u0 ⊢
      obtain ⟨gx, hgx⟩ : ∃ gx, w1.heap.size = gx := ⟨_, rfl⟩
      have BX : Hid (Blk W2 gx 79 #[.string to, .string y, .int .i64 sf]) := by rw [← hW2, ← hgx]; exact Blk.new _ _ _
      have HB2 : Hid (Below w1.heap.size w1 W2) := by rw [← hW2]; exact (Below.refl _ _).alloc (Nat.le_refl _) _
      refine (HWO.out w1 _ W2 R1.out HB2.out).mono ?_; rintro e w3 ⟨la, lc, rfl, hR, hb3⟩
      have HR3 := hid hR
      have HB3 : Hid (Below W2.heap.size W2 w3) := hb3
      have HB13 : Hid (Below w1.heap.size w1 w3) := HB2.out.trans (hb3.mono HB2.out.size)
      have BX3 : Hid (Blk w3 gx 79 #[.string to, .string y, .int .i64 sf]) := (hb3.block gx (Blk.lt BX.out)).trans BX.out
      have HU3 : Hid (w3.cell? ⟨u, 0, none⟩ = some (.slice (some ⟨g, 0, none⟩) S1.ents.length c)) := (World.cell?_of_block (hb3.block u (World.block_lt_of_cell? W2 ⟨u, 0, none⟩ u0))).trans u0
      have x0 : w3.cell? ⟨gx, 0, none⟩ = some (.string to) := Blk.cell BX3.out 0
      have x1 : w3.cell? ⟨gx, 1, none⟩ = some (.string y) := Blk.cell BX3.out 1
      have x2 : w3.cell? ⟨gx, 2, none⟩ = some (.int .i64 sf) := Blk.cell BX3.out 2
      rw [hgx]
      clear hR hb3 hW2 hgx q0 q1 q2 u0 c0 hul
      go_wp2_with fail
      go_loop [10, 11] (fun lv iv => lv = .slice la D.length lc ∧ ∃ i : Nat, i ≤ D.length ∧ iv = .int .i64 i ∧ Hid (∀ j (y : Ent), j < i → D[j]? = some y → y.1 ≠ to)) (fun _ iv => D.length - (intOf iv).toNat)
      case atStart => exact ⟨rfl, 0, by omega, rfl, fun j _ hj => absurd hj (by omega)⟩
      case round =>
        obtain ⟨rfl, i, hi, rfl, HN⟩ := hrel
        by_cases hlt : i < D.length
        · have ci0 : (0 : Int) ≤ (i : Int) := by omega
          have ci : (i : Int) < D.length := by omega
          obtain ⟨lg, rfl, l0, l1, l2⟩ := HR3.out.get hlt
          have hDi : D[i]? = some D[i] := List.getElem?_eq_getElem hlt
          obtain ⟨d, hd⟩ : ∃ d, D[i] = d := ⟨_, rfl⟩
          rw [hd] at l0 l1 l2 hDi
          have HDI := hid hDi
          clear hd hDi
          by_cases hx : d.1 = to
          · have HE := hid (HP2.out i d HDI.out hx)
            rw [hx] at l0
            have hle : (D.eraseIdx i).length ≤ 64 := by have := List.length_eraseIdx_le D i; omega
            have HWO2 := hid (rwithout_any D i (some ⟨lg, 0, none⟩) lc w3 HR3.out hDl (by omega))
            clear hx l1 l2
            go_wp2_with (first
              | (go_at_call 73; refine HWO2.out.mono ?_; rintro e w4 ⟨v', rfl, o4, b4⟩; obtain ⟨ma, mc, rfl, -, hR4⟩ := own_reels o4; have HR4 := hid hR4; have HB14 : Hid (Below w1.heap.size w1 w4) := HB13.out.trans (b4.mono HB13.out.size); have BX4 : Hid (Blk w4 gx 79 #[.string to, .string y, .int .i64 sf]) := (b4.block gx (Blk.lt BX3.out)).trans BX3.out; have y0 : w4.cell? ⟨gx, 0, none⟩ = some (.string to) := Blk.cell BX4.out 0; have y1 : w4.cell? ⟨gx, 1, none⟩ = some (.string y) := Blk.cell BX4.out 1; have y2 : w4.cell? ⟨gx, 2, none⟩ = some (.int .i64 sf) := Blk.cell BX4.out 2; have HU4 : Hid (w4.cell? ⟨u, 0, none⟩ = some (.slice (some ⟨g, 0, none⟩) S1.ents.length c)) := (World.cell?_of_block (b4.block u (World.block_lt_of_cell? w3 ⟨u, 0, none⟩ HU3.out))).trans HU3.out; clear o4 b4 hR4)
              | (go_at_call 70; refine (HWI.out w1 _ _ _ _ _ R1.out HB14.out HR4.out hle HE.out).mono ?_; rintro e w' ⟨v', va, vn, vc, rfl, rfl, up, fz, hst⟩; have t0 := up ⟨u, 0, none⟩ _ HU4.out; clear up))
            go_ret
            exact ⟨rfl, RStep.next R1.out R2.out R3.out hst.out⟩
          · have hne := bstr_ne hx
            have HX := hid hx
            clear hx
            go_wp2_with fail
            go_round
            case rel =>
              refine ⟨rfl, i + 1, by omega, by go_num, fun j y' hj hy' => ?_⟩
              by_cases e : j = i
              · subst e; rw [HDI.out] at hy'; cases hy'; exact HX.out
              · exact HN.out j y' (by omega) hy'
            case measure => simp [intOf]; omega
        · have ci : ¬ (i : Int) < D.length := by omega
          have HE := hid (HP1.out (fun j y' hy' => HN.out j y' (by have := (List.getElem?_eq_some_iff.1 hy').1; omega) hy'))
          go_wp2_with (first
            | (go_at_call 70; refine (HWI.out w1 _ _ _ _ _ R1.out HB13.out HR3.out hDl HE.out).mono ?_; rintro e w' ⟨v', va, vn, vc, rfl, rfl, up, fz, hst⟩; have t0 := up ⟨u, 0, none⟩ _ HU3.out; clear up))
          go_ret
          exact ⟨rfl, RStep.next R1.out R2.out R3.out hst.out⟩
    · have ha10 : (actS S).2 = 10 := by rcases act_err S with e | e; exact absurd e ha; exact e
      have e1 : swapS S x to = actS S := by unfold swapS; rw [if_neg hd, ht]; exact (if_neg hit).trans (if_neg ha)
      rw [e1, ha10]
      rw [show decide ((actS S).2 = 10) = true from decide_eq_true ha10] at HAC
      simp only [hkk] at HFD
      clear h hd hd' ht e1 e2 ha ha10 hok hkk he hf hit hto' hz hk
      go_enter Try.func51, Try.ntmps51
      go_wp2_with (first
        | (go_at_call 57; refine HFD.out.mono ?_; rintro e w' ⟨rfl, rfl⟩)
        | (go_at_call 72; refine HAC.out.mono ?_; rintro e w1 ⟨rfl, hst⟩; have HST := hid hst; clear hst))
      go_ret
      exact ⟨rfl, HST.out⟩
end
end Go.Proofs.Ythjomknhbfplnaa
