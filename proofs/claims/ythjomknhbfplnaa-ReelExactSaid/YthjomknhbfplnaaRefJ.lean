/- The reference's disk: Append. -/
import Derived.Test.YthjomknhbfplnaaRefI
namespace Go.Proofs.Ythjomknhbfplnaa
open Go.RowKit Reel
set_option linter.unusedVariables false

theorem bt_append (l : List UInt8) (s : ByteArray) : bt l ++ s = bt (l ++ s.data.toList) := by
  apply ba_ext
  rw [bt_list, ByteArray.data_append, Array.toList_append]
  unfold bt; rfl
section
variable {w w1 w2 W : World} {u : Nat} {v v1 : Value} {S S1 : St} {x : ByteArray}
/-- the tail of Append: the reel is there -/
def TailPost (w w' : World) (u : Nat) (v : Value) (S2 : St) (er : Int) (e : Ending) : Prop := e = .returned (.int .i64 er) ∧ RStep w w' u v S2
theorem put_split (hok : S.Ok) (hx : hasN S.l x = false) (a b : Spool) : ∃ hp : posOf S.l x < (putT S x a).ents.length, (putT S x a).ents[posOf S.l x] = (x, a) ∧ (putT S x a).ents.set (posOf S.l x) (x, b) = (putT S x b).ents := by
  have hpl : posOf S.l x ≤ S.ents.length := by rw [ents_len hok]; exact posOf_le _ _
  have htl : (S.ents.take (posOf S.l x)).length = posOf S.l x := by rw [List.length_take]; omega
  have e := ents_put_no (t := a) hok hx
  have e2 := ents_put_no (t := b) hok hx
  refine ⟨by rw [e, List.length_append, htl, List.length_cons]; omega, ?_, ?_⟩
  · simp only [e]
    rw [List.getElem_append_right (by omega)]
    simp [htl]
  · rw [e, e2, List.set_append_right _ _ (by omega), htl, Nat.sub_self]; rfl
/-- bytes may be wound on: what has to be known -/
structure Onto (S Sm S2 : St) (x s : ByteArray) (k : Nat) (y : ByteArray) (sf : Nat) (b : Spool) : Prop where
  lt : k < Sm.ents.length
  at_ : Sm.ents[k]? = some (x, ⟨y.data.toList, sf⟩)
  ents : S2.ents = Sm.ents.set k (x, ⟨(y ++ s).data.toList, sf⟩)
  alike : Alike16 Sm S2
  ok : S2.Ok
  few : Sm.ents.length ≤ 64
  len : y.size + s.size ≤ 4194304
theorem bt_toList (y : ByteArray) : bt y.data.toList = y := ba_ext (bt_list _)
theorem ronto_set {s y : ByteArray} {k sf : Nat} {b : Spool} {Sm S2 : St} (ho : Onto S Sm S2 x s k y sf b) (h : RefAt w1 u v1 Sm) (hb : Below w1.heap.size w1 W) :
    Calls Try.prog 71 #[v1, .int .i64 k, .agg #[.string x, .string (y ++ s), .int .i64 sf]] W fun en w' => ∃ v' a n c, v' = .slice a n c ∧ en = .returned v' ∧ (∀ p z, W.cell? p = some z → w'.cell? p = some z) ∧ w'.frozen? ⟨u, 0, none⟩ = false ∧ Hid (RStep w1 (w'.setCell ⟨u, 0, none⟩ v') u v1 S2) := by
  have := rset_post h hb k (x, ⟨(y ++ s).data.toList, sf⟩) ho.lt
  simp only [bt_toList] at this
  refine this.mono ?_
  rintro en w' ⟨v', a, c, hv, rfl, q1, q2, q3⟩
  exact ⟨v', a, _, c, hv, rfl, q1, q2, q3.out S2 ho.alike ho.ents ho.ok⟩
theorem ronto_reel {s y : ByteArray} {k sf : Nat} {b : Spool} {Sm S2 : St} (ho : Onto S Sm S2 x s k y sf b) (h : RefAt w1 u v1 Sm) : ∃ g c, v1 = .slice (some ⟨g, 0, none⟩) Sm.ents.length c ∧ w1.cell? ⟨g, k * 3, none⟩ = some (.string x) ∧ w1.cell? ⟨g, k * 3 + 1, none⟩ = some (.string y) ∧ w1.cell? ⟨g, k * 3 + 2, none⟩ = some (.int .i64 sf) := by
  obtain ⟨g, c, hv, q0, q1, q2⟩ := h.reel ho.lt
  have e := ho.at_
  rw [List.getElem?_eq_getElem ho.lt] at e
  injection e with e
  rw [e] at q0 q1 q2
  simp only [bt_toList] at q1
  exact ⟨g, c, hv, q0, q1, q2⟩
theorem ract_step (h : RStep w w1 u v S1) (hd : S1.down = false) (n : Nat) (hf : S1.Fits n) (hn : n < big) : Calls Try.prog 72 #[.pointer (some ⟨u, 0, none⟩)] w1 fun e w' => e = .returned (.bool (decide ((actS S1).2 = 10))) ∧ RStep w w' u v (actS S1).1 := by
  obtain ⟨v1, r1, r2, r3⟩ := h
  refine (ract_any r1 hd n hf hn).mono ?_
  rintro e w' ⟨rfl, hs⟩
  exact ⟨rfl, RStep.next r1 r2 r3 hs⟩
theorem ok_of_act (h : (actS S).1.Ok) : S.Ok := by
  obtain ⟨l1, l2, l3, l4⟩ := act_l S
  exact h.with_ l1.symm l2.symm l3.symm (by rw [← l4]; exact h.room)
set_option maxRecDepth 100000 in
set_option maxHeartbeats 8000000 in
theorem rappend_any (x s : ByteArray) (h : RefAt w u v S) (N : Nat) (hf : S.Fits N) (hn : N < big) (hok : (appendS S x s).1.Ok) (hx63 : x.size ≤ 9223372036854775807) (hs63 : s.size ≤ 140737488355328) : Calls Try.prog 48 #[.pointer (some ⟨u, 0, none⟩), .string x, .string s] w fun e w' => e = .returned (.int .i64 (appendS S x s).2) ∧ RStep w w' u v (appendS S x s).1 := by
  have HRD := hid (rready_any h)
  have HPL := hid (rplace_any x h)
  have HAL := hid fun n => calls_same (rall_any (h.drewN n))
  have HS0 : Hid (∀ n, RStep w (w.drewN n) u v S) := fun n => ⟨v, h.drewN n, (Only.refl _ _).drewN n, .inl rfl⟩
  have HS1 : Hid (RStep w w u v S) := ⟨v, h, Only.refl _ _, .inl rfl⟩
  by_cases hd : S.down = true
  · have e1 : appendS S x s = (S, 10) := by unfold appendS; rw [if_pos hd]
    rw [hd] at HRD; rw [e1]
    clear h hd e1 hok hf
    go_enter Try.func48, Try.ntmps48
    go_wp2_with (go_at_call 68; refine HRD.out.mono ?_; rintro e w' ⟨rfl, rfl⟩)
    go_ret
    exact ⟨rfl, HS1.out⟩
  have hd' : S.down = false := by simpa using hd
  rw [hd'] at HRD
  by_cases hit : isName x = false
  · have e1 : appendS S x s = (S, 1) := by unfold appendS; rw [if_neg hd, if_pos hit]
    rw [e1]
    have hc : x.size < 1 ∨ 32 < x.size := by
      have hz : ¬ (1 ≤ x.size ∧ x.size ≤ 32) := by intro hh; have : isName x = true := decide_eq_true hh; rw [this] at hit; cases hit
      omega
    clear h hd hd' e1 hok hf hit
    rcases hc with hc | hc
    · have hc1 : x.size = 0 := by omega
      have g1 : (x.size : Int) < 1 := by omega
      go_enter Try.func48, Try.ntmps48
      go_wp2_with (go_at_call 68; refine HRD.out.mono ?_; rintro e w' ⟨rfl, rfl⟩)
      go_ret
      exact ⟨rfl, HS1.out⟩
    · have g1 : ¬ (x.size : Int) < 1 := by omega
      have g2 : (32 : Int) < x.size := by omega
      go_enter Try.func48, Try.ntmps48
      go_wp2_with (go_at_call 68; refine HRD.out.mono ?_; rintro e w' ⟨rfl, rfl⟩)
      go_ret
      exact ⟨rfl, HS1.out⟩
  have hit' : isName x = true := by simpa using hit
  have hz : 1 ≤ x.size ∧ x.size ≤ 32 := of_decide_eq_true hit'
  have g1 : ¬ (x.size : Int) < 1 := by omega
  have g2 : ¬ (32 : Int) < x.size := by omega
  obtain ⟨c0, c1, -, -, -, -⟩ := h.cells
  have hfew := ents_few h.ok
  have hroom := h.ok.room
  have hmost := h.ok.most
  have hul := ents_len h.ok
  have hok0 := h.ok
  cases ht : at_ S x with
  | none =>
    have hno := at_none h.ok ht
    rw [at_place_none h.ok ht] at HPL
    by_cases hA : 64 ≤ S.ents.length ∨ S.room < S.used + s.size ∨ 4194304 < s.size
    · have e1 : appendS S x s = (S, 11) := by
        unfold appendS
        rw [if_neg hd, if_neg (by rw [hit']; simp)]
        split
        · rfl
        · rw [ht]; exact if_pos (by omega)
      rw [e1]
      obtain ⟨a, c, rfl, hcc, -⟩ := own_reels h.row
      obtain ⟨LL, hLL⟩ : ∃ LL, S.ents.length = LL := ⟨_, rfl⟩
      obtain ⟨US, hUS⟩ : ∃ US, S.used = US := ⟨_, rfl⟩
      obtain ⟨RM, hRM⟩ : ∃ RM, S.room = RM := ⟨_, rfl⟩
      rw [hLL] at c0 hA hfew hcc; rw [hUS] at hA hmost HAL; rw [hRM] at hA c1 hroom
      have ew : IntKind.i64.wrap ((US : Int) + s.size) = (US : Int) + s.size := by rw [IntKind.wrap_i64]; omega
      clear h hd hd' e1 hok hf hit hit' hz hno ht hLL hUS hRM hul
      rcases Nat.lt_or_ge LL 64 with h1 | h1
      · rcases Nat.lt_or_ge RM (US + s.size) with h2 | h2
        · have a1 : decide ((64 : Int) ≤ LL) = false := by simp; omega
          have a2 : decide ((RM : Int) < US + s.size) = true := by simp; omega
          clear hA
          go_enter Try.func48, Try.ntmps48
          go_wp2_with (first
            | (go_at_call 68; refine HRD.out.mono ?_; rintro e w' ⟨rfl, rfl⟩)
            | (go_at_call 56; refine HPL.out.mono ?_; rintro e w' ⟨rfl, rfl⟩))
          go_quiet ((go_at_call 69; exact Calls.quiet_of_same (HAL.out _)))
          go_wp2
          go_ret
          exact ⟨rfl, HS0.out _⟩
        · have a1 : decide ((64 : Int) ≤ LL) = false := by simp; omega
          have a2 : decide ((RM : Int) < US + s.size) = false := by simp; omega
          have a3 : decide ((4194304 : Int) < s.size) = true := by simp; omega
          clear hA
          go_enter Try.func48, Try.ntmps48
          go_wp2_with (first
            | (go_at_call 68; refine HRD.out.mono ?_; rintro e w' ⟨rfl, rfl⟩)
            | (go_at_call 56; refine HPL.out.mono ?_; rintro e w' ⟨rfl, rfl⟩))
          go_quiet ((go_at_call 69; exact Calls.quiet_of_same (HAL.out _)))
          go_wp2
          go_ret
          exact ⟨rfl, HS0.out _⟩
      · have a1 : decide ((64 : Int) ≤ LL) = true := by simp; omega
        clear hA
        go_enter Try.func48, Try.ntmps48
        go_wp2_with (first
          | (go_at_call 68; refine HRD.out.mono ?_; rintro e w' ⟨rfl, rfl⟩)
          | (go_at_call 56; refine HPL.out.mono ?_; rintro e w' ⟨rfl, rfl⟩))
        go_quiet ((go_at_call 69; exact Calls.quiet_of_same (HAL.out _)))
        go_wp2
        go_ret
        exact ⟨rfl, HS0.out _⟩
    · obtain ⟨hA1, hA2, hA3⟩ : S.ents.length < 64 ∧ S.used + s.size ≤ S.room ∧ s.size ≤ 4194304 := by omega
      have e1 : appendS S x s = actS { putT S x ⟨s.data.toList, 0⟩ with used := S.used + s.size } := by
        unfold appendS
        rw [if_neg hd, if_neg (by rw [hit']; simp), if_neg (by omega), ht]; exact if_neg (by omega)
      rw [e1] at hok ⊢
      have hok2 := ok_of_act hok
      obtain ⟨hp, hpa, hps⟩ := put_split hok0 hno ⟨[], 0⟩ ⟨s.data.toList, 0⟩
      have hSmok : (putT S x ⟨[], 0⟩).Ok := by
        have := hok0.ins hno hit' (by rw [← hul]; exact hA1) (t' := ⟨[], 0⟩) (by simp) (Nat.zero_le _) S.used (by simp) hmost
        exact this
      have hins := insE_put hok0 hno ⟨[], 0⟩
      have hplm := place_found hSmok hp (by rw [hpa])
      obtain ⟨S2, hS2⟩ : ∃ S2 : St, { putT S x ⟨s.data.toList, 0⟩ with used := S.used + s.size } = S2 := ⟨_, rfl⟩
      have hS2d : S2.down = false := by rw [← hS2]; exact hd'
      have hS2f : S2.Fits N := by rw [← hS2]; exact hf
      have HSA : Hid (Alike16 S (putT S x ⟨[], 0⟩)) := ⟨rfl, rfl, rfl, rfl, rfl⟩
      obtain ⟨k, hk⟩ : ∃ k, posOf S.l x = k := ⟨_, rfl⟩
      obtain ⟨y, hy⟩ : ∃ y : ByteArray, ⟨#[]⟩ = y := ⟨_, rfl⟩
      obtain ⟨sf, hsf⟩ : ∃ sf : Nat, 0 = sf := ⟨_, rfl⟩
      have ONTO : Hid (Onto S (putT S x ⟨[], 0⟩) S2 x s k y sf ⟨s.data.toList, 0⟩) := by
        rw [← hS2, ← hk, ← hy, ← hsf]
        refine ⟨hp, by rw [List.getElem?_eq_getElem hp, hpa], ?_, ⟨rfl, rfl, rfl, rfl, rfl⟩, hok2, ents_few hSmok, by show 0 + s.size ≤ _; omega⟩
        show (putT S x ⟨s.data.toList, 0⟩).ents = _
        rw [← hps]
        congr 2
      rw [hS2]
      rw [hk] at hplm
      have HAC : Hid (∀ w', RStep w w' u v S2 → Calls Try.prog 72 #[.pointer (some ⟨u, 0, none⟩)] w' fun e w'' => e = .returned (.bool (decide ((actS S2).2 = 10))) ∧ RStep w w'' u v (actS S2).1) := fun w' hs => ract_step hs hS2d N hS2f hn
      obtain ⟨a, c, rfl, hcc, hR⟩ := own_reels h.row
      have HWI : Hid (∀ n, Calls Try.prog 70 #[.slice a S.ents.length c, .agg #[.string x, .string ⟨#[]⟩, .int .i64 0]] (w.drewN n) fun en w' => ∃ v' a' n' c', v' = .slice a' n' c' ∧ en = .returned v' ∧ (∀ p z, w.cell? p = some z → w'.cell? p = some z) ∧ w'.frozen? ⟨u, 0, none⟩ = false ∧ Hid (RStep w (w'.setCell ⟨u, 0, none⟩ v') u (.slice a S.ents.length c) (putT S x ⟨[], 0⟩))) := fun n => by
        have := rwith_post h (below_drewN (Below.refl _ _) n) S.ents (x, ⟨[], 0⟩) a c hR hfew
        refine this.mono ?_
        rintro en w' ⟨v', a', c', hv, rfl, q1, q2, q3⟩
        exact ⟨v', a', _, c', hv, rfl, q1, q2, q3.out _ HSA.out hins.symm hSmok⟩
      obtain ⟨Sm, hSm⟩ : ∃ Sm, putT S x ⟨[], 0⟩ = Sm := ⟨_, rfl⟩
      rw [hSm] at ONTO HWI hplm
      have HPM : Hid (∀ w' v', RefAt w' u v' Sm → Calls Try.prog 56 #[.pointer (some ⟨u, 0, none⟩), .string x] w' fun e w'' => e = .returned (.int .i64 k) ∧ w' = w'') := fun w' v' hr => by
        have := rplace_any x hr
        rw [hplm] at this; exact this
      obtain ⟨LL, hLL⟩ : ∃ LL, S.ents.length = LL := ⟨_, rfl⟩
      obtain ⟨US, hUS⟩ : ∃ US, S.used = US := ⟨_, rfl⟩
      obtain ⟨RM, hRM⟩ : ∃ RM, S.room = RM := ⟨_, rfl⟩
      rw [hLL] at c0 hA1 hfew hcc HWI HAC ⊢; rw [hUS] at hA2 hmost HAL; rw [hRM] at hA2 c1 hroom
      have ew : IntKind.i64.wrap ((US : Int) + s.size) = (US : Int) + s.size := by rw [IntKind.wrap_i64]; omega
      have a1 : decide ((64 : Int) ≤ LL) = false := by simp; omega
      have a2 : decide ((RM : Int) < US + s.size) = false := by simp; omega
      have a3 : decide ((4194304 : Int) < s.size) = false := by simp; omega
      clear h hd hd' e1 hok hf hit hit' hz hno ht hRM hul hA hok2 hp hpa hps hSmok hins hplm hS2 hS2d hS2f hk hy hsf hR hSm hok0 HS0 HS1 hUS hLL
      go_enter Try.func48, Try.ntmps48
      go_wp2_with (first
        | (go_at_call 68; refine HRD.out.mono ?_; rintro e w' ⟨rfl, rfl⟩)
        | (go_at_call 56; refine HPL.out.mono ?_; rintro e w' ⟨rfl, rfl⟩))
      go_quiet ((go_at_call 69; exact Calls.quiet_of_same (HAL.out _)))
      go_wp2_with (first
        | (go_at_call 70; refine (HWI.out _).mono ?_; rintro e w' ⟨v', va, vn, vc, rfl, rfl, up, fz, hst⟩; have t0 := up ⟨u, 0, none⟩ _ c0; clear up))
      generalize hwq : World.setCell _ _ _ = wq at hst ⊢
      obtain ⟨v1, r1, o1, p1⟩ := hst.out
      have R1 := hid r1; have OQ := hid o1; have VQ := hid p1
      clear hst r1 o1 p1 t0 fz hwq c0 c1
      refine (HPM.out _ _ R1.out).mono ?_; rintro e w'' ⟨rfl, rfl⟩
      obtain ⟨g, c, rfl, q0, q1, q2⟩ := ronto_reel ONTO.out R1.out
      obtain ⟨c0, -, -, -, -, -⟩ := R1.out.cells
      have hkl := ONTO.out.lt; have hf64 := ONTO.out.few; have hlen := ONTO.out.len
      have ck0 : (0 : Int) ≤ (k : Int) := by omega
      have ck1 : (k : Int) < Sm.ents.length := by omega
      have hcat : ¬ 9223372036854775807 < y.size + s.size := by omega
      have W0 : (wq.alloc (.cells #[.string x, .string (y ++ s), .int .i64 sf] 79)).cell? ⟨u, 0, none⟩ = some (.slice (some ⟨g, 0, none⟩) Sm.ents.length c) := (World.cell?_of_block (Below.heap_alloc _ _ _ R1.out.lt)).trans c0
      have GX : Hid (Blk (wq.alloc (.cells #[.string x, .string (y ++ s), .int .i64 sf] 79)) wq.heap.size 79 #[.string x, .string (y ++ s), .int .i64 sf]) := Blk.new _ _ _
      go_wp2
      go_region_with ((first
        | (go_at_call 71; refine (ronto_set ONTO.out R1.out ?_).mono ?_; (exact ((Below.refl _ _).alloc (Nat.le_refl _) _).drew); rintro e w' ⟨v', va, vn, vc, rfl, rfl, up, fz, hst⟩; have t0 := up ⟨u, 0, none⟩ _ W0; have t1 := up ⟨wq.heap.size, 0, none⟩ _ (Blk.cell GX.out 0); have t2 := up ⟨wq.heap.size, 1, none⟩ _ (Blk.cell GX.out 1); have t3 := up ⟨wq.heap.size, 2, none⟩ _ (Blk.cell GX.out 2); clear up)))
      all_goals
        rcases act_err S2 with ha | ha
        all_goals
          have HA := hid (HAC.out _ (RStep.next R1.out OQ.out VQ.out hst.out))
          rw [ha] at HA
          have HAE := hid ha
          clear ha
          go_wp2_with (go_at_call 72; refine HA.out.mono ?_; rintro e w6 ⟨rfl, h6⟩; have H6 := hid h6; clear h6)
          go_ret
          exact ⟨ret_int HAE.out.symm, H6.out⟩
  | some t =>
    obtain ⟨hk, hpl, he⟩ := at_place h.ok ht
    rw [hpl] at HPL
    have hsafe := h.ok.each t (at_mem ht)
    obtain ⟨y, hy⟩ : ∃ y, bt t.bytes = y := ⟨_, rfl⟩
    have hylen : t.bytes.length = y.size := by rw [← hy, bt_size]
    obtain ⟨gr, cr, hvr, q0, q1, q2⟩ := h.reel hk
    obtain ⟨k, hkk⟩ : ∃ k, posOf S.l x = k := ⟨_, rfl⟩
    simp only [hkk] at hk he q0 q1 q2 HPL
    rw [he] at q0 q1 q2
    simp only [hy] at q1
    by_cases hA : S.room < S.used + s.size ∨ 4194304 < t.bytes.length + s.size
    · have e1 : appendS S x s = (S, 11) := by
        unfold appendS
        rw [if_neg hd, if_neg (by rw [hit']; simp)]
        split
        · rfl
        · rw [ht]; exact if_pos (by omega)
      rw [e1]
      subst hvr
      rw [hylen] at hA hsafe
      obtain ⟨LL, hLL⟩ : ∃ LL, S.ents.length = LL := ⟨_, rfl⟩
      obtain ⟨US, hUS⟩ : ∃ US, S.used = US := ⟨_, rfl⟩
      obtain ⟨RM, hRM⟩ : ∃ RM, S.room = RM := ⟨_, rfl⟩
      rw [hLL] at c0 hfew hk; rw [hUS] at hA hmost HAL; rw [hRM] at hA c1 hroom
      have ew : IntKind.i64.wrap ((US : Int) + s.size) = (US : Int) + s.size := by rw [IntKind.wrap_i64]; omega
      have ew2 : IntKind.i64.wrap ((y.size : Int) + s.size) = (y.size : Int) + s.size := by rw [IntKind.wrap_i64]; omega
      have b0 : decide ((k : Int) < 0) = false := by simp
      have b1 : decide ((0 : Int) ≤ k) = true := by simp
      have ck0 : (0 : Int) ≤ (k : Int) := by omega
      have ck1 : (k : Int) < LL := by omega
      clear h hd hd' e1 hok hf hit hit' hz ht hLL hUS hRM hul he hpl hy hylen hkk
      rcases Nat.lt_or_ge RM (US + s.size) with h2 | h2
      · have a2 : decide ((RM : Int) < US + s.size) = true := by simp; omega
        clear hA
        go_enter Try.func48, Try.ntmps48
        go_wp2_with (first
          | (go_at_call 68; refine HRD.out.mono ?_; rintro e w' ⟨rfl, rfl⟩)
          | (go_at_call 56; refine HPL.out.mono ?_; rintro e w' ⟨rfl, rfl⟩))
        go_quiet ((go_at_call 69; exact Calls.quiet_of_same (HAL.out _)))
        go_wp2
        go_ret
        exact ⟨rfl, HS0.out _⟩
      · have a2 : decide ((RM : Int) < US + s.size) = false := by simp; omega
        rcases Nat.lt_or_ge 4194304 s.size with h3 | h3
        · have a3 : decide ((4194304 : Int) < s.size) = true := by simp; omega
          clear hA
          go_enter Try.func48, Try.ntmps48
          go_wp2_with (first
            | (go_at_call 68; refine HRD.out.mono ?_; rintro e w' ⟨rfl, rfl⟩)
            | (go_at_call 56; refine HPL.out.mono ?_; rintro e w' ⟨rfl, rfl⟩))
          go_quiet ((go_at_call 69; exact Calls.quiet_of_same (HAL.out _)))
          go_wp2
          go_ret
          exact ⟨rfl, HS0.out _⟩
        · have a3 : decide ((4194304 : Int) < s.size) = false := by simp; omega
          have a4 : decide ((4194304 : Int) < y.size + s.size) = true := by simp; omega
          clear hA
          go_enter Try.func48, Try.ntmps48
          go_wp2_with (first
            | (go_at_call 68; refine HRD.out.mono ?_; rintro e w' ⟨rfl, rfl⟩)
            | (go_at_call 56; refine HPL.out.mono ?_; rintro e w' ⟨rfl, rfl⟩))
          go_quiet ((go_at_call 69; exact Calls.quiet_of_same (HAL.out _)))
          go_wp2
          go_ret
          exact ⟨rfl, HS0.out _⟩
    · obtain ⟨hA2, hA3⟩ : S.used + s.size ≤ S.room ∧ t.bytes.length + s.size ≤ 4194304 := by omega
      have e1 : appendS S x s = actS { putT S x { t with bytes := t.bytes ++ s.data.toList } with used := S.used + s.size } := by
        unfold appendS
        rw [if_neg hd, if_neg (by rw [hit']; simp), if_neg (by omega), ht]; exact if_neg (by omega)
      rw [e1] at hok ⊢
      have hok2 := ok_of_act hok
      have hsp := set_put h.ok (at_some ht).1 { t with bytes := t.bytes ++ s.data.toList }
      obtain ⟨S2, hS2⟩ : ∃ S2 : St, { putT S x { t with bytes := t.bytes ++ s.data.toList } with used := S.used + s.size } = S2 := ⟨_, rfl⟩
      have hS2d : S2.down = false := by rw [← hS2]; exact hd'
      have hS2f : S2.Fits N := by rw [← hS2]; exact hf
      obtain ⟨sf, hsf⟩ : ∃ sf : Nat, t.safe = sf := ⟨_, rfl⟩
      have ONTO : Hid (Onto S S S2 x s k y sf t) := by
        rw [← hS2, ← hsf]
        refine ⟨hk, by rw [List.getElem?_eq_getElem hk, he, ← hy, bt_list], ?_, ⟨rfl, rfl, rfl, rfl, rfl⟩, hok2, hfew, by omega⟩
        show (putT S x _).ents = _
        rw [← hsp, hkk, ← hy, bt_append, bt_list]
      rw [hS2]
      have HAC : Hid (∀ w', RStep w w' u v S2 → Calls Try.prog 72 #[.pointer (some ⟨u, 0, none⟩)] w' fun e w'' => e = .returned (.bool (decide ((actS S2).2 = 10))) ∧ RStep w w'' u v (actS S2).1) := fun w' hs => ract_step hs hS2d N hS2f hn
      have RW : Hid (∀ n, RefAt (w.drewN n) u v S) := fun n => h.drewN n
      rw [hylen] at hA3
      rw [hsf] at q2
      subst hvr
      obtain ⟨LL, hLL⟩ : ∃ LL, S.ents.length = LL := ⟨_, rfl⟩
      obtain ⟨US, hUS⟩ : ∃ US, S.used = US := ⟨_, rfl⟩
      obtain ⟨RM, hRM⟩ : ∃ RM, S.room = RM := ⟨_, rfl⟩
      rw [hLL] at c0 hfew hk; rw [hUS] at hA2 hmost HAL; rw [hRM] at hA2 c1 hroom
      have ew : IntKind.i64.wrap ((US : Int) + s.size) = (US : Int) + s.size := by rw [IntKind.wrap_i64]; omega
      have ew2 : IntKind.i64.wrap ((y.size : Int) + s.size) = (y.size : Int) + s.size := by rw [IntKind.wrap_i64]; omega
      have b0 : decide ((k : Int) < 0) = false := by simp
      have b1 : decide ((0 : Int) ≤ k) = true := by simp
      have ck0 : (0 : Int) ≤ (k : Int) := by omega
      have ck1 : (k : Int) < LL := by omega
      have a2 : decide ((RM : Int) < US + s.size) = false := by simp; omega
      have a3 : decide ((4194304 : Int) < s.size) = false := by simp; omega
      have a4 : decide ((4194304 : Int) < y.size + s.size) = false := by simp; omega
      clear h hd hd' e1 hok hf hit hit' hz ht hRM hul he hpl hy hylen hkk hA hok2 hsp hS2 hS2d hS2f hsf hok0 HS0 HS1 hUS hsafe
      go_enter Try.func48, Try.ntmps48
      go_wp2_with (first
        | (go_at_call 68; refine HRD.out.mono ?_; rintro e w' ⟨rfl, rfl⟩)
        | (go_at_call 56; refine HPL.out.mono ?_; rintro e w' ⟨rfl, rfl⟩))
      go_quiet ((go_at_call 69; exact Calls.quiet_of_same (HAL.out _)))
      obtain ⟨wq, hwq⟩ : ∃ wq, w.drewN nq = wq := ⟨_, rfl⟩
      obtain ⟨v1, hv1⟩ : ∃ v1, Value.slice (some ⟨gr, 0, none⟩) S.ents.length cr = v1 := ⟨_, rfl⟩
      have R1 : Hid (RefAt wq u v1 S) := by rw [← hwq, ← hv1]; exact RW.out _
      have OQ : Hid (Only (· = u) w wq) := by rw [← hwq]; exact (Only.refl _ _).drewN _
      have VQ : Hid (v1 = .slice (some ⟨gr, 0, none⟩) S.ents.length cr ∨ ∀ k, v1.ownBlock = some k → w.heap.size ≤ k) := .inl hv1.symm
      rw [hwq]
      clear hwq RW c0 c1 q0 q1 q2 ck0 ck1 hLL hv1
      obtain ⟨g, c, rfl, q0, q1, q2⟩ := ronto_reel ONTO.out R1.out
      obtain ⟨c0, -, -, -, -, -⟩ := R1.out.cells
      have hkl := ONTO.out.lt; have hf64 := ONTO.out.few; have hlen := ONTO.out.len
      have ck0 : (0 : Int) ≤ (k : Int) := by omega
      have ck1 : (k : Int) < S.ents.length := by omega
      have hcat : ¬ 9223372036854775807 < y.size + s.size := by omega
      have W0 : (wq.alloc (.cells #[.string x, .string (y ++ s), .int .i64 sf] 79)).cell? ⟨u, 0, none⟩ = some (.slice (some ⟨g, 0, none⟩) S.ents.length c) := (World.cell?_of_block (Below.heap_alloc _ _ _ R1.out.lt)).trans c0
      have GX : Hid (Blk (wq.alloc (.cells #[.string x, .string (y ++ s), .int .i64 sf] 79)) wq.heap.size 79 #[.string x, .string (y ++ s), .int .i64 sf]) := Blk.new _ _ _
      go_wp2
      go_region_with ((first
        | (go_at_call 71; refine (ronto_set ONTO.out R1.out ?_).mono ?_; (exact ((Below.refl _ _).alloc (Nat.le_refl _) _).drew); rintro e w' ⟨v', va, vn, vc, rfl, rfl, up, fz, hst⟩; have t0 := up ⟨u, 0, none⟩ _ W0; have t1 := up ⟨wq.heap.size, 0, none⟩ _ (Blk.cell GX.out 0); have t2 := up ⟨wq.heap.size, 1, none⟩ _ (Blk.cell GX.out 1); have t3 := up ⟨wq.heap.size, 2, none⟩ _ (Blk.cell GX.out 2); clear up)))
      all_goals
        rcases act_err S2 with ha | ha
        all_goals
          have HA := hid (HAC.out _ (RStep.next R1.out OQ.out VQ.out hst.out))
          rw [ha] at HA
          have HAE := hid ha
          clear ha
          go_wp2_with (go_at_call 72; refine HA.out.mono ?_; rintro e w6 ⟨rfl, h6⟩; have H6 := hid h6; clear h6)
          go_ret
          exact ⟨ret_int HAE.out.symm, H6.out⟩
end
end Go.Proofs.Ythjomknhbfplnaa
