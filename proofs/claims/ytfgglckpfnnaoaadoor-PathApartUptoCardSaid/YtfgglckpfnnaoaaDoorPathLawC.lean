/- The walks of PathFolders and PathApart. -/
import Derived.Test.YtfgglckpfnnaoaaDoorPathLawB
namespace Go.Proofs.YtfgglckpfnnaoaaDoor
open Go.RowKit Pap
set_option linter.unusedVariables false

set_option maxHeartbeats 8000000 in
theorem walk_PathFolders (s o : ByteArray) (w : World) (hs : s.size ≤ 1048576) (ho : o.size ≤ 1048576) (hm : MaxAt w) :
    Calls Tryd.prog 9 #[.string s, .string o] w fun e w' => e = .returned (.bool true) ∧ Below w.heap.size w w' := by
  have HM := hid hm; clear hm
  have hs' : s.size < 4294967281 := by omega
  have ho' : o.size < 4294967281 := by omega
  by_cases h0 : splitE s.data.toList = 0
  · have hp := check_pieces h0
    have H0 := hid h0
    go_enter Tryd.func9, Tryd.ntmps9
    go_wp2_with fail
    refine (awake_any _ HM.out).mono ?_; rintro e w1 ⟨rfl, hb1⟩
    go_wp2_with fail
    refine (split_yes s _ hs' (HM.out.later hb1) H0.out).mono ?_; rintro e w2 ⟨pa, x, rfl, hx, hnx, hb2⟩
    have hB2 := below_then hb1 hb2
    have x2 : x.length ≤ 64 := by have h1 := hp.2.2; rw [← hnx, ls_length] at h1; omega
    have HC : Hid (checkE (ls x) = 0) := by unfold Hid; rw [hnx]; exact h0
    have HJ : Hid (s.data.toList = joinL (ls x)) := by unfold Hid; rw [hnx, join_pieces]
    obtain ⟨P, hP⟩ : ∃ P, ls x = P := ⟨_, rfl⟩
    have hPl : P.length = x.length := by rw [← hP, ls_length]
    have HP := hid hP
    rw [hP] at HC HJ
    have HPL := hid hPl
    clear hp hnx h0 hP hb1 hb2 hPl
    go_wp2_with fail
    go_loopw [7, 8] (fun is n wr => ∃ k : Nat, 1 ≤ k ∧ k ≤ x.length + 1 ∧ n = .int .i64 k ∧ is = .bool (isUp P o.data.toList k) ∧ Below w2.heap.size w2 wr) (fun _ n _ => x.length + 1 - (intOf n).toNat)
    case atStart => exact ⟨1, by omega, by omega, rfl, by rw [isUp_zero], Below.refl _ _⟩
    case round =>
      obtain ⟨k, hk1, hk2, rfl, rfl, hbel⟩ := hrel
      by_cases hle : k ≤ x.length
      · obtain ⟨f1, f2⟩ := within_take (P := P) HC.out hk1 (by rw [HPL.out]; exact hle)
        have hup := isUp_succ P o.data.toList k hk1
        have hck := check_take HC.out hk1
        have jb := join_bound hck
        obtain ⟨T, hT⟩ : ∃ T : ByteArray, T.data.toList = joinL (P.take k) := ⟨⟨(joinL (P.take k)).toArray⟩, rfl⟩
        have hTs : T.size < 4294967281 := by
          have h4 : T.data.toList.length = T.size := Array.length_toList
          rw [hT] at h4; omega
        have hlst : ls (x.take k) = P.take k := by rw [← HP.out]; unfold ls; rw [List.map_take]
        rw [← hT, ← HJ.out] at f1 f2
        rw [← hT] at hup
        obtain ⟨I, hI⟩ : ∃ I, isUp P o.data.toList k = I := ⟨_, rfl⟩
        rw [hI] at hup ⊢
        have hteq : decide (T.data.toList = o.data.toList) = (T.toList == o.toList) := by
          rw [ba_toList, ba_toList, Bool.eq_iff_iff, decide_eq_true_eq, beq_iff_eq]
        rw [hteq] at hup
        obtain ⟨Q, hQ⟩ : ∃ Q, (T.toList == o.toList) = Q := ⟨_, rfl⟩
        rw [hQ] at hup
        obtain ⟨C, hC⟩ : ∃ C, compareR T.data.toList s.data.toList = C := ⟨_, rfl⟩
        rw [hC] at f2
        have cJ : ∀ W, Below w2.heap.size w2 W → Calls Tryd.prog 13 #[.slice pa k x.length] W fun e w' => e = .returned (.tuple #[.string T, .int .i64 0]) ∧ Below W.heap.size W w' := fun W hW =>
          join_yes pa k x.length (x.take k) W (strsAt_take (hx.later hW) hle) hle T (by rw [hlst]; exact hck) (by rw [hlst, hT])
        have cC : ∀ W, MaxAt W → Calls Tryd.prog 18 #[.string T, .string s] W fun e w' => e = .returned (.int .i64 C) ∧ Below W.heap.size W w' := fun W hW => by rw [← hC]; exact compare_any T s W hTs hs' hW
        have hnp : ¬ 0 < C := by omega
        have HF1 := hid f1; have HUP := hid hup; have CJ := hid cJ; have CC := hid cC
        clear f1 f2 hup cJ cC hI hteq hC hck jb hlst hT
        by_cases hlt : k < x.length
        · have CW : Hid (∀ W, MaxAt W → Calls Tryd.prog 20 #[.string T, .string s] W fun e w' => e = .returned (.bool true) ∧ Below W.heap.size W w') := fun W hW => by
            have := within_any T s W hTs hs' hW
            rwa [HF1.out, decide_eq_true (by rw [HPL.out]; exact hlt)] at this
          have HU : Hid (isUp P o.data.toList (k + 1) = (I || Q)) := by unfold Hid; rw [HUP.out, decide_eq_true (by rw [HPL.out]; exact hlt), Bool.and_true]
          have dl : decide (k < x.length) = true := decide_eq_true hlt
          clear HUP HF1
          cases I <;> cases Q
          all_goals
            go_wp2_with (first
              | (go_at_call 13; refine (CJ.out _ hbel).mono ?_; rintro e w5 ⟨rfl, hb5⟩; replace hbel := below_then hbel hb5; clear hb5)
              | (go_at_call 20; refine (CW.out _ (HM.out.later (below_then hB2 hbel))).mono ?_; rintro e w5 ⟨rfl, hb5⟩; replace hbel := below_then hbel hb5; clear hb5)
              | (go_at_call 18; refine (CC.out _ (HM.out.later (below_then hB2 hbel))).mono ?_; rintro e w5 ⟨rfl, hb5⟩; replace hbel := below_then hbel hb5; clear hb5))
            go_roundw
            case rel => exact ⟨k + 1, by omega, by omega, by go_num, by rw [HU.out]; rfl, hbel⟩
            case measure => simp [intOf]; omega
        · obtain rfl : k = x.length := by omega
          have CW : Hid (∀ W, MaxAt W → Calls Tryd.prog 20 #[.string T, .string s] W fun e w' => e = .returned (.bool false) ∧ Below W.heap.size W w') := fun W hW => by
            have := within_any T s W hTs hs' hW
            rwa [HF1.out, decide_eq_false (by rw [HPL.out]; omega)] at this
          have HU : Hid (isUp P o.data.toList (x.length + 1) = I) := by unfold Hid; rw [HUP.out, decide_eq_false (by rw [HPL.out]; omega), Bool.and_false, Bool.or_false]
          have dl : decide (x.length < x.length) = false := decide_eq_false (by omega)
          clear HUP HF1
          cases I <;> cases Q
          all_goals
            go_wp2_with (first
              | (go_at_call 13; refine (CJ.out _ hbel).mono ?_; rintro e w5 ⟨rfl, hb5⟩; replace hbel := below_then hbel hb5; clear hb5)
              | (go_at_call 20; refine (CW.out _ (HM.out.later (below_then hB2 hbel))).mono ?_; rintro e w5 ⟨rfl, hb5⟩; replace hbel := below_then hbel hb5; clear hb5)
              | (go_at_call 18; refine (CC.out _ (HM.out.later (below_then hB2 hbel))).mono ?_; rintro e w5 ⟨rfl, hb5⟩; replace hbel := below_then hbel hb5; clear hb5))
            go_roundw
            case rel => exact ⟨x.length + 1, by omega, by omega, by go_num, by rw [HU.out], hbel⟩
            case measure => simp [intOf]; try omega
      · obtain rfl : k = x.length + 1 := by omega
        have hall := isUp_all (P := P) HC.out o.data.toList
        rw [← HJ.out, HPL.out] at hall
        obtain ⟨I, hI⟩ : ∃ I, isUp P o.data.toList (x.length + 1) = I := ⟨_, rfl⟩
        rw [hI] at hall ⊢
        have CW : Hid (∀ W, MaxAt W → Calls Tryd.prog 20 #[.string o, .string s] W fun e w' => e = .returned (.bool I) ∧ Below W.heap.size W w') := fun W hW => by
          have := within_any o s W ho' hs' hW
          rwa [hall] at this
        clear hall hI
        go_wp2_with (go_at_call 20; refine (CW.out _ (HM.out.later (below_then hB2 hbel))).mono ?_; rintro e w5 ⟨rfl, hb5⟩; replace hbel := below_then hbel hb5; clear hb5)
        go_ret
        exact ⟨ret_bool (by simp), below_then hB2 hbel⟩
  · have c1 : withinR s.data.toList o.data.toList = false := within_no (.inl h0)
    have c2 : withinR o.data.toList s.data.toList = false := within_no (.inr h0)
    have C1 : Hid (∀ W, MaxAt W → Calls Tryd.prog 20 #[.string s, .string o] W fun e w' => e = .returned (.bool false) ∧ Below W.heap.size W w') := fun W hW => by
      have := within_any s o W hs' ho' hW
      rwa [c1] at this
    have C2 : Hid (∀ W, MaxAt W → Calls Tryd.prog 20 #[.string o, .string s] W fun e w' => e = .returned (.bool false) ∧ Below W.heap.size W w') := fun W hW => by
      have := within_any o s W ho' hs' hW
      rwa [c2] at this
    obtain ⟨E, hE⟩ : ∃ E, splitE s.data.toList = E := ⟨_, rfl⟩
    rw [hE] at h0
    have HE := hid hE
    have e1 : (E != 0) = true := by simpa using h0
    clear c1 c2 hE h0
    go_enter Tryd.func9, Tryd.ntmps9
    go_wp2_with fail
    refine (awake_any _ HM.out).mono ?_; rintro e w1 ⟨rfl, hb1⟩
    go_wp2_with fail
    refine (split_num s _ hs' (HM.out.later hb1) E HE.out).mono ?_; rintro e w2 ⟨pa, x, rfl, hb2⟩
    replace hb1 := below_then hb1 hb2; clear hb2
    go_wp2_with fail
    refine (C1.out _ (HM.out.later hb1)).mono ?_; rintro e w3 ⟨rfl, hb2⟩
    replace hb1 := below_then hb1 hb2; clear hb2
    go_wp2_with fail
    refine (C2.out _ (HM.out.later hb1)).mono ?_; rintro e w4 ⟨rfl, hb2⟩
    replace hb1 := below_then hb1 hb2; clear hb2
    go_wp2_with fail
    go_ret
    exact ⟨rfl, hb1⟩

/-- the slice with the base a and n places reads as the list l of bools -/
def BoolsAt (w : World) (a : Option Addr) (n : Nat) (l : List Bool) : Prop :=
  l.length = n ∧ n ≤ 9223372036854775807 ∧ (n = 0 ∨ ∃ b off, a = some ⟨b, off, none⟩ ∧ ∀ j, j < n → w.cell? ⟨b, off + j, none⟩ = some (.bool (l.getD j false)))
theorem BoolsAt.later {w w' : World} {a : Option Addr} {n : Nat} {l : List Bool} (h : BoolsAt w a n l) (hb : Below w.heap.size w w') : BoolsAt w' a n l := by
  obtain ⟨h1, h2, h3⟩ := h
  refine ⟨h1, h2, h3.imp id ?_⟩
  rintro ⟨b, off, ha, hc⟩
  refine ⟨b, off, ha, fun j hj => ?_⟩
  have h4 := hc j hj
  rw [hb.cell (p := ⟨b, off + j, none⟩) (World.block_lt_of_cell? w _ h4)]
  exact h4
theorem own_base {w : World} {B B' e s n : Nat} {v : Value} {xs : List Value} (h : w.ownsRow B e s v n xs) (hB : B' ≤ B) : w.ownsRow B' e s v n xs := by
  refine ⟨h.1, h.2.imp id ?_⟩
  rintro ⟨g, cap, cur, hv, hb, r⟩
  exact ⟨g, cap, cur, hv, by omega, r⟩
theorem ls_sublist {x y : List ByteArray} (h : x.Sublist y) : (ls x).Sublist (ls y) := by unfold ls; exact h.map _
theorem ls_reverse (x : List ByteArray) : ls x.reverse = (ls x).reverse := by unfold ls; exact List.map_reverse

set_option maxHeartbeats 8000000 in
theorem walk_PathApart (a : Option Addr) (n c : Nat) (l : List ByteArray) (kb : Option Addr) (m d : Nat) (kl : List Bool) (w : World) (hS : StrsAt w a n l) (hc : n ≤ c) (hcm : c ≤ maxLen) (hz : ∀ x ∈ l, x.size ≤ 1048576) (hK : BoolsAt w kb m kl) (hm : MaxAt w) :
    Calls Tryd.prog 8 #[.slice a n c, .slice kb m d] w fun e w' => e = .returned (.bool true) ∧ Below w.heap.size w w' := by
  have HM := hid hm; clear hm
  have hnl := hS.1
  have hn := hS.2.1
  by_cases h40 : 40 < n
  · have g1 : (40 : Int) < n := by omega
    go_enter Tryd.func8, Tryd.ntmps8
    go_wp2_with fail
    refine (awake_any _ HM.out).mono ?_; rintro e w1 ⟨rfl, hb1⟩
    go_wp2_with fail
    go_ret
    exact ⟨rfl, hb1⟩
  · have g1 : ¬ (40 : Int) < n := by omega
    have cP : ∀ W, Below w.heap.size w W → Calls Tryd.prog 22 #[.slice a n c] W fun e w' => e = .returned (.tuple #[.int .i64 (checkR (ls l)).1, .int .i64 (checkR (ls l)).2]) ∧ Below W.heap.size W w' := fun W hW =>
      pcheck_any a n c l W (hS.later hW) hc hcm (fun x hx => Nat.lt_of_le_of_lt (hz x hx) (by decide)) (HM.out.later hW)
    obtain ⟨A, hA⟩ : ∃ A, (checkR (ls l)).1 = A := ⟨_, rfl⟩
    obtain ⟨B, hB⟩ : ∃ B, (checkR (ls l)).2 = B := ⟨_, rfl⟩
    rw [hA, hB] at cP
    have CP := hid cP; have HB0 := hid hB
    clear cP hA hB
    by_cases hB0 : B = 0
    · subst hB0
      have hap := ((checkR_ok (ls l)).1 HB0.out).2
      have HZ := hid hz; have HAP := hid hap; have HK := hid hK; have HS := hid hS
      clear hz hap hK hcm
      go_enter Tryd.func8, Tryd.ntmps8
      go_wp2_with fail
      refine (awake_any _ HM.out).mono ?_; rintro e w1 ⟨rfl, hb1⟩
      go_wp2_with fail
      refine (CP.out _ hb1).mono ?_; rintro e w2 ⟨rfl, hb2⟩
      have hB2 := below_then hb1 hb2
      clear hb1 hb2
      go_wp2_with fail
      go_loopw [7, 8] (fun v i wr => ∃ (j : Int) (p : List ByteArray), -1 ≤ j ∧ j < n ∧ i = .int .i64 j ∧ wr.ownsRow w.heap.size 9 1 v p.length (svals p) ∧ Below w.heap.size w wr ∧ Hid (p.Sublist (l.drop (j + 1).toNat).reverse)) (fun _ i _ => (intOf i + 1).toNat)
      case atStart => exact ⟨(n : Int) - 1, [], by omega, by omega, rfl, own_base (own_empty w2) hB2.size, hB2.alloc hB2.size _, by unfold Hid; simp⟩
      case round =>
        obtain ⟨wo, rfl⟩ : ∃ wo : World, wo = wr := ⟨_, rfl⟩
        obtain ⟨j, p, hj1, hj2, rfl, hown, hbel, HP⟩ := hrel
        have hbs := hbel.size
        by_cases h0 : 0 ≤ j
        · obtain ⟨i, rfl⟩ := Int.eq_ofNat_of_zero_le h0
          have hin : i < n := by omega
          obtain ⟨b, off, rfl, -⟩ := HS.out.2.2.resolve_left (by omega)
          have HC : Hid (∀ W, Below w.heap.size w W → ∀ q, q < n → W.cell? ⟨b, off + q, none⟩ = some (.string (l.getD q ByteArray.empty))) := fun W hW q hq => by
            obtain ⟨b', off', hab, hcc⟩ := (HS.out.later hW).2.2.resolve_left (by omega)
            cases hab; exact hcc q hq
          have HPS : Hid (p.Sublist (l.drop i).reverse ∧ (p ++ [l.getD i ByteArray.empty]).Sublist (l.drop i).reverse) := by
            have h1 := HP.out
            rw [show ((i : Int) + 1).toNat = i + 1 from by omega] at h1
            have h2 := part_step (i := i) (by omega) h1
            unfold Hid
            rwa [List.getD_eq_getElem?_getD, List.getElem?_eq_getElem (by omega)]
          have HE : Hid (∀ q, q < i → apart (l.getD i ByteArray.empty).data.toList (l.getD q ByteArray.empty).data.toList) := fun q hq => by
            have h1 := apart_get HAP.out (i := i) (k := q) (by rw [ls_length]; omega) hq
            rwa [ls_get, ls_get] at h1
          have HZ1 : Hid (∀ q, q < n → (l.getD q ByteArray.empty).size < 4294967281) := fun q hq => by
            refine Nat.lt_of_le_of_lt (HZ.out _ ?_) (by decide)
            rw [List.getD_eq_getElem?_getD, List.getElem?_eq_getElem (by omega)]; exact List.getElem_mem _
          obtain ⟨t, ht⟩ : ∃ t, l.getD i ByteArray.empty = t := ⟨_, rfl⟩
          rw [ht] at HE HPS
          have hti := HZ1.out i hin
          rw [ht] at hti
          have HT := hid ht
          clear ht h0 hj1
          go_wp2
          go_loopw [9] (fun k wq => ∃ q : Nat, q ≤ i ∧ k = .int .i64 q ∧ Below wo.heap.size wo wq) (fun k _ => i - (intOf k).toNat)
          case atStart => exact ⟨0, by omega, rfl, Below.refl _ _⟩
          case round =>
            obtain ⟨wq, rfl⟩ : ∃ wq : World, wq = wr := ⟨_, rfl⟩
            obtain ⟨q, hq, rfl, hbq⟩ := hrel
            have hBq := below_then hbel hbq
            have hci := HC.out _ hBq i hin
            rw [HT.out] at hci
            by_cases hlt : q < i
            · have hcq := HC.out _ hBq q (by omega)
              have hap := HE.out q hlt
              have htq := HZ1.out q (by omega)
              obtain ⟨u, hu⟩ : ∃ u, l.getD q ByteArray.empty = u := ⟨_, rfl⟩
              rw [hu] at hcq hap htq
              obtain ⟨p1, p2, p3⟩ := apart_off hap
              have t1 : (t.toList == u.toList) = false := by rw [beq_eq_false_iff_ne, ba_toList, ba_toList]; exact p1
              have C1 : Hid (∀ z : After wq, Calls Tryd.prog 20 #[.string t, .string u] z.val fun e w' => e = .returned (.bool false) ∧ Below z.val.heap.size z.val w') := fun z => by
                have := within_any t u z.val hti htq (HM.out.later (below_then hBq z.below))
                rwa [p2] at this
              have C2 : Hid (∀ z : After wq, Calls Tryd.prog 20 #[.string u, .string t] z.val fun e w' => e = .returned (.bool false) ∧ Below z.val.heap.size z.val w') := fun z => by
                have := within_any u t z.val htq hti (HM.out.later (below_then hBq z.below))
                rwa [p3] at this
              have EP : ∀ z : After wq, z.val.cell? ⟨b, off + i, none⟩ = some (.string t) := fun z => (z.below.cell (p := ⟨b, off + i, none⟩) (World.block_lt_of_cell? _ _ hci)).trans hci
              have EQ : ∀ z : After wq, z.val.cell? ⟨b, off + q, none⟩ = some (.string u) := fun z => (z.below.cell (p := ⟨b, off + q, none⟩) (World.block_lt_of_cell? _ _ hcq)).trans hcq
              clear hap hu p1 p2 p3
              go_wp2
              refine wp_region_after (by kernel_rfl) (by kernel_rfl) ?_
              repeat (go_big_quiet_step ((first
                | (go_at_call 20; with_reducible exact calls_after (C1.out _))
                | (go_at_call 20; with_reducible exact calls_after (C2.out _)))))
              refine wpQuiet_nil ?_
              intro _ hw'
              obtain ⟨z, rfl⟩ := hw'
              go_wp2
              go_roundw
              case rel => exact ⟨q + 1, by omega, by go_num, below_then hbq z.below⟩
              case measure => simp [intOf] <;> omega
            · have howq := own_below hown hbq
              have hbs2 := hBq.size
              have hplen : p.length ≤ n := by have h1 := HP.out.length_le; rw [List.length_reverse, List.length_drop] at h1; omega
              obtain ⟨i0, hi0, hz0, hz1, hz2⟩ := info_parts Tryd.infoS
              by_cases hm : i < m
              · obtain ⟨kb', koff, rfl, hkc⟩ := (HK.out.later hBq).2.2.resolve_left (by omega)
                have hki := hkc i hm
                have hmm := HK.out.2.1
                obtain ⟨y, hy⟩ : ∃ y, kl.getD i false = y := ⟨_, rfl⟩
                rw [hy] at hki
                clear hy hkc
                cases y
                · go_wp2
                  go_roundw
                  case rel => exact ⟨(i : Int) - 1, p, by omega, by omega, rfl, howq, hBq, by unfold Hid; rw [show ((i : Int) - 1 + 1).toNat = i from by omega]; exact HPS.out.1⟩
                  case measure => simp [intOf] <;> omega
                · go_wp2_with (at_builtin; refine wpList_append_own _ rfl (.tmp 78) (.tmp 83) 22 rfl w.heap.size 9 i0 (.string ⟨#[]⟩) 1 16 Tryd.underlying22 hi0 hz0 hz1 hz2 rfl (by decide) _ _ _ rfl (howq.alloc _) _ 1 1 [.string t] rfl rfl (cellNew1 _ _ _) (one_bytes rfl) (by unfold maxLen; omega) (by omega) (by simp; omega) ?_; intro v' w3 hown' hgrow _)
                  go_roundw
                  case rel => exact ⟨(i : Int) - 1, p ++ [t], by omega, by omega, rfl, own_string_snoc hown', below_grown1 hBq howq _ hbs2 hgrow, by unfold Hid; rw [show ((i : Int) - 1 + 1).toNat = i from by omega]; exact HPS.out.2⟩
                  case measure => simp [intOf] <;> omega
              · go_wp2
                go_roundw
                case rel => exact ⟨(i : Int) - 1, p, by omega, by omega, rfl, howq, hBq, by unfold Hid; rw [show ((i : Int) - 1 + 1).toNat = i from by omega]; exact HPS.out.1⟩
                case measure => simp [intOf] <;> omega
        · obtain rfl : j = -1 := by omega
          have hps := HP.out
          have hplen : p.length ≤ n := by have h1 := hps.length_le; simp at h1; omega
          obtain ⟨va, vc, rfl, hSp⟩ := own_strs hown (by omega)
          have hvc : p.length ≤ vc ∧ vc ≤ maxLen := by
            rcases hown.2 with ⟨h1, h2⟩ | ⟨g, cap, cur, h1, _, _, h2, h3, _⟩
            · injection h1 with _ _ h3; exact ⟨by omega, by rw [h3]; omega⟩
            · injection h1 with _ _ h4; exact ⟨by omega, by rw [h4]; exact h3⟩
          have hpz : ∀ x ∈ p, x.size < 4294967281 := fun x hx => Nat.lt_of_le_of_lt (HZ.out x (by have := hps.subset hx; simpa using this)) (by decide)
          have hok : checkR (ls p) = (0, 0) := by
            refine part_ok HB0.out ?_
            rw [← ls_reverse]
            refine ls_sublist ?_
            simpa using hps
          have CL := hid (pcheck_any va p.length vc p wo hSp hvc.1 hvc.2 hpz (HM.out.later hbel))
          have HOK := hid hok
          clear hps hok hvc hpz
          go_wp2_with fail
          refine CL.out.mono ?_; rw [HOK.out]; rintro e w5 ⟨rfl, hb5⟩
          go_wp2_with fail
          go_ret
          exact ⟨rfl, below_then hbel hb5⟩
    · have e1 : (B != 0) = true := by simpa using hB0
      clear hB0 HB0
      go_enter Tryd.func8, Tryd.ntmps8
      go_wp2_with fail
      refine (awake_any _ HM.out).mono ?_; rintro e w1 ⟨rfl, hb1⟩
      go_wp2_with fail
      refine (CP.out _ hb1).mono ?_; rintro e w2 ⟨rfl, hb2⟩
      go_wp2_with fail
      go_ret
      exact ⟨rfl, below_then hb1 hb2⟩
end Go.Proofs.YtfgglckpfnnaoaaDoor
