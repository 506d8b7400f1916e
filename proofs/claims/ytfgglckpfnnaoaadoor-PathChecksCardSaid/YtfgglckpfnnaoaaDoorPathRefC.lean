/- The reference's Join, Compare, Within. -/
import Derived.Test.YtfgglckpfnnaoaaDoorPathRefB
namespace Go.Proofs.YtfgglckpfnnaoaaDoor
open Go.RowKit Pap
set_option linter.unusedVariables false

theorem joinL_snoc (a : List (List UInt8)) (x : List UInt8) (h : a ≠ []) : joinL (a ++ [x]) = joinL a ++ 47 :: x := joinL_app a [x] h (by simp)
theorem ls_take_succ (l : List ByteArray) (k : Nat) (h : k < l.length) : (ls l).take (k + 1) = (ls l).take k ++ [(l.getD k ByteArray.empty).data.toList] := by
  rw [List.take_add_one, List.getElem?_eq_getElem (by rw [ls_length]; exact h), ls_get]; rfl
theorem checkE_bad {l : List (List UInt8)} {x : List UInt8} (hx : x ∈ l) (h : goodL x = false) : checkE l = 30 := by unfold checkE; rw [if_pos (.inr ⟨x, hx, h⟩)]
theorem checkE_good {l : List (List UInt8)} (h0 : l ≠ []) (h : ∀ x ∈ l, goodL x = true) : checkE l = if 64 < l.length then 33 else 0 := by
  unfold checkE
  rw [if_neg]
  rintro (e | ⟨x, hx, hg⟩)
  · exact h0 e
  · rw [h x hx] at hg; cases hg
theorem good_le {x : ByteArray} (h : goodL x.data.toList = true) : x.size ≤ 255 := by unfold goodL at h; simp at h; exact h.2.1
/-- the joined text so far -/
def JS (l : List ByteArray) (k : Nat) (T : ByteArray) : Prop := (∀ x ∈ (ls l).take k, goodL x = true) ∧ T.data.toList = joinL ((ls l).take (min k 65)) ∧ T.size ≤ 256 * min k 65
theorem js_good {l : List ByteArray} {k : Nat} {T : ByteArray} (h : JS l k T) (hk : k < l.length) (hg : goodL (l.getD k ByteArray.empty).data.toList = true) : ∀ x ∈ (ls l).take (k + 1), goodL x = true := by
  rw [ls_take_succ l k hk]
  intro x hx
  rcases List.mem_append.1 hx with hx | hx
  · exact h.1 x hx
  · simp at hx; subst hx; simpa using hg
theorem ba_append (a b : ByteArray) : (a ++ b).data.toList = a.data.toList ++ b.data.toList := by simp [ByteArray.data_append]
theorem js_first {l : List ByteArray} {T : ByteArray} (h : JS l 0 T) (hk : 0 < l.length) (hg : goodL (l.getD 0 ByteArray.empty).data.toList = true) : JS l (0 + 1) (T ++ l.getD 0 ByteArray.empty) := by
  have hz := good_le hg
  have h3 := h.2.2
  refine ⟨js_good h hk hg, ?_, by simp only [ByteArray.size_append]; omega⟩
  rw [ba_append, h.2.1, show min (0 + 1) 65 = 0 + 1 from rfl, ls_take_succ l 0 hk]; simp [joinL]
theorem js_more {l : List ByteArray} {k : Nat} {T : ByteArray} (h : JS l k T) (h0 : 0 < k) (h65 : k < 65) (hk : k < l.length) (hg : goodL (l.getD k ByteArray.empty).data.toList = true) : JS l (k + 1) (T ++ ⟨#[47]⟩ ++ l.getD k ByteArray.empty) := by
  have hz := good_le hg
  have h3 := h.2.2
  have h7 : min k 65 = k := Nat.min_eq_left (by omega)
  rw [h7] at h3
  refine ⟨js_good h hk hg, ?_, by
    have h1 : (T ++ ⟨#[47]⟩ ++ l.getD k ByteArray.empty).size = T.size + 1 + (l.getD k ByteArray.empty).size := by rw [ByteArray.size_append, ByteArray.size_append]; rfl
    have h4 : min (k + 1) 65 = k + 1 := Nat.min_eq_left (by omega)
    rw [h1, h4]; omega⟩
  have h2 := h.2.1
  rw [h7] at h2
  have h6 : min (k + 1) 65 = k + 1 := Nat.min_eq_left (by omega)
  rw [ba_append, ba_append, h2, h6, ls_take_succ l k hk, joinL_snoc _ _ (by
    intro e; have := congrArg List.length e; rw [List.length_take, ls_length] at this; simp only [List.length_nil] at this; omega)]
  simp
theorem js_past {l : List ByteArray} {k : Nat} {T : ByteArray} (h : JS l k T) (h65 : 65 ≤ k) (hk : k < l.length) (hg : goodL (l.getD k ByteArray.empty).data.toList = true) : JS l (k + 1) T := by
  have h2 := h.2.1; have h3 := h.2.2
  rw [Nat.min_eq_right h65] at h2 h3
  exact ⟨js_good h hk hg, by rw [Nat.min_eq_right (by omega)]; exact h2, by rw [Nat.min_eq_right (by omega)]; exact h3⟩

set_option maxHeartbeats 8000000 in
theorem rjoin_any (a : Option Addr) (n c : Nat) (l : List ByteArray) (w : World) (hS : StrsAt w a n l) (hz : ∀ x ∈ l, x.size ≤ 9223372036854775807) :
    Calls Tryd.prog 14 #[.slice a n c] w fun e w' => e = .returned (.tuple #[.string ⟨(joinR (ls l)).toArray⟩, .int .i64 (checkE (ls l))]) ∧ w = w' := by
  have hl := hS.1
  have hn := hS.2.1
  have hll := ls_length l
  have HZ := hid (fun k (hk : k < n) => hz (l.getD k ByteArray.empty) (by rw [List.getD_eq_getElem?_getD, List.getElem?_eq_getElem (by omega)]; exact List.getElem_mem _))
  clear hz
  go_enter Tryd.func14, Tryd.ntmps14
  go_wp2
  go_loop [4, 5] (fun v at' => ∃ (k : Nat) (T : ByteArray), k ≤ n ∧ at' = .int .i64 k ∧ v = .string T ∧ Hid (JS l k T)) (fun _ i => n - (intOf i).toNat)
  case atStart => exact ⟨0, ⟨#[]⟩, by omega, rfl, rfl, ⟨by simp, by simp [joinL], Nat.zero_le _⟩⟩
  case round =>
    obtain ⟨k, T, hk, rfl, rfl, HJ⟩ := hrel
    by_cases hlt : k < n
    · obtain ⟨b, off, rfl, hcc⟩ := hS.2.2.resolve_left (by omega)
      have hck := hcc k hlt
      have hxz := HZ.out k hlt
      have hmem : (l.getD k ByteArray.empty).data.toList ∈ ls l := by
        rw [← ls_get l k (by omega)]; exact List.getElem_mem _
      have j1 := fun (e : k = 0) => e ▸ js_first (l := l) (T := T)
      have HJ1 : Hid (goodL (l.getD k ByteArray.empty).data.toList = true → k = 0 → JS l (k + 1) (T ++ l.getD k ByteArray.empty)) := by
        intro hg e; subst e; exact js_first HJ.out (by omega) hg
      have HJ2 : Hid (goodL (l.getD k ByteArray.empty).data.toList = true → 0 < k → k < 65 → JS l (k + 1) (T ++ ⟨#[47]⟩ ++ l.getD k ByteArray.empty)) := fun hg e1 e2 => js_more HJ.out e1 e2 (by omega) hg
      have HJ3 : Hid (goodL (l.getD k ByteArray.empty).data.toList = true → 65 ≤ k → JS l (k + 1) T) := fun hg e1 => js_past HJ.out e1 (by omega) hg
      have hT : T.size ≤ 256 * 65 := Nat.le_trans HJ.out.2.2 (Nat.mul_le_mul (Nat.le_refl _) (Nat.min_le_right _ _))
      obtain ⟨x, hx⟩ : ∃ x, l.getD k ByteArray.empty = x := ⟨_, rfl⟩
      rw [hx] at hck hmem HJ1 HJ2 HJ3 hxz
      clear hx hcc j1
      have cG := rgood_any x w hxz
      cases hg : goodL x.data.toList
      · have HE := hid (checkE_bad hmem hg)
        rw [hg] at cG
        have CG := hid cG; clear cG hg hmem HJ1 HJ2 HJ3
        go_wp2_with (go_at_call 16; refine CG.out.mono ?_; rintro e w1 ⟨rfl, rfl⟩)
        go_ret2
        exact ⟨by unfold joinR; rw [HE.out] <;> rfl, rfl⟩
      · have hxs := good_le hg
        have J1 := hid (HJ1.out hg); have J2 := hid (HJ2.out hg); have J3 := hid (HJ3.out hg)
        rw [hg] at cG
        have CG := hid cG; clear cG hg hmem HJ1 HJ2 HJ3
        by_cases h0 : k = 0
        · subst h0
          simp only [Nat.add_zero] at hck
          go_wp2_with (go_at_call 16; refine CG.out.mono ?_; rintro e w1 ⟨rfl, rfl⟩)
          go_round
          case rel => exact ⟨0 + 1, _, by omega, by go_num, rfl, J1.out (by first | exact rfl | exact trivial)⟩
          case measure => simp [intOf]; omega
        · by_cases h65 : k < 65
          · have g1 : (0 : Int) < k := by omega
            have g2 : (k : Int) < 65 := by omega
            have g3 : (T ++ (⟨#[47]⟩ : ByteArray)).size ≤ 256 * 65 + 1 := by
              have h1 : (⟨#[47]⟩ : ByteArray).size = 1 := rfl
              rw [ByteArray.size_append, h1]; omega
            go_wp2_with (go_at_call 16; refine CG.out.mono ?_; rintro e w1 ⟨rfl, rfl⟩)
            go_round
            case rel => exact ⟨k + 1, _, by omega, by go_num, rfl, J2.out (by omega) h65⟩
            case measure => simp [intOf]; omega
          · have g1 : (0 : Int) < k := by omega
            have g2 : ¬ (k : Int) < 65 := by omega
            go_wp2_with (go_at_call 16; refine CG.out.mono ?_; rintro e w1 ⟨rfl, rfl⟩)
            go_round
            case rel => exact ⟨k + 1, _, by omega, by go_num, rfl, J3.out (by omega)⟩
            case measure => simp [intOf]; omega
    · by_cases h0 : n = 0
      · have HE : Hid (checkE (ls l) = 30) := by unfold Hid checkE; rw [if_pos (.inl (List.length_eq_zero_iff.1 (by omega)))]
        have g1 : ((n : Int) == 0) = true := by rw [h0]; rfl
        go_wp2
        go_ret2
        exact ⟨by unfold joinR; rw [HE.out] <;> rfl, rfl⟩
      · have hgood : ∀ x ∈ ls l, goodL x = true := by
          have := HJ.out.1; rw [List.take_of_length_le (by omega)] at this; exact this
        have hE := checkE_good (l := ls l) (by intro e; have := congrArg List.length e; simp only [List.length_nil] at this; omega) hgood
        have g1 : ((n : Int) == 0) = false := by rw [beq_eq_false_iff_ne]; omega
        by_cases h64 : 64 < n
        · have g2 : (64 : Int) < n := by omega
          have HE : Hid (checkE (ls l) = 33) := by rw [hll, hl, if_pos h64] at hE; exact hE
          clear hE hgood
          go_wp2
          go_ret2
          exact ⟨by unfold joinR; rw [HE.out] <;> rfl, rfl⟩
        · have h9 : n ≤ min k 65 := by omega
          have g2 : ¬ (64 : Int) < n := by omega
          have HE : Hid (checkE (ls l) = 0) := by rw [hll, hl, if_neg h64] at hE; exact hE
          have HT : Hid (T = ⟨(joinL (ls l)).toArray⟩) := by
            have := HJ.out.2.1
            have h5 : (ls l).length ≤ min k 65 := by rw [hll, hl]; exact h9
            rw [List.take_of_length_le h5] at this
            exact ba_ext (by rw [this])
          clear hE hgood
          go_wp2
          go_ret2
          exact ⟨by unfold joinR; rw [HE.out, HT.out] <;> rfl, rfl⟩

set_option maxHeartbeats 8000000 in
theorem rcompare_any (a b : ByteArray) (w : World) (ha : a.size ≤ 1048576) (hb : b.size ≤ 1048576) :
    Calls Tryd.prog 19 #[.string a, .string b] w fun e w' => e = .returned (.int .i64 (compareR a.data.toList b.data.toList)) ∧ Below w.heap.size w w' := by
  have HB := Below.refl w.heap.size w
  have HT : True := trivial
  by_cases h1 : splitE a.data.toList = 0
  · by_cases h2 : splitE b.data.toList = 0
    · have HR : Hid (compareR a.data.toList b.data.toList = cmpP (pieces a.data.toList) (pieces b.data.toList)) := by unfold Hid compareR; rw [if_pos ⟨h1, h2⟩]
      have H1 := hid h1
      have H2 := hid h2
      have f1 : (splitE a.data.toList != 0) = false := by simp [h1]
      have f2 : (splitE b.data.toList != 0) = false := by simp [h2]
      clear h1 h2
      go_enter Tryd.func19, Tryd.ntmps19
      go_wp2_with (go_at_call 12; refine (rsplit_any _ _ (by assumption)).mono ?_; rintro e w1 ⟨v, rfl, hv, hb1⟩; replace HB := below_then HB hb1; replace HT := And.intro HT (And.intro (hid hv) (hid hb1)); clear hv hb1)
      obtain ⟨⟨-, K1, B1⟩, K2, B2⟩ := HT
      obtain ⟨p1, c1, x, rfl, hs1, hn1, -⟩ := K1.out
      obtain ⟨p2, c2, y, rfl, hs2, hn2, -⟩ := K2.out
      have hx := hs1.later B2.out
      have HX : Hid (compareR a.data.toList b.data.toList = cmpP (ls x) (ls y)) := by
        rw [Hid, HR.out, hn1, hn2]; unfold namesOf; rw [if_pos H1.out, if_pos H2.out]
      have hzx : ∀ z ∈ ls x, z.length ≤ 255 := by
        intro z hz
        rw [hn1] at hz; unfold namesOf at hz; rw [if_pos H1.out] at hz
        exact good_len ((checkE_ok.1 H1.out).2.1 z hz)
      have hzy : ∀ z ∈ ls y, z.length ≤ 255 := by
        intro z hz
        rw [hn2] at hz; unfold namesOf at hz; rw [if_pos H2.out] at hz
        exact good_len ((checkE_ok.1 H2.out).2.1 z hz)
      have HZ : Hid (∀ (l : List ByteArray), (∀ z ∈ ls l, z.length ≤ 255) → ∀ k, k < l.length → (l.getD k ByteArray.empty).size ≤ 9223372036854775807) := by
        intro l h k hk
        have h3 := h _ (List.getElem_mem (by rw [ls_length]; exact hk : k < (ls l).length))
        rw [ls_get] at h3
        have h4 : (l.getD k ByteArray.empty).data.toList.length = (l.getD k ByteArray.empty).size := Array.length_toList
        omega
      have ZX := hid (HZ.out x hzx); have ZY := hid (HZ.out y hzy)
      clear hn1 hn2 K1 K2 hs1 HR H1 H2 hzx hzy HZ
      have xl := ls_length x
      have yl := ls_length y
      have hxm := hx.2.1
      have hym := hs2.2.1
      go_loopw [9] (fun i wr => ∃ k : Nat, k ≤ x.length ∧ k ≤ y.length ∧ i = .int .i64 k ∧ Below w1.heap.size w1 wr ∧ Hid (cmpP (ls x) (ls y) = cmpP ((ls x).drop k) ((ls y).drop k))) (fun i _ => x.length - (intOf i).toNat)
      case atStart => exact ⟨0, by omega, by omega, rfl, Below.refl _ _, rfl⟩
      case round =>
        obtain ⟨k, hk, hk2, rfl, hbel, HK⟩ := hrel
        by_cases hlt : k < x.length
        · by_cases hlt2 : k < y.length
          · obtain ⟨b1, o1, rfl, hc1⟩ := (hx.later hbel).2.2.resolve_left (by omega)
            obtain ⟨b2, o2, rfl, hc2⟩ := (hs2.later hbel).2.2.resolve_left (by omega)
            have e1 := hc1 k hlt
            have e2 := hc2 k hlt2
            have zp := ZX.out k hlt
            have zq := ZY.out k hlt2
            have st := cmpP_step (ls x) (ls y) k (by omega) (by omega)
            rw [ls_get, ls_get] at st
            obtain ⟨p, hp⟩ : ∃ p, x.getD k ByteArray.empty = p := ⟨_, rfl⟩
            obtain ⟨q, hq⟩ : ∃ q, y.getD k ByteArray.empty = q := ⟨_, rfl⟩
            rw [hp] at e1 st zp
            rw [hq] at e2 st zq
            have EP : ∀ z : After wr, z.val.cell? ⟨b1, o1 + k, none⟩ = some (.string p) := fun z => (z.below.cell (p := ⟨b1, o1 + k, none⟩) (World.block_lt_of_cell? _ _ e1)).trans e1
            have EQ : ∀ z : After wr, z.val.cell? ⟨b2, o2 + k, none⟩ = some (.string q) := fun z => (z.below.cell (p := ⟨b2, o2 + k, none⟩) (World.block_lt_of_cell? _ _ e2)).trans e2
            have cC : ∀ z : After wr, Calls Tryd.prog 29 #[.string p, .string q] z.val fun e w' => e = .returned (.int .i64 (cmpL p.data.toList q.data.toList)) ∧ Below z.val.heap.size z.val w' := fun z => rbytes_any p q z.val zp zq
            obtain ⟨C, hC⟩ : ∃ C, cmpL p.data.toList q.data.toList = C := ⟨_, rfl⟩
            rw [hC] at cC st
            have CC := hid cC
            clear cC hp hq hC hc1 hc2 e1 e2
            by_cases h0 : C = 0
            · subst h0
              have HS := hid (HK.out.trans st); clear st
              go_wp2_with fail
              refine wp_region_after (by kernel_rfl) (by kernel_rfl) ?_
              repeat (go_big_quiet_step ((go_at_call 29; exact calls_after (CC.out _))))
              refine wpQuiet_nil ?_
              intro _ hw'
              obtain ⟨z, rfl⟩ := hw'
              go_wp2
              go_roundw
              case rel => exact ⟨k + 1, by omega, by omega, by go_num, below_then hbel z.below, by have := HS.out; simp only [if_true] at this; exact this⟩
              case measure => simp [intOf]; omega
            · have HS : Hid (cmpP (ls x) (ls y) = C) := by have := HK.out.trans st; rwa [if_neg h0] at this
              have e1 : (C != 0) = true := by simpa using h0
              have e2 : (C == 0) = false := by simpa using h0
              clear st h0
              go_wp2_with fail
              refine wp_region_after (by kernel_rfl) (by kernel_rfl) ?_
              repeat (go_big_quiet_step ((go_at_call 29; exact calls_after (CC.out _))))
              refine wpQuiet_nil ?_
              intro _ hw'
              obtain ⟨z, rfl⟩ := hw'
              go_wp2
              go_ret
              exact ⟨ret_int (by rw [HX.out, HS.out]), below_then HB (below_then hbel z.below)⟩
          · have HS : Hid (cmpP (ls x) (ls y) = 1) := HK.out.trans (cmpP_behind _ _ k (by omega) (by omega))
            have g0 : (k : Int) < x.length := by omega
            have g1 : ¬ (k : Int) < y.length := by omega
            have g2 : ¬ (x.length : Int) < y.length := by omega
            have g3 : (y.length : Int) < x.length := by omega
            go_wp2
            go_ret
            exact ⟨ret_int (by rw [HX.out, HS.out]), below_then HB hbel⟩
        · have st := HK.out.trans (cmpP_ends (ls x) (ls y) k (by omega))
          have g0 : ¬ (k : Int) < x.length := by omega
          by_cases hlt2 : x.length < y.length
          · have HS : Hid (cmpP (ls x) (ls y) = -1) := by rwa [if_pos (by omega)] at st
            have g1 : (x.length : Int) < y.length := by omega
            clear st
            go_wp2
            go_ret
            exact ⟨ret_int (by rw [HX.out, HS.out]), below_then HB hbel⟩
          · have HS : Hid (cmpP (ls x) (ls y) = 0) := by rwa [if_neg (by omega)] at st
            have g1 : ¬ (x.length : Int) < y.length := by omega
            have g2 : ¬ (y.length : Int) < x.length := by omega
            clear st
            go_wp2
            go_ret
            exact ⟨ret_int (by rw [HX.out, HS.out]), below_then HB hbel⟩
    · have HR : Hid (compareR a.data.toList b.data.toList = 0) := by unfold Hid compareR; rw [if_neg (fun e => h2 e.2)]
      have f1 : (splitE a.data.toList != 0) = false := by simp [h1]
      have f2 : (splitE b.data.toList != 0) = true := by simp [h2]
      clear h1 h2
      go_enter Tryd.func19, Tryd.ntmps19
      go_wp2_with (go_at_call 12; refine (rsplit_any _ _ (by assumption)).mono ?_; rintro e w1 ⟨v, rfl, hv, hb1⟩; replace HB := below_then HB hb1; clear hv hb1)
      go_ret
      exact ⟨ret_int (by rw [HR.out]), HB⟩
  · have HR : Hid (compareR a.data.toList b.data.toList = 0) := by unfold Hid compareR; rw [if_neg (fun e => h1 e.1)]
    have f1 : (splitE a.data.toList != 0) = true := by simp [h1]
    clear h1
    go_enter Tryd.func19, Tryd.ntmps19
    go_wp2_with (go_at_call 12; refine (rsplit_any _ _ (by assumption)).mono ?_; rintro e w1 ⟨v, rfl, hv, hb1⟩; replace HB := below_then HB hb1; clear hv hb1)
    go_ret
    exact ⟨ret_int (by rw [HR.out]), HB⟩
end Go.Proofs.YtfgglckpfnnaoaaDoor
