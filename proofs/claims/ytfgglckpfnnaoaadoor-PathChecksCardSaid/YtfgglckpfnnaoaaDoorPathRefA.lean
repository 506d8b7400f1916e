/- The reference's Good and bytes; the law's same. -/
import Derived.Test.YtfgglckpfnnaoaaDoorPathWalkC
namespace Go.Proofs.YtfgglckpfnnaoaaDoor
open Go.RowKit Pap
set_option linter.unusedVariables false

theorem notin_succ {l : List UInt8} {k : Nat} (hk : k < l.length) {c : UInt8} (h : c ∉ l.take k) (hc : l[k] ≠ c) : c ∉ l.take (k + 1) := by
  rw [List.take_add_one, List.getElem?_eq_getElem hk]
  intro hm
  rcases List.mem_append.1 hm with hm | hm
  · exact h hm
  · simp at hm; exact hc hm.symm
theorem ba_get (s : ByteArray) (k : Nat) (h : k < s.data.toList.length) (h2 : k < s.size) : s.data.toList[k] = s[k]'h2 := rfl
theorem byte_eq (x : UInt8) (c : UInt8) : ((x.toNat : Int) == (c.toNat : Int)) = decide (x = c) := by
  rw [Bool.eq_iff_iff, beq_iff_eq, decide_eq_true_eq]
  constructor
  · intro h; exact UInt8.toNat_inj.1 (by omega)
  · rintro rfl; rfl

set_option maxHeartbeats 2000000 in
theorem rgood_any (s : ByteArray) (w : World) (hsz : s.size ≤ 9223372036854775807) : Calls Tryd.prog 16 #[.string s] w fun e w' => e = .returned (.bool (goodL s.data.toList)) ∧ w = w' := by
  by_cases h0 : s.size = 0
  · have HX := hid (goodL_no (s := s) (.inl h0))
    have n1 : (s.size : Int) < 1 := by omega
    go_enter Tryd.func16, Tryd.ntmps16
    go_wp2
    go_ret
    exact ⟨ret_bool (by rw [HX.out]), rfl⟩
  · have n1 : ¬ (s.size : Int) < 1 := by omega
    by_cases h255 : 255 < s.size
    · have HX := hid (goodL_no (s := s) (.inr (.inl h255)))
      have n2 : (255 : Int) < s.size := by omega
      go_enter Tryd.func16, Tryd.ntmps16
      go_wp2
      go_ret
      exact ⟨ret_bool (by rw [HX.out]), rfl⟩
    · have n2 : ¬ (255 : Int) < s.size := by omega
      by_cases h1 : s = ⟨#[46]⟩
      · have HX := hid (goodL_no (s := s) (.inr (.inr (.inl h1))))
        have n3 : s.toList = [46] := by rw [ba_toList, h1]
        have n4 : (s.toList == [46]) = true := by rw [n3]; rfl
        clear h1
        go_enter Tryd.func16, Tryd.ntmps16
        go_wp2
        go_ret
        exact ⟨ret_bool (by rw [HX.out]), rfl⟩
      · have m1 : (s.toList == [46]) = false := by
          rw [beq_eq_false_iff_ne, ba_toList]; exact fun e => h1 (ba_ext (y := ⟨#[46]⟩) e)
        have m1' : ¬ s.toList = [46] := by rw [ba_toList]; exact fun e => h1 (ba_ext (y := ⟨#[46]⟩) e)
        by_cases h2 : s = ⟨#[46, 46]⟩
        · have HX := hid (goodL_no (s := s) (.inr (.inr (.inr h2))))
          have n3 : s.toList = [46, 46] := by rw [ba_toList, h2]
          have n4 : (s.toList == [46, 46]) = true := by rw [n3]; rfl
          clear h1 h2
          go_enter Tryd.func16, Tryd.ntmps16
          go_wp2
          go_ret
          exact ⟨ret_bool (by rw [HX.out]), rfl⟩
        · have m2 : (s.toList == [46, 46]) = false := by
            rw [beq_eq_false_iff_ne, ba_toList]; exact fun e => h2 (ba_ext (y := ⟨#[46, 46]⟩) e)
          have m2' : ¬ s.toList = [46, 46] := by rw [ba_toList]; exact fun e => h2 (ba_ext (y := ⟨#[46, 46]⟩) e)
          have HG := hid (goodL_yes h0 (by omega) h1 h2)
          have hlen : s.data.toList.length = s.size := by simp
          clear h1 h2
          go_enter Tryd.func16, Tryd.ntmps16
          go_wp2
          go_loop [3] (fun i => ∃ k : Nat, k ≤ s.size ∧ i = .int .i64 k ∧ Hid (47 ∉ s.data.toList.take k) ∧ Hid (0 ∉ s.data.toList.take k)) (fun i => s.size - (intOf i).toNat)
          case atStart => exact ⟨0, by omega, rfl, by unfold Hid; simp, by unfold Hid; simp⟩
          case round =>
            obtain ⟨k, hk, rfl, K1, K2⟩ := hrel
            by_cases hlt : k < s.size
            · have hk' : k < s.data.toList.length := by omega
              have e1 : ((s[k].toNat : Int) == 47) = decide (s[k] = 47) := byte_eq s[k] 47
              have e2 : ((s[k].toNat : Int) == 0) = decide (s[k] = 0) := byte_eq s[k] 0
              by_cases c1 : s[k] = 47
              · rw [decide_eq_true c1] at e1
                have HX : Hid (goodL s.data.toList = false) := by
                  rw [Hid, HG.out, decide_eq_false (fun h => h (c1 ▸ List.getElem_mem hk'))]; rfl
                clear e2 c1
                go_wp2
                go_ret
                exact ⟨ret_bool (by rw [HX.out]), rfl⟩
              · rw [decide_eq_false c1] at e1
                by_cases c2 : s[k] = 0
                · rw [decide_eq_true c2] at e2
                  have HX : Hid (goodL s.data.toList = false) := by
                    rw [Hid, HG.out, decide_eq_false (p := (0 : UInt8) ∉ s.data.toList) (fun h => h (c2 ▸ List.getElem_mem hk')), Bool.and_false]
                  clear c1 c2
                  go_wp2
                  go_ret
                  exact ⟨ret_bool (by rw [HX.out]), rfl⟩
                · rw [decide_eq_false c2] at e2
                  have N1 := hid (notin_succ hk' K1.out c1)
                  have N2 := hid (notin_succ hk' K2.out c2)
                  clear c1 c2
                  go_wp2
                  go_round
                  case rel => exact ⟨k + 1, by omega, by go_num, N1, N2⟩
                  case measure => simp [intOf]; omega
            · have HX : Hid (goodL s.data.toList = true) := by
                have t1 := K1.out; have t2 := K2.out
                rw [List.take_of_length_le (by omega)] at t1 t2
                rw [Hid, HG.out, decide_eq_true t1, decide_eq_true t2]; rfl
              go_wp2
              go_ret
              exact ⟨ret_bool (by rw [HX.out]), rfl⟩

theorem cmpL_step (a b : List UInt8) (k : Nat) (ha : k < a.length) (hb : k < b.length) : cmpL (a.drop k) (b.drop k) = if a[k].toNat < b[k].toNat then -1 else if b[k].toNat < a[k].toNat then 1 else cmpL (a.drop (k + 1)) (b.drop (k + 1)) := by
  rw [List.drop_eq_getElem_cons ha, List.drop_eq_getElem_cons hb]; rfl
theorem cmpL_ends (a b : List UInt8) (k : Nat) (hka : k ≤ a.length) (hkb : k ≤ b.length) (h : a.length ≤ k ∨ b.length ≤ k) : cmpL (a.drop k) (b.drop k) = if a.length < b.length then -1 else if b.length < a.length then 1 else 0 := by
  rcases Nat.lt_trichotomy a.length b.length with h1 | h1 | h1
  · rw [List.drop_eq_nil_of_le (by omega), List.drop_eq_getElem_cons (by omega : k < b.length), if_pos h1]; rfl
  · rw [List.drop_eq_nil_of_le (by omega), List.drop_eq_nil_of_le (by omega), if_neg (by omega), if_neg (by omega)]; rfl
  · rw [List.drop_eq_getElem_cons (by omega : k < a.length), List.drop_eq_nil_of_le (by omega : b.length ≤ k), if_neg (by omega), if_pos h1]; rfl
set_option maxHeartbeats 2000000 in
theorem rbytes_any (a b : ByteArray) (w : World) (ha : a.size ≤ 9223372036854775807) (hb : b.size ≤ 9223372036854775807) : Calls Tryd.prog 29 #[.string a, .string b] w fun e w' => e = .returned (.int .i64 (cmpL a.data.toList b.data.toList)) ∧ Below w.heap.size w w' := by
  have la : a.data.toList.length = a.size := by simp
  have lb : b.data.toList.length = b.size := by simp
  go_enter Tryd.func29, Tryd.ntmps29
  go_wp2
  go_loopw [5] (fun i wr => ∃ k : Nat, k ≤ a.size ∧ k ≤ b.size ∧ i = .int .i64 k ∧ Below w.heap.size w wr ∧ Hid (cmpL a.data.toList b.data.toList = cmpL (a.data.toList.drop k) (b.data.toList.drop k))) (fun i _ => a.size - (intOf i).toNat)
  case atStart => exact ⟨0, by omega, by omega, rfl, Below.refl _ _, rfl⟩
  case round =>
    obtain ⟨k, hk, hk2, rfl, hbel, HK⟩ := hrel
    by_cases hlt : k < a.size ∧ k < b.size
    · obtain ⟨h1, h2⟩ := hlt
      have st := HK.out.trans (cmpL_step _ _ k (by omega) (by omega))
      rw [ba_get a k (by omega) h1, ba_get b k (by omega) h2] at st
      by_cases c1 : a[k].toNat < b[k].toNat
      · rw [if_pos c1] at st
        have d1 : (a[k].toNat : Int) < (b[k].toNat : Int) := by omega
        have HX := hid st; clear st c1
        go_wp2
        go_quiet (fail)
        go_wp2
        go_ret
        exact ⟨ret_int (by rw [HX.out]), by first | exact hbel | exact below_drewN hbel _ | exact below_drewN (below_drewN hbel _) _⟩
      · rw [if_neg c1] at st
        have d1 : ¬ (a[k].toNat : Int) < (b[k].toNat : Int) := by omega
        by_cases c2 : b[k].toNat < a[k].toNat
        · rw [if_pos c2] at st
          have d2 : (b[k].toNat : Int) < (a[k].toNat : Int) := by omega
          have HX := hid st; clear st c1 c2
          go_wp2
          go_quiet (fail)
          go_wp2
          go_quiet (fail)
          go_wp2
          go_ret
          exact ⟨ret_int (by rw [HX.out]), by first | exact hbel | exact below_drewN hbel _ | exact below_drewN (below_drewN hbel _) _⟩
        · rw [if_neg c2] at st
          have d2 : ¬ (b[k].toNat : Int) < (a[k].toNat : Int) := by omega
          have HX := hid st; clear st c1 c2
          go_wp2
          go_quiet (fail)
          go_wp2
          go_quiet (fail)
          go_wp2
          go_roundw
          case rel => exact ⟨k + 1, by omega, by omega, by go_num, by first | exact hbel | exact below_drewN hbel _ | exact below_drewN (below_drewN hbel _) _, HX⟩
          case measure => simp [intOf]; omega
    · have st := HK.out.trans (cmpL_ends _ _ k (by omega) (by omega) (by omega))
      rw [la, lb] at st
      rcases Nat.lt_trichotomy a.size b.size with c | c | c
      · rw [if_pos c] at st
        have g1 : ¬ (k : Int) < a.size := by omega
        have g2 : (a.size : Int) < b.size := by omega
        have HX := hid st; clear st hlt
        go_wp2
        go_ret
        exact ⟨ret_int (by rw [HX.out]), by first | exact hbel | exact below_drewN hbel _ | exact below_drewN (below_drewN hbel _) _⟩
      · rw [if_neg (by omega), if_neg (by omega)] at st
        have g1 : ¬ (k : Int) < a.size := by omega
        have g2 : ¬ (a.size : Int) < b.size := by omega
        have g3 : ¬ (b.size : Int) < a.size := by omega
        have HX := hid st; clear st hlt
        go_wp2
        go_ret
        exact ⟨ret_int (by rw [HX.out]), by first | exact hbel | exact below_drewN hbel _ | exact below_drewN (below_drewN hbel _) _⟩
      · rw [if_neg (by omega), if_pos c] at st
        have g1 : (k : Int) < a.size := by omega
        have g0 : ¬ (k : Int) < b.size := by omega
        have g2 : ¬ (a.size : Int) < b.size := by omega
        have g3 : (b.size : Int) < a.size := by omega
        have HX := hid st; clear st hlt
        go_wp2
        go_ret
        exact ⟨ret_int (by rw [HX.out]), by first | exact hbel | exact below_drewN hbel _ | exact below_drewN (below_drewN hbel _) _⟩

theorem ls_get' (l : List ByteArray) (k : Nat) (h : k < l.length) (h' : k < (ls l).length) : (ls l)[k] = (l.getD k ByteArray.empty).data.toList := ls_get l k h'
theorem ls_same {x y : List ByteArray} (h : x.length = y.length) (hk : ∀ j, j < x.length → x.getD j ByteArray.empty = y.getD j ByteArray.empty) : ls x = ls y := by
  apply List.ext_getElem
  · rw [ls_length, ls_length, h]
  · intro k h1 h2
    rw [ls_get, ls_get, hk k (by rw [ls_length] at h1; exact h1)]
set_option maxHeartbeats 2000000 in
theorem same_any (a b : Option Addr) (n m c d : Nat) (x y : List ByteArray) (w : World) (hx : StrsAt w a n x) (hy : StrsAt w b m y) :
    Calls Tryd.prog 17 #[.slice a n c, .slice b m d] w fun e w' => e = .returned (.bool (decide (ls x = ls y))) ∧ Below w.heap.size w w' := by
  have hnl := hx.1
  have hml := hy.1
  have hn := hx.2.1
  have hm := hy.2.1
  by_cases hnm : n = m
  · subst hnm
    go_enter Tryd.func17, Tryd.ntmps17
    go_wp2
    go_loopw [5] (fun i wr => ∃ k : Nat, k ≤ n ∧ i = .int .i64 k ∧ Below w.heap.size w wr ∧ Hid (∀ j, j < k → x.getD j ByteArray.empty = y.getD j ByteArray.empty)) (fun i _ => n - (intOf i).toNat)
    case atStart => exact ⟨0, by omega, rfl, Below.refl _ _, fun j hj => absurd hj (Nat.not_lt_zero _)⟩
    case round =>
      obtain ⟨k, hk, rfl, hbel, HK⟩ := hrel
      by_cases hlt : k < n
      · obtain ⟨b1, o1, rfl, hc1⟩ := (hx.later hbel).2.2.resolve_left (by omega)
        obtain ⟨b2, o2, rfl, hc2⟩ := (hy.later hbel).2.2.resolve_left (by omega)
        have h1 := hc1 k hlt
        have h2 := hc2 k hlt
        have hD : x.getD k ByteArray.empty ≠ y.getD k ByteArray.empty → ls x ≠ ls y := by
          intro hne he
          have g : ∀ (z : List ByteArray) (hz : k < z.length), (ls z)[k]? = some (z.getD k ByteArray.empty).data.toList := fun z hz => by
            rw [List.getElem?_eq_getElem (by rw [ls_length]; exact hz), ls_get]
          have e1 := g x (by omega); have e2 := g y (by omega)
          rw [he] at e1; rw [e1] at e2
          injection e2 with e2; exact hne (ba_ext e2)
        have HSU : Hid (x.getD k ByteArray.empty = y.getD k ByteArray.empty → ∀ j, j < k + 1 → x.getD j ByteArray.empty = y.getD j ByteArray.empty) := fun e => upto_succ HK.out e
        obtain ⟨p, hp⟩ : ∃ p, x.getD k ByteArray.empty = p := ⟨_, rfl⟩
        obtain ⟨q, hq⟩ : ∃ q, y.getD k ByteArray.empty = q := ⟨_, rfl⟩
        rw [hp] at h1 hD HSU
        rw [hq] at h2 hD HSU
        clear hp hq hc1 hc2
        by_cases he : p = q
        · have e1 : (p.toList == q.toList) = true := by rw [he]; simp
          have HN := hid (HSU.out he)
          clear hD he HSU
          go_wp2
          go_quiet (fail)
          go_wp2
          go_roundw
          case rel => exact ⟨k + 1, by omega, by go_num, below_drewN hbel _, HN⟩
          case measure => simp [intOf]; omega
        · have e1 : (p.toList == q.toList) = false := by rw [beq_eq_false_iff_ne, ba_toList, ba_toList]; exact fun e => he (ba_ext e)
          have HX := hid (hD he)
          clear hD he HSU
          go_wp2
          go_quiet (fail)
          go_wp2
          go_ret
          exact ⟨ret_bool (by rw [decide_eq_false HX.out]), below_drewN hbel _⟩
      · have HX : Hid (ls x = ls y) := ls_same (by omega) (fun j hj => HK.out j (by omega))
        go_wp2
        go_ret
        exact ⟨ret_bool (by rw [decide_eq_true HX.out]), hbel⟩
  · have hD : ls x ≠ ls y := fun e => by have := congrArg List.length e; rw [ls_length, ls_length] at this; omega
    have e1 : ((n : Int) == m) = false := by rw [beq_eq_false_iff_ne]; omega
    have HX := hid hD; clear hD
    go_enter Tryd.func17, Tryd.ntmps17
    go_wp2
    go_ret
    exact ⟨ret_bool (by rw [decide_eq_false HX.out]), Below.refl _ _⟩
end Go.Proofs.YtfgglckpfnnaoaaDoor
