/- Good, check, Split, Join of the program; slices.IndexFunc, ContainsFunc over a slice of strings at a function value that may make memory. -/
import Derived.Test.YtfgglckpfnnaoaaDoorPathSplit
import Derived.Test.YtfgglckpfnnaoaaDoorStrs
namespace Go.Proofs.YtfgglckpfnnaoaaDoor
open Go.RowKit Pap
set_option linter.unusedVariables false

theorem goodL_yes {s : ByteArray} (h0 : s.size ≠ 0) (h1 : s.size ≤ 255) (h2 : s ≠ ⟨#[46]⟩) (h3 : s ≠ ⟨#[46, 46]⟩) : goodL s.data.toList = (decide (47 ∉ s.data.toList) && decide (0 ∉ s.data.toList)) := by
  have hl : s.data.toList.length = s.size := by simp
  have e2 : s.data.toList ≠ [46] := fun e => h2 (ba_ext (y := ⟨#[46]⟩) e)
  have e3 : s.data.toList ≠ [46, 46] := fun e => h3 (ba_ext (y := ⟨#[46, 46]⟩) e)
  unfold goodL
  rw [Bool.eq_iff_iff, Bool.and_eq_true, decide_eq_true_eq, decide_eq_true_eq, decide_eq_true_eq]
  constructor
  · rintro ⟨_, _, _, _, h5, h6⟩; exact ⟨h5, h6⟩
  · rintro ⟨h5, h6⟩; exact ⟨by omega, by omega, e2, e3, h5, h6⟩
theorem goodL_no {s : ByteArray} (h : s.size = 0 ∨ 255 < s.size ∨ s = ⟨#[46]⟩ ∨ s = ⟨#[46, 46]⟩) : goodL s.data.toList = false := by
  have hl : s.data.toList.length = s.size := by simp
  unfold goodL
  rcases h with h | h | rfl | rfl
  · simp; omega
  · simp; omega
  · simp
  · simp
theorem not_mem_idx (l : List UInt8) (c : UInt8) : (!decide (0 ≤ Lib.indexByte l c)) = decide (c ∉ l) := by
  have h := Lib.contains_iff_indexByte l c
  rw [← h, Bool.eq_iff_iff]; simp

set_option maxHeartbeats 1000000 in
theorem pgood_any (s : ByteArray) (w : World) : Calls Tryd.prog 15 #[.string s] w fun e w' => e = .returned (.bool (goodL s.data.toList)) ∧ w = w' := by
  by_cases h0 : s.size = 0
  · have HX := hid (goodL_no (s := s) (.inl h0))
    have n1 := bstr_nil h0
    go_enter Tryd.func15, Tryd.ntmps15
    go_wp2_with fail
    go_ret
    exact ⟨ret_bool (by rw [HX.out]), rfl⟩
  · have n1 := bstr_some h0
    have n2 := bstr_isEmpty h0
    by_cases h1 : s = ⟨#[46]⟩
    · have HX := hid (goodL_no (s := s) (.inr (.inr (.inl h1))))
      have n3 : s.toList = [46] := by rw [ba_toList, h1]
      have n4 : (s.toList == [46]) = true := by rw [n3]; rfl
      clear h1
      go_enter Tryd.func15, Tryd.ntmps15
      go_wp2_with fail
      go_ret
      exact ⟨ret_bool (by rw [HX.out]), rfl⟩
    · have m1 : (s.toList == [46]) = false := by
        rw [beq_eq_false_iff_ne, ba_toList]; exact fun e => h1 (ba_ext (y := ⟨#[46]⟩) e)
      have m1' : ¬ s.toList = [46] := by rw [ba_toList]; exact fun e => h1 (ba_ext (y := ⟨#[46]⟩) e)
      by_cases h2 : s = ⟨#[46, 46]⟩
      · have HX := hid (goodL_no (s := s) (.inr (.inr (.inr h2))))
        have n3 : s.toList = [46, 46] := by rw [ba_toList, h2]
        clear h1 h2
        go_enter Tryd.func15, Tryd.ntmps15
        go_wp2_with fail
        go_ret
        exact ⟨ret_bool (by rw [HX.out]), rfl⟩
      · have m2 : (s.toList == [46, 46]) = false := by
          rw [beq_eq_false_iff_ne, ba_toList]; exact fun e => h2 (ba_ext (y := ⟨#[46, 46]⟩) e)
        have m2' : ¬ s.toList = [46, 46] := by rw [ba_toList]; exact fun e => h2 (ba_ext (y := ⟨#[46, 46]⟩) e)
        by_cases h255 : s.size ≤ 255
        · have HX := hid (goodL_yes h0 h255 h1 h2)
          have H0 := hid (not_mem_idx s.data.toList 47)
          have H1 := hid (not_mem_idx s.data.toList 0)
          clear h1 h2
          go_enter Tryd.func15, Tryd.ntmps15
          go_wp2_with (first
            | (go_at_call 27; refine (Tryd.strings_Contains_one _ _ _).mono ?_; rintro e w1 ⟨rfl, hw⟩; obtain rfl := hw.symm))
          · go_ret
            exact ⟨ret_bool (by rw [HX.out, ← H0.out, ← H1.out]), rfl⟩
          · go_ret
            exact ⟨ret_bool (by rw [HX.out, ← H0.out, decide_eq_true ‹_›]; rfl), rfl⟩
        · have HX := hid (goodL_no (s := s) (.inr (.inl (by omega))))
          have d255 : ¬ (s.size : Int) ≤ 255 := by omega
          clear h1 h2
          go_enter Tryd.func15, Tryd.ntmps15
          go_wp2_with fail
          go_ret
          exact ⟨ret_bool (by rw [HX.out]), rfl⟩

theorem checkClos_any (s : ByteArray) (w : World) : Calls Tryd.prog 35 #[.string s] w fun e w' => e = .returned (.bool (!goodL s.data.toList)) ∧ w = w' := by
  go_enter Tryd.func35, Tryd.ntmps35
  go_wp2_with (go_at_call 15; refine (pgood_any _ _).mono ?_; rintro e w1 ⟨rfl, rfl⟩)
  go_ret
  exact ⟨rfl, rfl⟩

/-- the place of the first that it is true of -/
def idxP (p : ByteArray → Bool) (l : List ByteArray) : Int := if l.any p then (((l.findIdx p : Nat)) : Int) else -1
theorem idxP_hit {p : ByteArray → Bool} {l : List ByteArray} {k : Nat} (hk : k < l.length) (h : ∀ j, j < k → p (l.getD j ByteArray.empty) = false) (hp : p (l.getD k ByteArray.empty) = true) : idxP p l = (k : Int) := by
  have hg : ∀ j, (hj : j < l.length) → l.getD j ByteArray.empty = l[j] := fun j hj => by rw [List.getD_eq_getElem?_getD, List.getElem?_eq_getElem hj]; rfl
  have hf : l.findIdx p = k := by
    rw [List.findIdx_eq hk]
    rw [hg k hk] at hp
    exact ⟨hp, fun j hj => by have := h j hj; rwa [hg j (by omega)] at this⟩
  unfold idxP
  rw [if_pos (List.any_eq_true.2 ⟨l[k], List.getElem_mem _, by rw [← hg k hk]; exact hp⟩), hf]
theorem idxP_miss {p : ByteArray → Bool} {l : List ByteArray} (h : ∀ j, j < l.length → p (l.getD j ByteArray.empty) = false) : idxP p l = -1 := by
  unfold idxP
  rw [if_neg]
  intro ha
  obtain ⟨x, hx, hp⟩ := List.any_eq_true.1 ha
  obtain ⟨j, hj, rfl⟩ := List.getElem_of_mem hx
  have := h j hj
  rw [List.getD_eq_getElem?_getD, List.getElem?_eq_getElem hj] at this
  simp only [Option.getD_some] at this
  rw [this] at hp; cases hp
theorem idxP_any (p : ByteArray → Bool) (l : List ByteArray) : decide (0 ≤ idxP p l) = l.any p := by
  unfold idxP
  cases h : l.any p
  · simp
  · simp
theorem upto_succ {p : Nat → Prop} {k : Nat} (h : ∀ j, j < k → p j) (hk : p k) : ∀ j, j < k + 1 → p j := fun j hj => by
  rcases Nat.lt_succ_iff_lt_or_eq.1 hj with h1 | rfl
  · exact h j h1
  · exact hk

set_option maxHeartbeats 1000000 in
theorem indexFunc_grows (g : Nat) (lb : Array Value) (eg : ∀ args w, (callFunc g args).run Tryd.prog w = .ok (.enter g args) w) (p : ByteArray → Bool) (a : Option Addr) (n c : Nat) (l : List ByteArray) (w : World) (hS : StrsAt w a n l)
    (hp : ∀ W, Below w.heap.size w W → ∀ x ∈ l, Calls Tryd.prog g (#[.string x] ++ lb) W fun e w' => e = .returned (.bool (p x)) ∧ Below W.heap.size W w') :
    Calls Tryd.prog 43 #[.slice a n c, .func (.func g) #[] lb] w fun e w' => e = .returned (.int .i64 (idxP p l)) ∧ Below w.heap.size w w' := by
  have hl := hS.1
  have hm := hS.2.1
  have HP := hid hp; clear hp
  go_enter Tryd.func43, Tryd.ntmps43
  go_wp2
  go_loopw [8] (fun i wr => ∃ k : Nat, k ≤ n ∧ i = .int .i64 k ∧ Below w.heap.size w wr ∧ Hid (∀ j, j < k → p (l.getD j ByteArray.empty) = false)) (fun i _ => n - (intOf i).toNat)
  case atStart => exact ⟨0, by omega, rfl, Below.refl _ _, fun j hj => absurd hj (Nat.not_lt_zero _)⟩
  case round =>
    obtain ⟨k, hk, rfl, hbel, HK⟩ := hrel
    by_cases hlt : k < n
    · have hSr := hS.later hbel
      obtain ⟨b, off, rfl, hc⟩ := hSr.2.2.resolve_left (by omega)
      have hck := hc k hlt
      have hmem : l.getD k ByteArray.empty ∈ l := by rw [List.getD_eq_getElem?_getD, List.getElem?_eq_getElem (by omega)]; exact List.getElem_mem _
      obtain ⟨x, hx⟩ : ∃ x, l.getD k ByteArray.empty = x := ⟨_, rfl⟩
      rw [hx] at hck hmem
      have cS := HP.out wr hbel x hmem
      have HXE := hid hx
      clear hx hc
      cases hpx : p x
      · rw [hpx] at cS
        have HPX := hid hpx; clear hpx
        have CS := hid cS; clear cS
        go_wp2_with (first | (go_at_fn g; refine CS.out.mono ?_; rintro e w1 ⟨rfl, hb1⟩))
        go_roundw
        case rel => exact ⟨k + 1, by omega, by go_num, below_then hbel hb1, upto_succ HK.out (by rw [HXE.out]; exact HPX.out)⟩
        case measure => simp [intOf]; omega
      · rw [hpx] at cS
        have HR : Hid (idxP p l = (k : Int)) := idxP_hit (by omega) HK.out (by rw [HXE.out]; exact hpx)
        clear hpx
        have CS := hid cS; clear cS
        go_wp2_with (first | (go_at_fn g; refine CS.out.mono ?_; rintro e w1 ⟨rfl, hb1⟩))
        go_ret
        exact ⟨ret_int (by rw [HR.out]), below_then hbel hb1⟩
    · have HR : Hid (idxP p l = -1) := idxP_miss (fun j hj => HK.out j (by omega))
      go_wp2
      go_ret
      exact ⟨ret_int (by rw [HR.out]), hbel⟩
theorem containsFunc_grows (g : Nat) (lb : Array Value) (eg : ∀ args w, (callFunc g args).run Tryd.prog w = .ok (.enter g args) w) (p : ByteArray → Bool) (a : Option Addr) (n c : Nat) (l : List ByteArray) (w : World) (hS : StrsAt w a n l)
    (hp : ∀ W, Below w.heap.size w W → ∀ x ∈ l, Calls Tryd.prog g (#[.string x] ++ lb) W fun e w' => e = .returned (.bool (p x)) ∧ Below W.heap.size W w') :
    Calls Tryd.prog 33 #[.slice a n c, .func (.func g) #[] lb] w fun e w' => e = .returned (.bool (l.any p)) ∧ Below w.heap.size w w' := by
  have c := indexFunc_grows g lb eg p a n c l w hS hp
  rw [← idxP_any]
  obtain ⟨I, hI⟩ : ∃ I, idxP p l = I := ⟨_, rfl⟩
  rw [hI] at c ⊢
  have C := hid c; clear c hI hp
  go_enter Tryd.func33, Tryd.ntmps33
  go_wp2_with (go_at_call 43; refine C.out.mono ?_; rintro e w1 ⟨rfl, hb⟩)
  go_ret
  exact ⟨rfl, hb⟩
end Go.Proofs.YtfgglckpfnnaoaaDoor
