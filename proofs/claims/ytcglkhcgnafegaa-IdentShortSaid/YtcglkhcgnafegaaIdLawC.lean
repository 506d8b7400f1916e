/- The walk of the statement IdentShares. -/
import Derived.Test.YtcglkhcgnafegaaIdArr
import Derived.Test.YtcglkhcgnafegaaIdBack
namespace Go.Proofs.Ytcglkhcgnafegaa
open Go.RowKit Idp
set_option linter.unusedVariables false

theorem shareFrom_comm (a b : ByteArray) : ∀ f k, shareFrom a b f k = shareFrom b a f k
  | 0, k => rfl
  | f + 1, k => by
    unfold shareFrom
    by_cases h : digitN a k = digitN b k
    · rw [if_pos h, if_pos h.symm, shareFrom_comm a b f]
    · rw [if_neg h, if_neg (fun e => h e.symm)]
theorem share_comm (a b : ByteArray) : share a b = share b a := by
  unfold share
  by_cases h : a.size = 32 ∧ b.size = 32
  · rw [if_pos h, if_pos h.symm, shareFrom_comm]
  · rw [if_neg h, if_neg (fun e => h e.symm)]
/-- b with its first n bytes those of a -/
def mix (a b : ByteArray) (n : Nat) : ByteArray := ⟨(a.data.toList.take n ++ b.data.toList.drop n).toArray⟩
theorem mix_list (a b : ByteArray) (n : Nat) : (mix a b n).data.toList = a.data.toList.take n ++ b.data.toList.drop n := rfl
theorem mix_size {a b : ByteArray} {n : Nat} (ha : a.size = 32) (hb : b.size = 32) (hn : n ≤ 32) : (mix a b n).size = 32 := by
  have la : a.data.toList.length = 32 := by rw [size_length]; exact ha
  have lb : b.data.toList.length = 32 := by rw [size_length]; exact hb
  rw [← size_length, mix_list, List.length_append, List.length_take, List.length_drop]; omega
theorem mix_zero (a b : ByteArray) : mix a b 0 = b := by unfold mix; apply ba_ext; simp
theorem mix_set {a b : ByteArray} {k : Nat} (ha : a.size = 32) (hb : b.size = 32) (hk : k < 32) (h : k < a.size) :
    (bvals (mix a b k).data.toList).set k (.int .u8 ((a[k]).toNat : Int)) = bvals (mix a b (k + 1)).data.toList := by
  have la : a.data.toList.length = 32 := by rw [size_length]; exact ha
  have lb : b.data.toList.length = 32 := by rw [size_length]; exact hb
  rw [mix_list, mix_list]
  unfold bvals
  apply List.ext_getElem?
  intro i
  rw [List.getElem?_set]
  have hlen : (List.map (fun c : UInt8 => Value.int IntKind.u8 (c.toNat : Int)) (a.data.toList.take k ++ b.data.toList.drop k)).length = 32 := by simp [la, lb]; omega
  split
  · subst_vars
    rw [if_pos (by omega)]
    simp only [List.getElem?_map]
    rw [List.getElem?_append_left (by simp [la]; omega), List.getElem?_take, if_pos (by omega), List.getElem?_eq_getElem (by omega)]
    rfl
  · rename_i hne
    simp only [List.getElem?_map]
    congr 1
    rcases Nat.lt_or_ge i k with h3 | h3
    · rw [List.getElem?_append_left (by simp [la]; omega), List.getElem?_append_left (by simp [la]; omega), List.getElem?_take, List.getElem?_take, if_pos h3, if_pos (by omega)]
    · rw [List.getElem?_append_right (by simp [la]; omega), List.getElem?_append_right (by simp [la]; omega), List.getElem?_drop, List.getElem?_drop]
      congr 1
      simp [la]; omega
theorem mix_digit {a b : ByteArray} {n j : Nat} (ha : a.size = 32) (hb : b.size = 32) (hn : n ≤ 32) (hj : j < 2 * n) : digitN a j = digitN (mix a b n) j := by
  have la : a.data.toList.length = 32 := by rw [size_length]; exact ha
  unfold digitN byteAt
  rw [mix_list, List.getD_eq_getElem?_getD, List.getD_eq_getElem?_getD, List.getElem?_append_left (by simp; omega), List.getElem?_take, if_pos (by omega)]
theorem mix_share {a b : ByteArray} {n : Nat} (ha : a.size = 32) (hb : b.size = 32) (hn : n ≤ 32) : 2 * n ≤ share a (mix a b n) :=
  (share_ge_iff ha (mix_size ha hb hn) (by omega)).2 fun j hj => mix_digit ha hb hn hj
theorem has_share {x y : ByteArray} (hx : x.size = 32) (hy : y.size = 32) : has y (List.take (share x y) (⟨(hexL x).toArray⟩ : ByteArray).data.toList) = true ∧
    (share x y < 64 → has y (List.take (share x y + 1) (⟨(hexL x).toArray⟩ : ByteArray).data.toList) = false) := by
  have hle := share_le x y
  constructor
  · show has y (List.take (share x y) (hexL x)) = true
    rw [hexL_in hx, hexUpto_take x hle]
    exact (has_hex hy hx hle).2 (by rw [share_comm]; exact Nat.le_refl _)
  · intro h
    show has y (List.take (share x y + 1) (hexL x)) = false
    rw [hexL_in hx, hexUpto_take x (by omega), ← Bool.not_eq_true]
    intro h2
    have := (has_hex hy hx (by omega)).1 h2
    rw [share_comm] at this; omega
theorem share_all {x y : ByteArray} (hx : x.size = 32) (hy : y.size = 32) : share x y = 64 ↔ x = y := by
  constructor
  · intro h
    rcases Classical.em (x = y) with h2 | h2
    · exact h2
    · have := share_lt hx hy h2; omega
  · rintro rfl; exact share_self hx

theorem mod33 (sm : Int) : ∃ n : Nat, wrap64 ((IntKind.u64.wrap sm).tmod 33) = (n : Int) ∧ n ≤ 32 := by
  have h0 : 0 ≤ IntKind.u64.wrap sm := by simp only [IntKind.wrap, IntKind.signed, IntKind.bits]; simp; omega
  have h1 : (IntKind.u64.wrap sm).tmod 33 = (IntKind.u64.wrap sm) % 33 := Int.tmod_eq_emod_of_nonneg h0
  refine ⟨((IntKind.u64.wrap sm) % 33).toNat, ?_, by omega⟩
  rw [h1, IntWalk.wrap64_in _ (by omega)]; omega
theorem ArrAt.store {w : World} {b : Nat} {T : TypeId} {A B : ByteArray} {k : Nat} {v : Value} (h : ArrAt w b T A) (hs : (bvals A.data.toList).set k v = bvals B.data.toList) : ArrAt (w.setCell ⟨b, k, none⟩ v) b T B := by
  unfold ArrAt at h ⊢
  simp [World.setCell, Array.getElem?_modify, h, ← hs]
theorem ArrAt.keep {w : World} {b c : Nat} {T : TypeId} {A : ByteArray} {k : Nat} {u : Value} (h : ArrAt w b T A) (hne : b ≠ c) : ArrAt (w.setCell ⟨c, k, none⟩ u) b T A := by
  unfold ArrAt at h ⊢
  rw [Below.heap_setCell _ _ _ _ hne]; exact h

set_option maxHeartbeats 2000000 in
theorem walk_IdentShares (A B : ByteArray) (sm : Int) (w : World) (hA : A.size = 32) (hB : B.size = 32) :
    Calls Try.prog 4 #[arrV A, arrV B, .int .i64 sm] w fun e w' => e = .returned (.bool true) ∧ Below w.heap.size w w' := by
  unfold arrV
  obtain ⟨ca, hca⟩ : ∃ ca, (bvals A.data.toList).toArray = ca := ⟨_, rfl⟩
  obtain ⟨cb, hcb⟩ : ∃ cb, (bvals B.data.toList).toArray = cb := ⟨_, rfl⟩
  rw [hca, hcb]
  have HCA := hid hca; have HCB := hid hcb; clear hca hcb
  go_enter Try.func4, Try.ntmps4
  go_wp2_with fail
  have a0 : ArrAt ((w.alloc (.cells ca 29)).alloc (.cells cb 29)) w.heap.size 29 A := by
    unfold ArrAt; rw [HCA.out, heap_alloc_old _ _ (by simp), heap_alloc_new]
  have b0 : ArrAt ((w.alloc (.cells ca 29)).alloc (.cells cb 29)) (w.heap.size + 1) 29 B := by
    unfold ArrAt; rw [HCB.out]; have := heap_alloc_new (w.alloc (.cells ca 29)) (.cells cb 29); simpa using this
  have hb0 : Below w.heap.size w ((w.alloc (.cells ca 29)).alloc (.cells cb 29)) := ((Below.refl _ _).alloc (Nat.le_refl _) _).alloc (by simp) _
  obtain ⟨w0, hw0⟩ : ∃ w0, (w.alloc (.cells ca 29)).alloc (.cells cb 29) = w0 := ⟨_, rfl⟩
  rw [hw0] at a0 b0 hb0 ⊢
  clear hw0
  refine (awake_any _).mono ?_; rintro e w1 ⟨rfl, hb1⟩
  have a1 := a0.below hb1
  have b1 := b0.below hb1
  have hb1' := below_then hb0 hb1
  clear a0 b0 hb0 hb1
  obtain ⟨n, hn, hn32⟩ := mod33 sm
  go_wp2
  simp only [hn]
  clear hn
  go_loopw [8] (fun i wr => ∃ k : Nat, k ≤ n ∧ i = .int .i64 k ∧ ArrAt wr w.heap.size 29 A ∧ ArrAt wr (w.heap.size + 1) 29 (mix A B k) ∧ Below w.heap.size w wr) (fun i _ => n - (intOf i).toNat)
  case atStart => exact ⟨0, by omega, rfl, a1, by rw [mix_zero]; exact b1, hb1'⟩
  case round =>
    obtain ⟨k, hk, rfl, ak, bk, hbel⟩ := hrel
    by_cases hlt : k < n
    · have hkA : k < A.size := by omega
      have hcA := ak.cell hkA
      have hmk := mix_size (a := A) (b := B) (n := k) hA hB (by omega)
      have hcB := bk.cell (j := k) (by omega)
      have hfz := bk.frozen k
      have hst := bk.store (mix_set hA hB (by omega) hkA)
      have ast := ak.keep (k := k) (u := .int .u8 ((A[k]).toNat : Int)) (show w.heap.size ≠ w.heap.size + 1 by omega)
      have hbs := hbel.setCell (p := ⟨w.heap.size + 1, k, none⟩) (by simp) (.int .u8 ((A[k]).toNat : Int))
      have i0 : (0 : Int) ≤ (k : Int) := by omega
      have i1 : (k : Int) < 32 := by omega
      go_wp2
      go_roundw
      case rel => exact ⟨k + 1, by omega, by go_num, ast, hst, hbs⟩
      case measure => simp [intOf]; omega
    · obtain rfl : k = n := by omega
      clear hlt hk
      have hmk := mix_size (a := A) (b := B) (n := k) hA hB hn32
      have hge := mix_share (a := A) (b := B) (n := k) hA hB hn32
      have ka := ak.conv hA
      have kb := bk.conv hmk
      obtain ⟨Y, hY⟩ : ∃ Y, mix A B k = Y := ⟨_, rfl⟩
      rw [hY] at hmk hge bk kb
      clear hY
      have hcomm := share_comm A Y
      have hhas := has_share hA hmk
      have hall := share_all hA hmk
      have hle := share_le A Y
      have hdif := fun h => share_differ hA hmk h
      obtain ⟨S, hS⟩ : ∃ S, share A Y = S := ⟨_, rfl⟩
      have hS2 : share Y A = S := by rw [← hcomm]; exact hS
      rw [hS] at hge hhas hall hle hdif
      obtain ⟨G, hG⟩ : ∃ G : ByteArray, (⟨(hexL A).toArray⟩ : ByteArray) = G := ⟨_, rfl⟩
      have cG : ∀ w, Calls Try.prog 15 #[.string A] w fun e w' => e = .returned (.string G) ∧ Below w.heap.size w w' := fun w => by rw [← hG]; exact hex_any A w
      have hGs : G.size = 64 := by rw [← hG, hexL_in hA]; simp [ByteArray.size, hexUpto_length]
      rw [hG] at hhas
      obtain ⟨hh1, hh2⟩ := hhas
      have CG := hid cG
      have HB := hbel
      clear cG hcomm hG
      by_cases h64 : S = 64
      · have hAY := hall.1 h64
        subst hAY
        subst h64
        clear hall hdif hh2
        go_wp2_with (first
          | (go_at_call 14; refine (share_any _ _ _).mono ?_; rintro e w2 ⟨rfl, rfl⟩; rw [hS])
          | (go_at_call 15; refine (CG.out _).mono ?_; rintro e w2 ⟨rfl, hb2⟩; replace HB := below_then HB hb2)
          | (go_at_call 16; refine (has_any _ _ _).mono ?_; rintro e w3 ⟨rfl, hb3⟩; replace HB := below_then HB hb3))
        go_ret
        exact ⟨rfl, HB⟩
      · have hlt : S < 64 := by omega
        have hne : A ≠ Y := fun h => h64 (hall.2 h)
        have hbn := bstr_ne hne
        have hh3 := hh2 hlt
        have hd := hdif hlt
        have e1 := digitZ_in hA (k := (S : Int)) (by omega) (by omega)
        have e2 := digitZ_in hmk (k := (S : Int)) (by omega) (by omega)
        simp only [Int.toNat_natCast] at e1 e2
        have hz : (digitZ A (S : Int) == digitZ Y (S : Int)) = false := by rw [e1, e2]; simp; omega
        have hz2 : (digitZ A (S : Int) != digitZ Y (S : Int)) = true := by simp only [bne, hz]; rfl
        have hs64 : ((S : Int) == 64) = false := by simp; omega
        clear hall hdif hh2 hne hd e1 e2 h64
        go_wp2_with (first
          | (go_at_call 14; refine (share_any _ _ _).mono ?_; rintro e w2 ⟨rfl, rfl⟩; first | rw [hS] | rw [hS2])
          | (go_at_call 15; refine (CG.out _).mono ?_; rintro e w2 ⟨rfl, hb2⟩; replace HB := below_then HB hb2)
          | (go_at_call 16; refine (has_any _ _ _).mono ?_; rintro e w3 ⟨rfl, hb3⟩; replace HB := below_then HB hb3)
          | (go_at_call 17; refine (digit_any _ _ _).mono ?_; rintro e w2 ⟨rfl, rfl⟩))
        go_ret
        exact ⟨rfl, HB⟩
end Go.Proofs.Ytcglkhcgnafegaa
