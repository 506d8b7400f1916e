/- Plain law: the library's cutting of a text at its slashes is its pieces. -/
import Derived.Test.YtfgglckpfnnaoaaDoorPathPlain
import Derived.Test.YtfgglckpfnnaoaaDoorBase
import Derived.Lib.SplitLaws
import Derived.Lib.IndexLaws
import Derived.Lib.IndexBytes
import Derived.Lib.Join
import Derived.Lib.IndexAny
namespace Go.Proofs.YtfgglckpfnnaoaaDoor.Pap

theorem split_take {s : List UInt8} {i : Nat} (h : s[i]? = some 47) : s = s.take i ++ 47 :: s.drop (i + 1) := by
  obtain ⟨hi, he⟩ := List.getElem?_eq_some_iff.1 h
  conv => lhs; rw [← List.take_append_drop i s]
  rw [List.drop_eq_getElem_cons hi, he]
theorem splitK_pieces : ∀ (k : Nat) (s : List UInt8), s.count 47 ≤ k → Lib.splitK [47] 0 k s = pieces s
  | 0, s, h => by
    have hn : 47 ∉ s := by intro hm; have := List.count_pos_iff.2 hm; omega
    rw [pieces_last s hn]; rfl
  | k + 1, s, h => by
    unfold Lib.splitK
    rw [Lib.index_one]
    by_cases hi : Lib.indexByte s 47 = -1
    · rw [if_pos (by rw [hi]; rfl)]
      have hn : 47 ∉ s := by
        intro hm
        obtain ⟨j, hj, he⟩ := List.getElem_of_mem hm
        exact Lib.indexByte_none hi j (by rw [List.getElem?_eq_getElem hj, he])
      rw [pieces_last s hn]
    · have hge := Lib.indexByte_ge s 47
      rw [if_neg (by rw [beq_iff_eq]; exact hi)]
      obtain ⟨i, hi'⟩ : ∃ i : Nat, Lib.indexByte s 47 = i := ⟨(Lib.indexByte s 47).toNat, by omega⟩
      obtain ⟨h1, h2⟩ := Lib.indexByte_some hi'
      have hn : 47 ∉ s.take i := by
        intro hm
        obtain ⟨j, hj, he⟩ := List.getElem_of_mem hm
        rw [List.length_take] at hj
        refine h2 j (by omega) ?_
        rw [List.getElem?_eq_getElem (by omega)]
        rw [List.getElem_take] at he
        rw [he]
      have hs := split_take h1
      have hc : (s.drop (i + 1)).count 47 ≤ k := by
        have := congrArg (List.count 47) hs
        rw [List.count_append, List.count_cons_self] at this
        omega
      have e : (Lib.indexByte s 47).toNat = i := by omega
      rw [e]
      show s.take (i + 0) :: Lib.splitK [47] 0 k (s.drop (i + 1)) = _
      rw [Nat.add_zero, splitK_pieces k _ hc]
      conv => rhs; rw [hs]
      rw [pieces_cut _ _ hn]
def slash : ByteArray := ⟨#[47]⟩
theorem splitB_pieces (s : ByteArray) : (Lib.splitB slash 0 (Lib.countB s slash) s).map (·.data.toList) = pieces s.data.toList := by
  rw [Lib.splitB_data]
  refine splitK_pieces _ _ ?_
  show s.data.toList.count 47 ≤ Lib.count s.data.toList [47]
  rw [Lib.count_one]; exact Nat.le_refl _
theorem countB_pieces (s : ByteArray) : Lib.countB s slash + 1 = (pieces s.data.toList).length := by
  rw [← splitB_pieces, List.length_map, Lib.splitB_all slash (by decide) 0 _ s rfl]
theorem join_eq : ∀ l : List (List UInt8), Lib.join l [47] = joinL l
  | [] => rfl
  | [x] => by simp [Lib.join, joinL]
  | x :: y :: r => by
    have ih := join_eq (y :: r)
    unfold Lib.join at ih ⊢
    rw [joinL, ← ih]
    simp [List.intercalate]
theorem joinL_len : ∀ (l : List (List UInt8)) (m : Nat), (∀ x ∈ l, x.length ≤ m) → (joinL l).length ≤ l.length * (m + 1)
  | [], m, _ => by simp [joinL]
  | [x], m, h => by have := h x (by simp); simp [joinL]; omega
  | x :: y :: r, m, h => by
    have ih := joinL_len (y :: r) m (fun z hz => h z (by simp [hz]))
    have := h x (by simp)
    simp only [joinL, List.length_append, List.length_cons] at ih ⊢
    rw [Nat.add_mul, Nat.one_mul]; omega
theorem good_len {x : List UInt8} (h : goodL x = true) : x.length ≤ 255 := by unfold goodL at h; simp at h; exact h.2.1
theorem join_bound {l : List (List UInt8)} (h : checkE l = 0) : (joinL l).length ≤ 64 * 256 := by
  obtain ⟨_, h2, h3⟩ := checkE_ok.1 h
  exact Nat.le_trans (joinL_len l 255 (fun x hx => good_len (h2 x hx))) (Nat.mul_le_mul h3 (Nat.le_refl _))
end Go.Proofs.YtfgglckpfnnaoaaDoor.Pap
