/- The reference's Split and Join. -/
import Derived.Test.YtfgglckpfnnaoaaDoorPathRefA
namespace Go.Proofs.YtfgglckpfnnaoaaDoor
open Go.RowKit Pap
set_option linter.unusedVariables false

/-- where the cutting stands -/
def RS (L : List UInt8) (i f : Nat) (out : List ByteArray) : Prop :=
  (f ≤ i ∧ i ≤ L.length ∧ pieces L = ls out ++ pieces (L.drop f) ∧ 47 ∉ (L.take i).drop f ∨ i = L.length + 1 ∧ pieces L = ls out) ∧ (∀ x ∈ ls out, goodL x = true) ∧ out.length ≤ i
theorem drop_split {L : List UInt8} {i f : Nat} (hf : f ≤ i) (hi : i ≤ L.length) : L.drop f = (L.take i).drop f ++ L.drop i := by
  conv => lhs; rw [← List.take_append_drop i L]
  rw [List.drop_append_of_le_length (by rw [List.length_take]; omega)]
theorem piece_slash {L : List UInt8} {i f : Nat} (hf : f ≤ i) (hi : i < L.length) (hc : L[i] = 47) (hn : 47 ∉ (L.take i).drop f) : pieces (L.drop f) = (L.take i).drop f :: pieces (L.drop (i + 1)) := by
  rw [drop_split hf (by omega), List.drop_eq_getElem_cons hi, hc, pieces_cut _ _ hn]
theorem piece_end {L : List UInt8} {i f : Nat} (hf : f ≤ i) (hi : i = L.length) (hn : 47 ∉ (L.take i).drop f) : pieces (L.drop f) = [(L.take i).drop f] := by
  have e : L.drop i = [] := List.drop_eq_nil_of_le (by omega)
  rw [drop_split hf (by omega), e, List.append_nil, pieces_last _ hn]
theorem ls_snoc (l : List ByteArray) (x : ByteArray) : ls (l ++ [x]) = ls l ++ [x.data.toList] := by simp [ls]
theorem rs_start (L : List UInt8) : RS L 0 0 [] := ⟨.inl ⟨by omega, by omega, rfl, by simp⟩, by simp [ls], by simp⟩
theorem rs_on {L : List UInt8} {i f : Nat} {out : List ByteArray} (h : RS L i f out) (hi : i < L.length) (hc : L[i] ≠ 47) : RS L (i + 1) f out := by
  obtain ⟨h1, h2, h3⟩ := h
  obtain ⟨h4, h5, h6, h7⟩ := h1.resolve_right (by omega)
  refine ⟨.inl ⟨by omega, by omega, h6, ?_⟩, h2, by omega⟩
  rw [List.take_add_one, List.getElem?_eq_getElem hi, List.drop_append_of_le_length (by rw [List.length_take]; omega)]
  intro hm
  rcases List.mem_append.1 hm with hm | hm
  · exact h7 hm
  · simp at hm; exact hc hm.symm
theorem rs_cut {L : List UInt8} {i f : Nat} {out : List ByteArray} {p : ByteArray} (h : RS L i f out) (hi : i ≤ L.length) (hc : (h : i < L.length) → L[i] = 47) (hp : p.data.toList = (L.take i).drop f) (hg : goodL p.data.toList = true) : RS L (i + 1) (i + 1) (out ++ [p]) := by
  obtain ⟨h1, h2, h3⟩ := h
  obtain ⟨h4, h5, h6, h7⟩ := h1.resolve_right (by omega)
  refine ⟨?_, ?_, by simp; omega⟩
  · by_cases hlt : i < L.length
    · refine .inl ⟨by omega, by omega, ?_, by simp⟩
      rw [h6, piece_slash h4 hlt (hc hlt) h7, ls_snoc, hp]; simp
    · refine .inr ⟨by omega, ?_⟩
      rw [h6, piece_end h4 (by omega) h7, ls_snoc, hp]
  · intro x hx
    rw [ls_snoc] at hx
    rcases List.mem_append.1 hx with hx | hx
    · exact h2 x hx
    · simp at hx; subst hx; exact hg
theorem rs_bad {L : List UInt8} {i f : Nat} {out : List ByteArray} (h : RS L i f out) (hi : i ≤ L.length) (hc : (h : i < L.length) → L[i] = 47) (hg : goodL ((L.take i).drop f) = false) : splitE L = 30 := by
  obtain ⟨h1, h2, h3⟩ := h
  obtain ⟨h4, h5, h6, h7⟩ := h1.resolve_right (by omega)
  unfold splitE checkE
  rw [if_pos]
  refine .inr ⟨_, ?_, hg⟩
  rw [h6]
  refine List.mem_append.2 (.inr ?_)
  by_cases hlt : i < L.length
  · rw [piece_slash h4 hlt (hc hlt) h7]; simp
  · rw [piece_end h4 (by omega) h7]; simp
theorem rs_done {L : List UInt8} {i f : Nat} {out : List ByteArray} (h : RS L i f out) (hi : L.length < i) : pieces L = ls out ∧ splitE L = if 64 < out.length then 33 else 0 := by
  obtain ⟨h1, h2, h3⟩ := h
  obtain ⟨h4, h5⟩ := h1.resolve_left (by omega)
  refine ⟨h5, ?_⟩
  unfold splitE checkE
  rw [h5, if_neg, ls_length]
  rintro (h | ⟨x, hx, hg⟩)
  · exact pieces_ne L (h5.trans h)
  · rw [h2 x hx] at hg; cases hg
theorem extract_list (s : ByteArray) (f i : Nat) : (s.extract f i).data.toList = (s.data.toList.take i).drop f := by
  simp [ByteArray.data_extract, Array.toList_extract, List.extract_eq_take_drop, List.drop_take]

theorem own_empty (w : World) : (w.alloc (.cells #[] 9)).ownsRow w.heap.size 9 1 (.slice (some ⟨w.heap.size, 0, none⟩) 0 0) 0 [] :=
  ⟨rfl, .inr ⟨w.heap.size, 0, #[], rfl, Nat.le_refl _, by show (w.heap.push _)[w.heap.size]? = _; simp, Nat.le_refl _, by unfold maxLen; omega, rfl, rfl⟩⟩

set_option maxHeartbeats 8000000 in
theorem rsplit_any (s : ByteArray) (w : World) (hsz : s.size ≤ 1048576) :
    Calls Tryd.prog 12 #[.string s] w fun e w' => ∃ v, e = .returned (.tuple #[v, .int .i64 (splitE s.data.toList)]) ∧ SplitsTo s v w' ∧ Below w.heap.size w w' := by
  obtain ⟨i0, hi0, hz0, hz1, hz2⟩ := info_parts Tryd.infoS
  have hlen : s.data.toList.length = s.size := by simp
  go_enter Tryd.func12, Tryd.ntmps12
  go_wp2
  go_loopw [4, 5, 6] (fun v from' at' wr => ∃ (i f : Nat) (out : List ByteArray), i ≤ s.size + 1 ∧ at' = .int .i64 i ∧ from' = .int .i64 f ∧ wr.ownsRow w.heap.size 9 1 v out.length (svals out) ∧ Below w.heap.size w wr ∧ Hid (RS s.data.toList i f out)) (fun _ _ i _ => s.size + 1 - (intOf i).toNat)
  case atStart => exact ⟨0, 0, [], by omega, rfl, rfl, own_empty w, (Below.refl _ _).alloc (Nat.le_refl _) _, rs_start _⟩
  case round =>
    obtain ⟨i, f, out, hi, rfl, rfl, hown, hbel, HR⟩ := hrel
    have hbs := hbel.size
    have hout := HR.out.2.2
    by_cases hle : i ≤ s.size
    · have hfi : f ≤ i := by
        rcases HR.out.1 with h | h
        · exact h.1
        · omega
      have hx := extract_list s f i
      have hpz : (s.extract f i).size ≤ 9223372036854775807 := by
        have h1 : (s.extract f i).data.toList.length = (s.extract f i).size := Array.length_toList
        rw [hx, List.length_drop, List.length_take] at h1; omega
      by_cases hlt : i < s.size
      · by_cases hc : s[i] = 47
        · have e1 : ((s[i].toNat : Int) != 47) = false := by rw [hc]; rfl
          have e2 : ((s[i].toNat : Int) == 47) = true := by rw [hc]; rfl
          cases hg : goodL (s.extract f i).data.toList
          · have HX := hid (rs_bad HR.out (by omega) (fun h => hc) (by rw [← hx]; exact hg))
            have HG := hid hg; clear hg hx hc
            go_wp2_with (go_at_call 16; refine (rgood_any _ _ hpz).mono ?_; rw [HG.out]; rintro e w1 ⟨rfl, rfl⟩)
            go_ret2
            exact ⟨_, by rw [HX.out] <;> rfl, ⟨none, 0, [], rfl, ⟨rfl, by simp, .inl rfl⟩, by unfold namesOf; rw [HX.out]; rfl, fun _ => rfl⟩, hbel⟩
          · have HN := hid (rs_cut HR.out (by omega) (fun h => hc) hx hg)
            have HG := hid hg; clear hg hx hc
            go_wp2_with (first
              | (go_at_call 16; refine (rgood_any _ _ hpz).mono ?_; rw [HG.out]; rintro e w1 ⟨rfl, rfl⟩)
              | (at_builtin; refine wpList_append_own _ rfl (.tmp 30) (.tmp 35) 22 rfl w.heap.size 9 i0 (.string ⟨#[]⟩) 1 16 Tryd.underlying22 hi0 hz0 hz1 hz2 rfl (by decide) _ _ _ rfl (hown.alloc _) _ 1 1 [.string (s.extract f i)] rfl rfl (cellNew1 _ _ _) (one_bytes rfl) (by unfold maxLen; omega) (by omega) (by simp; omega) ?_; intro v' w3 hown' hgrow _))
            go_roundw
            case rel => exact ⟨i + 1, i + 1, out ++ [s.extract f i], by omega, by go_num, by go_num, own_string_snoc hown', below_grown1 hbel hown _ hbs hgrow, HN⟩
            case measure => simp [intOf]; omega
        · have e1 : ((s[i].toNat : Int) != 47) = true := by
            rw [bne_iff_ne]; intro e; apply hc; apply UInt8.toNat_inj.1; show s[i].toNat = 47; omega
          have e2 : ((s[i].toNat : Int) == 47) = false := by
            rw [beq_eq_false_iff_ne]; intro e; apply hc; apply UInt8.toNat_inj.1; show s[i].toNat = 47; omega
          have HN := hid (rs_on HR.out (by omega) hc)
          clear hc hx
          go_wp2
          go_roundw
          case rel => exact ⟨i + 1, f, out, by omega, by go_num, rfl, hown, hbel, HN⟩
          case measure => simp [intOf]; omega
      · obtain rfl : i = s.size := by omega
        cases hg : goodL (s.extract f s.size).data.toList
        · have HX := hid (rs_bad HR.out (by omega) (fun h => absurd h (by omega)) (by rw [← hx]; exact hg))
          have HG := hid hg; clear hg hx
          go_wp2_with (go_at_call 16; refine (rgood_any _ _ hpz).mono ?_; rw [HG.out]; rintro e w1 ⟨rfl, rfl⟩)
          go_ret2
          exact ⟨_, by rw [HX.out] <;> rfl, ⟨none, 0, [], rfl, ⟨rfl, by simp, .inl rfl⟩, by unfold namesOf; rw [HX.out]; rfl, fun _ => rfl⟩, hbel⟩
        · have HN := hid (rs_cut HR.out (by omega) (fun h => absurd h (by omega)) hx hg)
          have HG := hid hg; clear hg hx
          go_wp2_with (first
            | (go_at_call 16; refine (rgood_any _ _ hpz).mono ?_; rw [HG.out]; rintro e w1 ⟨rfl, rfl⟩)
            | (at_builtin; refine wpList_append_own _ rfl (.tmp 30) (.tmp 35) 22 rfl w.heap.size 9 i0 (.string ⟨#[]⟩) 1 16 Tryd.underlying22 hi0 hz0 hz1 hz2 rfl (by decide) _ _ _ rfl (hown.alloc _) _ 1 1 [.string (s.extract f s.size)] rfl rfl (cellNew1 _ _ _) (one_bytes rfl) (by unfold maxLen; omega) (by omega) (by simp; omega) ?_; intro v' w3 hown' hgrow _))
          go_roundw
          case rel => exact ⟨s.size + 1, s.size + 1, out ++ [s.extract f s.size], by omega, by go_num, by go_num, own_string_snoc hown', below_grown1 hbel hown _ hbs hgrow, HN⟩
          case measure => simp [intOf]
    · obtain ⟨D1, D2⟩ := rs_done HR.out (by omega)
      have HD1 := hid D1
      obtain ⟨va, vc, rfl, hS⟩ := own_strs hown (by omega)
      by_cases h64 : 64 < out.length
      · have HX : Hid (splitE s.data.toList = 33) := by rw [if_pos h64] at D2; exact D2
        have g1 : (64 : Int) < out.length := by omega
        clear D1 D2
        go_wp2
        go_ret2
        exact ⟨_, by rw [HX.out] <;> rfl, ⟨none, 0, [], rfl, ⟨rfl, by simp, .inl rfl⟩, by unfold namesOf; rw [HX.out]; rfl, fun _ => rfl⟩, hbel⟩
      · have HX : Hid (splitE s.data.toList = 0) := by rw [if_neg h64] at D2; exact D2
        have g1 : ¬ (64 : Int) < out.length := by omega
        clear D1 D2
        go_wp2
        go_ret2
        exact ⟨_, by rw [HX.out] <;> rfl, ⟨va, vc, out, rfl, hS, by unfold namesOf; rw [if_pos HX.out, HD1.out], fun h => absurd HX.out h⟩, hbel⟩
end Go.Proofs.YtfgglckpfnnaoaaDoor
