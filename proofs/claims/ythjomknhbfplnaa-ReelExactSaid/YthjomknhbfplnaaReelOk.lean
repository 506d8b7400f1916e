/- What each call of the reel keeps: plain Lean. -/
import Derived.Test.YthjomknhbfplnaaReelPlain
namespace Go.Proofs.Ythjomknhbfplnaa.Reel
open Go.RowKit
set_option linter.unusedVariables false

/-- numbers that don't pass what an int holds -/
def St.Fits (S : St) (n : Nat) : Prop := S.acts ≤ n ∧ S.life ≤ n ∧ S.armed ≤ 9223372036854775807
theorem size_cons (t : Spool) (r : List Spool) : size (t :: r) = t.bytes.length + size r := by simp [size]
theorem size_append (a b : List Spool) : size (a ++ b) = size a + size b := by simp [size]
theorem size_split (ts : List Spool) (i : Nat) (h : i < ts.length) : size ts = size (ts.take i) + (ts[i]).bytes.length + size (ts.drop (i + 1)) := by
  conv => lhs; rw [← List.take_append_drop i ts, List.drop_eq_getElem_cons h]
  rw [size_append, size_cons]; omega
theorem size_set (ts : List Spool) (i : Nat) (h : i < ts.length) (t : Spool) : size (ts.set i t) + (ts[i]).bytes.length = size ts + t.bytes.length := by
  have e1 : (ts.set i t).take i = ts.take i := by rw [List.take_set, List.set_eq_of_length_le (by rw [List.length_take]; omega)]
  have e2 : (ts.set i t).drop (i + 1) = ts.drop (i + 1) := by rw [List.drop_set_of_lt (by omega)]
  have e3 : (ts.set i t)[i]'(by simpa using h) = t := by simp
  rw [size_split (ts.set i t) i (by simpa using h), size_split ts i h, e1, e2, e3]
  omega
theorem size_mem {ts : List Spool} {t : Spool} (h : t ∈ ts) : t.bytes.length ≤ size ts := by
  obtain ⟨i, hi, rfl⟩ := List.getElem_of_mem h
  rw [size_split ts i hi]; omega
theorem size_del (ts : List Spool) (i : Nat) (h : i < ts.length) : size (ts.take i ++ ts.drop (i + 1)) + (ts[i]).bytes.length = size ts := by
  rw [size_append, size_split ts i h]; omega
theorem size_ins (ts : List Spool) (i : Nat) (t : Spool) : size (ts.take i ++ t :: ts.drop i) = size ts + t.bytes.length := by
  have h : size ts = size (ts.take i) + size (ts.drop i) := by rw [← size_append, List.take_append_drop]
  rw [size_append, size_cons, h]; omega

section
variable {S S' : St} {x : ByteArray} {t t' : Spool}
theorem at_get (h : S.Ok) (hx : hasN S.l x = true) : ∃ hi : posOf S.l x < S.ts.length, at_ S x = some S.ts[posOf S.l x] := by
  have hlt := ((posOf_mem h.rising x).2 (hasN_iff.1 hx)).1
  have hl := h.len
  refine ⟨by omega, ?_⟩
  unfold at_
  rw [if_pos hx, List.getElem?_eq_getElem]
theorem at_some (ht : at_ S x = some t) : hasN S.l x = true ∧ S.ts[posOf S.l x]? = some t := by
  unfold at_ at ht
  split at ht
  · rename_i h; exact ⟨h, ht⟩
  · cases ht
theorem at_none (h : S.Ok) (ht : at_ S x = none) : hasN S.l x = false := by
  cases hx : hasN S.l x
  · rfl
  · obtain ⟨_, e⟩ := at_get h hx; rw [ht] at e; cases e
theorem at_mem (ht : at_ S x = some t) : t ∈ S.ts := by
  obtain ⟨_, h⟩ := at_some ht
  obtain ⟨_, rfl⟩ := List.getElem?_eq_some_iff.1 h
  exact List.getElem_mem _
theorem putT_has (hx : hasN S.l x = true) : putT S x t = { S with ts := S.ts.set (posOf S.l x) t } := by
  unfold putT putN; rw [if_pos hx, if_pos hx]
theorem putT_no (hx : hasN S.l x = false) : putT S x t = { S with l := S.l.take (posOf S.l x) ++ x :: S.l.drop (posOf S.l x), ts := S.ts.take (posOf S.l x) ++ t :: S.ts.drop (posOf S.l x) } := by
  unfold putT putN; rw [if_neg (by simp [hx]), if_neg (by simp [hx])]
theorem delT_has (hx : hasN S.l x = true) : delT S x = { S with l := S.l.take (posOf S.l x) ++ S.l.drop (posOf S.l x + 1), ts := S.ts.take (posOf S.l x) ++ S.ts.drop (posOf S.l x + 1) } := by
  unfold delT delN; rw [if_pos hx, if_pos hx]
/-- the state but for its tapes -/
theorem St.Ok.with_ (h : S.Ok) (hl : S'.l = S.l) (ht : S'.ts = S.ts) (hu : S'.used = S.used) (hr : S'.room ≤ 67108864) : S'.Ok :=
  ⟨by rw [hl, ht]; exact h.len, by rw [hl]; exact h.rising, by rw [hl]; exact h.few, by rw [hu, ht]; exact h.used, by rw [hu]; exact h.most, hr, by rw [ht]; exact h.each, by rw [hl]; exact h.names⟩
theorem St.Ok.put (h : S.Ok) (ht : at_ S x = some t) (h1 : t'.bytes.length ≤ 4194304) (h2 : t'.safe ≤ t'.bytes.length) (U : Nat) (hU : U + t.bytes.length = S.used + t'.bytes.length) (hm : U ≤ 67108864) : St.Ok { putT S x t' with used := U } := by
  obtain ⟨hx, hi⟩ := at_some ht
  obtain ⟨hlt, rfl⟩ := List.getElem?_eq_some_iff.1 hi
  rw [putT_has hx]
  have hs := size_set S.ts (posOf S.l x) hlt t'
  have hu := h.used
  refine ⟨by simpa using h.len, h.rising, h.few, ?_, hm, h.room, ?_, h.names⟩
  · show U = size (S.ts.set _ t'); omega
  · intro y hy
    rcases List.mem_or_eq_of_mem_set hy with hy | rfl
    · exact h.each y hy
    · exact ⟨h1, h2⟩
theorem St.Ok.ins (h : S.Ok) (hx : hasN S.l x = false) (hn : isName x = true) (hf : S.l.length < 64) (h1 : t'.bytes.length ≤ 4194304) (h2 : t'.safe ≤ t'.bytes.length) (U : Nat) (hU : U = S.used + t'.bytes.length) (hm : U ≤ 67108864) : St.Ok { putT S x t' with used := U } := by
  have hp := posOf_le S.l x
  have hr := putN_rising h.rising x
  have hl := h.len
  have hu := h.used
  rw [putT_no hx]
  unfold putN at hr
  rw [if_neg (by simp [hx])] at hr
  refine ⟨by simp [hl], hr, ?_, ?_, hm, h.room, ?_, ?_⟩
  · simp; omega
  · show U = size _; rw [size_ins]; omega
  · intro y hy
    rcases List.mem_append.1 hy with hy | hy
    · exact h.each y (List.mem_of_mem_take hy)
    · rcases List.mem_cons.1 hy with rfl | hy
      · exact ⟨h1, h2⟩
      · exact h.each y (List.mem_of_mem_drop hy)
  · intro y hy
    rcases List.mem_append.1 hy with hy | hy
    · exact h.names y (List.mem_of_mem_take hy)
    · rcases List.mem_cons.1 hy with rfl | hy
      · exact hn
      · exact h.names y (List.mem_of_mem_drop hy)
theorem St.Ok.del (h : S.Ok) (ht : at_ S x = some t) (U : Nat) (hU : U + t.bytes.length = S.used) : St.Ok { delT S x with used := U } := by
  obtain ⟨hx, hi⟩ := at_some ht
  obtain ⟨hlt, rfl⟩ := List.getElem?_eq_some_iff.1 hi
  have hr := delN_rising h.rising x
  have hs := size_del S.ts (posOf S.l x) hlt
  have hu := h.used
  have hl := h.len
  have hm := h.most
  have hf := h.few
  rw [delT_has hx]
  unfold delN at hr
  rw [if_pos hx] at hr
  refine ⟨by simp [hl], hr, by simp; omega, ?_, by show U ≤ _; omega, h.room, ?_, ?_⟩
  · show U = size (S.ts.take (posOf S.l x) ++ S.ts.drop (posOf S.l x + 1)); omega
  · intro y hy
    rcases List.mem_append.1 hy with hy | hy
    · exact h.each y (List.mem_of_mem_take hy)
    · exact h.each y (List.mem_of_mem_drop hy)
  · intro y hy
    rcases List.mem_append.1 hy with hy | hy
    · exact h.names y (List.mem_of_mem_take hy)
    · exact h.names y (List.mem_of_mem_drop hy)

/-! an act -/
theorem act_l (S : St) : (actS S).1.l = S.l ∧ (actS S).1.ts = S.ts ∧ (actS S).1.used = S.used ∧ (actS S).1.room = S.room := by
  unfold actS; split
  · exact ⟨rfl, rfl, rfl, rfl⟩
  · split <;> exact ⟨rfl, rfl, rfl, rfl⟩
theorem act_err (S : St) : (actS S).2 = 0 ∨ (actS S).2 = 10 := by
  unfold actS; split
  · exact .inl rfl
  · split
    · exact .inr rfl
    · exact .inl rfl
theorem act_ok (h : S.Ok) : (actS S).1.Ok := by
  obtain ⟨h1, h2, h3, h4⟩ := act_l S
  exact h.with_ h1 h2 h3 (by rw [h4]; exact h.room)
theorem act_fits {n : Nat} (h : S.Fits n) : (actS S).1.Fits (n + 1) := by
  obtain ⟨h1, h2, h3⟩ := h
  unfold actS St.Fits; split
  · exact ⟨by show S.acts + 1 ≤ _; omega, by show S.life ≤ _; omega, h3⟩
  · split
    · exact ⟨by show S.acts + 1 ≤ _; omega, by show S.life + 1 ≤ _; omega, by show (0 : Nat) ≤ _; omega⟩
    · exact ⟨by show S.acts + 1 ≤ _; omega, by show S.life ≤ _; omega, by show S.armed - 1 ≤ _; omega⟩
theorem act_down (hd : S.down = false) : (actS S).1.down = decide ((actS S).2 = 10) := by
  unfold actS; split
  · simpa using hd
  · split
    · rfl
    · simpa using hd
theorem at_act (S : St) (x : ByteArray) : at_ (actS S).1 x = at_ S x := by
  obtain ⟨h1, h2, _⟩ := act_l S
  unfold at_; rw [h1, h2]
theorem roomOf_le (n : Int) : roomOf n ≤ 67108864 := by unfold roomOf; split; omega; split <;> omega
theorem new_ok (n : Int) : (new n).Ok := by
  refine ⟨rfl, List.Pairwise.nil, Nat.zero_le _, rfl, Nat.zero_le _, roomOf_le n, ?_, ?_⟩
  · intro t h; cases h
  · intro t h; cases h
theorem arm_ok (h : S.Ok) (n : Int) : (armS S n).Ok := h.with_ rfl rfl rfl h.room
theorem room_ok (h : S.Ok) (n : Int) : (roomS S n).Ok := h.with_ rfl rfl rfl (roomOf_le n)
theorem off_ok (h : S.Ok) : (offS S).Ok := by
  unfold offS; split
  · exact h
  · exact h.with_ rfl rfl rfl h.room
end
end Go.Proofs.Ythjomknhbfplnaa.Reel
