/- A call of a disk as the laws draw it, and what it keeps: plain Lean. -/
import Derived.Test.YthjomknhbfplnaaReelM
namespace Go.Proofs.Ythjomknhbfplnaa.Reel
open Go.RowKit
set_option linter.unusedVariables false

structure ActV where
  kind : Int
  name : ByteArray
  text : ByteArray
  n : Int
  fates : List Int
def doesS (S : St) (x : ActV) : St × Int :=
  if x.kind = 1 then appendS S x.name x.text
  else if x.kind = 2 then syncS S x.name
  else if x.kind = 3 then cutS S x.name x.n
  else if x.kind = 4 then swapS S x.name x.text
  else if x.kind = 5 then dropS S x.name
  else if x.kind = 6 then (offS S, 0)
  else if x.kind = 7 then (onS S x.fates, 0)
  else if x.kind = 8 then (armS S x.n, 0)
  else if x.kind = 9 then (roomS S x.n, 0)
  else (S, 0)
section
variable {S S' : St} {x y : ByteArray} {t : Spool} {n : Nat}
/-- acts, lives, armed, room as they were, but for an act -/
def Near (S S' : St) : Prop := S'.room = S.room ∧ ((S'.acts = S.acts ∧ S'.life = S.life ∧ S'.armed = S.armed) ∨ (S'.acts = (actS S).1.acts ∧ S'.life = (actS S).1.life ∧ S'.armed = (actS S).1.armed))
theorem Near.refl (S : St) : Near S S := ⟨rfl, .inl ⟨rfl, rfl, rfl⟩⟩
theorem Near.act (S : St) : Near S (actS S).1 := ⟨(act_l S).2.2.2, .inr ⟨rfl, rfl, rfl⟩⟩
theorem Near.fits (h : Near S S') (hf : S.Fits n) : S'.Fits (n + 1) := by
  obtain ⟨-, h⟩ := h
  rcases h with ⟨h1, h2, h3⟩ | ⟨h1, h2, h3⟩
  · obtain ⟨f1, f2, f3⟩ := hf
    exact ⟨by omega, by omega, by omega⟩
  · obtain ⟨f1, f2, f3⟩ := act_fits hf
    exact ⟨by omega, by omega, by omega⟩
theorem act_same {S1 S2 : St} (h1 : S1.acts = S2.acts) (h2 : S1.life = S2.life) (h3 : S1.armed = S2.armed) (h4 : S1.room = S2.room) : Near S2 (actS S1).1 := by
  refine ⟨by rw [(act_l S1).2.2.2, h4], .inr ?_⟩
  unfold actS
  rw [h3]
  split
  · exact ⟨by show S1.acts + 1 = S2.acts + 1; omega, h2, rfl⟩
  · split
    · exact ⟨by show S1.acts + 1 = S2.acts + 1; omega, by show S1.life + 1 = S2.life + 1; omega, rfl⟩
    · exact ⟨by show S1.acts + 1 = S2.acts + 1; omega, h2, rfl⟩
theorem putT_near (S : St) (x : ByteArray) (t : Spool) (U : Nat) : ({ putT S x t with used := U } : St).acts = S.acts ∧ ({ putT S x t with used := U } : St).life = S.life ∧ ({ putT S x t with used := U } : St).armed = S.armed ∧ ({ putT S x t with used := U } : St).room = S.room := ⟨rfl, rfl, rfl, rfl⟩
theorem append_near (S : St) (x s : ByteArray) : Near S (appendS S x s).1 := by
  unfold appendS
  split
  · exact Near.refl S
  split
  · exact Near.refl S
  split
  · exact Near.refl S
  split
  · split
    · exact Near.refl S
    · exact act_same rfl rfl rfl rfl
  · split
    · exact Near.refl S
    · exact act_same rfl rfl rfl rfl
theorem near_with {S1 : St} (h : S1.room = (actS S).1.room ∧ S1.acts = (actS S).1.acts ∧ S1.life = (actS S).1.life ∧ S1.armed = (actS S).1.armed) : Near S S1 :=
  ⟨by rw [h.1, (act_l S).2.2.2], .inr ⟨h.2.1, h.2.2.1, h.2.2.2⟩⟩
theorem sync_near (S : St) (x : ByteArray) : Near S (syncS S x).1 := by
  unfold syncS
  split
  · exact Near.refl S
  split
  · exact Near.refl S
  split
  · exact near_with ⟨rfl, rfl, rfl, rfl⟩
  · exact Near.act S
theorem cut_near (S : St) (x : ByteArray) (k : Int) : Near S (cutS S x k).1 := by
  unfold cutS
  split
  · exact Near.refl S
  split
  · exact Near.refl S
  split
  · exact Near.refl S
  split
  · exact near_with ⟨rfl, rfl, rfl, rfl⟩
  · exact Near.act S
theorem swap_near (S : St) (x y : ByteArray) : Near S (swapS S x y).1 := by
  unfold swapS
  split
  · exact Near.refl S
  split
  · exact Near.refl S
  split
  · exact Near.refl S
  split
  · split
    · exact Near.act S
    · exact near_with ⟨rfl, rfl, rfl, rfl⟩
  · exact Near.act S
theorem drop_near (S : St) (x : ByteArray) : Near S (dropS S x).1 := by
  unfold dropS
  split
  · exact Near.refl S
  split
  · exact Near.refl S
  split
  · exact near_with ⟨rfl, rfl, rfl, rfl⟩
  · exact Near.act S
theorem does_fits (v : ActV) (hf : S.Fits n) (hn : v.n ≤ 9223372036854775807) : (doesS S v).1.Fits (n + 1) := by
  have h0 : S.Fits (n + 1) := ⟨by have := hf.1; omega, by have := hf.2.1; omega, hf.2.2⟩
  unfold doesS
  split
  · exact (append_near S _ _).fits hf
  split
  · exact (sync_near S _).fits hf
  split
  · exact (cut_near S _ _).fits hf
  split
  · exact (swap_near S _ _).fits hf
  split
  · exact (drop_near S _).fits hf
  split
  · unfold offS; split
    · exact h0
    · exact ⟨by have := hf.1; show S.acts ≤ _; omega, by have := hf.2.1; show S.life + 1 ≤ _; omega, by show (0 : Nat) ≤ _; omega⟩
  split
  · unfold onS; split
    · exact h0
    · exact h0
  split
  · exact ⟨h0.1, h0.2.1, by show v.n.toNat ≤ _; omega⟩
  split
  · exact h0
  · exact h0
theorem does_room (v : ActV) (h9 : v.kind ≠ 9) : (doesS S v).1.room = S.room := by
  unfold doesS
  split
  · exact (append_near S _ _).1
  split
  · exact (sync_near S _).1
  split
  · exact (cut_near S _ _).1
  split
  · exact (swap_near S _ _).1
  split
  · exact (drop_near S _).1
  split
  · unfold offS; split <;> rfl
  split
  · unfold onS; split <;> rfl
  split
  · rfl
  rfl
theorem used_act (S : St) : (actS S).1.used = S.used := (act_l S).2.2.1
/-- there is never more than there is room for -/
theorem does_used (v : ActV) (hok : S.Ok) (h : S.used ≤ S.room) : (doesS S v).1.used ≤ S.room := by
  unfold doesS
  split
  · unfold appendS
    split
    · exact h
    split
    · exact h
    split
    · exact h
    split
    · split
      · exact h
      · rw [used_act]; show S.used + _ ≤ _; omega
    · split
      · exact h
      · rw [used_act]; show S.used + _ ≤ _; omega
  split
  · unfold syncS
    split
    · exact h
    split
    · exact h
    split
    · show (actS S).1.used ≤ _; rw [used_act]; exact h
    · rw [used_act]; exact h
  split
  · unfold cutS
    split
    · exact h
    split
    · exact h
    split
    · exact h
    split
    · show S.used - _ ≤ _; omega
    · rw [used_act]; exact h
  split
  · unfold swapS
    split
    · exact h
    split
    · exact h
    split
    · exact h
    split
    · split
      · rw [used_act]; exact h
      · show S.used - _ ≤ _; omega
    · rw [used_act]; exact h
  split
  · unfold dropS
    split
    · exact h
    split
    · exact h
    split
    · show S.used - _ ≤ _; omega
    · rw [used_act]; exact h
  split
  · unfold offS; split <;> exact h
  split
  · unfold onS; split
    · exact h
    · have := onT_size v.fates S.ts 0 (fun t ht => (hok.each t ht).2)
      rw [← hok.used] at this
      show size _ ≤ _; omega
  split
  · exact h
  split
  · exact h
  · exact h
theorem act_ne (S : St) : (actS S).2 ≠ 11 := by rcases act_err S with h | h <;> rw [h] <;> decide
theorem does_full (v : ActV) (h : (doesS S v).2 = 11) : v.kind = 1 ∧ (doesS S v).1 = S := by
  unfold doesS at h ⊢
  split at h
  · rename_i hk
    refine ⟨hk, ?_⟩
    rw [if_pos hk]
    unfold appendS at h ⊢
    split at h
    · exact absurd h (by simp)
    rename_i c1
    rw [if_neg c1]
    split at h
    · exact absurd h (by simp)
    rename_i c2
    rw [if_neg c2]
    split at h
    · rename_i c3; rw [if_pos c3]
    rename_i c3
    rw [if_neg c3]
    split at h
    · rename_i t ht
      split at h
      · rename_i c4; rw [if_pos c4]
      · exact absurd h (act_ne _)
    · rename_i ht
      split at h
      · rename_i c4; rw [if_pos c4]
      · exact absurd h (act_ne _)
  exfalso
  revert h
  split
  · unfold syncS
    split
    · (intro h; simp at h)
    split
    · (intro h; simp at h)
    split
    · (intro h; simp at h)
    · exact act_ne S
  split
  · unfold cutS
    split
    · (intro h; simp at h)
    split
    · (intro h; simp at h)
    split
    · (intro h; simp at h)
    split
    · (intro h; simp at h)
    · exact act_ne S
  split
  · unfold swapS
    split
    · (intro h; simp at h)
    split
    · (intro h; simp at h)
    split
    · (intro h; simp at h)
    split
    · split
      · exact fun h => by simp at h
      · exact fun h => by simp at h
    · exact act_ne S
  split
  · unfold dropS
    split
    · (intro h; simp at h)
    split
    · (intro h; simp at h)
    split
    · (intro h; simp at h)
    · exact act_ne S
  split
  · (intro h; simp at h)
  split
  · (intro h; simp at h)
  split
  · (intro h; simp at h)
  split
  · (intro h; simp at h)
  · (intro h; simp at h)
/-- the k-th reel's size -/
theorem size_nth (hok : S.Ok) (k : Nat) (hk : k < S.l.length) : sizeS S S.l[k] = ((S.ts.getD k ⟨[], 0⟩).bytes.length : Int) := by
  have hk2 : k < S.ts.length := by rw [hok.len]; exact hk
  have hm : (S.l[k], S.ts[k]) ∈ S.ents := by
    have hl : k < S.ents.length := by rw [ents_len hok]; exact hk
    obtain ⟨h1, h2, e⟩ := ents_get (S := S) k hl
    rw [← e]; exact List.getElem_mem _
  unfold sizeS
  rw [(at_iff hok).2 hm]
  simp [List.getD_eq_getElem?_getD, hk2]
theorem size_take (ts : List Spool) (k : Nat) (hk : k < ts.length) : size (ts.take (k + 1)) = size (ts.take k) + (ts.getD k ⟨[], 0⟩).bytes.length := by
  rw [List.take_succ_eq_append_getElem hk, size_append]
  simp [size, List.getD_eq_getElem?_getD, hk]
theorem size_take_le (ts : List Spool) (k : Nat) : size (ts.take k) ≤ size ts := by
  have := size_append (ts.take k) (ts.drop k)
  rw [List.take_append_drop] at this; omega
end
end Go.Proofs.Ythjomknhbfplnaa.Reel
