/- The power is back: plain Lean. -/
import Derived.Test.YthjomknhbfplnaaReelEnts
namespace Go.Proofs.Ythjomknhbfplnaa.Reel
open Go.RowKit
set_option linter.unusedVariables false

def fateOf (fs : List Int) (i : Nat) : Int := if fs = [] then 0 else fs.getD (i % fs.length) 0
/-- one tape is gone over: the tapes, and how many fates were drawn -/
def oneT (fs : List Int) (s : List Spool × Nat) (j : Nat) : List Spool × Nat :=
  match s.1[j]? with
  | none => s
  | some t => if t.bytes.length = t.safe then s else (s.1.set j (left t (fateOf fs s.2)), if fs = [] then s.2 else s.2 + 1)
def procT (fs : List Int) (ts : List Spool) (pre : List Nat) : List Spool × Nat := pre.foldl (oneT fs) (ts, 0)
theorem procT_snoc (fs : List Int) (ts : List Spool) (pre : List Nat) (j : Nat) : procT fs ts (pre ++ [j]) = oneT fs (procT fs ts pre) j := by unfold procT; rw [List.foldl_append]; rfl
theorem tear_len (l : List UInt8) : (tear l).length = l.length := by
  unfold tear
  cases h : l.reverse with
  | nil => have := congrArg List.length h; simp at this; simp [this]
  | cons c r => have := congrArg List.length h; simp at this; simp [this]
theorem kept_le (f : Int) (k : Nat) : (kept f k).1 ≤ k := by
  unfold kept
  split
  · exact Nat.min_le_right _ _
  · split
    · exact Nat.le_refl _
    · show (-f).toNat ≤ k; omega
theorem left_len (t : Spool) (f : Int) (h : t.safe ≤ t.bytes.length) : (left t f).bytes.length = t.safe + (kept f (t.bytes.length - t.safe)).1 ∧ (left t f).safe = (left t f).bytes.length := by
  have hk := kept_le f (t.bytes.length - t.safe)
  refine ⟨?_, rfl⟩
  unfold left
  show (if _ then tear _ else _ : List UInt8).length = _
  split
  · rw [tear_len, List.length_take]; omega
  · rw [List.length_take]; omega
theorem oneT_len (fs : List Int) (s : List Spool × Nat) (j : Nat) : (oneT fs s j).1.length = s.1.length := by
  unfold oneT; split
  · rfl
  · split
    · rfl
    · simp
theorem oneT_cnt (fs : List Int) (s : List Spool × Nat) (j : Nat) : (oneT fs s j).2 ≤ s.2 + 1 := by
  unfold oneT; split
  · omega
  · split
    · omega
    · show (if fs = [] then s.2 else s.2 + 1) ≤ _; split <;> omega
theorem procT_len (fs : List Int) (ts : List Spool) (pre : List Nat) : (procT fs ts pre).1.length = ts.length := by
  unfold procT
  suffices h : ∀ (pre : List Nat) (s : List Spool × Nat), (pre.foldl (oneT fs) s).1.length = s.1.length from h pre (ts, 0)
  intro pre
  induction pre with
  | nil => intro s; rfl
  | cons j r ih => intro s; rw [List.foldl_cons, ih, oneT_len]
theorem procT_cnt (fs : List Int) (ts : List Spool) (pre : List Nat) : (procT fs ts pre).2 ≤ pre.length := by
  unfold procT
  suffices h : ∀ (pre : List Nat) (s : List Spool × Nat), (pre.foldl (oneT fs) s).2 ≤ s.2 + pre.length by
    have := h pre (ts, 0); simpa using this
  intro pre
  induction pre with
  | nil => intro s; simp
  | cons j r ih => intro s; have h1 := ih (oneT fs s j); have h2 := oneT_cnt fs s j; simp only [List.foldl_cons, List.length_cons]; omega
/-- in order it is the whole -/
theorem procT_all (fs : List Int) (ts : List Spool) : (procT fs ts (List.range ts.length)).1 = onT fs 0 ts := by
  suffices h : ∀ (b a : List Spool) (i : Nat), (((List.range b.length).map (· + a.length)).foldl (oneT fs) (a ++ b, i)).1 = a ++ onT fs i b by
    have := h ts [] 0
    simpa [procT] using this
  intro b
  induction b with
  | nil => intro a i; simp [onT]
  | cons t r ih =>
    intro a i
    have e0 : (List.range (t :: r).length).map (· + a.length) = a.length :: (List.range r.length).map (· + (a.length + 1)) := by
      rw [List.length_cons, List.range_succ_eq_map, List.map_cons, List.map_map, Nat.zero_add]
      congr 1
      apply List.map_congr_left
      intro x _
      simp only [Function.comp]; omega
    rw [e0, List.foldl_cons]
    have hg : (a ++ t :: r)[a.length]? = some t := by simp
    by_cases ht : t.bytes.length = t.safe
    · have e1 : oneT fs (a ++ t :: r, i) a.length = (a ++ t :: r, i) := by unfold oneT; simp only [hg]; rw [if_pos ht]
      have h2 := ih (a ++ [t]) i
      rw [e1, List.length_append, List.length_singleton] at *
      rw [List.append_assoc, List.singleton_append] at h2
      rw [h2, onT, if_pos ht, List.append_assoc, List.singleton_append]
    · have e1 : oneT fs (a ++ t :: r, i) a.length = (a ++ left t (fateOf fs i) :: r, if fs = [] then i else i + 1) := by
        unfold oneT; simp only [hg]; rw [if_neg ht]
        rw [List.set_append_right _ _ (Nat.le_refl _), Nat.sub_self]; rfl
      have h2 := ih (a ++ [left t (fateOf fs i)]) (if fs = [] then i else i + 1)
      rw [e1]
      rw [List.length_append, List.length_singleton, List.append_assoc, List.singleton_append] at h2
      rw [h2, onT, if_neg ht, List.append_assoc, List.singleton_append]; rfl
/-- the state in the middle of it -/
def midS (S : St) (fs : List Int) (pre : List Nat) : St := { S with down := false, ts := (procT fs S.ts pre).1, used := size (procT fs S.ts pre).1 }
theorem midS_nil (S : St) (fs : List Int) (h : S.Ok) : midS S fs [] = { S with down := false } := by
  unfold midS procT
  show ({ S with down := false, ts := S.ts, used := size S.ts } : St) = _
  rw [← h.used]
theorem midS_all (S : St) (fs : List Int) (hd : S.down = true) : midS S fs (List.range S.ts.length) = onS S fs := by
  unfold midS onS; rw [if_neg (by simp [hd]), procT_all]
theorem size_set_le (ts : List Spool) (j : Nat) (h : j < ts.length) (t : Spool) (ht : t.bytes.length ≤ ts[j].bytes.length) : size (ts.set j t) ≤ size ts := by
  have := size_set ts j h t; omega
theorem oneT_ok {S : St} (h : S.Ok) (fs : List Int) (i j : Nat) : St.Ok { S with ts := (oneT fs (S.ts, i) j).1, used := size (oneT fs (S.ts, i) j).1 } := by
  unfold oneT
  cases hj : S.ts[j]? with
  | none => exact ⟨h.len, h.rising, h.few, rfl, by show size S.ts ≤ _; rw [← h.used]; exact h.most, h.room, h.each, h.names⟩
  | some t =>
    obtain ⟨hlt, rfl⟩ := List.getElem?_eq_some_iff.1 hj
    have he := h.each _ (List.getElem_mem hlt)
    simp only
    split
    · exact ⟨h.len, h.rising, h.few, rfl, by show size S.ts ≤ _; rw [← h.used]; exact h.most, h.room, h.each, h.names⟩
    · obtain ⟨l1, l2⟩ := left_len S.ts[j] (fateOf fs i) he.2
      have hk := kept_le (fateOf fs i) (S.ts[j].bytes.length - S.ts[j].safe)
      refine ⟨by simpa using h.len, h.rising, h.few, rfl, ?_, h.room, ?_, h.names⟩
      · show size (S.ts.set j _) ≤ _
        have := size_set_le S.ts j hlt (left S.ts[j] (fateOf fs i)) (by omega)
        have := h.most; have := h.used; omega
      · intro y hy
        rcases List.mem_or_eq_of_mem_set hy with hy | rfl
        · exact h.each y hy
        · exact ⟨by omega, Nat.le_of_eq l2⟩
theorem midS_ok {S : St} (h : S.Ok) (fs : List Int) (pre : List Nat) : (midS S fs pre).Ok := by
  suffices hh : ∀ (pre : List Nat) (ts : List Spool) (i : Nat), St.Ok { S with ts := ts, used := size ts } → St.Ok { S with ts := (pre.foldl (oneT fs) (ts, i)).1, used := size (pre.foldl (oneT fs) (ts, i)).1 } by
    have h1 := hh pre S.ts 0 ⟨h.len, h.rising, h.few, rfl, by show size S.ts ≤ _; rw [← h.used]; exact h.most, h.room, h.each, h.names⟩
    exact h1.with_ rfl rfl rfl h.room
  intro pre
  induction pre with
  | nil => intro ts i h; exact h
  | cons j r ih =>
    intro ts i h1
    rw [List.foldl_cons]
    have := oneT_ok h1 fs i j
    exact ih _ _ this
theorem on_ok {S : St} (h : S.Ok) (fs : List Int) : (onS S fs).Ok := by
  cases hd : S.down
  · unfold onS; rw [if_pos hd]; exact h
  · rw [← midS_all S fs hd]; exact midS_ok h fs _
end Go.Proofs.Ythjomknhbfplnaa.Reel
