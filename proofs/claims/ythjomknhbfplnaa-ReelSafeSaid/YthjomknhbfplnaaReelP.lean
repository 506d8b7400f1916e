/- What ReelSafe wants of the states: plain Lean. -/
import Derived.Test.YthjomknhbfplnaaReelM
namespace Go.Proofs.Ythjomknhbfplnaa.Reel
open Go.RowKit
set_option linter.unusedVariables false
section
variable {S : St} {d : Bool} {m n k u : Nat} {f : ByteArray → Option Spool} {x : ByteArray} {t : Spool}
/-- an act: it goes, or the power goes in it -/
theorem actS_two (h : S.down = false) (hf : S.Fits n) (hok : S.Ok) : ∃ m' d', actS S = ({ S with acts := S.acts + 1, down := d', armed := m', life := if d' = true then S.life + 1 else S.life }, if d' = true then 10 else 0) ∧ m' ≤ 9223372036854775807 := by
  unfold actS
  split
  · exact ⟨S.armed, false, by simp [h], hf.2.2⟩
  · split
    · exact ⟨0, true, rfl, by omega⟩
    · exact ⟨S.armed - 1, false, by simp [h], by have := hf.2.2; omega⟩
theorem view_appendG (h : View S false m n k u f) (hf : f x = some t) (s : ByteArray) (hu : u + s.size ≤ 67108864) (hl : t.bytes.length + s.size ≤ 4194304) (hx : isName x = true) :
    ∃ d' m', (appendS S x s).2 = (if d' = true then 10 else 0) ∧ View (appendS S x s).1 d' m' (n + 1) k (u + s.size) (upd f x (some ⟨t.bytes ++ s.data.toList, t.safe⟩)) := by
  have hsz : s.data.toList.length = s.size := by rw [Array.length_toList]; rfl
  have hus := h.used
  have hfit := h.fits
  have hat : Reel.at_ S x = some t := (h.at_ x).trans hf
  have hsafe := (h.ok.each t (at_mem hat)).2
  have e : appendS S x s = actS { putT S x ⟨t.bytes ++ s.data.toList, t.safe⟩ with used := S.used + s.size } := by
    unfold appendS
    rw [if_neg (by rw [h.down]; simp), if_neg (by rw [hx]; simp), if_neg (by rw [h.room]; omega), hat]
    exact if_neg (by omega)
  have hok : St.Ok { putT S x ⟨t.bytes ++ s.data.toList, t.safe⟩ with used := S.used + s.size } := h.ok.put hat (t' := ⟨t.bytes ++ s.data.toList, t.safe⟩) (by show (t.bytes ++ s.data.toList).length ≤ _; rw [List.length_append, hsz]; omega) (by show t.safe ≤ (t.bytes ++ s.data.toList).length; rw [List.length_append]; omega) _ (by show _ = S.used + (t.bytes ++ s.data.toList).length; rw [List.length_append, hsz]; omega) (by omega)
  obtain ⟨m', d', h1, h2⟩ := actS_two (S := { putT S x ⟨t.bytes ++ s.data.toList, t.safe⟩ with used := S.used + s.size }) (n := n) h.down hfit hok
  rw [e, h1]
  refine ⟨d', m', rfl, hok.with_ rfl rfl rfl hok.room, h.room, rfl, rfl, ⟨?_, ?_, h2⟩, ?_, ?_, fun y => ?_⟩
  · show S.acts + 1 ≤ _; have := hfit.1; omega
  · show (if d' = true then S.life + 1 else S.life) ≤ _; have := hfit.2.1; split <;> omega
  · show (putN S.l x).length ≤ k
    unfold putN; rw [if_pos (at_some hat).1]; exact h.few
  · show S.used + s.size ≤ _; omega
  · show Reel.at_ (putT S x _) y = _
    rw [at_put h.ok hok]; unfold upd
    split
    · rfl
    · exact h.at_ y
theorem view_syncG (h : View S false m n k u f) (hf : f x = some t) :
    ∃ d' m', (syncS S x).2 = (if d' = true then 10 else 0) ∧ View (syncS S x).1 d' m' (n + 1) k u (if d' = true then f else upd f x (some ⟨t.bytes, t.bytes.length⟩)) := by
  have hat : Reel.at_ S x = some t := (h.at_ x).trans hf
  have hfit := h.fits
  have hus := h.used
  have hsafe := h.ok.each t (at_mem hat)
  obtain ⟨m', d', h1, h2⟩ := actS_two h.down hfit h.ok
  cases d'
  · have e : syncS S x = ({ putT { S with acts := S.acts + 1, down := false, armed := m' } x ⟨t.bytes, t.bytes.length⟩ with used := S.used }, 0) := by
      unfold syncS; rw [if_neg (by rw [h.down]; simp), hat]
      show (if (actS S).2 = 0 then _ else _) = _
      rw [h1]
      exact (if_pos (show (if false = true then 10 else 0 : Int) = 0 from rfl)).trans rfl
    have hok : St.Ok { putT S x ⟨t.bytes, t.bytes.length⟩ with used := S.used } := h.ok.put hat (t' := ⟨t.bytes, t.bytes.length⟩) hsafe.1 (Nat.le_refl t.bytes.length) _ rfl h.ok.most
    rw [e]
    refine ⟨false, m', rfl, hok.with_ rfl rfl rfl hok.room, h.room, rfl, rfl, ⟨by show S.acts + 1 ≤ _; have := hfit.1; omega, by show S.life ≤ _; have := hfit.2.1; omega, h2⟩, ?_, hus, fun y => ?_⟩
    · show (putN S.l x).length ≤ k
      unfold putN; rw [if_pos (at_some hat).1]; exact h.few
    · show Reel.at_ (putT S x _) y = _
      rw [at_put h.ok hok]
      show _ = upd f x (some ⟨t.bytes, t.bytes.length⟩) y
      unfold upd
      split
      · rfl
      · exact h.at_ y
  · have e : syncS S x = actS S := by
      unfold syncS; rw [if_neg (by rw [h.down]; simp), hat]
      show (if (actS S).2 = 0 then _ else _) = _
      rw [h1]; exact if_neg (show ¬ (if true = true then 10 else 0 : Int) = 0 by decide)
    rw [e, h1]
    exact ⟨true, m', rfl, h.ok.with_ rfl rfl rfl h.ok.room, h.room, rfl, rfl, ⟨by show S.acts + 1 ≤ _; have := hfit.1; omega, by show S.life + 1 ≤ _; have := hfit.2.1; omega, h2⟩, h.few, hus, h.at_⟩
/-- while the power is away -/
theorem view_appendD (h : View S true m n k u f) (x s : ByteArray) : appendS S x s = (S, 10) := by unfold appendS; rw [if_pos h.down]
theorem view_syncD (h : View S true m n k u f) (x : ByteArray) : syncS S x = (S, 10) := by unfold syncS; rw [if_pos h.down]
theorem view_dropD (h : View S true m n k u f) (x : ByteArray) : dropS S x = (S, 10) := by unfold dropS; rw [if_pos h.down]
/-- what is left of a tape -/
theorem tear_take (l : List UInt8) : (tear l).take (l.length - 1) = l.take (l.length - 1) := by
  unfold tear
  cases h : l.reverse with
  | nil => have : l = [] := by simpa using h
           subst this; rfl
  | cons c r =>
    have hl : l = r.reverse ++ [c] := by have := congrArg List.reverse h; simpa using this
    subst hl
    simp
theorem left_spec (t : Spool) (c : Int) (h : t.safe ≤ t.bytes.length) :
    t.safe ≤ (left t c).bytes.length ∧ (left t c).bytes.length ≤ t.bytes.length ∧ (left t c).safe = (left t c).bytes.length ∧ (left t c).bytes.take t.safe = t.bytes.take t.safe ∧
      (t.safe < (left t c).bytes.length → (left t c).bytes.take ((left t c).bytes.length - 1) = t.bytes.take ((left t c).bytes.length - 1)) := by
  obtain ⟨h1, h2⟩ := left_len t c h
  have hk := kept_le c (t.bytes.length - t.safe)
  have hb : (left t c).bytes = if (kept c (t.bytes.length - t.safe)).2 = true ∧ 0 < (kept c (t.bytes.length - t.safe)).1 then tear (t.bytes.take (t.safe + (kept c (t.bytes.length - t.safe)).1)) else t.bytes.take (t.safe + (kept c (t.bytes.length - t.safe)).1) := rfl
  obtain ⟨N, hN⟩ : ∃ N, (kept c (t.bytes.length - t.safe)).1 = N := ⟨_, rfl⟩
  rw [hN] at h1 hk hb
  have hl : (t.bytes.take (t.safe + N)).length = t.safe + N := by rw [List.length_take]; omega
  have hcut : ∀ j, j ≤ t.safe + N → (t.bytes.take (t.safe + N)).take j = t.bytes.take j := fun j hj => by rw [List.take_take, Nat.min_eq_left hj]
  refine ⟨by omega, by omega, h2, ?_, fun hlt => ?_⟩
  · rw [hb]
    split
    · rename_i hc
      have ht := tear_take (t.bytes.take (t.safe + N))
      rw [hl] at ht
      have := congrArg (List.take t.safe) ht
      rw [List.take_take, List.take_take, Nat.min_eq_left (by omega), hcut _ (by omega)] at this
      exact this
    · exact hcut _ (by omega)
  · rw [h1, hb]
    split
    · have ht := tear_take (t.bytes.take (t.safe + N))
      rw [hl] at ht
      rw [ht, hcut _ (by omega)]
    · exact hcut _ (by omega)
end
end Go.Proofs.Ythjomknhbfplnaa.Reel
