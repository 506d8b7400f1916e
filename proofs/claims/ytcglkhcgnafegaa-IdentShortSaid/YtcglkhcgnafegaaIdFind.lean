/- Plain law of Find: what is found, gathered one by one. -/
import Derived.Test.YtcglkhcgnafegaaIdPlain
namespace Go.Proofs.Ytcglkhcgnafegaa.Idp

def addNew (d : List UInt8) (f : List ByteArray) (x : ByteArray) : List ByteArray := if has x d = true ∧ ¬ (∃ o ∈ f, o = x) then f ++ [x] else f
def fnd (l : List ByteArray) (d : List UInt8) (k : Nat) : List ByteArray := (l.take k).foldl (addNew d) []
theorem take_snoc {l : List ByteArray} {k : Nat} (h : k < l.length) : l.take (k + 1) = l.take k ++ [l.getD k ByteArray.empty] := by
  rw [List.take_succ_eq_append_getElem h, List.getD_eq_getElem?_getD, List.getElem?_eq_getElem h]; rfl
theorem fnd_succ {l : List ByteArray} {d : List UInt8} {k : Nat} (h : k < l.length) : fnd l d (k + 1) = addNew d (fnd l d k) (l.getD k ByteArray.empty) := by
  unfold fnd; rw [take_snoc h, List.foldl_append]; rfl
theorem addNew_no {d : List UInt8} {f : List ByteArray} {x : ByteArray} (h : has x d = false) : addNew d f x = f := by unfold addNew; rw [if_neg (by simp [h])]
theorem addNew_in {d : List UInt8} {f : List ByteArray} {x : ByteArray} (h : ∃ o ∈ f, o = x) : addNew d f x = f := by unfold addNew; rw [if_neg (by simp only [not_and, Classical.not_not]; exact fun _ => h)]
theorem addNew_new {d : List UInt8} {f : List ByteArray} {x : ByteArray} (h : has x d = true) (h2 : ¬ ∃ o ∈ f, o = x) : addNew d f x = f ++ [x] := by unfold addNew; rw [if_pos ⟨h, h2⟩]
theorem addNew_len (d : List UInt8) (f : List ByteArray) (x : ByteArray) : (addNew d f x).length ≤ f.length + 1 := by
  unfold addNew; split <;> simp
theorem fnd_len (l : List ByteArray) (d : List UInt8) : ∀ k, k ≤ l.length → (fnd l d k).length ≤ k
  | 0, _ => by simp [fnd]
  | k + 1, h => by
    rw [fnd_succ (by omega)]
    have := addNew_len d (fnd l d k) (l.getD k ByteArray.empty)
    have := fnd_len l d k (by omega)
    omega
/-- what holds of the gathered at every place -/
structure Gathers (l : List ByteArray) (d : List UInt8) (k : Nat) (f : List ByteArray) : Prop where
  mem : ∀ x, x ∈ f ↔ x ∈ (l.take k).filter (has · d)
  head : f.head? = ((l.take k).filter (has · d)).head?
  nodup : f.Nodup
theorem gathers (l : List ByteArray) (d : List UInt8) : ∀ k, k ≤ l.length → Gathers l d k (fnd l d k)
  | 0, _ => ⟨by simp [fnd], by simp [fnd], by simp [fnd]⟩
  | k + 1, h => by
    have ih := gathers l d k (by omega)
    rw [fnd_succ (by omega)]
    generalize hf : fnd l d k = f at ih ⊢
    generalize hx : l.getD k ByteArray.empty = x
    have hfl : (l.take (k + 1)).filter (has · d) = (l.take k).filter (has · d) ++ (if has x d = true then [x] else []) := by
      rw [take_snoc (by omega), List.filter_append, hx]
      simp only [List.filter_cons, List.filter_nil]
    by_cases hh : has x d = true
    · rw [if_pos hh] at hfl
      by_cases hi : ∃ o ∈ f, o = x
      · rw [addNew_in hi]
        obtain ⟨o, ho, rfl⟩ := hi
        refine ⟨fun y => ?_, ?_, ih.nodup⟩
        · rw [hfl, List.mem_append, ← ih.mem]
          constructor
          · exact fun h => .inl h
          · rintro (h | h)
            · exact h
            · rw [List.mem_singleton] at h; subst h; exact ho
        · rw [hfl, ih.head]
          have : (l.take k).filter (has · d) ≠ [] := by
            intro he; have := (ih.mem o).1 ho; rw [he] at this; cases this
          cases hq : (l.take k).filter (has · d) with
          | nil => exact absurd hq this
          | cons a b => simp
      · rw [addNew_new hh hi]
        have hi' : x ∉ f := fun h => hi ⟨x, h, rfl⟩
        refine ⟨fun y => ?_, ?_, ?_⟩
        · rw [hfl, List.mem_append, List.mem_append, ih.mem]
        · rw [hfl]
          cases f with
          | nil =>
            have : ((l.take k).filter (has · d)).head? = none := by rw [← ih.head]; rfl
            rw [List.head?_eq_none_iff] at this
            rw [this]
          | cons a b =>
            have := ih.head
            simp only [List.head?_cons] at this
            cases hq : (l.take k).filter (has · d) with
            | nil => rw [hq] at this; cases this
            | cons a' b' => rw [hq] at this; simpa using this
        · rw [List.nodup_append]
          refine ⟨ih.nodup, by simp, ?_⟩
          intro a ha b hb
          rw [List.mem_singleton] at hb; subst hb
          intro he; subst he; exact hi' ha
    · have hh' : has x d = false := by simpa using hh
      rw [if_neg hh] at hfl
      rw [addNew_no hh']
      exact ⟨fun y => by rw [hfl, ih.mem]; simp, by rw [hfl, ih.head]; simp, ih.nodup⟩
theorem findR_form {l : List ByteArray} {d : List UInt8} (h : d.length > 64 ∨ areDig d = false) : findR l d = (ByteArray.empty, 4) := by unfold findR; rw [if_pos h]
theorem findR_fnd {l : List ByteArray} {d : List UInt8} (h : ¬ (d.length > 64 ∨ areDig d = false)) :
    findR l d = match fnd l d l.length with | [] => (ByteArray.empty, 12) | [x] => (x, 0) | _ :: _ :: _ => (ByteArray.empty, 6) := by
  have g0 := gathers l d l.length (Nat.le_refl _)
  have g : (∀ x, x ∈ fnd l d l.length ↔ x ∈ l.filter (has · d)) ∧ (fnd l d l.length).head? = (l.filter (has · d)).head? ∧ (fnd l d l.length).Nodup := by
    have hm := g0.mem; have hh := g0.head
    rw [List.take_length] at hm hh
    exact ⟨hm, hh, g0.nodup⟩
  unfold findR; rw [if_neg h]
  clear g0
  generalize fnd l d l.length = f at g ⊢
  match f, g with
  | [], g =>
    have : l.filter (has · d) = [] := by rw [← List.head?_eq_none_iff, ← g.2.1]; rfl
    rw [this]
  | [x], g =>
    have hh := g.2.1
    cases hq : l.filter (has · d) with
    | nil => rw [hq] at hh; cases hh
    | cons a b =>
      rw [hq] at hh; simp at hh; subst hh
      have hall : b.all (fun y => decide (y = x)) = true := by
        rw [List.all_eq_true]; intro y hy
        have : y ∈ [x] := (g.1 y).2 (by rw [hq]; exact List.mem_cons_of_mem _ hy)
        rw [List.mem_singleton] at this; simp [this]
      simp only [hall, if_true]
  | x :: y :: r, g =>
    have hh := g.2.1
    cases hq : l.filter (has · d) with
    | nil => rw [hq] at hh; cases hh
    | cons a b =>
      rw [hq] at hh; simp at hh; subst hh
      have hne : ¬ b.all (fun y => decide (y = x)) = true := by
        intro hall
        rw [List.all_eq_true] at hall
        have hy : y ∈ x :: b := by rw [← hq]; exact (g.1 y).1 (by simp)
        have hxy : x ≠ y := by have := g.2.2; simp at this; exact fun e => this.1.1 e
        rcases List.mem_cons.1 hy with h | h
        · exact hxy h.symm
        · have := hall y h; simp at this; exact hxy this.symm
      simp only [hne]; rfl
end Go.Proofs.Ytcglkhcgnafegaa.Idp
