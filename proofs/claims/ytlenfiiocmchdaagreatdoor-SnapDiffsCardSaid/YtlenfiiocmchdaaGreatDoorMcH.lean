/- Texts in a row: MkA, MkB, MkC, SwQ, MkD, MkE, LwA, LwB, MkF, MkG, AwP, LwC, LwD, InsF, FactM. -/
import Derived.Test.YtlenfiiocmchdaaGreatDoorMcG
import Derived.BigQuiet
import Derived.Lib.Strings
import Derived.Deep.AppendLies
import Derived.Deep.DeepFit
/- Objects there and back (plain): what is encoded decodes to itself; an id looked up. -/
namespace Go.Proofs.YtlenfiiocmchdaaGreatDoor
open Go.RowKit Book Pap Ojt Sn
set_option linter.unusedVariables false
set_option linter.unusedSimpArgs false

theorem kindR_app (k : Int) (b : List UInt8) (hk : k = 1 ∨ k = 2) : kindR ⟨UInt8.ofNat k.toNat :: b, false⟩ = (k, ⟨b, false⟩) := by
  rcases hk with rfl | rfl <;> simp [kindR, takeR]
theorem entR_app {e : Ent} (h : goodEnt e = true) (b : List UInt8) : entR ⟨entL e ++ b, false⟩ = (e, ⟨b, false⟩) := by
  obtain ⟨-, h2, h3, h4⟩ := goodEnt_facts h
  have hn : e.name.data.toList.length ≤ 255 := by rw [bx_data]; exact h2
  have hi : e.id.data.toList.length = 32 := by rw [bx_data]; exact h4
  have e1 : entL e ++ b = UInt8.ofNat e.kind.toNat :: (textL e.name.data.toList ++ (e.id.data.toList ++ b)) := by simp [entL]
  unfold entR
  rw [e1, kindR_app _ _ h3]
  simp only
  rw [textR_app _ _ 255 hn (by omega)]
  simp only
  have h5 := takeR_app e.id.data.toList b
  rw [hi] at h5
  rw [h5]
  simp only [bz_bl]
theorem entsR_app : ∀ (E : List Ent) (b : List UInt8), (∀ e ∈ E, goodEnt e = true) → entsR E.length ⟨E.flatMap entL ++ b, false⟩ = (E, ⟨b, false⟩)
  | [], b, _ => rfl
  | e :: E, b, h => by
    have ih := entsR_app E b (fun x hx => h x (List.mem_cons_of_mem _ hx))
    have h1 := entR_app (h e (List.mem_cons_self ..)) (E.flatMap entL ++ b)
    rw [List.flatMap_cons, List.append_assoc, List.length_cons]
    unfold entsR
    rw [if_neg (by simp), h1]
    simp only
    rw [ih]
theorem dec_cons (k : UInt8) (s : List UInt8) : dec (k :: s) = if k = 1 then (if good (blobO s) = true then some (blobO s) else none)
    else if k = 2 then (if wholeR (treeR (newR s)).2 = true ∧ good (treeO s) = true then some (treeO s) else none)
    else if k = 3 then (if wholeR (commitR s) = true ∧ good (commitO s) = true then some (commitO s) else none)
    else none := rfl
theorem dec_tree {E : List Ent} (h : good (treeOf E) = true) : dec (encL (treeOf E)) = some (treeOf E) := by
  obtain ⟨h1, h2⟩ := good_tree h rfl
  have h1 : E.length ≤ 256 := h1
  have e1 : encL (treeOf E) = 2 :: (numL E.length ++ E.flatMap entL) := rfl
  have h3 : treeR (newR (numL E.length ++ E.flatMap entL)) = (E, ⟨[], false⟩) := by
    unfold treeR newR
    rw [numR_app _ (by omega)]
    simp only
    unfold spoil
    rw [if_neg (by omega)]
    have h4 := entsR_app E [] h2
    rwa [List.append_nil] at h4
  have h4 : treeO (numL E.length ++ E.flatMap entL) = treeOf E := by unfold treeO; rw [h3]; rfl
  rw [e1, dec_cons]
  rw [if_neg (by decide), if_pos rfl, h3, h4, if_pos ⟨rfl, h⟩]
theorem dec_blob {s : ByteArray} (h : good (blobOf s) = true) : dec (encL (blobOf s)) = some (blobOf s) := by
  have e : blobO s.data.toList = blobOf s := by unfold blobO blobOf; rw [bz_bl]
  have e1 : encL (blobOf s) = 1 :: s.data.toList := rfl
  rw [e1, dec_cons]
  rw [if_pos rfl, e, if_pos h]
theorem idsR_app : ∀ (P : List ByteArray) (b : List UInt8), (∀ p ∈ P, p.size = 32) → idsR P.length ⟨P.flatMap (fun p => p.data.toList) ++ b, false⟩ = (P, ⟨b, false⟩)
  | [], b, _ => rfl
  | p :: P, b, h => by
    have ih := idsR_app P b (fun x hx => h x (List.mem_cons_of_mem _ hx))
    have h1 : p.data.toList.length = 32 := by rw [bx_data]; exact h p (List.mem_cons_self ..)
    have h2 := takeR_app p.data.toList (P.flatMap (fun p => p.data.toList) ++ b)
    rw [h1] at h2
    rw [List.flatMap_cons, List.append_assoc, List.length_cons]
    unfold idsR
    rw [if_neg (by simp), h2]
    simp only
    rw [ih, bz_bl]
theorem dec_commit {t : ByteArray} {ps : List ByteArray} {h : Int} {n : ByteArray} (hg : good (commitOf t ps h n) = true) : dec (encL (commitOf t ps h n)) = some (commitOf t ps h n) := by
  obtain ⟨h1, h2, h3, h4, h5, h6⟩ := good_commit hg rfl
  have h1 : ps.length ≤ 8 := h1
  have h2 : ∀ p ∈ ps, p.size = 32 := h2
  have h3 : 0 ≤ h := h3
  have h4 : h ≤ 1073741824 := h4
  have h5 : t.data.toList.length = 32 := by rw [bx_data]; exact h5
  have h6 : n.data.toList.length ≤ 1000 := by rw [bx_data]; exact h6
  obtain ⟨S, hS⟩ : ∃ S, t.data.toList ++ (numL ps.length ++ (ps.flatMap (fun p => p.data.toList) ++ (numL h.toNat ++ textL n.data.toList))) = S := ⟨_, rfl⟩
  have e1 : encL (commitOf t ps h n) = 3 :: S := by
    rw [← hS]
    show (3 :: t.data.toList ++ numL ps.length ++ ps.flatMap (fun p => p.data.toList) ++ numL h.toNat ++ textL n.data.toList) = _
    simp
  have q1 : takeR (newR S) 32 = (t.data.toList, ⟨numL ps.length ++ (ps.flatMap (fun p => p.data.toList) ++ (numL h.toNat ++ textL n.data.toList)), false⟩) := by
    have := takeR_app t.data.toList (numL ps.length ++ (ps.flatMap (fun p => p.data.toList) ++ (numL h.toNat ++ textL n.data.toList)))
    rw [h5] at this
    rw [← hS]; exact this
  have q2 : parsR (takeR (newR S) 32).2 = (ps, ⟨numL h.toNat ++ textL n.data.toList, false⟩) := by
    rw [q1]
    unfold parsR
    rw [numR_app _ (by omega)]
    simp only
    unfold spoil
    rw [if_neg (by omega)]
    exact idsR_app ps _ h2
  have q3 : numR (parsR (takeR (newR S) 32).2).2 = (h.toNat, ⟨textL n.data.toList, false⟩) := by
    rw [q2]; exact numR_app _ (by omega) _
  have q4 : textR (numR (parsR (takeR (newR S) 32).2).2).2 1000 = (n.data.toList, ⟨[], false⟩) := by
    rw [q3]
    have := textR_app n.data.toList [] 1000 h6 (by omega)
    rwa [List.append_nil] at this
  have e2 : commitO S = commitOf t ps h n := by
    unfold commitO
    simp only
    rw [q4, q3, q2, q1]
    simp only [bz_bl]
    unfold commitOf
    congr
    omega
  have e3 : commitR S = ⟨[], false⟩ := by unfold commitR; rw [q4]
  rw [e1, dec_cons]
  rw [if_neg (by decide), if_neg (by decide), if_pos rfl, e2, e3, if_pos ⟨rfl, hg⟩]
theorem decO_encP {x : Ob} (h : good x = true) (hd : dec (encL x) = some x) : Sw.decO (encP x) = some x := by
  unfold Sw.decO encP; rw [if_pos h, bl_bz, hd]
theorem encP_inj {x y : Ob} (hx : good x = true) (hy : good y = true) (dx : dec (encL x) = some x) (dy : dec (encL y) = some y) (h : encP x = encP y) : x = y := by
  have h1 := decO_encP hx dx
  rw [h, decO_encP hy dy] at h1
  exact (Option.some.inj h1).symm
theorem lookK_of {G : Sw.Src} {x : Ob} {k lacks : Int} (hg : G (Sw.idOf (encP x)) = some (encP x)) (hx : good x = true) (hd : dec (encL x) = some x) (hk : x.kind = k) : lookK G (Sw.idOf (encP x)) k lacks = (x, 0) := by
  have h1 := decO_encP hx hd
  unfold lookK
  rw [hg]
  simp only
  rw [h1]
  simp only
  rw [if_neg (by simp [hk])]
theorem idOf_size (t : ByteArray) : (Sw.idOf t).size = 32 := by
  have := Sha.shaL_len t.data.toList
  unfold Sw.idOf bz
  simp [ByteArray.size, this]
end Go.Proofs.YtlenfiiocmchdaaGreatDoor
/- A folder's tree: its id, the texts of its objects; the order of files plays no part (plain). -/
namespace Go.Proofs.YtlenfiiocmchdaaGreatDoor
open Go.RowKit Book Pap Ojt Sn
set_option linter.unusedVariables false
set_option linter.unusedSimpArgs false

def leafT (fs : List Fl) (n : ByteArray) : ByteArray := encP (blobOf ((leafs fs n).getD ByteArray.empty))
/-- one name's entry -/
def entOf (rec : List Fl → ByteArray) (fs : List Fl) (n : ByteArray) : Ent :=
  if sub n fs = [] then ⟨n, 1, Sw.idOf (leafT fs n)⟩ else ⟨n, 2, rec (sub n fs)⟩
/-- a folder's tree's id -/
def tid : Nat → List Fl → ByteArray
  | 0, fs => ByteArray.empty
  | d + 1, fs => Sw.idOf (encP (treeOf ((namesF fs).map (entOf (tid d) fs))))
def tents (d : Nat) (fs : List Fl) : List Ent := (namesF fs).map (entOf (tid d) fs)
def textOf (rec : List Fl → List ByteArray) (fs : List Fl) (n : ByteArray) : List ByteArray := if sub n fs = [] then [leafT fs n] else rec (sub n fs)
/-- the texts of a folder's objects -/
def texts : Nat → List Fl → List ByteArray
  | 0, fs => []
  | d + 1, fs => (namesF fs).flatMap (textOf (texts d) fs) ++ [encP (treeOf (tents d fs))]
theorem layS_mem (L : List ByteArray) (x : Ob) (s : ByteArray) : s ∈ (layS L x).1 ↔ s ∈ L ∨ s = encP x := by
  unfold layS
  simp only
  split
  · rename_i h
    have h := hasN_iff.1 h
    exact ⟨.inl, fun h1 => h1.elim id (fun e => e ▸ h)⟩
  · rw [List.mem_append, List.mem_singleton]
theorem entsS_mem {rec : List Fl → List ByteArray → List ByteArray × ByteArray} {ti : List Fl → ByteArray} {tx : List Fl → List ByteArray} (hr : ∀ fs L, (rec fs L).2 = ti fs ∧ ∀ s, s ∈ (rec fs L).1 ↔ s ∈ L ∨ s ∈ tx fs) (fs : List Fl) :
    ∀ (ns : List ByteArray) (L : List ByteArray) (E : List Ent), (entsS rec fs ns L E).2 = E ++ ns.map (entOf ti fs) ∧ ∀ s, s ∈ (entsS rec fs ns L E).1 ↔ s ∈ L ∨ s ∈ ns.flatMap (textOf tx fs)
  | [], L, E => ⟨(List.append_nil E).symm, fun s => by simp [entsS]⟩
  | n :: r, L, E => by
    obtain ⟨h1, h2⟩ := entsS_mem hr fs r (nameS rec fs L n).1 (E ++ [(nameS rec fs L n).2])
    have k : (nameS rec fs L n).2 = entOf ti fs n ∧ ∀ s, s ∈ (nameS rec fs L n).1 ↔ s ∈ L ∨ s ∈ textOf tx fs n := by
      unfold nameS entOf textOf leafT
      split
      · exact ⟨rfl, fun s => by rw [layS_mem, List.mem_singleton]⟩
      · obtain ⟨h3, h4⟩ := hr (sub n fs) L
        exact ⟨by rw [h3], h4⟩
    refine ⟨?_, fun s => ?_⟩
    · show (entsS rec fs r _ _).2 = _
      rw [h1, k.1]; simp
    · show s ∈ (entsS rec fs r _ _).1 ↔ _
      rw [h2, k.2, List.flatMap_cons, List.mem_append, or_assoc]
theorem treeS_mem : ∀ (d : Nat) (fs : List Fl) (L : List ByteArray), (treeS d fs L).2 = tid d fs ∧ ∀ s, s ∈ (treeS d fs L).1 ↔ s ∈ L ∨ s ∈ texts d fs
  | 0, fs, L => ⟨rfl, fun s => by simp [treeS, texts]⟩
  | d + 1, fs, L => by
    obtain ⟨h1, h2⟩ := entsS_mem (treeS_mem d) fs (namesF fs) L []
    rw [List.nil_append] at h1
    refine ⟨?_, fun s => ?_⟩
    · show (layS _ _).2 = _
      unfold layS
      simp only
      rw [h1]; rfl
    · show s ∈ (layS _ _).1 ↔ _
      rw [layS_mem, h2, h1]
      show _ ↔ s ∈ L ∨ s ∈ (namesF fs).flatMap (textOf (texts d) fs) ++ [encP (treeOf (tents d fs))]
      rw [List.mem_append, List.mem_singleton, or_assoc]; rfl
/-! order -/
theorem leafs_in : ∀ (l : List Fl) (n d : ByteArray) (g : Option ByteArray), l.foldl (fun g f => if f.1 = [n] then some f.2 else g) g = some d → g = some d ∨ (([n], d) : Fl) ∈ l
  | [], n, d, g, h => .inl h
  | f :: r, n, d, g, h => by
    rw [List.foldl_cons] at h
    rcases leafs_in r n d _ h with h1 | h1
    · by_cases hf : f.1 = [n]
      · rw [if_pos hf] at h1
        refine .inr (List.mem_cons.2 (.inl ?_))
        obtain ⟨a, b⟩ := f
        simp only at hf h1
        cases h1; rw [hf]
      · rw [if_neg hf] at h1; exact .inl h1
    · exact .inr (List.mem_cons_of_mem _ h1)
theorem off_irr (l : List ByteArray) : ¬ Off l l := fun h => h.1 (List.prefix_refl _)
theorem apt_one {fs : List Fl} (h : AptL fs) {f g : Fl} (hf : f ∈ fs) (hg : g ∈ fs) (e : f.1 = g.1) : f = g := by
  refine Decidable.byContradiction fun hne => ?_
  have := pw_mem (R := fun f g : Fl => Off f.1 g.1) (fun a b h => ⟨h.2, h.1⟩) h.2 hf hg hne
  rw [e] at this
  exact off_irr _ this
theorem leafs_val {fs : List Fl} (h : AptL fs) {n d : ByteArray} : leafs fs n = some d ↔ (([n], d) : Fl) ∈ fs := by
  constructor
  · intro h1
    exact (leafs_in fs n d none h1).resolve_left (fun e => by cases e)
  · intro h1
    have h2 := (leafs_iff fs n).2 ⟨_, h1, rfl⟩
    cases h3 : leafs fs n with
    | none => exact absurd h3 h2
    | some d' =>
      have h4 := (leafs_in fs n d' none h3).resolve_left (fun e => by cases e)
      have := apt_one h h1 h4 rfl
      cases this; rfl
theorem namesF_perm {fs gs : List Fl} (h : fs.Perm gs) : namesF fs = namesF gs :=
  Sw.rising_ext (Sw.setOf_rising _) (Sw.setOf_rising _) (fun x => by
    show x ∈ namesF fs ↔ x ∈ namesF gs
    rw [mem_names, mem_names]
    exact ⟨fun ⟨f, hf, e⟩ => ⟨f, h.mem_iff.1 hf, e⟩, fun ⟨f, hf, e⟩ => ⟨f, h.mem_iff.2 hf, e⟩⟩)
theorem sub_perm {fs gs : List Fl} (h : fs.Perm gs) (n : ByteArray) : (sub n fs).Perm (sub n gs) := h.filterMap _
theorem AptL.perm {fs gs : List Fl} (h : fs.Perm gs) (ha : AptL fs) : AptL gs :=
  ⟨fun f hf => ha.1 f (h.mem_iff.2 hf), (h.pairwise_iff (R := fun f g : Fl => Off f.1 g.1) (fun {a b} h => ⟨h.2, h.1⟩)).1 ha.2⟩
theorem leafs_perm {fs gs : List Fl} (h : fs.Perm gs) (ha : AptL fs) (n : ByteArray) : leafs fs n = leafs gs n := by
  have hg := ha.perm h
  cases h1 : leafs fs n with
  | none =>
    cases h2 : leafs gs n with
    | none => rfl
    | some d =>
      have := (leafs_val ha).2 (h.mem_iff.2 ((leafs_val hg).1 h2))
      rw [h1] at this; cases this
  | some d => exact ((leafs_val hg).2 (h.mem_iff.1 ((leafs_val ha).1 h1))).symm
theorem sub_nil_perm {fs gs : List Fl} (h : fs.Perm gs) (n : ByteArray) : sub n fs = [] ↔ sub n gs = [] := by
  have h1 := sub_perm h n
  constructor
  · intro e; rw [e] at h1; exact h1.symm.eq_nil
  · intro e; rw [e] at h1; exact h1.eq_nil
theorem entsS_congr {rec : List Fl → List ByteArray → List ByteArray × ByteArray} {fs gs : List Fl} (h : ∀ L n, nameS rec fs L n = nameS rec gs L n) : ∀ (ns : List ByteArray) (L : List ByteArray) (E : List Ent), entsS rec fs ns L E = entsS rec gs ns L E
  | [], L, E => rfl
  | n :: r, L, E => by
    show entsS rec fs r _ _ = entsS rec gs r _ _
    rw [h, entsS_congr h r]
theorem treeS_perm : ∀ (d : Nat) (fs gs : List Fl) (L : List ByteArray), AptL fs → fs.Perm gs → treeS d fs L = treeS d gs L
  | 0, fs, gs, L, _, _ => rfl
  | d + 1, fs, gs, L, ha, h => by
    have key : ∀ L n, nameS (treeS d) fs L n = nameS (treeS d) gs L n := fun L n => by
      unfold nameS
      rw [leafs_perm h ha n]
      by_cases hs : sub n fs = []
      · rw [if_pos hs, if_pos ((sub_nil_perm h n).1 hs)]
      · rw [if_neg hs, if_neg (fun e => hs ((sub_nil_perm h n).2 e)), treeS_perm d (sub n fs) (sub n gs) L (ha.sub n) (sub_perm h n)]
    show layS _ _ = layS _ _
    rw [namesF_perm h, entsS_congr key]
theorem tid_perm (d : Nat) {fs gs : List Fl} (ha : AptL fs) (h : fs.Perm gs) : tid d fs = tid d gs := by
  rw [← (treeS_mem d fs []).1, treeS_perm d fs gs [] ha h, (treeS_mem d gs []).1]
/-! depth -/
theorem sub_len {n : ByteArray} {fs : List Fl} {d : Nat} (h : ∀ f ∈ fs, f.1.length ≤ d + 1) : ∀ f ∈ sub n fs, f.1.length ≤ d := fun f hf => by
  obtain ⟨g, hg, e, -⟩ := mem_sub hf
  have := h g hg
  rw [e, List.length_cons] at this
  omega
theorem tid_depth : ∀ (d k : Nat) (fs : List Fl), AptL fs → (∀ f ∈ fs, f.1.length ≤ d + 1) → tid (d + 1) fs = tid (d + 1 + k) fs
  | d, k, fs, ha, h => by
    have e : d + 1 + k = (d + k) + 1 := by omega
    rw [e]
    show Sw.idOf (encP (treeOf ((namesF fs).map (entOf (tid d) fs)))) = Sw.idOf (encP (treeOf ((namesF fs).map (entOf (tid (d + k)) fs))))
    have : (namesF fs).map (entOf (tid d) fs) = (namesF fs).map (entOf (tid (d + k)) fs) := by
      refine List.map_congr_left (fun n hn => ?_)
      unfold entOf
      by_cases hs : sub n fs = []
      · rw [if_pos hs, if_pos hs]
      · rw [if_neg hs, if_neg hs]
        have hl := sub_len (n := n) h
        cases d with
        | zero =>
          obtain ⟨f, hf⟩ := List.exists_mem_of_ne_nil _ hs
          have h1 := hl f hf
          have h2 := (ha.sub n).1 f hf
          exact absurd (List.length_eq_zero_iff.1 (by omega)) h2
        | succ d =>
          rw [tid_depth d k (sub n fs) (ha.sub n) hl]
    rw [this]
end Go.Proofs.YtlenfiiocmchdaaGreatDoor
/- A folder's files in the order of their paths; a tree gone over gives them back (plain). -/
namespace Go.Proofs.YtlenfiiocmchdaaGreatDoor
open Go.RowKit Book Pap Ojt Sn
set_option linter.unusedVariables false
set_option linter.unusedSimpArgs false

def under (n : ByteArray) (f : Fl) : Fl := (n :: f.1, f.2)
def fileOf (rec : List Fl → List Fl) (fs : List Fl) (n : ByteArray) : List Fl :=
  if sub n fs = [] then [([n], (leafs fs n).getD ByteArray.empty)] else (rec (sub n fs)).map (under n)
/-- a folder's files, by their paths -/
def flist : Nat → List Fl → List Fl
  | 0, fs => []
  | d + 1, fs => (namesF fs).flatMap (fileOf (flist d) fs)
theorem subOf_of {n : ByteArray} {a : List ByteArray} {x : ByteArray} (ha : a ≠ []) : subOf n (n :: a, x) = some (a, x) := by
  cases a with
  | nil => exact absurd rfl ha
  | cons b r => unfold subOf; simp
theorem mem_sub_iff {n : ByteArray} {fs : List Fl} {g : Fl} : g ∈ sub n fs ↔ g.1 ≠ [] ∧ under n g ∈ fs := by
  constructor
  · intro h
    obtain ⟨f, hf, h1, h2, h3⟩ := mem_sub h
    refine ⟨h2, ?_⟩
    have : under n g = f := by unfold under; rw [← h1, ← h3]
    rw [this]; exact hf
  · rintro ⟨h1, h2⟩
    exact List.mem_filterMap.2 ⟨_, h2, subOf_of h1⟩
theorem flist_mem : ∀ (d : Nat) (fs : List Fl), AptL fs → (∀ f ∈ fs, f.1.length ≤ d) → ∀ f, f ∈ flist d fs ↔ f ∈ fs
  | 0, fs, ha, hl, f => by
    constructor
    · intro h; cases h
    · intro h
      exact absurd (List.length_eq_zero_iff.1 (Nat.le_zero.1 (hl f h))) (ha.1 f h)
  | d + 1, fs, ha, hl, f => by
    show f ∈ (namesF fs).flatMap (fileOf (flist d) fs) ↔ _
    rw [List.mem_flatMap]
    constructor
    · rintro ⟨n, hn, hf⟩
      unfold fileOf at hf
      split at hf
      · rename_i hs
        rw [List.mem_singleton] at hf
        obtain ⟨g, hg, he⟩ := mem_names.1 hn
        obtain ⟨a, b⟩ := g
        simp only at he
        cases a with
        | nil => cases he
        | cons a r =>
          cases he
          cases r with
          | nil =>
            have h1 := (leafs_val ha).2 hg
            rw [h1] at hf
            rw [hf]; exact hg
          | cons c r =>
            have : ((c :: r, b) : Fl) ∈ sub n fs := mem_sub_iff.2 ⟨by simp, hg⟩
            rw [hs] at this; cases this
      · obtain ⟨g, hg, rfl⟩ := List.mem_map.1 hf
        exact (mem_sub_iff.1 ((flist_mem d _ (ha.sub n) (sub_len hl) g).1 hg)).2
    · intro hf
      obtain ⟨a, b⟩ := f
      cases a with
      | nil => exact absurd rfl (ha.1 _ hf)
      | cons n r =>
        refine ⟨n, mem_names.2 ⟨_, hf, rfl⟩, ?_⟩
        unfold fileOf
        cases r with
        | nil =>
          have h1 := (leafs_val ha).2 hf
          rw [if_pos (ha.lone n (by rw [h1]; simp)), h1, List.mem_singleton]; rfl
        | cons c r =>
          have h1 : ((c :: r, b) : Fl) ∈ sub n fs := mem_sub_iff.2 ⟨by simp, hf⟩
          rw [if_neg (fun e => by rw [e] at h1; cases h1)]
          exact List.mem_map.2 ⟨_, (flist_mem d _ (ha.sub n) (sub_len hl) _).2 h1, rfl⟩
/-- how names stand -/
def cmpN (a b : List ByteArray) : Int := cmpP (a.map fun s => s.data.toList) (b.map fun s => s.data.toList)
theorem lt_cmp {a b : ByteArray} (h : lt' a b = true) : cmpL a.data.toList b.data.toList = -1 := by
  unfold lt' at h
  rw [ba_toList, ba_toList, bytesLess_cmp] at h
  exact of_decide_eq_true h
theorem cmpN_head {a b : ByteArray} (h : lt' a b = true) (x y : List ByteArray) : cmpN (a :: x) (b :: y) = -1 := by
  have h1 := lt_cmp h
  show (if cmpL a.data.toList b.data.toList = 0 then _ else cmpL a.data.toList b.data.toList) = (-1 : Int)
  rw [h1]; rfl
theorem cmpN_same (a : ByteArray) (x y : List ByteArray) : cmpN (a :: x) (a :: y) = cmpN x y := by
  show (if cmpL a.data.toList a.data.toList = 0 then _ else _) = _
  rw [cmpL_self]; rfl
theorem fileOf_head {rec : List Fl → List Fl} {fs : List Fl} {n : ByteArray} {f : Fl} (h : f ∈ fileOf rec fs n) : ∃ r, f.1 = n :: r := by
  unfold fileOf at h
  split at h
  · rw [List.mem_singleton] at h; exact ⟨[], by rw [h]⟩
  · obtain ⟨g, -, rfl⟩ := List.mem_map.1 h
    exact ⟨g.1, rfl⟩
theorem flist_sorted : ∀ (d : Nat) (fs : List Fl), (flist d fs).Pairwise (fun f g => cmpN f.1 g.1 = -1)
  | 0, fs => List.Pairwise.nil
  | d + 1, fs => by
    show ((namesF fs).flatMap (fileOf (flist d) fs)).Pairwise _
    rw [List.pairwise_flatMap]
    refine ⟨fun n hn => ?_, ?_⟩
    · unfold fileOf
      split
      · exact List.pairwise_singleton _ _
      · rw [List.pairwise_map]
        refine (flist_sorted d (sub n fs)).imp ?_
        intro a b h
        unfold under
        simp only
        rw [cmpN_same]; exact h
    · refine List.Pairwise.imp ?_ (Sw.setOf_rising (fs.filterMap headOf))
      intro a b h x hx y hy
      obtain ⟨r, e⟩ := fileOf_head hx
      obtain ⟨q, e'⟩ := fileOf_head hy
      rw [e, e']
      exact cmpN_head h _ _
/-! files that can be -/
def GoodFl (fs : List Fl) : Prop := ∀ f ∈ fs, (∀ n ∈ f.1, goodL n.data.toList = true) ∧ f.2.size ≤ 65536
theorem GoodFl.sub {fs : List Fl} (h : GoodFl fs) (n : ByteArray) : GoodFl (Sn.sub n fs) := fun f hf => by
  have h1 := h _ (mem_sub_iff.1 hf).2
  exact ⟨fun m hm => h1.1 m (List.mem_cons_of_mem _ hm), h1.2⟩
theorem sub_few (n : ByteArray) (fs : List Fl) : (Sn.sub n fs).length ≤ fs.length := List.length_filterMap_le ..
theorem names_few (fs : List Fl) : (namesF fs).length ≤ fs.length := by
  have h1 : ∀ (l acc : List ByteArray), (l.foldl putN acc).length ≤ acc.length + l.length := by
    intro l
    induction l with
    | nil => intro acc; exact Nat.le_refl _
    | cons x r ih =>
      intro acc
      have := ih (putN acc x)
      have := putN_len acc x
      rw [List.foldl_cons, List.length_cons]; omega
  have h2 := h1 (fs.filterMap headOf) []
  have h3 : (fs.filterMap headOf).length ≤ fs.length := List.length_filterMap_le ..
  unfold namesF Sw.setOf
  simp only [List.length_nil, Nat.zero_add] at h2
  omega
theorem leaf_good {fs : List Fl} (hg : GoodFl fs) (n : ByteArray) : good (blobOf ((leafs fs n).getD ByteArray.empty)) = true := by
  have : ((leafs fs n).getD ByteArray.empty).size ≤ 65536 := by
    cases h : leafs fs n with
    | none => show (0 : Nat) ≤ _; omega
    | some d =>
      have := (leafs_in fs n d none h).resolve_left (fun e => by cases e)
      exact (hg _ this).2
  unfold good blobOf
  rw [if_pos rfl]
  exact decide_eq_true this
theorem rising_B : ∀ {l : List ByteArray}, Rising l → risingB l = true
  | [], _ => rfl
  | [a], _ => rfl
  | a :: b :: r, h => by
    obtain ⟨h1, h2⟩ := List.pairwise_cons.1 h
    show (lt' a b && risingB (b :: r)) = true
    rw [h1 b (List.mem_cons_self ..), rising_B h2]; rfl
theorem sub_zero {fs : List Fl} (ha : AptL fs) (hl : ∀ f ∈ fs, f.1.length ≤ 0 + 1) (n : ByteArray) : Sn.sub n fs = [] := by
  cases h : Sn.sub n fs with
  | nil => rfl
  | cons f r =>
    have hf : f ∈ Sn.sub n fs := by rw [h]; exact List.mem_cons_self ..
    exact absurd (List.length_eq_zero_iff.1 (Nat.le_zero.1 (sub_len hl f hf))) ((ha.sub n).1 f hf)
theorem tree_good {fs : List Fl} (d : Nat) (ha : AptL fs) (hl : ∀ f ∈ fs, f.1.length ≤ d + 1) (hg : GoodFl fs) (hn : fs.length ≤ 256) : good (treeOf (tents d fs)) = true := by
  have h1 : Ojt.goodTree (tents d fs) = true := by
    unfold Ojt.goodTree
    rw [Bool.and_eq_true, Bool.and_eq_true]
    refine ⟨List.all_eq_true.2 (fun e he => ?_), decide_eq_true ?_, ?_⟩
    · obtain ⟨n, hn, rfl⟩ := List.mem_map.1 he
      obtain ⟨f, hf, hh⟩ := mem_names.1 hn
      have hgn := (hg f hf).1 n (List.mem_of_mem_head? hh)
      unfold entOf goodEnt
      cases d with
      | zero =>
        rw [if_pos (sub_zero ha hl n)]
        simp [hgn, idOf_size]
      | succ d =>
        split
        · simp [hgn, idOf_size]
        · have : (tid (d + 1) (Sn.sub n fs)).size = 32 := idOf_size _
          simp [hgn, this]
    · unfold tents
      rw [List.length_map]
      have := names_few fs
      omega
    · unfold tents
      rw [List.map_map]
      have : ((namesF fs).map ((fun e : Ent => e.name) ∘ entOf (tid d) fs)) = namesF fs := by
        conv => rhs; rw [← List.map_id (namesF fs)]
        refine List.map_congr_left (fun n _ => ?_)
        show (entOf (tid d) fs n).name = n
        unfold entOf
        split <;> rfl
      rw [this]
      exact rising_B (Sw.setOf_rising _)
  unfold good treeOf
  simp only
  rw [if_neg (by decide), if_pos trivial]
  exact h1
def Cov (G : Sw.Src) (L : List ByteArray) : Prop := ∀ t ∈ L, G (Sw.idOf t) = some t
def blobAt (above : List ByteArray) (f : Fl) : Ent := ⟨pathOf (above ++ f.1), 1, Sw.idOf (encP (blobOf f.2))⟩
theorem overE_cons (rec : ByteArray → List ByteArray → Wk → Wk × Int) (above : List ByteArray) (y : Ent) (r : List Ent) (s : Wk) : overE rec above (y :: r) s =
    if 4096 < s.met + 1 then ({ s with met := s.met + 1 }, 6)
    else if 64 < above.length + 1 then ({ s with met := s.met + 1 }, 33)
    else if y.kind = 2 then
      if (rec y.id (above ++ [y.name]) { s with met := s.met + 1 }).2 ≠ 0 then rec y.id (above ++ [y.name]) { s with met := s.met + 1 }
      else overE rec above r (rec y.id (above ++ [y.name]) { s with met := s.met + 1 }).1
    else overE rec above r ⟨s.met + 1, s.blobs ++ [⟨pathOf (above ++ [y.name]), y.kind, y.id⟩]⟩ := rfl
theorem over_names {rec : ByteArray → List ByteArray → Wk → Wk × Int} {fl : List Fl → List Fl} {ti : List Fl → ByteArray} (fs : List Fl) (above : List ByteArray) (ha : above.length + 1 ≤ 64)
    (hr : ∀ n s, sub n fs ≠ [] → s.met + wt (sub n fs) ≤ 4096 → ∃ m, m ≤ s.met + wt (sub n fs) ∧ rec (ti (sub n fs)) (above ++ [n]) s = (⟨m, s.blobs ++ (fl (sub n fs)).map (blobAt (above ++ [n]))⟩, 0)) :
    ∀ (ns : List ByteArray) (s : Wk), (∀ n ∈ ns, 1 ≤ wn n fs) → s.met + (ns.map (fun n => wn n fs)).sum ≤ 4096 → ∃ m, m ≤ s.met + (ns.map (fun n => wn n fs)).sum ∧ overE rec above (ns.map (entOf ti fs)) s = (⟨m, s.blobs ++ (ns.flatMap (fileOf fl fs)).map (blobAt above)⟩, 0)
  | [], s, _, _ => ⟨s.met, Nat.le_refl _, by simp [overE]⟩
  | n :: r, s, hp, hm => by
    have h1 := hp n (List.mem_cons_self ..)
    rw [List.map_cons, List.sum_cons] at hm
    have hun : overE rec above ((n :: r).map (entOf ti fs)) s = if (entOf ti fs n).kind = 2 then
        if (rec (entOf ti fs n).id (above ++ [(entOf ti fs n).name]) { s with met := s.met + 1 }).2 ≠ 0 then rec (entOf ti fs n).id (above ++ [(entOf ti fs n).name]) { s with met := s.met + 1 }
        else overE rec above (r.map (entOf ti fs)) (rec (entOf ti fs n).id (above ++ [(entOf ti fs n).name]) { s with met := s.met + 1 }).1
      else overE rec above (r.map (entOf ti fs)) ⟨s.met + 1, s.blobs ++ [⟨pathOf (above ++ [(entOf ti fs n).name]), (entOf ti fs n).kind, (entOf ti fs n).id⟩]⟩ := by
      rw [List.map_cons, overE_cons, if_neg (by omega), if_neg (by omega)]
    rw [hun]
    by_cases hs : sub n fs = []
    · have e1 : entOf ti fs n = ⟨n, 1, Sw.idOf (leafT fs n)⟩ := by unfold entOf; rw [if_pos hs]
      have e2 : fileOf fl fs n = [([n], (leafs fs n).getD ByteArray.empty)] := by unfold fileOf; rw [if_pos hs]
      obtain ⟨m, hm1, hm2⟩ := over_names fs above ha hr r ⟨s.met + 1, s.blobs ++ [⟨pathOf (above ++ [n]), 1, Sw.idOf (leafT fs n)⟩]⟩ (fun x hx => hp x (List.mem_cons_of_mem _ hx)) (by simp only; omega)
      simp only at hm1
      refine ⟨m, by rw [List.map_cons, List.sum_cons]; omega, ?_⟩
      rw [e1]
      simp only
      rw [if_neg (by decide), hm2]
      simp only
      rw [List.flatMap_cons, e2, List.map_append, List.append_assoc]
      rfl
    · have e1 : entOf ti fs n = ⟨n, 2, ti (sub n fs)⟩ := by unfold entOf; rw [if_neg hs]
      have e2 : fileOf fl fs n = (fl (sub n fs)).map (under n) := by unfold fileOf; rw [if_neg hs]
      have hw := wt_sub n fs
      have hp1 := List.length_pos_iff.2 hs
      obtain ⟨m1, hm1, hr1⟩ := hr n ⟨s.met + 1, s.blobs⟩ hs (by simp only; omega)
      simp only at hm1 hr1
      obtain ⟨m, hm2, hm3⟩ := over_names fs above ha hr r ⟨m1, s.blobs ++ (fl (sub n fs)).map (blobAt (above ++ [n]))⟩ (fun x hx => hp x (List.mem_cons_of_mem _ hx)) (by simp only; omega)
      simp only at hm2
      refine ⟨m, by rw [List.map_cons, List.sum_cons]; omega, ?_⟩
      rw [e1]
      simp only
      rw [if_pos trivial, hr1]
      simp only
      rw [if_neg (by simp), hm3]
      simp only
      rw [List.flatMap_cons, e2, List.map_append, List.append_assoc, List.map_map]
      congr 3
      congr 1
      refine List.map_congr_left (fun f _ => ?_)
      unfold blobAt under
      simp
theorem over_step {G : Sw.Src} (d D : Nat) (fs : List Fl) (above : List ByteArray) (s : Wk) (hc : Cov G (texts (d + 1) fs)) (ha : AptL fs) (hl : ∀ f ∈ fs, f.1.length ≤ d + 1) (hg : GoodFl fs) (hn : fs.length ≤ 256) (hab : above.length + 1 ≤ 64) (hm : s.met + wt fs ≤ 4096)
    (hr : ∀ n s, sub n fs ≠ [] → s.met + wt (sub n fs) ≤ 4096 → ∃ m, m ≤ s.met + wt (sub n fs) ∧ overS G D (tid d (sub n fs)) (above ++ [n]) s = (⟨m, s.blobs ++ (flist d (sub n fs)).map (blobAt (above ++ [n]))⟩, 0)) :
    ∃ m, m ≤ s.met + wt fs ∧ overS G (D + 1) (tid (d + 1) fs) above s = (⟨m, s.blobs ++ (flist (d + 1) fs).map (blobAt above)⟩, 0) := by
  have hgt := tree_good d ha hl hg hn
  have hlk : lookK G (tid (d + 1) fs) 2 21 = (treeOf (tents d fs), 0) :=
    lookK_of (x := treeOf (tents d fs)) (hc _ (List.mem_append.2 (.inr (List.mem_singleton.2 rfl)))) hgt (dec_tree hgt) rfl
  have hsum := sum_wn (namesF fs) fs (namesF_nodup fs)
  obtain ⟨m, h1, h2⟩ := over_names (rec := overS G D) (fl := flist d) (ti := tid d) fs above hab hr (namesF fs) s (fun n hn => wn_pos (mem_names.1 hn)) (by omega)
  refine ⟨m, by omega, ?_⟩
  unfold overS
  rw [hlk, if_neg (by simp)]
  exact h2
theorem cov_sub {G : Sw.Src} {d : Nat} {fs : List Fl} (hc : Cov G (texts (d + 1) fs)) {n : ByteArray} (hs : sub n fs ≠ []) : Cov G (texts d (sub n fs)) := fun t ht => by
  refine hc t (List.mem_append.2 (.inl (List.mem_flatMap.2 ⟨n, ?_, ?_⟩)))
  · obtain ⟨f, hf⟩ := List.exists_mem_of_ne_nil _ hs
    exact mem_names.2 ⟨_, (mem_sub_iff.1 hf).2, rfl⟩
  · unfold textOf; rw [if_neg hs]; exact ht
theorem over_tree {G : Sw.Src} : ∀ (d D : Nat) (fs : List Fl) (above : List ByteArray) (s : Wk), d ≤ D → Cov G (texts (d + 1) fs) → AptL fs → (∀ f ∈ fs, f.1.length ≤ d + 1) → GoodFl fs → fs.length ≤ 256 → above.length + (d + 1) ≤ 64 → s.met + wt fs ≤ 4096 →
    ∃ m, m ≤ s.met + wt fs ∧ overS G (D + 1) (tid (d + 1) fs) above s = (⟨m, s.blobs ++ (flist (d + 1) fs).map (blobAt above)⟩, 0) := by
  intro d
  induction d with
  | zero =>
    intro D fs above s hD hc ha hl hg hn hab hm
    exact over_step 0 D fs above s hc ha hl hg hn (by omega) hm (fun n s hs _ => absurd (sub_zero ha hl n) hs)
  | succ d ih =>
    intro D fs above s hD hc ha hl hg hn hab hm
    obtain ⟨D, rfl⟩ : ∃ k, D = k + 1 := ⟨D - 1, by omega⟩
    refine over_step (d + 1) (D + 1) fs above s hc ha hl hg hn (by omega) hm (fun n s hs hm => ?_)
    exact ih D (sub n fs) (above ++ [n]) s (by omega) (cov_sub hc hs) (ha.sub n) (sub_len hl) (hg.sub n) (Nat.le_trans (sub_few n fs) hn) (by rw [List.length_append]; simp only [List.length_cons, List.length_nil]; omega) hm
end Go.Proofs.YtlenfiiocmchdaaGreatDoor
/- What comes leaves all closed (layer 14): plain Lean. -/
namespace Go.Proofs.YtlenfiiocmchdaaGreatDoor.Sw
open Go.RowKit Book Ojt
set_option linter.unusedVariables false

/-- a source that holds at least what another one holds -/
def Ext (G H : Src) : Prop := ∀ id t, G id = some t → H id = some t
theorem Ext.refl (G : Src) : Ext G G := fun _ _ h => h
theorem Ext.trans {G H K : Src} (h1 : Ext G H) (h2 : Ext H K) : Ext G K := fun id t h => h2 id t (h1 id t h)
/-! one source's items -/
theorem getI_snoc (l : List It) (x : It) (id : ByteArray) : getI (l ++ [x]) id = (match getI l id with | some t => some t | none => if x.id = id then some x.data else none) := by
  induction l with
  | nil => rfl
  | cons y r ih =>
    show (if y.id = id then some y.data else getI (r ++ [x]) id) = match (if y.id = id then some y.data else getI r id) with | some t => some t | none => if x.id = id then some x.data else none
    split
    · rfl
    · exact ih
theorem getI_some {l : List It} {id t : ByteArray} (h : getI l id = some t) : (⟨id, t⟩ : It) ∈ l := by
  induction l with
  | nil => cases h
  | cons y r ih =>
    unfold getI at h
    split at h
    · rename_i e
      cases h
      rw [← e]
      exact List.mem_cons_self ..
    · exact List.mem_cons_of_mem _ (ih h)
theorem getI_none {l : List It} {id : ByteArray} (h : getI l id = none) : ∀ x ∈ l, x.id ≠ id := by
  induction l with
  | nil => intro x hx; cases hx
  | cons y r ih =>
    unfold getI at h
    split at h
    · cases h
    · rename_i e
      intro x hx
      rcases List.mem_cons.1 hx with rfl | hx
      · exact e
      · exact ih h x hx
/-- no two unlike texts of some have one digest -/
def Apart (T : List ByteArray) : Prop := ∀ a ∈ T, ∀ b ∈ T, idOf a = idOf b → a = b
/-- items that are texts of some under their digests -/
def Own (T : List ByteArray) (s : List It) : Prop := ∀ x ∈ s, x.data ∈ T ∧ idOf x.data = x.id
theorem Own.get {T : List ByteArray} {s : List It} (h : Own T s) {id t : ByteArray} (hg : getI s id = some t) : t ∈ T ∧ idOf t = id := h _ (getI_some hg)
theorem Own.nil (T : List ByteArray) : Own T [] := fun _ h => by cases h
theorem Own.took {T : List ByteArray} {s : List It} (h : Own T s) {t : ByteArray} (ht : t ∈ T) : Own T (took s t) := by
  unfold Sw.took
  split
  · intro x hx
    rcases List.mem_append.1 hx with hx | hx
    · exact h x hx
    · rw [List.mem_singleton.1 hx]; exact ⟨ht, rfl⟩
  · exact h
/-! items put by their ids -/
end Go.Proofs.YtlenfiiocmchdaaGreatDoor.Sw
/- Files in the order of their paths; the same tree, the same files (plain). -/
namespace Go.Proofs.YtlenfiiocmchdaaGreatDoor
open Go.RowKit Book Pap Ojt Sn
set_option linter.unusedVariables false
set_option linter.unusedSimpArgs false

def insF : List Fi → Fi → List Fi
  | [], f => [f]
  | g :: r, f => if compareR f.path.data.toList g.path.data.toList < 0 then f :: g :: r else g :: insF r f
/-- files in the order of their paths, as the law sorts them -/
def sortF (l : List Fi) : List Fi := l.foldl insF []
theorem insF_perm : ∀ (l : List Fi) (f : Fi), (insF l f).Perm (f :: l)
  | [], f => List.Perm.refl _
  | g :: r, f => by
    unfold insF
    split
    · exact List.Perm.refl _
    · exact ((insF_perm r f).cons g).trans (List.Perm.swap f g r)
theorem sortF_perm (l : List Fi) : (sortF l).Perm l := by
  suffices h : ∀ (l acc : List Fi), (l.foldl insF acc).Perm (l ++ acc) by
    have := h l []
    rw [List.append_nil] at this; exact this
  intro l
  induction l with
  | nil => intro acc; exact List.Perm.refl _
  | cons f r ih =>
    intro acc
    rw [List.foldl_cons]
    refine (ih _).trans ?_
    refine ((insF_perm acc f).append_left r).trans ?_
    exact List.perm_middle
def LtF (f g : Fi) : Prop := cmpP (pieces f.path.data.toList) (pieces g.path.data.toList) = -1
theorem insF_sorted : ∀ (l : List Fi) (f : Fi), splitE f.path.data.toList = 0 → (∀ g ∈ l, splitE g.path.data.toList = 0) → (∀ g ∈ l, g.path ≠ f.path) → l.Pairwise LtF → (insF l f).Pairwise LtF
  | [], f, _, _, _, _ => List.pairwise_singleton _ _
  | g :: r, f, hf, hl, hne, hp => by
    obtain ⟨h1, h2⟩ := List.pairwise_cons.1 hp
    have hg := hl g (List.mem_cons_self ..)
    have hcr : compareR f.path.data.toList g.path.data.toList = cmpP (pieces f.path.data.toList) (pieces g.path.data.toList) := by
      unfold compareR; rw [if_pos ⟨hf, hg⟩]
    unfold insF
    rw [hcr]
    split
    · rename_i hlt
      have hlt : LtF f g := by
        unfold LtF
        rcases cmpP_range (pieces f.path.data.toList) (pieces g.path.data.toList) with e | e | e <;> omega
      refine List.pairwise_cons.2 ⟨fun x hx => ?_, hp⟩
      rcases List.mem_cons.1 hx with rfl | hx
      · exact hlt
      · exact cmpP_trans _ _ _ hlt (h1 x hx)
    · rename_i hlt
      refine List.pairwise_cons.2 ⟨fun x hx => ?_, insF_sorted r f hf (fun x hx => hl x (List.mem_cons_of_mem _ hx)) (fun x hx => hne x (List.mem_cons_of_mem _ hx)) h2⟩
      rcases List.mem_cons.1 ((insF_perm r f).mem_iff.1 hx) with rfl | hx
      · unfold LtF
        have h3 := cmpP_neg (pieces x.path.data.toList) (pieces g.path.data.toList)
        rcases cmpP_range (pieces x.path.data.toList) (pieces g.path.data.toList) with e | e | e
        · omega
        · exfalso
          have := pieces_inj (cmpP_zero _ _ e)
          exact hne g (List.mem_cons_self ..) (ba_ext this.symm)
        · omega
      · exact h1 x hx
theorem sortF_sorted {l : List Fi} (hs : ∀ f ∈ l, splitE f.path.data.toList = 0) (hp : l.Pairwise (fun f g => f.path ≠ g.path)) : (sortF l).Pairwise LtF := by
  suffices h : ∀ (l acc : List Fi), (∀ f ∈ l, splitE f.path.data.toList = 0) → l.Pairwise (fun f g => f.path ≠ g.path) → (∀ f ∈ acc, splitE f.path.data.toList = 0) → (∀ f ∈ acc, ∀ g ∈ l, f.path ≠ g.path) → acc.Pairwise LtF → (l.foldl insF acc).Pairwise LtF by
    exact h l [] hs hp (fun f hf => by cases hf) (fun f hf => by cases hf) List.Pairwise.nil
  intro l
  induction l with
  | nil => intro acc _ _ _ _ h; exact h
  | cons f r ih =>
    intro acc hl hp ha hn h
    obtain ⟨p1, p2⟩ := List.pairwise_cons.1 hp
    rw [List.foldl_cons]
    refine ih _ (fun x hx => hl x (List.mem_cons_of_mem _ hx)) p2 (fun x hx => ?_) (fun x hx y hy => ?_) (insF_sorted acc f (hl f (List.mem_cons_self ..)) ha (fun g hg => hn g hg f (List.mem_cons_self ..)) h)
    · rcases List.mem_cons.1 ((insF_perm acc f).mem_iff.1 hx) with rfl | hx
      · exact hl _ (List.mem_cons_self ..)
      · exact ha x hx
    · rcases List.mem_cons.1 ((insF_perm acc f).mem_iff.1 hx) with rfl | hx
      · exact p1 y hy
      · exact hn x hx y (List.mem_cons_of_mem _ hy)
/-! files that can be a snapshot -/
structure OkFs (fs : List Fi) : Prop where
  few : fs.length ≤ 256
  split : ∀ f ∈ fs, splitE f.path.data.toList = 0
  off : fs.Pairwise (fun f g => apart f.path.data.toList g.path.data.toList)
  size : ∀ f ∈ fs, f.data.size ≤ 65536
theorem checkF_iff (fs : List Fi) : checkF fs = 0 ↔ OkFs fs := by
  have hR : (checkR (ls (fs.map (·.path)))).2 = 0 ↔ (∀ f ∈ fs, splitE f.path.data.toList = 0) ∧ fs.Pairwise (fun f g => apart f.path.data.toList g.path.data.toList) := by
    rw [checkR_ok]
    unfold ls
    rw [List.map_map, List.pairwise_map]
    refine and_congr ⟨fun h f hf => h _ (List.mem_map.2 ⟨f, hf, rfl⟩), fun h x hx => ?_⟩ Iff.rfl
    obtain ⟨f, hf, rfl⟩ := List.mem_map.1 hx
    exact h f hf
  have hA : (fs.any fun f => decide (65536 < f.data.size)) = true ↔ ¬ ∀ f ∈ fs, f.data.size ≤ 65536 := by
    rw [List.any_eq_true]
    constructor
    · rintro ⟨f, hf, h⟩ h2
      have := h2 f hf
      have := of_decide_eq_true h
      omega
    · intro h
      refine Decidable.byContradiction fun hn => h (fun f hf => ?_)
      refine Decidable.byContradiction fun h2 => hn ⟨f, hf, decide_eq_true (by omega)⟩
  unfold checkF
  constructor
  · intro h
    split at h
    · cases h
    · split at h
      · cases h
      · rename_i h1 h2
        obtain ⟨h3, h4⟩ := hR.1 h
        refine ⟨by omega, h3, h4, ?_⟩
        refine Decidable.byContradiction fun hn => h2 ⟨h, hA.2 hn⟩
  · intro h
    have hr := hR.2 ⟨h.split, h.off⟩
    rw [if_neg (by have := h.few; omega), if_neg (fun h2 => hA.1 h2.2 h.size)]
    exact hr
theorem OkFs.perm {fs gs : List Fi} (h : OkFs fs) (p : fs.Perm gs) : OkFs gs :=
  ⟨by rw [← p.length_eq]; exact h.few, fun f hf => h.split f (p.mem_iff.2 hf), (p.pairwise_iff (R := fun f g : Fi => apart f.path.data.toList g.path.data.toList) (fun {a b} h => apart_symm h)).1 h.off, fun f hf => h.size f (p.mem_iff.2 hf)⟩
theorem OkFs.apt {fs : List Fi} (h : OkFs fs) : AptL (fs.map flOf) := by
  have := (checkF_iff fs).2 h
  exact (apt_of (checkF_ok this).2).1
theorem OkFs.len {fs : List Fi} (h : OkFs fs) : ∀ f ∈ fs.map flOf, f.1.length ≤ 64 := fun f hf => by
  obtain ⟨g, hg, rfl⟩ := List.mem_map.1 hf
  have := (check_pieces (h.split g hg)).2.2
  unfold flOf
  rw [List.length_map]; exact this
theorem OkFs.goodFl {fs : List Fi} (h : OkFs fs) : GoodFl (fs.map flOf) := fun f hf => by
  obtain ⟨g, hg, rfl⟩ := List.mem_map.1 hf
  refine ⟨fun n hn => ?_, h.size g hg⟩
  unfold flOf at hn
  obtain ⟨p, hp, rfl⟩ := List.mem_map.1 hn
  rw [bl_bz]
  exact (check_pieces (h.split g hg)).2.1 p hp
theorem flOf_map (f : Fi) : (flOf f).1.map (fun s => s.data.toList) = pieces f.path.data.toList := by
  unfold flOf
  rw [List.map_map]
  conv => rhs; rw [← List.map_id (pieces f.path.data.toList)]
  exact List.map_congr_left (fun z _ => bl_bz z)
theorem flOf_path (f : Fi) : pathOf (flOf f).1 = f.path := by
  unfold pathOf
  rw [flOf_map, join_pieces, bz_bl]
theorem OkFs.sorted {fs : List Fi} (h : OkFs fs) : (sortF fs).Pairwise LtF :=
  sortF_sorted h.split (h.off.imp (fun {a b} h e => h.1 (by rw [e])))
theorem OkFs.flist {fs : List Fi} (h : OkFs fs) : flist 64 (fs.map flOf) = (sortF fs).map flOf := by
  refine pw_ext (R := fun f g : Fl => cmpN f.1 g.1 = -1) (fun a h => by unfold cmpN at h; rw [cmpP_self] at h; cases h) (fun a b c h k => cmpP_trans _ _ _ h k) _ _ (flist_sorted 64 _) ?_ (fun x => ?_)
  · rw [List.pairwise_map]
    refine h.sorted.imp (fun {a b} hab => ?_)
    unfold cmpN
    rw [flOf_map, flOf_map]; exact hab
  · rw [flist_mem 64 _ h.apt h.len x, List.mem_map, List.mem_map]
    exact ⟨fun ⟨f, hf, e⟩ => ⟨f, (sortF_perm fs).mem_iff.2 hf, e⟩, fun ⟨f, hf, e⟩ => ⟨f, (sortF_perm fs).mem_iff.1 hf, e⟩⟩
def blobEnt (f : Fi) : Ent := ⟨f.path, 1, Sw.idOf (encP (blobOf f.data))⟩
/-- a tree's files gone over -/
theorem over_files {G : Sw.Src} {fs : List Fi} (h : OkFs fs) (h60 : fs.length ≤ 60) (hc : Cov G (texts 64 (fs.map flOf))) : ∃ m, overS G 66 (tid 64 (fs.map flOf)) [] ⟨0, []⟩ = (⟨m, (sortF fs).map blobEnt⟩, 0) := by
  have hw : wt (fs.map flOf) ≤ 4096 := by
    have := wt_le (k := 64) (fs.map flOf) h.len
    rw [List.length_map] at this
    have h1 : fs.length * 64 ≤ 60 * 64 := Nat.mul_le_mul_right _ h60
    omega
  obtain ⟨m, -, h2⟩ := over_tree (G := G) 63 65 (fs.map flOf) [] ⟨0, []⟩ (by omega) hc h.apt h.len h.goodFl (by rw [List.length_map]; exact h.few) (by simp) (by simpa using hw)
  refine ⟨m, ?_⟩
  rw [h2, h.flist, List.nil_append, List.map_map]
  have e : (sortF fs).map (blobAt [] ∘ flOf) = (sortF fs).map blobEnt := List.map_congr_left (fun f _ => by
    show (⟨pathOf ([] ++ (flOf f).1), 1, _⟩ : Ent) = _
    rw [List.nil_append, flOf_path]; rfl)
  rw [e]
theorem texts_blob : ∀ (d : Nat) (fs : List Fl) (f : Fl), f ∈ flist d fs → encP (blobOf f.2) ∈ texts d fs
  | 0, fs, f, h => by cases h
  | d + 1, fs, f, h => by
    obtain ⟨n, hn, hf⟩ := List.mem_flatMap.1 h
    refine List.mem_append.2 (.inl (List.mem_flatMap.2 ⟨n, hn, ?_⟩))
    unfold fileOf at hf
    unfold textOf
    split at hf
    · rename_i hs
      rw [List.mem_singleton] at hf
      rw [if_pos hs, hf, List.mem_singleton]; rfl
    · rename_i hs
      obtain ⟨g, hg, rfl⟩ := List.mem_map.1 hf
      rw [if_neg hs]
      exact texts_blob d _ g hg
theorem map_inj_on {α β : Type} {k : α → β} : ∀ {l m : List α}, l.map k = m.map k → (∀ x ∈ l, ∀ y ∈ m, k x = k y → x = y) → l = m
  | [], [], _, _ => rfl
  | [], _ :: _, h, _ => by cases h
  | _ :: _, [], h, _ => by cases h
  | a :: l, b :: m, h, hi => by
    rw [List.map_cons, List.map_cons] at h
    obtain ⟨h1, h2⟩ := List.cons.inj h
    rw [hi a (List.mem_cons_self ..) b (List.mem_cons_self ..) h1, map_inj_on h2 (fun x hx y hy => hi x (List.mem_cons_of_mem _ hx) y (List.mem_cons_of_mem _ hy))]
/-- texts as a source -/
def srcL (L : List ByteArray) : Sw.Src := fun id => L.find? (fun t => decide (Sw.idOf t = id))
theorem srcL_cov {L : List ByteArray} (h : Sw.Apart L) : Cov (srcL L) L := fun t ht => by
  unfold srcL
  cases hf : L.find? (fun x => decide (Sw.idOf x = Sw.idOf t)) with
  | none => exact absurd (decide_eq_true rfl) (List.find?_eq_none.1 hf t ht)
  | some x =>
    have h1 := List.mem_of_find?_eq_some hf
    have h2 := List.find?_some hf
    rw [h x h1 t ht (of_decide_eq_true h2)]
theorem OkFs.blob_in {fs : List Fi} (h : OkFs fs) {f : Fi} (hf : f ∈ sortF fs) : encP (blobOf f.data) ∈ texts 64 (fs.map flOf) := by
  have := texts_blob 64 (fs.map flOf) (flOf f) (by rw [h.flist]; exact List.mem_map.2 ⟨f, hf, rfl⟩)
  exact this
theorem OkFs.blob_good {fs : List Fi} (h : OkFs fs) {f : Fi} (hf : f ∈ sortF fs) : good (blobOf f.data) = true := by
  unfold good blobOf
  rw [if_pos rfl]
  exact decide_eq_true (h.size f ((sortF_perm fs).mem_iff.1 hf))
theorem blobEnt_inj {a b : List Fi} (ha : OkFs a) (hb : OkFs b) {L : List ByteArray} (hL : Sw.Apart L) (h1 : ∀ t ∈ texts 64 (a.map flOf), t ∈ L) (h2 : ∀ t ∈ texts 64 (b.map flOf), t ∈ L) (h : (sortF a).map blobEnt = (sortF b).map blobEnt) : sortF a = sortF b := by
  refine map_inj_on h (fun x hx y hy e => ?_)
  obtain ⟨p, d⟩ := x
  obtain ⟨q, c⟩ := y
  unfold blobEnt at e
  injection e with e1 _ e3
  simp only at e1 e3
  have h3 := hL _ (h1 _ (ha.blob_in hx)) _ (h2 _ (hb.blob_in hy)) e3
  have h4 := encP_inj (ha.blob_good hx) (hb.blob_good hy) (dec_blob (ha.blob_good hx)) (dec_blob (hb.blob_good hy)) h3
  have h5 : d = c := congrArg (·.data) h4
  rw [e1, h5]
/-- the same tree: the same files -/
theorem same_tree {a b : List Fi} (ha : OkFs a) (hb : OkFs b) (na : a.length ≤ 60) (nb : b.length ≤ 60) {L : List ByteArray} (hL : Sw.Apart L) (h1 : ∀ t ∈ texts 64 (a.map flOf), t ∈ L) (h2 : ∀ t ∈ texts 64 (b.map flOf), t ∈ L) :
    tid 64 (a.map flOf) = tid 64 (b.map flOf) ↔ sortF a = sortF b := by
  constructor
  · intro e
    have hc := srcL_cov hL
    obtain ⟨m, q1⟩ := over_files ha na (G := srcL L) (fun t ht => hc t (h1 t ht))
    obtain ⟨k, q2⟩ := over_files hb nb (G := srcL L) (fun t ht => hc t (h2 t ht))
    rw [e, q2] at q1
    have q3 := congrArg (fun r : Wk × Int => r.1.blobs) q1
    exact blobEnt_inj ha hb hL h1 h2 q3.symm
  · intro e
    have p : a.Perm b := (sortF_perm a).symm.trans (by rw [e]; exact sortF_perm b)
    exact tid_perm 64 ha.apt (p.map flOf)
end Go.Proofs.YtlenfiiocmchdaaGreatDoor
/- What stands at a path of a tree; the files of a folder (plain). -/
namespace Go.Proofs.YtlenfiiocmchdaaGreatDoor
open Go.RowKit Book Pap Ojt Sn
set_option linter.unusedVariables false
set_option linter.unusedSimpArgs false

def subs : List ByteArray → List Fl → List Fl
  | [], fs => fs
  | n :: r, fs => subs r (sub n fs)
theorem subs_nil : ∀ ns : List ByteArray, subs ns [] = []
  | [] => rfl
  | n :: r => subs_nil r
theorem ents_find {ti : List Fl → ByteArray} {fs : List Fl} (n : ByteArray) : ∀ (ns : List ByteArray), (ns.map (entOf ti fs)).find? (fun e => decide (e.name = n)) = if hasN ns n = true then some (entOf ti fs n) else none
  | [] => rfl
  | m :: r => by
    have hm : (entOf ti fs m).name = m := by unfold entOf; split <;> rfl
    rw [List.map_cons]
    by_cases h : m = n
    · subst h
      rw [List.find?_cons_of_pos (by simp [hm]), if_pos (hasN_iff.2 (List.mem_cons_self ..))]
    · rw [List.find?_cons_of_neg (by simp [hm, h]), ents_find n r]
      have : hasN (m :: r) n = hasN r n := by
        rw [Bool.eq_iff_iff, hasN_iff, hasN_iff]
        exact ⟨fun e => (List.mem_cons.1 e).resolve_left (fun e => h e.symm), List.mem_cons_of_mem _⟩
      rw [this]
theorem names_of_sub {n : ByteArray} {fs : List Fl} (h : sub n fs ≠ []) : n ∈ namesF fs := by
  obtain ⟨f, hf⟩ := List.exists_mem_of_ne_nil _ h
  exact mem_names.2 ⟨_, (mem_sub_iff.1 hf).2, rfl⟩
/-- what stands at names -/
structure FindIs (G : Sw.Src) (d : Nat) (fs : List Fl) (ns : List ByteArray) (r : Ent × Int) : Prop where
  dir : subs ns fs ≠ [] → ns.length ≤ d ∧ ∃ nm, r = (⟨nm, 2, tid (d + 1 - ns.length) (subs ns fs)⟩, 0)
  file : ∀ dat, ((ns, dat) : Fl) ∈ fs → ∃ nm, r = (⟨nm, 1, Sw.idOf (encP (blobOf dat))⟩, 0)
  no : subs ns fs = [] → (∀ dat, ((ns, dat) : Fl) ∉ fs) → r = (noEnt, 12)
theorem find_tree {G : Sw.Src} : ∀ (ns : List ByteArray) (d : Nat) (fs : List Fl) (nm : ByteArray), ns ≠ [] → Cov G (texts (d + 1) fs) → AptL fs → (∀ f ∈ fs, f.1.length ≤ d + 1) → GoodFl fs → fs.length ≤ 256 → FindIs G d fs ns (findF G ns ⟨nm, 2, tid (d + 1) fs⟩)
  | [], d, fs, nm, h, _, _, _, _, _ => absurd rfl h
  | n :: r, d, fs, nm, _, hc, ha, hl, hg, hn => by
    have hgt := tree_good d ha hl hg hn
    have hlk : lookK G (tid (d + 1) fs) 2 21 = (treeOf (tents d fs), 0) :=
      lookK_of (x := treeOf (tents d fs)) (hc _ (List.mem_append.2 (.inr (List.mem_singleton.2 rfl)))) hgt (dec_tree hgt) rfl
    have hfd : findF G (n :: r) ⟨nm, 2, tid (d + 1) fs⟩ = if hasN (namesF fs) n = true then findF G r (entOf (tid d) fs n) else (noEnt, 12) := by
      have he := ents_find (ti := tid d) (fs := fs) n (namesF fs)
      show (if (2 : Int) ≠ 2 then _ else if (lookK G (tid (d + 1) fs) 2 21).2 ≠ 0 then _ else match (lookK G (tid (d + 1) fs) 2 21).1.ents.find? (fun e => decide (e.name = n)) with | none => _ | some e => _) = _
      rw [if_neg (by simp), hlk, if_neg (by simp)]
      show (match (tents d fs).find? (fun e => decide (e.name = n)) with | none => (noEnt, (12 : Int)) | some e => findF G r e) = _
      unfold tents
      rw [he]
      cases hasN (namesF fs) n <;> rfl
    rw [hfd]
    by_cases hm : n ∈ namesF fs
    · rw [if_pos (hasN_iff.2 hm)]
      by_cases hs : sub n fs = []
      · -- a file stands at the name
        have hent : entOf (tid d) fs n = ⟨n, 1, Sw.idOf (leafT fs n)⟩ := by unfold entOf; rw [if_pos hs]
        rw [hent]
        have hsub : subs (n :: r) fs = [] := by show subs r (sub n fs) = []; rw [hs]; exact subs_nil r
        cases r with
        | nil =>
          refine ⟨fun h => absurd hsub h, fun dat hd => ⟨n, ?_⟩, fun _ h => ?_⟩
          · show ((⟨n, 1, Sw.idOf (leafT fs n)⟩ : Ent), (0 : Int)) = _
            unfold leafT
            rw [(leafs_val ha).2 hd]; rfl
          · exfalso
            obtain ⟨f, hf, he⟩ := mem_names.1 hm
            obtain ⟨a, b⟩ := f
            cases a with
            | nil => cases he
            | cons a q =>
              cases he
              cases q with
              | nil => exact h b hf
              | cons c q =>
                have : ((c :: q, b) : Fl) ∈ sub n fs := mem_sub_iff.2 ⟨by simp, hf⟩
                rw [hs] at this; cases this
        | cons m r =>
          have h12 : findF G (m :: r) ⟨n, 1, Sw.idOf (leafT fs n)⟩ = (noEnt, 12) := by
            show (if (1 : Int) ≠ 2 then _ else _) = _
            rw [if_pos (by decide)]
          rw [h12]
          refine ⟨fun h => absurd hsub h, fun dat hd => ?_, fun _ _ => rfl⟩
          have : ((m :: r, dat) : Fl) ∈ sub n fs := mem_sub_iff.2 ⟨by simp, hd⟩
          rw [hs] at this; cases this
      · have hent : entOf (tid d) fs n = ⟨n, 2, tid d (sub n fs)⟩ := by unfold entOf; rw [if_neg hs]
        rw [hent]
        obtain ⟨d, rfl⟩ : ∃ k, d = k + 1 := by
          cases d with
          | zero => exact absurd (sub_zero ha hl n) hs
          | succ d => exact ⟨d, rfl⟩
        cases r with
        | nil =>
          refine ⟨fun _ => ⟨by simp, n, rfl⟩, fun dat hd => ?_, fun h => absurd h hs⟩
          exact absurd (ha.lone n (by rw [(leafs_val ha).2 hd]; simp)) hs
        | cons m r =>
          have ih := find_tree (m :: r) d (sub n fs) n (by simp) (cov_sub hc hs) (ha.sub n) (sub_len hl) (hg.sub n) (Nat.le_trans (sub_few n fs) hn)
          refine ⟨fun h => ?_, fun dat hd => ?_, fun h hno => ?_⟩
          · obtain ⟨q1, nm', q2⟩ := ih.dir h
            refine ⟨by rw [List.length_cons]; omega, nm', ?_⟩
            rw [q2, List.length_cons (a := n)]
            have : d + 1 + 1 - ((m :: r).length + 1) = d + 1 - (m :: r).length := by omega
            rw [this]; rfl
          · exact ih.file dat (mem_sub_iff.2 ⟨by simp, hd⟩)
          · exact ih.no h (fun dat hd => hno dat (mem_sub_iff.1 hd).2)
    · rw [if_neg (fun e => hm (hasN_iff.1 e))]
      have hs : sub n fs = [] := Decidable.byContradiction fun h => hm (names_of_sub h)
      refine ⟨fun h => ?_, fun dat hd => ?_, fun _ _ => rfl⟩
      · exfalso; apply h; show subs r (sub n fs) = []; rw [hs]; exact subs_nil r
      · exact absurd (mem_names.2 ⟨_, hd, rfl⟩) hm
/-! files of a folder -/
theorem filterMap_congr' {α β : Type} {f g : α → Option β} : ∀ {l : List α}, (∀ x ∈ l, f x = g x) → l.filterMap f = l.filterMap g
  | [], _ => rfl
  | a :: l, h => by
    have ih := filterMap_congr' (fun x hx => h x (List.mem_cons_of_mem _ hx))
    rw [List.filterMap_cons, List.filterMap_cons, h a (List.mem_cons_self ..), ih]
def cutN (ns : List ByteArray) (f : Fl) : Option Fl := if ns <+: f.1 ∧ ns.length < f.1.length then some (f.1.drop ns.length, f.2) else none
theorem subs_eq : ∀ (ns : List ByteArray) (fs : List Fl), (∀ f ∈ fs, f.1 ≠ []) → subs ns fs = fs.filterMap (cutN ns)
  | [], fs, h => by
    show fs = _
    conv => lhs; rw [← List.filterMap_some (l := fs)]
    refine filterMap_congr' (fun f hf => ?_)
    unfold cutN
    rw [if_pos ⟨List.nil_prefix, List.length_pos_iff.2 (h f hf)⟩]; rfl
  | n :: r, fs, h => by
    show subs r (sub n fs) = _
    rw [subs_eq r (sub n fs) (fun f hf => (mem_sub_iff.1 hf).1)]
    unfold sub
    rw [List.filterMap_filterMap]
    refine filterMap_congr' (fun f hf => ?_)
    obtain ⟨a, b⟩ := f
    rcases a with _ | ⟨a, _ | ⟨c, q⟩⟩
    · exact absurd rfl (h _ hf)
    · unfold subOf cutN
      simp only [List.length_cons, List.length_nil, Option.bind_none]
      rw [if_neg (by omega)]
    · unfold subOf
      simp only
      by_cases e : a = n
      · subst e
        rw [if_pos rfl]
        show cutN r (c :: q, b) = cutN (a :: r) (a :: c :: q, b)
        unfold cutN
        simp only [List.cons_prefix_cons, List.length_cons, true_and, List.drop_succ_cons]
        by_cases hh : r <+: c :: q ∧ r.length < q.length + 1
        · rw [if_pos hh, if_pos ⟨hh.1, by omega⟩]
        · rw [if_neg hh, if_neg (fun e => hh ⟨e.1, by omega⟩)]
      · rw [if_neg e]
        unfold cutN
        rw [if_neg (fun hh => e (List.cons_prefix_cons.1 hh.1).1.symm)]; rfl
end Go.Proofs.YtlenfiiocmchdaaGreatDoor
/- Layer 15's laws: whether items or files are more than is asked: vast, great. -/
namespace Go.Proofs.YtlenfiiocmchdaaGreatDoor
open Go.RowKit Book Pap Ojt Sn
set_option linter.unusedVariables false
set_option linter.unusedSimpArgs false

def sumF (l : List Fi) : Nat := (l.map (fun f : Fi => f.path.size + f.data.size)).sum
theorem sumF_snoc (l : List Fi) (f : Fi) : sumF (l ++ [f]) = sumF l + (f.path.size + f.data.size) := by unfold sumF; simp
/-- true, or no more than is asked -/
def MuchOut (m n : Nat) (fs : List Fi) (w : World) (e : Ending) (w' : World) : Prop := ∃ r : Bool, e = .returned (.bool r) ∧ Below w.heap.size w w' ∧ (r = false → n ≤ 60 ∧ sumF fs ≤ m)
set_option maxRecDepth 100000 in
set_option maxHeartbeats 4000000 in
theorem great_any (a : Option Addr) (n c : Nat) (fs : List Fi) (w : World) (h : FisAt w a n fs) (hz : ∀ f ∈ fs, f.path.size ≤ 140737488355328 ∧ f.data.size ≤ 140737488355328) :
    Calls Tryz.prog 28 #[.slice a n c] w (MuchOut 131072 n fs w) := by
  obtain ⟨h1, h2, h3⟩ := h
  have HL := hid h1
  have HZ := hid hz
  clear hz
  by_cases hbig : 60 < n
  · have ci : (60 : Int) < n := by omega
    go_enter Tryz.func28, Tryz.ntmps28
    go_wp2_with fail
    go_ret
    exact ⟨true, rfl, Below.refl _ _, fun h => by cases h⟩
  have ci : ¬ (60 : Int) < n := by omega
  go_enter Tryz.func28, Tryz.ntmps28
  go_wp2_with fail
  clear ci
  go_loopw [3, 4] (fun sv iv wr => ∃ i s : Nat, i ≤ n ∧ iv = .int .i64 i ∧ sv = .int .i64 s ∧ s ≤ 1048576 ∧ Hid (sumF (fs.take i) = s) ∧ Hid (Below w.heap.size w wr)) (fun _ iv _ => n - (intOf iv).toNat)
  case atStart => exact ⟨0, 0, Nat.zero_le _, rfl, rfl, by omega, rfl, Below.refl _ _⟩
  case round =>
    obtain ⟨i, s, hi, rfl, rfl, hs, HS, HB⟩ := hrel
    by_cases hlt : i < n
    · obtain ⟨b, off, rfl, hc⟩ := h3.resolve_left (by omega)
      have ci : (i : Int) < n := by omega
      have ci0 : (0 : Int) ≤ (i : Int) := by omega
      obtain ⟨k0, k1⟩ := hc i hlt
      have bl : b < w.heap.size := World.block_lt_of_cell? w _ k0
      have q0 := (HB.out.cell (p := ⟨b, off + i * 2, none⟩) bl).trans k0
      have q1 := (HB.out.cell (p := ⟨b, off + i * 2 + 1, none⟩) bl).trans k1
      have hl : i < fs.length := by rw [HL.out]; exact hlt
      have HT : Hid (fs.take (i + 1) = fs.take i ++ [fs.getD i noFi]) := by
        show _ = _
        rw [List.take_succ_eq_append_getElem hl, List.getD_eq_getElem?_getD, List.getElem?_eq_getElem hl]; rfl
      have HMM : fs.getD i noFi ∈ fs := by
        rw [List.getD_eq_getElem?_getD, List.getElem?_eq_getElem hl]; exact List.getElem_mem hl
      obtain ⟨x, hx⟩ : ∃ x, fs.getD i noFi = x := ⟨_, rfl⟩
      rw [hx] at q0 q1 HT HMM
      obtain ⟨p, dd⟩ := x
      obtain ⟨hp1, hp2⟩ := HZ.out _ HMM
      simp only at q0 q1 hp1 hp2
      clear hx k0 k1 hc hl HMM
      have e1 : IntKind.i64.wrap ((p.size : Int) + dd.size) = (p.size : Int) + dd.size := by rw [IntKind.wrap_i64]; omega
      have e2 : IntKind.i64.wrap ((s : Int) + ((p.size : Int) + dd.size)) = (s : Int) + ((p.size : Int) + dd.size) := by rw [IntKind.wrap_i64]; omega
      have HS2 : Hid (sumF (fs.take (i + 1)) = s + (p.size + dd.size)) := by
        show _ = _
        rw [HT.out, sumF_snoc, HS.out]
      by_cases hgt : 1048576 < s + (p.size + dd.size)
      · have g1 : (1048576 : Int) < (s : Int) + ((p.size : Int) + dd.size) := by omega
        go_upto_region 7 with fail
        go_region
        all_goals
          go_wp2_with fail
          go_ret
          exact ⟨true, rfl, by first | exact HB.out | exact HB.out.drew, fun h => by cases h⟩
      · have g1 : ¬ (1048576 : Int) < (s : Int) + ((p.size : Int) + dd.size) := by omega
        go_upto_region 7 with fail
        go_region
        all_goals
          go_wp2_with fail
          refine ⟨⟨i + 1, s + (p.size + dd.size), by omega, by go_num, by push_cast; rfl, by omega, HS2, by first | exact HB.out | exact HB.out.drew⟩, ?_⟩
          simp [intOf]; omega
    · obtain rfl : i = n := by omega
      have ci : ¬ (i : Int) < i := by omega
      have hall : fs.take i = fs := List.take_of_length_le (by rw [HL.out]; exact Nat.le_refl _)
      have HSA : Hid (sumF fs = s) := by have h := HS.out; rw [hall] at h; exact h
      clear HS hall
      by_cases hf : 131072 < s
      · have g1 : (131072 : Int) < (s : Int) := by omega
        go_wp2_with fail
        go_ret
        exact ⟨true, rfl, HB.out, fun h => by cases h⟩
      · have g1 : ¬ (131072 : Int) < (s : Int) := by omega
        go_wp2_with fail
        go_ret
        exact ⟨false, rfl, HB.out, fun _ => ⟨by omega, by rw [HSA.out]; omega⟩⟩
end Go.Proofs.YtlenfiiocmchdaaGreatDoor
/- Layer 15's laws: a Book as a source; ref14.Get. -/
namespace Go.Proofs.YtlenfiiocmchdaaGreatDoor
open Go.RowKit Book Pap Ojt Sn
set_option linter.unusedVariables false
set_option linter.unusedSimpArgs false

/-- the bytes of an id in a list of items -/
def getF (l : List Fi) : Sw.Src := fun id => (l.find? (fun f => decide (f.path = id))).map (·.data)
theorem getF_hit {l : List Fi} {k : Nat} {id : ByteArray} (hk : k < l.length) (h : ∀ j, j < k → (l.getD j noFi).path ≠ id) (hp : (l.getD k noFi).path = id) : getF l id = some (l.getD k noFi).data := by
  induction l generalizing k with
  | nil => simp at hk
  | cons f r ih =>
    cases k with
    | zero =>
      have hp : f.path = id := hp
      show ((f :: r).find? _).map _ = _
      rw [List.find?_cons_of_pos (by simp [hp])]; rfl
    | succ k =>
      have h0 : f.path ≠ id := h 0 (by omega)
      show ((f :: r).find? _).map _ = _
      rw [List.find?_cons_of_neg (by simp [h0])]
      exact ih (k := k) (by simp only [List.length_cons] at hk; omega) (fun j hj => h (j + 1) (by omega)) hp
theorem getF_miss {l : List Fi} {id : ByteArray} (h : ∀ j, j < l.length → (l.getD j noFi).path ≠ id) : getF l id = none := by
  induction l with
  | nil => rfl
  | cons f r ih =>
    have h0 : f.path ≠ id := h 0 (by simp)
    show ((f :: r).find? _).map _ = _
    rw [List.find?_cons_of_neg (by simp [h0])]
    exact ih (fun j hj => h (j + 1) (by simp only [List.length_cons]; omega))
set_option maxRecDepth 100000 in
set_option maxHeartbeats 4000000 in
theorem r14get_any (a : Option Addr) (n c : Nat) (fs : List Fi) (id : ByteArray) (w : World) (h : FisAt w a n fs) :
    Calls Tryz.prog 67 #[.slice a n c, .string id] w (GetOut (getF fs) id w) := by
  obtain ⟨h1, h2, h3⟩ := h
  have HL := hid h1
  go_enter Tryz.func67, Tryz.ntmps67
  go_wp2_with fail
  go_loopw [6] (fun iv wr => ∃ i : Nat, i ≤ n ∧ iv = .int .i64 i ∧ w = wr ∧ Hid (∀ j, j < i → (fs.getD j noFi).path ≠ id)) (fun iv _ => n - (intOf iv).toNat)
  case atStart => exact ⟨0, Nat.zero_le _, rfl, rfl, fun j hj => by omega⟩
  case round =>
    obtain ⟨i, hi, rfl, rfl, HN⟩ := hrel
    by_cases hlt : i < n
    · obtain ⟨b, off, rfl, hc⟩ := h3.resolve_left (by omega)
      have ci : (i : Int) < n := by omega
      have ci0 : (0 : Int) ≤ (i : Int) := by omega
      obtain ⟨q0, q1⟩ := hc i hlt
      have hl : i < fs.length := by rw [HL.out]; exact hlt
      obtain ⟨x, hx⟩ : ∃ x, fs.getD i noFi = x := ⟨_, rfl⟩
      rw [hx] at q0 q1
      have HX := hid hx
      obtain ⟨p, dd⟩ := x
      simp only at q0 q1
      clear hx hc
      by_cases he : p = id
      · have HR : Hid (getF fs id = some dd) := by
          have h := getF_hit (id := id) hl HN.out (by rw [HX.out]; exact he)
          rw [HX.out] at h; exact h
        have e1 : (p.toList == id.toList) = true := by rw [he]; simp
        clear hl he
        go_wp2_with fail
        go_ret2
        unfold GetOut
        rw [HR.out]
        exact ⟨rfl, Below.refl _ _⟩
      · have e1 : (p.toList == id.toList) = false := by
          rw [ba_toList, ba_toList, beq_eq_false_iff_ne]
          exact fun e => he (ba_ext e)
        have HN2 : Hid (∀ j, j < i + 1 → (fs.getD j noFi).path ≠ id) := fun j hj => by
          by_cases hji : j = i
          · subst hji; rw [HX.out]; exact he
          · exact HN.out j (by omega)
        clear hl he
        go_wp2_with fail
        go_roundw
        case rel => first | exact ⟨i + 1, by omega, by go_num, by first | rfl | trivial, HN2⟩ | ((repeat apply Exists.intro); exact ⟨⟨i + 1, by omega, by go_num, by first | rfl | trivial, HN2⟩, rfl⟩)
        case measure => simp [intOf]; omega
    · obtain rfl : i = n := by omega
      have ci : ¬ (i : Int) < i := by omega
      have HR : Hid (getF fs id = none) := getF_miss (fun j hj => HN.out j (by rw [← HL.out]; exact hj))
      go_wp2_with fail
      go_ret2
      unfold GetOut
      rw [HR.out]
      exact ⟨rfl, Below.refl _ _⟩
/-- a Book in memory -/
def BookAt (w : World) (bb : Nat) (fs : List Fi) : Prop := ∃ a n c, Blk w bb 31 #[.slice a n c] ∧ FisAt w a n fs
theorem BookAt.later {w w' : World} {bb : Nat} {fs : List Fi} (h : BookAt w bb fs) (hb : Below w.heap.size w w') : BookAt w' bb fs := by
  obtain ⟨a, n, c, h1, h2⟩ := h
  exact ⟨a, n, c, (hb.block bb (Blk.lt h1)).trans h1, h2.later hb⟩
theorem bookget_any (bb : Nat) (fs : List Fi) (id : ByteArray) (w : World) (h : BookAt w bb fs) :
    Calls Tryz.prog 306 #[.pointer (some ⟨bb, 0, none⟩), .string id] w (GetOut (getF fs) id w) := by
  obtain ⟨a, n, c, h1, h2⟩ := h
  have k0 : w.cell? ⟨bb, 0, none⟩ = some (.slice a n c) := Blk.cell h1 0
  have HG := hid (r14get_any a n c fs id w h2)
  clear h1 h2
  go_enter Tryz.func306, Tryz.ntmps306
  go_wp2_with fail
  refine HG.out.mono ?_; rintro e w1 ⟨rfl, hb⟩
  have HB := hid hb
  clear hb
  go_wp2_with fail
  go_ret2
  exact ⟨rfl, HB.out⟩
theorem book_src (bb : Nat) (fs : List Fi) (w : World) (h : BookAt w bb fs) : SrcAt w 29 (.pointer (some ⟨bb, 0, none⟩)) (getF fs) :=
  ⟨306, .pointer (some ⟨bb, 0, none⟩), fun W => by kernel_rfl, enters_of Tryz.func306 (by kernel_rfl) rfl, fun id W hW => bookget_any bb fs id W (h.later hW)⟩
end Go.Proofs.YtlenfiiocmchdaaGreatDoor
/- The statement on folders, plain: what stands at a folder's path is the tree of the files in it. -/
namespace Go.Proofs.YtlenfiiocmchdaaGreatDoor
open Go.RowKit Book Pap Ojt Sn
set_option linter.unusedVariables false
set_option linter.unusedSimpArgs false

/-- a file's path below a folder's -/
def stripF (p : ByteArray) (f : Fi) : Fi := ⟨f.path.extract (p.size + 1) f.path.size, f.data⟩
def inOne (p : ByteArray) (f : Fi) : Option Fi := if withinR p.data.toList f.path.data.toList = true then some (stripF p f) else none
/-- the files in a folder -/
def inF (p : ByteArray) (fs : List Fi) : List Fi := fs.filterMap (inOne p)
theorem extract_drop (s : ByteArray) (k : Nat) : (s.extract k s.size).data.toList = s.data.toList.drop k := by
  rw [Lib.extract_data]
  have : s.data.toList.length = s.size := Array.length_toList
  rw [List.take_of_length_le (by rw [List.length_drop]; omega)]
theorem strip_cut {p f : List UInt8} (hp : splitE p = 0) (hf : splitE f = 0) (h : withinR p f = true) : ∃ r, f = p ++ 47 :: r ∧ pieces f = pieces p ++ pieces r := by
  rw [← within_eq hp hf] at h
  unfold Lib.hasPrefix at h
  rw [List.isPrefixOf_iff_prefix] at h
  obtain ⟨r, hr⟩ := h
  refine ⟨r, by rw [← hr]; simp, ?_⟩
  rw [← hr, List.append_assoc, List.singleton_append, pieces_app]
theorem strip_data {p : ByteArray} {f : Fi} {r : List UInt8} (h : f.path.data.toList = p.data.toList ++ 47 :: r) : (stripF p f).path.data.toList = r := by
  unfold stripF
  simp only
  rw [extract_drop, h]
  have : p.data.toList.length = p.size := Array.length_toList
  have e1 : p.data.toList ++ 47 :: r = (p.data.toList ++ [47]) ++ r := by simp
  have e2 : p.size + 1 = (p.data.toList ++ [47]).length := by rw [List.length_append, this]; rfl
  rw [e1, e2, List.drop_left]
theorem within_list {p f : List UInt8} (hp : splitE p = 0) (hf : splitE f = 0) : withinR p f = true ↔ pieces p <+: pieces f ∧ (pieces p).length < (pieces f).length := by
  rw [withinR_ok hp hf, decide_eq_true_eq, List.prefix_iff_eq_take, and_comm]
theorem cut_one {p : ByteArray} {f : Fi} (hp : splitE p.data.toList = 0) (hf : splitE f.path.data.toList = 0) : cutN ((pieces p.data.toList).map bz) (flOf f) = (inOne p f).map flOf := by
  have hiff : ((pieces p.data.toList).map bz <+: (flOf f).1 ∧ ((pieces p.data.toList).map bz).length < (flOf f).1.length) ↔ withinR p.data.toList f.path.data.toList = true := by
    rw [within_list hp hf]
    unfold flOf
    rw [List.length_map, List.length_map]
    refine and_congr ⟨map_bz_inj, fun ⟨t, ht⟩ => ⟨t.map bz, by rw [← ht, List.map_append]⟩⟩ Iff.rfl
  unfold cutN inOne
  by_cases h : withinR p.data.toList f.path.data.toList = true
  · rw [if_pos (hiff.2 h), if_pos h]
    obtain ⟨r, h1, h2⟩ := strip_cut hp hf h
    show some _ = some _
    congr 1
    unfold flOf
    simp only
    rw [strip_data h1, h2, List.map_append, List.length_map]
    refine Prod.ext ?_ rfl
    show ((pieces p.data.toList).map bz ++ (pieces r).map bz).drop (pieces p.data.toList).length = _
    rw [List.drop_append_of_le_length (by simp)]
    simp
  · rw [if_neg (fun e => h (hiff.1 e)), if_neg h]; rfl
theorem subs_in {p : ByteArray} {fs : List Fi} (hp : splitE p.data.toList = 0) (h : OkFs fs) : subs ((pieces p.data.toList).map bz) (fs.map flOf) = (inF p fs).map flOf := by
  rw [subs_eq _ _ h.apt.1, List.filterMap_map]
  unfold inF
  rw [List.map_filterMap]
  exact filterMap_congr' (fun f hf => cut_one hp (h.split f hf))
theorem OkFs.inF {p : ByteArray} {fs : List Fi} (hp : splitE p.data.toList = 0) (h : OkFs fs) : OkFs (inF p fs) := by
  have key : ∀ f ∈ fs, ∀ g, inOne p f = some g → ∃ r, f.path.data.toList = p.data.toList ++ 47 :: r ∧ pieces f.path.data.toList = pieces p.data.toList ++ pieces r ∧ g.path.data.toList = r ∧ g.data = f.data ∧ splitE r = 0 := by
    intro f hf g hg
    unfold inOne at hg
    split at hg
    · rename_i hw
      cases hg
      obtain ⟨r, h1, h2⟩ := strip_cut hp (h.split f hf) hw
      refine ⟨r, h1, h2, strip_data h1, rfl, ?_⟩
      obtain ⟨q1, q2, q3⟩ := check_pieces (h.split f hf)
      refine checkE_ok.2 ⟨pieces_ne r, fun x hx => q2 x (by rw [h2]; exact List.mem_append.2 (.inr hx)), ?_⟩
      rw [h2, List.length_append] at q3
      omega
    · cases hg
  refine ⟨Nat.le_trans (List.length_filterMap_le ..) h.few, fun g hg => ?_, ?_, fun g hg => ?_⟩
  · obtain ⟨f, hf, e⟩ := List.mem_filterMap.1 hg
    obtain ⟨r, -, -, h3, -, h5⟩ := key f hf g e
    rw [h3]; exact h5
  · unfold Go.Proofs.YtlenfiiocmchdaaGreatDoor.inF
    rw [List.pairwise_filterMap]
    refine List.Pairwise.imp_of_mem ?_ h.off
    intro f f' hf hf' hap g hg g' hg'
    obtain ⟨r, h1, h2, h3, -, h5⟩ := key f hf g hg
    obtain ⟨r', h1', h2', h3', -, h5'⟩ := key f' hf' g' hg'
    rw [h3, h3']
    obtain ⟨n1, n2, n3⟩ := apart_off hap
    have lift : ∀ {x y : List UInt8}, splitE x = 0 → splitE y = 0 → ∀ {a b : List UInt8}, splitE a = 0 → splitE b = 0 → pieces a = pieces p.data.toList ++ pieces x → pieces b = pieces p.data.toList ++ pieces y → withinR a b = false → withinR x y = false := by
      intro x y hx hy a b hA hB ea eb hw
      rw [Bool.eq_false_iff] at hw ⊢
      intro hxy
      apply hw
      rw [within_list hx hy] at hxy
      rw [within_list hA hB, ea, eb]
      exact ⟨(List.prefix_append_right_inj _).2 hxy.1, by rw [List.length_append, List.length_append]; omega⟩
    refine ⟨fun e => n1 (by rw [h1, h1', e]), ?_⟩
    unfold meets
    rw [Bool.or_eq_false_iff]
    exact ⟨lift h5 h5' (h.split f hf) (h.split f' hf') h2 h2' n2, lift h5' h5 (h.split f' hf') (h.split f hf) h2' h2 n3⟩
  · obtain ⟨f, hf, e⟩ := List.mem_filterMap.1 hg
    obtain ⟨r, -, -, -, h4, -⟩ := key f hf g e
    rw [h4]; exact h.size f hf
theorem mem_flOf {p : ByteArray} {dat : ByteArray} {fs : List Fi} : (((pieces p.data.toList).map bz, dat) : Fl) ∈ fs.map flOf ↔ (⟨p, dat⟩ : Fi) ∈ fs := by
  rw [List.mem_map]
  constructor
  · rintro ⟨f, hf, e⟩
    have h1 : (pieces f.path.data.toList).map bz = (pieces p.data.toList).map bz := congrArg Prod.fst e
    have h2 : f.data = dat := congrArg Prod.snd e
    have h3 : pathOf ((pieces f.path.data.toList).map bz) = pathOf ((pieces p.data.toList).map bz) := by rw [h1]
    have h4 : f.path = p := by
      have a := flOf_path f
      have b := flOf_path (⟨p, dat⟩ : Fi)
      unfold flOf at a b
      simp only at a b
      rw [a, b] at h3; exact h3
    rw [← h4, ← h2]; exact hf
  · intro h
    exact ⟨_, h, rfl⟩
/-- what stands at a path, of a commit of files -/
structure FoldIs (fs : List Fi) (p : ByteArray) (r : Ent × Int) : Prop where
  dir : inF p fs ≠ [] → OkFs (inF p fs) ∧ r.2 = 0 ∧ r.1.kind = 2 ∧ r.1.id = tid 64 ((inF p fs).map flOf)
  file : inF p fs = [] → (∃ f ∈ fs, f.path = p) → r.2 = 0 ∧ r.1.kind = 1
  no : inF p fs = [] → (¬ ∃ f ∈ fs, f.path = p) → r.2 ≠ 0
theorem folders_plain {G : Sw.Src} {fs : List Fi} {p cid : ByteArray} {x : Ob} (h : OkFs fs) (hne : p.size ≠ 0) (hc : Cov G (texts 64 (fs.map flOf))) (hl : lookK G cid 3 12 = (x, 0)) (hx : x.tree = tid 64 (fs.map flOf)) : FoldIs fs p (findS G cid p) := by
  by_cases hp : splitE p.data.toList = 0
  · have hf : findS G cid p = findF G ((pieces p.data.toList).map bz) ⟨ByteArray.empty, 2, tid 64 (fs.map flOf)⟩ := by
      unfold findS
      rw [if_neg (fun e => e.2 hp), hl, if_neg (by simp), if_neg hne, hx]
    rw [hf]
    have hns : (pieces p.data.toList).map bz ≠ [] := fun e => pieces_ne _ (List.map_eq_nil_iff.1 e)
    have hq := find_tree (G := G) _ 63 (fs.map flOf) ByteArray.empty hns hc h.apt h.len h.goodFl (by rw [List.length_map]; exact h.few)
    have hs := subs_in hp h
    have hin := OkFs.inF hp h
    refine ⟨fun hi => ⟨hin, ?_⟩, fun hi hfile => ?_, fun hi hno => ?_⟩
    · obtain ⟨h1, nm, h2⟩ := hq.dir (by rw [hs]; exact fun e => hi (List.map_eq_nil_iff.1 e))
      rw [h2]
      refine ⟨rfl, rfl, ?_⟩
      show tid (63 + 1 - _) _ = _
      rw [hs]
      obtain ⟨k, hk⟩ : ∃ k, ((pieces p.data.toList).map bz).length + k = 63 := ⟨63 - ((pieces p.data.toList).map bz).length, by omega⟩
      have e1 : 63 + 1 - ((pieces p.data.toList).map bz).length = k + 1 := by omega
      have e2 : k + 1 + ((pieces p.data.toList).map bz).length = 64 := by omega
      rw [e1, ← e2]
      refine tid_depth k _ _ hin.apt (fun f hf => ?_)
      rw [← hs, subs_eq _ _ h.apt.1] at hf
      obtain ⟨g, hg, e⟩ := List.mem_filterMap.1 hf
      unfold cutN at e
      split at e
      · cases e
        have := h.len g hg
        rw [List.length_drop]; omega
      · cases e
    · obtain ⟨f, hmem, rfl⟩ := hfile
      obtain ⟨nm, h2⟩ := hq.file f.data (mem_flOf.2 hmem)
      rw [h2]; exact ⟨rfl, rfl⟩
    · rw [hq.no (by rw [hs, hi]; rfl) (fun dat hd => hno ⟨_, mem_flOf.1 hd, rfl⟩)]
      decide
  · have hin : inF p fs = [] := by
      unfold inF
      rw [List.filterMap_eq_nil_iff]
      intro f hf
      unfold inOne
      rw [within_no (.inl hp)]; rfl
    have hz : p.size ≠ 0 ∧ splitE p.data.toList ≠ 0 := ⟨hne, hp⟩
    refine ⟨fun e => absurd hin e, fun _ ⟨f, hf, e⟩ => absurd (h.split f hf) (by rw [e]; exact hp), fun _ _ => ?_⟩
    unfold findS
    rw [if_pos hz]; exact hp
/-! objects as items -/
def itemsS (l : List ByteArray) : List Fi := l.map (fun t => ⟨Sw.idOf t, t⟩)
theorem items_cov {l : List ByteArray} (h : Sw.Apart l) : Cov (getF (itemsS l)) l := fun t ht => by
  unfold getF itemsS
  rw [List.find?_map]
  have h1 := srcL_cov h t ht
  unfold srcL at h1
  show (Option.map _ (l.find? (fun x => decide (Sw.idOf x = Sw.idOf t)))).map _ = _
  rw [h1]; rfl
/-- a commit of files -/
theorem commit_ok {G : Sw.Src} {fs : List Fi} {note : ByteArray} (h : OkFs fs) (hn : note.size ≤ 1000) : commitS G fs [] note = (layS (treeS 64 (fs.map flOf) []).1 (commitOf (tid 64 (fs.map flOf)) [] 0 note), 0) := by
  have hb : buildS fs = (treeS 64 (fs.map flOf) [], 0) := by unfold buildS; rw [if_pos ((checkF_iff fs).2 h)]
  have hh : highS G [] = ([], 0) := by unfold highS; rw [if_neg (by simp), if_neg (by simp)]; rfl
  unfold commitS
  rw [hb, hh, if_neg (by simp), if_neg (by simp), if_neg (by decide), if_neg (by omega), (treeS_mem 64 _ []).1]
  have e : sortB [] = [] := by unfold sortB; simp
  rw [e]; rfl
theorem commit_good {fs : List Fi} {note : ByteArray} (hn : note.size ≤ 1000) : good (commitOf (tid 64 (fs.map flOf)) [] 0 note) = true := by
  have h1 : (tid 64 (fs.map flOf)).size = 32 := idOf_size _
  unfold good commitOf
  simp only
  rw [if_neg (by decide), if_neg (by decide), if_pos trivial]
  unfold Ojt.goodCommit goodPars
  simp [h1, hn, risingB]
theorem commit_mem {fs : List Fi} {note t : ByteArray} : t ∈ (layS (treeS 64 (fs.map flOf) []).1 (commitOf (tid 64 (fs.map flOf)) [] 0 note)).1 ↔ t ∈ texts 64 (fs.map flOf) ∨ t = encP (commitOf (tid 64 (fs.map flOf)) [] 0 note) := by
  rw [layS_mem, (treeS_mem 64 _ []).2]
  simp
theorem commit_look {G : Sw.Src} {fs : List Fi} {note : ByteArray} (hn : note.size ≤ 1000) (hc : G (Sw.idOf (encP (commitOf (tid 64 (fs.map flOf)) [] 0 note))) = some (encP (commitOf (tid 64 (fs.map flOf)) [] 0 note))) (lacks : Int) :
    lookK G (Sw.idOf (encP (commitOf (tid 64 (fs.map flOf)) [] 0 note))) 3 lacks = (commitOf (tid 64 (fs.map flOf)) [] 0 note, 0) :=
  lookK_of hc (commit_good hn) (dec_commit (commit_good hn)) rfl
theorem commit_list {G : Sw.Src} {fs : List Fi} {note : ByteArray} (h : OkFs fs) (h60 : fs.length ≤ 60) (hn : note.size ≤ 1000) (hc : Cov G (layS (treeS 64 (fs.map flOf) []).1 (commitOf (tid 64 (fs.map flOf)) [] 0 note)).1) :
    listS G (Sw.idOf (encP (commitOf (tid 64 (fs.map flOf)) [] 0 note))) = ((sortF fs).map blobEnt, 0) := by
  obtain ⟨m, ho⟩ := over_files h h60 (G := G) (fun t ht => hc t (commit_mem.2 (.inl ht)))
  unfold listS
  rw [commit_look hn (hc _ (commit_mem.2 (.inr rfl))) 12, if_neg (by simp)]
  show (if (overS G 66 (tid 64 (fs.map flOf)) [] ⟨0, []⟩).2 ≠ 0 then _ else ((overS G 66 (tid 64 (fs.map flOf)) [] ⟨0, []⟩).1.blobs, (0 : Int))) = _
  rw [ho, if_neg (by simp)]
end Go.Proofs.YtlenfiiocmchdaaGreatDoor
/- The statement on differences, plain: put on the first one's files they give the second one's; turned round they are turned. -/
namespace Go.Proofs.YtlenfiiocmchdaaGreatDoor
open Go.RowKit Book Pap Ojt Sn
set_option linter.unusedVariables false
set_option linter.unusedSimpArgs false

/-- the id of a name -/
def idl (l : List Ent) (q : ByteArray) : Option ByteArray := (l.find? (fun e => decide (e.name = q))).map (·.id)
def wasOf (l : List Ent) (q : ByteArray) : ByteArray := (idl l q).getD ByteArray.empty
theorem idl_hit {y : Ent} {r : List Ent} {q : ByteArray} (h : y.name = q) : idl (y :: r) q = some y.id := by
  unfold idl; rw [List.find?_cons_of_pos (by simp [h])]; rfl
theorem idl_miss {y : Ent} {r : List Ent} {q : ByteArray} (h : y.name ≠ q) : idl (y :: r) q = idl r q := by
  unfold idl; rw [List.find?_cons_of_neg (by simp [h])]
theorem idl_none {l : List Ent} {q : ByteArray} : idl l q = none ↔ q ∉ l.map (·.name) := by
  induction l with
  | nil => simp [idl]
  | cons y r ih =>
    by_cases h : y.name = q
    · rw [idl_hit h]; simp [h]
    · rw [idl_miss h, ih, List.map_cons, List.mem_cons]
      exact ⟨fun h1 e => e.elim (fun e => h e.symm) h1, fun h1 e => h1 (.inr e)⟩
theorem idl_some {l : List Ent} (hn : (l.map (·.name)).Nodup) {y : Ent} (hy : y ∈ l) : idl l y.name = some y.id := by
  induction l with
  | nil => cases hy
  | cons z r ih =>
    rw [List.map_cons] at hn
    obtain ⟨h1, h2⟩ := List.nodup_cons.1 hn
    rcases List.mem_cons.1 hy with rfl | hy
    · exact idl_hit rfl
    · have hne : z.name ≠ y.name := fun e => h1 (by rw [e]; exact List.mem_map.2 ⟨y, hy, rfl⟩)
      rw [idl_miss hne]; exact ih h2 hy
theorem idl_in {l : List Ent} {q i : ByteArray} (h : idl l q = some i) : ∃ y ∈ l, y.name = q ∧ y.id = i := by
  unfold idl at h
  cases hf : l.find? (fun e => decide (e.name = q)) with
  | none => rw [hf] at h; cases h
  | some y =>
    rw [hf] at h
    cases h
    exact ⟨y, List.mem_of_find?_eq_some hf, of_decide_eq_true (by simpa using List.find?_some hf), rfl⟩
theorem tabA_val : ∀ (l : List Ent) (f : ByteArray → Option Ch) (q : ByteArray), (l.map (·.name)).Nodup → l.foldl putA f q = match idl l q with | some i => some ⟨q, i, ByteArray.empty⟩ | none => f q
  | [], f, q, _ => rfl
  | y :: r, f, q, h => by
    rw [List.map_cons] at h
    obtain ⟨h1, h2⟩ := List.nodup_cons.1 h
    rw [List.foldl_cons, tabA_val r _ q h2]
    by_cases hq : y.name = q
    · subst hq
      rw [idl_none.2 h1, idl_hit rfl]
      show putA f y y.name = _
      unfold putA; rw [if_pos rfl]
    · rw [idl_miss hq]
      cases idl r q with
      | some i => rfl
      | none =>
        show putA f y q = f q
        unfold putA; rw [if_neg (fun e => hq e.symm)]
theorem tabB_val : ∀ (l : List Ent) (f : ByteArray → Option Ch) (q : ByteArray), (l.map (·.name)).Nodup → l.foldl putB f q = match idl l q with | some i => some ⟨q, ((f q).getD noCh).was, i⟩ | none => f q
  | [], f, q, _ => rfl
  | y :: r, f, q, h => by
    rw [List.map_cons] at h
    obtain ⟨h1, h2⟩ := List.nodup_cons.1 h
    rw [List.foldl_cons, tabB_val r _ q h2]
    by_cases hq : y.name = q
    · subst hq
      rw [idl_none.2 h1, idl_hit rfl]
      show putB f y y.name = _
      unfold putB; rw [if_pos rfl]
    · rw [idl_miss hq]
      have e : putB f y q = f q := by unfold putB; rw [if_neg (fun e => hq e.symm)]
      rw [e]
theorem tab_iff {l m : List Ent} (hl : (l.map (·.name)).Nodup) (hm : (m.map (·.name)).Nodup) (c : Ch) :
    (tabD l m c.path = some c ∧ c.was ≠ c.is) ↔ (c.was = wasOf l c.path ∧ c.is = wasOf m c.path ∧ c.was ≠ c.is) := by
  obtain ⟨p, wa, is⟩ := c
  simp only
  unfold tabD wasOf
  rw [tabB_val m _ p hm, tabA_val l _ p hl]
  cases hm1 : idl m p with
  | some i =>
    cases hl1 : idl l p with
    | some j =>
      constructor
      · rintro ⟨h1, h3⟩
        have h1 : (⟨p, j, i⟩ : Ch) = ⟨p, wa, is⟩ := Option.some.inj h1
        injection h1 with _ e1 e2
        exact ⟨e1.symm, e2.symm, h3⟩
      · rintro ⟨h1, h2, h3⟩
        subst h1; subst h2
        exact ⟨rfl, h3⟩
    | none =>
      constructor
      · rintro ⟨h1, h3⟩
        have h1 : (⟨p, ByteArray.empty, i⟩ : Ch) = ⟨p, wa, is⟩ := Option.some.inj h1
        injection h1 with _ e1 e2
        exact ⟨e1.symm, e2.symm, h3⟩
      · rintro ⟨h1, h2, h3⟩
        subst h1; subst h2
        exact ⟨rfl, h3⟩
  | none =>
    cases hl1 : idl l p with
    | some j =>
      constructor
      · rintro ⟨h1, h3⟩
        have h1 : (⟨p, j, ByteArray.empty⟩ : Ch) = ⟨p, wa, is⟩ := Option.some.inj h1
        injection h1 with _ e1 e2
        exact ⟨e1.symm, e2.symm, h3⟩
      · rintro ⟨h1, h2, h3⟩
        subst h1; subst h2
        exact ⟨rfl, h3⟩
    | none =>
      constructor
      · rintro ⟨h1, h3⟩
        cases h1
      · rintro ⟨h1, h2, h3⟩
        exact absurd (h1.trans h2.symm) h3
theorem diff_mem {l m : List Ent} {D : List Ch} (hl : (l.map (·.name)).Nodup) (hm : (m.map (·.name)).Nodup) (h : IsDiff l m D) (c : Ch) : c ∈ D ↔ (c.was = wasOf l c.path ∧ c.is = wasOf m c.path ∧ c.was ≠ c.is) :=
  (h.2 c).trans (tab_iff hl hm c)
def swapC (c : Ch) : Ch := ⟨c.path, c.is, c.was⟩
theorem diff_swap {l m : List Ent} {D R : List Ch} (hl : (l.map (·.name)).Nodup) (hm : (m.map (·.name)).Nodup) (h : IsDiff l m D) (k : IsDiff m l R) : R = D.map swapC := by
  refine k.one ⟨?_, fun c => ?_⟩
  · rw [List.pairwise_map]; exact h.1
  · rw [tab_iff hm hl c]
    constructor
    · intro hc
      obtain ⟨d, hd, rfl⟩ := List.mem_map.1 hc
      obtain ⟨h1, h2, h3⟩ := (diff_mem hl hm h d).1 hd
      exact ⟨h2, h1, fun e => h3 e.symm⟩
    · rintro ⟨h1, h2, h3⟩
      refine List.mem_map.2 ⟨swapC c, (diff_mem hl hm h _).2 ⟨h2, h1, fun e => h3 e.symm⟩, rfl⟩
/-- a table with a change put on -/
def stepW (W : ByteArray → Option ByteArray) (c : Ch) : ByteArray → Option ByteArray := fun q => if q = c.path then (if c.is.size = 0 then none else some c.is) else W q
def Full (l : List Ent) : Prop := ∀ y ∈ l, y.id.size = 32
theorem size0 {s : ByteArray} (h : s.size = 0) : s = ByteArray.empty := by
  refine ba_ext ?_
  have : s.data.toList.length = 0 := by rw [bx_data]; exact h
  rw [List.length_eq_zero_iff.1 this]; rfl
theorem was_opt {m : List Ent} (hf : Full m) (q : ByteArray) : (if (wasOf m q).size = 0 then none else some (wasOf m q)) = idl m q := by
  unfold wasOf
  cases h : idl m q with
  | none => rfl
  | some i =>
    obtain ⟨y, hy, -, rfl⟩ := idl_in h
    have := hf y hy
    show (if y.id.size = 0 then none else some y.id) = _
    rw [if_neg (by omega)]
theorem fold_val {m : List Ent} (hf : Full m) : ∀ (P : List Ch) (W : ByteArray → Option ByteArray) (q : ByteArray), (∀ c ∈ P, c.is = wasOf m c.path) → P.foldl stepW W q = if hasN (P.map (·.path)) q = true then idl m q else W q
  | [], W, q, _ => rfl
  | c :: P, W, q, h => by
    rw [List.foldl_cons, fold_val hf P _ q (fun x hx => h x (List.mem_cons_of_mem _ hx)), List.map_cons]
    by_cases hp : q ∈ P.map (·.path)
    · rw [if_pos (hasN_iff.2 hp), if_pos (hasN_iff.2 (List.mem_cons_of_mem _ hp))]
    · rw [if_neg (fun e => hp (hasN_iff.1 e))]
      by_cases hq : q = c.path
      · rw [if_pos (hasN_iff.2 (by rw [hq]; exact List.mem_cons_self ..))]
        unfold stepW
        rw [if_pos hq, h c (List.mem_cons_self ..), was_opt hf, hq]
      · rw [if_neg (fun e => (List.mem_cons.1 (hasN_iff.1 e)).elim hq hp)]
        unfold stepW
        rw [if_neg hq]
theorem diff_end {l m : List Ent} {D : List Ch} (hl : (l.map (·.name)).Nodup) (hm : (m.map (·.name)).Nodup) (fl : Full l) (fm : Full m) (h : IsDiff l m D) : D.foldl stepW (idl l) = idl m := by
  funext q
  rw [fold_val fm D _ q (fun c hc => ((diff_mem hl hm h c).1 hc).2.1)]
  by_cases hq : q ∈ D.map (·.path)
  · rw [if_pos (hasN_iff.2 hq)]
  · rw [if_neg (fun e => hq (hasN_iff.1 e))]
    have : wasOf l q = wasOf m q := Decidable.byContradiction fun hne => hq (List.mem_map.2 ⟨⟨q, wasOf l q, wasOf m q⟩, (diff_mem hl hm h _).2 ⟨rfl, rfl, hne⟩, rfl⟩)
    rw [← was_opt fl, ← was_opt fm, this]
theorem diff_ne {l m : List Ent} {D : List Ch} (h : IsDiff l m D) {i j : Nat} (hi : i < D.length) (hj : j < D.length) (hij : i < j) : cmpP (pieces D[i].path.data.toList) (pieces D[j].path.data.toList) = -1 :=
  List.pairwise_iff_getElem.1 h.1 i j hi hj hij
theorem diff_get {l m : List Ent} {D : List Ch} (hl : (l.map (·.name)).Nodup) (hm : (m.map (·.name)).Nodup) (fm : Full m) (h : IsDiff l m D) (i : Nat) (hi : i < D.length) : ((D.take i).foldl stepW (idl l) D[i].path).getD ByteArray.empty = D[i].was := by
  rw [fold_val fm (D.take i) _ _ (fun c hc => ((diff_mem hl hm h c).1 (List.mem_of_mem_take hc)).2.1), if_neg]
  · exact ((diff_mem hl hm h _).1 (List.getElem_mem hi)).1.symm
  · intro e
    obtain ⟨c, hc, he⟩ := List.mem_map.1 (hasN_iff.1 e)
    obtain ⟨j, hj, rfl⟩ := List.getElem_of_mem hc
    rw [List.length_take] at hj
    have := diff_ne h (i := j) (j := i) (by omega) hi (by omega)
    rw [List.getElem_take] at he
    rw [he, cmpP_self] at this
    cases this
theorem OkFs.nodup {fs : List Fi} (h : OkFs fs) : (((sortF fs).map blobEnt).map (·.name)).Nodup := by
  rw [List.map_map]
  show ((sortF fs).map (fun f => f.path)).Pairwise (· ≠ ·)
  rw [List.pairwise_map]
  refine h.sorted.imp (fun {a b} hab e => ?_)
  unfold LtF at hab
  rw [e, cmpP_self] at hab
  cases hab
theorem OkFs.full {fs : List Fi} : Full ((sortF fs).map blobEnt) := fun y hy => by
  obtain ⟨f, -, rfl⟩ := List.mem_map.1 hy
  exact idOf_size _
theorem OkFs.names {fs : List Fi} (h : OkFs fs) : ∀ y ∈ (sortF fs).map blobEnt, splitE y.name.data.toList = 0 := fun y hy => by
  obtain ⟨f, hf, rfl⟩ := List.mem_map.1 hy
  exact h.split f ((sortF_perm fs).mem_iff.1 hf)
end Go.Proofs.YtlenfiiocmchdaaGreatDoor
/- What awake() asks, plain: reckoned by the kernel. -/
namespace Go.Proofs.YtlenfiiocmchdaaGreatDoor
open Go.RowKit Book Pap Ojt Sn
set_option linter.unusedVariables false
set_option linter.unusedSimpArgs false

def awF : List Fi := [⟨⟨#[98]⟩, ⟨#[50]⟩⟩, ⟨⟨#[97, 47, 120]⟩, ⟨#[49]⟩⟩]
def awR : (List ByteArray × ByteArray) × Int := commitS (getF []) awF [] ⟨#[110]⟩
def awL : List ByteArray := awR.1.1
def awI : ByteArray := awR.1.2
def awG : Sw.Src := getF (itemsS awL)
theorem aw_err : awR.2 = 0 := by decide +kernel
theorem aw_len : awL.length = 5 := by decide +kernel
theorem aw_0 : awL.getD 0 ByteArray.empty = ⟨#[1, 49]⟩ := by decide +kernel
theorem aw_2 : awL.getD 2 ByteArray.empty = ⟨#[1, 50]⟩ := by decide +kernel
theorem aw_sz : ∀ s ∈ awL, s.size ≤ 1000 := by decide +kernel
theorem aw_id : awI.size = 32 := by decide +kernel
theorem aw_files : filesS awG awI = ([⟨⟨#[97, 47, 120]⟩, ⟨#[49]⟩⟩, ⟨⟨#[98]⟩, ⟨#[50]⟩⟩], 0) := by decide +kernel
theorem aw_find : (findS awG awI ⟨#[97, 47, 120]⟩).2 = 0 ∧ (findS awG awI ⟨#[97, 47, 120]⟩).1.name = ⟨#[120]⟩ := by decide +kernel
theorem aw_look : (lookK awG awI 3 21).2 = 0 ∧ (lookK awG awI 3 21).1.pars = [] ∧ (lookK awG awI 3 21).1.height = 0 := by decide +kernel
theorem aw_list : (listS awG awI).2 = 0 := by decide +kernel
theorem aw_none : (filesS awG ⟨#[120]⟩).2 = 12 := by decide +kernel
theorem aw_names : ((listS awG awI).1.map (fun e => e.name)).Nodup := by decide +kernel
/-- a commit differs from itself in nothing -/
theorem aw_diff {D : List Ch} (h : IsDiff (listS awG awI).1 (listS awG awI).1 D) : D = [] := by
  cases D with
  | nil => rfl
  | cons c r =>
    have h1 := (diff_mem aw_names aw_names h c).1 (List.mem_cons_self ..)
    exact absurd (h1.1.trans h1.2.1.symm) h1.2.2
end Go.Proofs.YtlenfiiocmchdaaGreatDoor
/- Layer 15's laws: whether two lists of files are the same: same. -/
namespace Go.Proofs.YtlenfiiocmchdaaGreatDoor
open Go.RowKit Book Pap Ojt Sn
set_option linter.unusedVariables false
set_option linter.unusedSimpArgs false

theorem fi_ext {x y : Fi} (h1 : x.path = y.path) (h2 : x.data = y.data) : x = y := by
  obtain ⟨a, b⟩ := x; obtain ⟨c, d⟩ := y; simp only at h1 h2; rw [h1, h2]
theorem getD_ext {α : Type} {d : α} {l m : List α} (hl : l.length = m.length) (h : ∀ j, j < l.length → l.getD j d = m.getD j d) : l = m := by
  apply List.ext_getElem hl
  intro i h1 h2
  have := h i h1
  rw [List.getD_eq_getElem?_getD, List.getD_eq_getElem?_getD, List.getElem?_eq_getElem h1, List.getElem?_eq_getElem h2] at this
  exact this
/-- what comparing hands back -/
def EqOut (p : Prop) (w : World) (e : Ending) (w' : World) : Prop := ∃ r : Bool, e = .returned (.bool r) ∧ (r = true ↔ p) ∧ Below w.heap.size w w'
set_option maxRecDepth 100000 in
set_option maxHeartbeats 4000000 in
theorem same_any (a b : Option Addr) (n m c d : Nat) (x y : List Fi) (w : World) (hx : FisAt w a n x) (hy : FisAt w b m y) :
    Calls Tryz.prog 17 #[.slice a n c, .slice b m d] w (EqOut (x = y) w) := by
  obtain ⟨h1, h2, h3⟩ := hx
  obtain ⟨g1, g2, g3⟩ := hy
  have HL := hid h1
  have HM := hid g1
  by_cases hnm : n = m
  · subst hnm
    have cne : ((n : Int) != n) = false := by simp
    go_enter Tryz.func17, Tryz.ntmps17
    go_wp2_with fail
    go_loopw [5] (fun iv wr => ∃ i : Nat, i ≤ n ∧ iv = .int .i64 i ∧ Hid (Below w.heap.size w wr) ∧ Hid (∀ j, j < i → x.getD j noFi = y.getD j noFi)) (fun iv _ => n - (intOf iv).toNat)
    case atStart => exact ⟨0, Nat.zero_le _, rfl, Below.refl _ _, fun j hj => by omega⟩
    case round =>
      obtain ⟨i, hi, rfl, HB, HN⟩ := hrel
      by_cases hlt : i < n
      · obtain ⟨xb, xo, rfl, hc⟩ := h3.resolve_left (by omega)
        obtain ⟨yb, yo, rfl, hd⟩ := g3.resolve_left (by omega)
        have ci : (i : Int) < n := by omega
        have ci0 : (0 : Int) ≤ (i : Int) := by omega
        obtain ⟨k0, k1⟩ := hc i hlt
        obtain ⟨l0, l1⟩ := hd i hlt
        have bl : xb < w.heap.size := World.block_lt_of_cell? w _ k0
        have bm : yb < w.heap.size := World.block_lt_of_cell? w _ l0
        have q0 := (HB.out.cell (p := ⟨xb, xo + i * 2, none⟩) bl).trans k0
        have q1 := (HB.out.cell (p := ⟨xb, xo + i * 2 + 1, none⟩) bl).trans k1
        have p0 := (HB.out.cell (p := ⟨yb, yo + i * 2, none⟩) bm).trans l0
        have p1 := (HB.out.cell (p := ⟨yb, yo + i * 2 + 1, none⟩) bm).trans l1
        obtain ⟨u, hu⟩ : ∃ u, x.getD i noFi = u := ⟨_, rfl⟩
        obtain ⟨v, hv⟩ : ∃ v, y.getD i noFi = v := ⟨_, rfl⟩
        rw [hu] at q0 q1
        rw [hv] at p0 p1
        have HUV := hid hu; have HVV := hid hv
        obtain ⟨up, ud⟩ := u
        obtain ⟨vp, vd⟩ := v
        simp only at q0 q1 p0 p1
        clear k0 k1 l0 l1 hc hd hu hv
        by_cases hA : up.toList = vp.toList
        · by_cases hB : ud.toList = vd.toList
          · have HN2 : Hid (∀ j, j < i + 1 → x.getD j noFi = y.getD j noFi) := fun j hj => by
              by_cases hji : j = i
              · subst hji
                rw [HUV.out, HVV.out]
                rw [ba_toList, ba_toList] at hA hB
                exact fi_ext (ba_ext hA) (ba_ext hB)
              · exact HN.out j (by omega)
            go_upto_region 6 with fail
            go_region
            all_goals
              go_wp2_with fail
              refine ⟨⟨i + 1, by omega, by go_num, by first | exact HB.out | exact HB.out.drew, HN2⟩, ?_⟩
              simp [intOf]; omega
          · have HNE : Hid (¬ x = y) := fun e => by
              have h := HUV.out
              rw [e, HVV.out] at h
              exact hB (by rw [(Fi.mk.inj h).2])
            go_upto_region 6 with fail
            go_region
            all_goals
              go_wp2_with fail
              go_ret
              exact ⟨false, rfl, ⟨fun h => (by cases h), fun h => absurd h HNE.out⟩, by first | exact HB.out | exact HB.out.drew⟩
        · have HNE : Hid (¬ x = y) := fun e => by
            have h := HUV.out
            rw [e, HVV.out] at h
            exact hA (by rw [(Fi.mk.inj h).1])
          go_upto_region 6 with fail
          go_region
          all_goals
            go_wp2_with fail
            go_ret
            exact ⟨false, rfl, ⟨fun h => (by cases h), fun h => absurd h HNE.out⟩, by first | exact HB.out | exact HB.out.drew⟩
      · obtain rfl : i = n := by omega
        have ci : ¬ (i : Int) < i := by omega
        have HEQ : Hid (x = y) := getD_ext (d := noFi) (by rw [HL.out, HM.out]) (fun j hj => HN.out j (by rw [← HL.out]; exact hj))
        go_wp2_with fail
        go_ret
        exact ⟨true, rfl, ⟨fun _ => HEQ.out, fun _ => rfl⟩, HB.out⟩
  · have cne : ((n : Int) != m) = true := by simp; omega
    have ce : ¬ (n : Int) = m := by omega
    have HNE : Hid (¬ x = y) := fun e => by
      rw [e, HM.out] at h1; exact hnm h1.symm
    go_enter Tryz.func17, Tryz.ntmps17
    go_wp2_with fail
    go_ret
    exact ⟨false, rfl, ⟨fun h => (by cases h), fun h => absurd h HNE.out⟩, Below.refl _ _⟩
end Go.Proofs.YtlenfiiocmchdaaGreatDoor
/- Layer 15's laws: texts under their ids (items). -/
namespace Go.Proofs.YtlenfiiocmchdaaGreatDoor
open Go.RowKit Book Pap Ojt Sn
set_option linter.unusedVariables false
set_option linter.unusedSimpArgs false

theorem own_items {w : World} {B : Nat} {v : Value} {n : Nat} {l : List Fi} (h : w.ownsRow B 99 2 v n (fivals l)) (hm : n ≤ 9223372036854775807) : ∃ a c, v = .slice a n c ∧ FisAt w a n l := by
  have h' := h
  have hl := fivals_length l
  have hln : l.length = n := by have := h.1; omega
  rcases h.2 with ⟨rfl, h0⟩ | ⟨g, cap, cur, rfl, hb, hg, hn, hc, hsz, htk⟩
  · exact ⟨none, 0, by rw [h0], hln, hm, .inl h0⟩
  · refine ⟨_, _, rfl, hln, hm, .inr ⟨g, 0, rfl, fun j hj => ?_⟩⟩
    obtain ⟨x0, x1⟩ := fivals_get l j (by omega)
    have h1 := h'.cellAt (j * 2) (by omega)
    have h2 := h'.cellAt (j * 2 + 1) (by omega)
    rw [Nat.zero_add]
    rw [x0] at h1
    rw [x1] at h2
    exact ⟨h1, h2⟩
theorem own_noneI (w : World) : (w.alloc (.cells #[] 99)).ownsRow w.heap.size 99 2 (.slice (some ⟨w.heap.size, 0, none⟩) 0 0) 0 [] :=
  ⟨rfl, .inr ⟨w.heap.size, 0, #[], rfl, Nat.le_refl _, by show (w.heap.push _)[w.heap.size]? = _; simp, Nat.le_refl _, by unfold maxLen; omega, rfl, rfl⟩⟩
theorem Tryz.infoIt : (Tryz.prog.info? 99).map (fun i => (i.zero, i.size, i.bytes)) = some (some (.agg #[.string ⟨#[]⟩, .string ⟨#[]⟩]), 2, 32) := by kernel_rfl
theorem objid_id (s : ByteArray) (hs : s.size ≤ 1000000000) (w : World) : Calls Tryz.prog 42 #[.string s] w fun e w' => e = .returned (.string (Sw.idOf s)) ∧ Below w.heap.size w w' := objid_any s hs w
set_option maxRecDepth 100000 in
set_option maxHeartbeats 8000000 in
theorem items_any (a : Option Addr) (n c : Nat) (l : List ByteArray) (w : World) (h : StrsAt w a n l) (hn : n ≤ 1000000) (hz : ∀ s ∈ l, s.size ≤ 1000000000) :
    Calls Tryz.prog 34 #[.slice a n c] w fun e w' => ∃ a' c', e = .returned (.slice a' n c') ∧ w'.ownsRow w.heap.size 99 2 (.slice a' n c') n (fivals (itemsS l)) ∧ Below w.heap.size w w' := by
  obtain ⟨i0, hi0, hz0, hz1, hz2⟩ := info_parts Tryz.infoIt
  have HS := hid h
  have HL := hid h.1
  have HZ := hid hz
  have HO1 : Hid ((w.alloc (.cells #[] 99)).ownsRow w.heap.size 99 2 (.slice (some ⟨w.heap.size, 0, none⟩) 0 0) 0 (fivals (itemsS (l.take 0)))) := own_noneI w
  have HB1 : Hid (Below w.heap.size w (w.alloc (.cells #[] 99))) := (Below.refl _ _).alloc (Nat.le_refl _) _
  clear h hz
  go_enter Tryz.func34, Tryz.ntmps34
  go_upto_region 2 with fail
  generalize (w.alloc (.cells #[] 99)) = w1 at HO1 HB1 ⊢
  generalize hg : w.heap.size = g at HO1 HB1 ⊢
  have HG := hid hg
  clear hg
  go_wp2_with fail
  go_loopw [4, 3] (fun iv ov wr => ∃ i : Nat, i ≤ n ∧ iv = .int .i64 i ∧ Hid (wr.ownsRow g 99 2 ov i (fivals (itemsS (l.take i)))) ∧ Hid (Below g w wr)) (fun iv _ _ => n - (intOf iv).toNat)
  case atStart => exact ⟨0, Nat.zero_le _, rfl, HO1, HB1⟩
  case round =>
    obtain ⟨i, hi, rfl, HO, HB⟩ := hrel
    obtain ⟨va, vc, rfl, hvc⟩ := own_slice' HO.out
    by_cases hlt : i < n
    · have ci : (i : Int) < n := by omega
      have ci0 : (0 : Int) ≤ (i : Int) := by omega
      obtain ⟨-, -, h3⟩ := HS.out.later (by rw [HG.out]; exact HB.out)
      obtain ⟨b, off, rfl, hc⟩ := h3.resolve_left (by omega)
      have q0 := hc i hlt
      have hil : i < l.length := by rw [HL.out]; exact hlt
      have hsz := HZ.out (l.getD i ByteArray.empty) (by rw [List.getD_eq_getElem?_getD, List.getElem?_eq_getElem hil]; exact List.getElem_mem hil)
      have HT : Hid (fivals (itemsS (l.take (i + 1))) = fivals (itemsS (l.take i)) ++ [.string (Sw.idOf (l.getD i ByteArray.empty)), .string (l.getD i ByteArray.empty)]) := by
        show _ = _
        rw [List.take_succ_eq_append_getElem hil]
        unfold itemsS
        rw [List.map_append, fivals_append, List.getD_eq_getElem?_getD, List.getElem?_eq_getElem hil]; rfl
      obtain ⟨s, hs⟩ : ∃ s, l.getD i ByteArray.empty = s := ⟨_, rfl⟩
      rw [hs] at q0 hsz HT
      have HID := hid (fun W => objid_id s hsz W)
      obtain ⟨idv, hidv⟩ : ∃ z, Sw.idOf s = z := ⟨_, rfl⟩
      rw [hidv] at HID HT
      have hgr : g ≤ wr.heap.size := by have := HB.out.size; rw [HG.out] at this; exact this
      have hbb := World.block_lt_of_cell? wr _ q0
      clear hs hidv hc h3 hil hsz
      go_upto_region 5 with fail
      go_region_law (first
        | (go_simp; go_at_call 42; (refine (HID.out _).mono ?_; rintro e w5 ⟨rfl, hb5⟩; have HO5 := hid (own_below HO.out.drew hb5); have HB5 := hid (HB.out.drew.trans (hb5.mono hgr)); have q1 : w5.cell? ⟨b, off + i, none⟩ = some (.string s) := ((hb5.cell (p := ⟨b, off + i, none⟩) hbb).trans q0); have hg5 : g ≤ w5.heap.size := (Nat.le_trans hgr hb5.size); clear hb5))
        | (refine step_append_lies _ (by rfl) (.tmp 12) (.tmp 23) 22 (by rfl) g 99 i0 (.agg #[.string ⟨#[]⟩, .string ⟨#[]⟩]) 2 32 Tryz.underlying22 hi0 hz0 hz1 hz2 rfl (by decide) (.slice va i vc) i (fivals (itemsS (l.take i))) (by simp [Act.eval, Act.put]) (HO5.out.alloc _) ⟨w5.heap.size, 0, none⟩ 1 1 [.string idv, .string s] (by simp [Act.eval, Act.put]) rfl (cellNew2 _ _ _ _) (one2 rfl rfl) (by decide) (by unfold maxLen; omega) (by omega) (by rw [World.size_alloc]; omega) (w5.heap.size + 1) (by simp) ?_; intro g1 cap1 wf hown hgrow hat hglt; have HOWN := hid hown; have HGR := hid hgrow; clear hown hgrow hat hglt))
      all_goals
        have HO9 : Hid (wf.ownsRow g 99 2 (.slice (some ⟨g1, 0, none⟩) (i + 1) cap1) (i + 1) (fivals (itemsS (l.take (i + 1))))) := by
          show World.ownsRow _ _ _ _ _ _ _
          rw [HT.out]; exact HOWN.out
        have HB9 : Hid (Below g w wf) := (HB5.out.alloc hg5 _).grown HGR.out (by rw [World.size_alloc]; omega) (fun j hj => (HO5.out.lt j hj).1)
        go_wp2_with fail
        go_roundw
        case rel => first | exact ⟨i + 1, by omega, by go_num, HO9, HB9⟩ | ((repeat apply Exists.intro); exact ⟨⟨i + 1, by omega, by go_num, HO9, HB9⟩, rfl⟩)
        case measure => simp [intOf]; omega
    · obtain rfl : i = n := by omega
      have ci : ¬ (i : Int) < i := by omega
      have HE : Hid (wr.ownsRow g 99 2 (.slice va i vc) i (fivals (itemsS l))) := by
        have h := HO.out
        rw [List.take_of_length_le (by rw [HL.out]; exact Nat.le_refl _)] at h; exact h
      go_wp2_with fail
      go_ret
      rw [HG.out]
      exact ⟨_, _, rfl, HE.out, HB.out⟩
end Go.Proofs.YtlenfiiocmchdaaGreatDoor
/- The first element put into an empty slice: slices.Insert at []api.Fact and []string. -/
namespace Go.Proofs.YtlenfiiocmchdaaGreatDoor
open Go.RowKit Book Pap
set_option linter.unusedVariables false
set_option linter.unusedSimpArgs false

theorem Tryz.infoFact : (Tryz.prog.info? 94).map (fun i => (i.zero, i.size, i.bytes)) = some (some (.agg #[.string ⟨#[]⟩, .int .i64 0, .slice none 0 0]), 3, 48) := by kernel_rfl
theorem cellBlk3 {w : World} {b : Nat} {t : TypeId} {x0 x1 x2 : Value} (h : Blk w b t #[x0, x1, x2]) : ∀ j u, [x0, x1, x2][j]? = some u → w.cell? ((⟨b, 0, none⟩ : Addr).add j) = some u := by
  intro j u hj
  rw [Addr.add_lit, Nat.zero_add, h.cell]
  rw [← hj]; simp
theorem cellBlk1 {w : World} {b : Nat} {t : TypeId} {x0 : Value} (h : Blk w b t #[x0]) : ∀ j u, [x0][j]? = some u → w.cell? ((⟨b, 0, none⟩ : Addr).add j) = some u := by
  intro j u hj
  rw [Addr.add_lit, Nat.zero_add, h.cell]
  rw [← hj]; simp
set_option maxRecDepth 100000 in
set_option maxHeartbeats 4000000 in
theorem insF0 (vb : Nat) (s : ByteArray) (h : Int) (ps : Option Addr) (pn pc : Nat) (w : World) (hb : Blk w vb 94 #[.string s, .int .i64 h, .slice ps pn pc]) :
    Calls Tryz.prog 105 #[.slice none 0 0, .int .i64 0, .slice (some ⟨vb, 0, none⟩) 1 1] w fun e w' => ∃ v', e = .returned v' ∧ w'.ownsRow w.heap.size 94 3 v' 1 [.string s, .int .i64 h, .slice ps pn pc] ∧ Below w.heap.size w w' := by
  obtain ⟨i0, hi0, hz0, hz1, hz2⟩ := info_parts Tryz.infoFact
  have HC := hid (cellBlk3 hb)
  clear hb
  go_enter Tryz.func105, Tryz.ntmps105
  go_wp2_with (first
    | (at_builtin; refine wpList_append_own _ rfl (.tmp 23) (.tmp 24) 51 rfl w.heap.size 94 i0 (.agg #[.string ⟨#[]⟩, .int .i64 0, .slice none 0 0]) 3 48 Tryz.underlying51 hi0 hz0 hz1 hz2 rfl (by decide) (.slice none 0 0) _ _ rfl (World.ownsRow_nil _ _ _ _) ⟨vb, 0, none⟩ 1 1 [.string s, .int .i64 h, .slice ps pn pc] rfl rfl HC.out (one3 rfl rfl rfl) (by unfold maxLen; omega) (by omega) (Nat.le_refl _) ?_; intro v' w5 hown' hg5 _; have HOWN := hid hown'; have HG5 := hid hg5; clear hown' hg5)
    | go_in)
  go_ret
  exact ⟨_, rfl, HOWN.out, (Below.refl _ _).grown HG5.out (Nat.le_refl _) (fun j hj => by cases hj)⟩
set_option maxRecDepth 100000 in
set_option maxHeartbeats 4000000 in
theorem insS0 (vb : Nat) (s : ByteArray) (w : World) (hb : Blk w vb 9 #[.string s]) :
    Calls Tryz.prog 79 #[.slice none 0 0, .int .i64 0, .slice (some ⟨vb, 0, none⟩) 1 1] w fun e w' => ∃ v', e = .returned v' ∧ w'.ownsRow w.heap.size 9 1 v' 1 (svals [s]) ∧ Below w.heap.size w w' := by
  obtain ⟨i0, hi0, hz0, hz1, hz2⟩ := info_parts Tryz.infoS
  have HC := hid (cellBlk1 hb)
  clear hb
  go_enter Tryz.func79, Tryz.ntmps79
  go_wp2_with (first
    | (at_builtin; refine wpList_append_own _ rfl (.tmp 23) (.tmp 24) 56 rfl w.heap.size 9 i0 (.string ⟨#[]⟩) 1 16 Tryz.underlying56 hi0 hz0 hz1 hz2 rfl (by decide) (.slice none 0 0) _ _ rfl (World.ownsRow_nil _ _ _ _) ⟨vb, 0, none⟩ 1 1 [.string s] rfl rfl HC.out (one_bytes rfl) (by unfold maxLen; omega) (by omega) (Nat.le_refl _) ?_; intro v' w5 hown' hg5 _; have HOWN := hid hown'; have HG5 := hid hg5; clear hown' hg5)
    | go_in)
  go_ret
  exact ⟨_, rfl, HOWN.out, (Below.refl _ _).grown HG5.out (Nat.le_refl _) (fun j hj => by cases hj)⟩
end Go.Proofs.YtlenfiiocmchdaaGreatDoor
/- shelf.Map[string, api.Fact] while it is empty: New, find, Get; Put of the first. -/
namespace Go.Proofs.YtlenfiiocmchdaaGreatDoor
open Go.RowKit Book Pap
set_option linter.unusedVariables false
set_option linter.unusedSimpArgs false

def FM0 (w : World) (b : Nat) : Prop := Blk w b 177 #[.slice none 0 0, .slice none 0 0]
theorem fnew_any (w : World) : Calls Tryz.prog 62 #[] w fun e w' => e = .returned (.pointer (some ⟨w.heap.size, 0, none⟩)) ∧ FM0 w' w.heap.size ∧ Below w.heap.size w w' := by
  have HX : Hid (FM0 (w.alloc (.cells #[.slice none 0 0, .slice none 0 0] 177)) w.heap.size) := Blk.new w _ _
  have HB : Hid (Below w.heap.size w (w.alloc (.cells #[.slice none 0 0, .slice none 0 0] 177))) := (Below.refl _ _).alloc (Nat.le_refl _) _
  go_enter Tryz.func62, Tryz.ntmps62
  go_wp2_with fail
  go_ret
  exact ⟨rfl, HX.out, HB.out⟩
theorem ffind0 (b : Nat) (s : ByteArray) (w : World) (h : FM0 w b) : Calls Tryz.prog 104 #[.pointer (some ⟨b, 0, none⟩), .string s] w fun e w' => e = .returned (.tuple #[.int .i64 0, .bool false]) ∧ w = w' := by
  have k0 : w.cell? ⟨b, 0, none⟩ = some (.slice none 0 0) := Blk.cell h 0
  have HS := hid (bs_names none 0 0 [] s w ⟨rfl, by omega, .inl rfl⟩ (by omega) List.Pairwise.nil)
  have hn : hasN [] s = false := by rw [hasN_no]; simp
  rw [hn] at HS
  clear hn h
  go_enter Tryz.func104, Tryz.ntmps104
  go_wp2_with (go_at_call 126; refine HS.out.mono ?_; rintro e w' ⟨rfl, rfl⟩)
  go_ret2
  exact ⟨rfl, rfl⟩
theorem fget_results (tmps : Array Value) (g : Nat) (bo : Bool) (w : World) (h2 : tmps.getD 4 undef = .pointer (some ⟨g, 0, none⟩)) (h3 : tmps.getD 5 undef = .bool bo) (H : Blk w g 94 #[.string ⟨#[]⟩, .int .i64 0, .slice none 0 0]) : (results Tryz.f63 tmps).run Tryz.prog w = .ok (.tuple #[.agg #[.string ⟨#[]⟩, .int .i64 0, .slice none 0 0], .bool bo]) w := by
  have c0 : w.cell? ⟨g, 0, none⟩ = some (.string ⟨#[]⟩) := Blk.cell H 0
  have c1 : w.cell? ⟨g, 1, none⟩ = some (.int .i64 0) := Blk.cell H 1
  have c2 : w.cell? ⟨g, 2, none⟩ = some (.slice none 0 0) := Blk.cell H 2
  have h2' : tmps[4]?.getD undef = .pointer (some ⟨g, 0, none⟩) := by simpa using h2
  have h3' : tmps[5]?.getD undef = .bool bo := by simpa using h3
  simp [results, Tryz.results63, go_sem, h2', h3', c0, c1, c2]
set_option maxRecDepth 100000 in
set_option maxHeartbeats 4000000 in
theorem fget0 (b : Nat) (s : ByteArray) (w : World) (h : FM0 w b) : Calls Tryz.prog 63 #[.pointer (some ⟨b, 0, none⟩), .string s] w fun e w' => e = .returned (.tuple #[.agg #[.string ⟨#[]⟩, .int .i64 0, .slice none 0 0], .bool false]) ∧ Below w.heap.size w w' := by
  have hb := Blk.lt h
  have HX : Hid (Blk (w.alloc (.cells #[.string ⟨#[]⟩, .int .i64 0, .slice none 0 0] 94)) w.heap.size 94 #[.string ⟨#[]⟩, .int .i64 0, .slice none 0 0]) := Blk.new w _ _
  have HB : Hid (Below w.heap.size w (w.alloc (.cells #[.string ⟨#[]⟩, .int .i64 0, .slice none 0 0] 94))) := (Below.refl _ _).alloc (Nat.le_refl _) _
  have HF := hid (ffind0 b s (w.alloc (.cells #[.string ⟨#[]⟩, .int .i64 0, .slice none 0 0] 94)) (Blk.alloc h _))
  clear h
  go_enter Tryz.func63, Tryz.ntmps63
  go_upto_region 1 with fail
  generalize (w.alloc (.cells #[.string ⟨#[]⟩, .int .i64 0, .slice none 0 0] 94)) = w1 at HX HB HF ⊢
  generalize hg : w.heap.size = g at HX ⊢
  have k0 : w1.cell? ⟨g, 0, none⟩ = some (.string ⟨#[]⟩) := Blk.cell HX.out 0
  have k1 : w1.cell? ⟨g, 1, none⟩ = some (.int .i64 0) := Blk.cell HX.out 1
  have k2 : w1.cell? ⟨g, 2, none⟩ = some (.slice none 0 0) := Blk.cell HX.out 2
  have f0 := Blk.frozen HX.out 0
  have f1 := Blk.frozen HX.out 1
  have f2 := Blk.frozen HX.out 2
  go_wp2_with (go_at_call 104; refine HF.out.mono ?_; rintro e w' ⟨rfl, rfl⟩)
  have HX3 : Hid (Blk (((w1.setCell ⟨g, 0, none⟩ (.string ⟨#[]⟩)).setCell ⟨g, 1, none⟩ (.int .i64 0)).setCell ⟨g, 2, none⟩ (.slice none 0 0)) g 94 #[.string ⟨#[]⟩, .int .i64 0, .slice none 0 0]) := by
    have := Blk.set (Blk.set (Blk.set HX.out 0 (.string ⟨#[]⟩)) 1 (.int .i64 0)) 2 (.slice none 0 0)
    show Blk _ _ _ _
    simpa using this
  have HB3 : Below g w (((w1.setCell ⟨g, 0, none⟩ (.string ⟨#[]⟩)).setCell ⟨g, 1, none⟩ (.int .i64 0)).setCell ⟨g, 2, none⟩ (.slice none 0 0)) := by
    rw [hg] at HB
    exact ((HB.out.setCell (p := ⟨g, 0, none⟩) (Nat.le_refl _) _).setCell (p := ⟨g, 1, none⟩) (Nat.le_refl _) _).setCell (p := ⟨g, 2, none⟩) (Nat.le_refl _) _
  refine bodyPost_ret (v := .tuple #[.agg #[.string ⟨#[]⟩, .int .i64 0, .slice none 0 0], .bool false]) ?hr rfl ⟨rfl, by rw [hg]; exact HB3⟩
  case hr => exact fget_results _ g false _ rfl rfl HX3.out
set_option maxRecDepth 100000 in
set_option maxHeartbeats 8000000 in
theorem own_mono {w : World} {B B' : Nat} {e : TypeId} {k n : Nat} {v : Value} {xs : List Value} (h : w.ownsRow B e k v n xs) (hB : B' ≤ B) : w.ownsRow B' e k v n xs := by
  refine ⟨h.1, h.2.imp id ?_⟩
  rintro ⟨g, cap, cur, h1, h2, r⟩
  exact ⟨g, cap, cur, h1, Nat.le_trans hB h2, r⟩
set_option maxRecDepth 100000 in
set_option maxHeartbeats 8000000 in
theorem fput0 (b : Nat) (s s2 : ByteArray) (h : Int) (ps : Option Addr) (pn pc : Nat) (w : World) (hm : FM0 w b) : Calls Tryz.prog 65 #[.pointer (some ⟨b, 0, none⟩), .string s, .agg #[.string s2, .int .i64 h, .slice ps pn pc]] w fun e w' =>
    ∃ kv fv, e = .returned (.bool true) ∧ Blk w' b 177 #[kv, fv] ∧ w'.ownsRow w.heap.size 9 1 kv 1 (svals [s]) ∧ w'.ownsRow w.heap.size 94 3 fv 1 [.string s2, .int .i64 h, .slice ps pn pc] ∧ Only (· = b) w w' := by
  have hb := Blk.lt hm
  have HX : Hid (Blk (w.alloc (.cells #[.string s2, .int .i64 h, .slice ps pn pc] 94)) w.heap.size 94 #[.string s2, .int .i64 h, .slice ps pn pc]) := Blk.new w _ _
  have HO : Hid (Only (· = b) w (w.alloc (.cells #[.string s2, .int .i64 h, .slice ps pn pc] 94))) := (Only.refl _ _).alloc _
  have HM : Hid (FM0 (w.alloc (.cells #[.string s2, .int .i64 h, .slice ps pn pc] 94)) b) := Blk.alloc hm _
  have hs1 : (w.alloc (.cells #[.string s2, .int .i64 h, .slice ps pn pc] 94)).heap.size = w.heap.size + 1 := World.size_alloc _ _
  clear hm
  go_enter Tryz.func65, Tryz.ntmps65
  go_upto_region 1 with fail
  generalize (w.alloc (.cells #[.string s2, .int .i64 h, .slice ps pn pc] 94)) = w1 at HX HO HM hs1 ⊢
  generalize hg : w.heap.size = g at HX hs1 hb ⊢
  have HS1 := hid hs1
  clear hs1
  have HF := hid (ffind0 b s w1 HM.out)
  have HM2 : Hid (FM0 (w1.alloc (.cells #[.string s] 9)) b) := Blk.alloc HM.out _
  have HX2 : Hid (Blk (w1.alloc (.cells #[.string s] 9)) g 94 #[.string s2, .int .i64 h, .slice ps pn pc]) := Blk.alloc HX.out _
  have HO2 : Hid (Only (· = b) w (w1.alloc (.cells #[.string s] 9))) := HO.out.alloc _
  have HI := hid (insS0 w1.heap.size s (w1.alloc (.cells #[.string s] 9)) (Blk.new _ _ _))
  have k0 : w1.cell? ⟨b, 0, none⟩ = some (.slice none 0 0) := Blk.cell HM.out 0
  go_upto_region 3 with (first
    | (go_at_call 104; refine HF.out.mono ?_; rintro e w' ⟨rfl, rfl⟩)
    | (go_at_call 79; refine HI.out.mono ?_; rintro e w3 ⟨kv, rfl, hkv, hb3⟩; obtain ⟨ka, kc, hkk, hkc⟩ := own_slice' hkv; subst hkk; have HKV := hid hkv; have HB3 := hid hb3; have HM3 : Hid (FM0 w3 b) := ((hb3.block b (Blk.lt HM2.out)).trans HM2.out); have q0 : w3.cell? ⟨b, 0, none⟩ = some (.slice none 0 0) := Blk.cell HM3.out 0; have f0 := Blk.frozen HM3.out 0))
  have HS3 : Hid (g + 2 ≤ w3.heap.size) := by
    have h1 := HB3.out.size
    rw [World.size_alloc] at h1
    have := HS1.out
    show _ ≤ _; omega
  have HO3 : Hid (Only (· = b) w (w3.setCell ⟨b, 0, none⟩ (.slice ka 1 kc))) := ((HO2.out.trans (Only.of_below HB3.out (· = b)) (fun k e => .inl e)).setCell (p := ⟨b, 0, none⟩) (.inl rfl) _)
  have HM4 : Hid (Blk (w3.setCell ⟨b, 0, none⟩ (.slice ka 1 kc)) b 177 #[.slice ka 1 kc, .slice none 0 0]) := by
    have := Blk.set HM3.out 0 (.slice ka 1 kc)
    show Blk _ _ _ _
    simpa using this
  have HX4 : Hid (Blk (w3.setCell ⟨b, 0, none⟩ (.slice ka 1 kc)) g 94 #[.string s2, .int .i64 h, .slice ps pn pc]) := Blk.far ((HB3.out.block g (Blk.lt HX2.out)).trans HX2.out) (p := ⟨b, 0, none⟩) (by show g ≠ b; omega) _
  have hg1 : g ≤ (w1.alloc (.cells #[.string s] 9)).heap.size := by rw [World.size_alloc]; have := HS1.out; omega
  have HK4 : Hid ((w3.setCell ⟨b, 0, none⟩ (.slice ka 1 kc)).ownsRow g 9 1 (.slice ka 1 kc) 1 (svals [s])) := by
    have h1 : w3.ownsRow g 9 1 (.slice ka 1 kc) 1 (svals [s]) := own_mono HKV.out hg1
    exact own_only h1 ((Only.refl (· = b) w3).setCell (p := ⟨b, 0, none⟩) (.inl rfl) _) (fun k hk e => by have := (h1.lt k hk).1; have e : k = b := e; omega)
  obtain ⟨w4, hw4⟩ : ∃ w4, w3.setCell ⟨b, 0, none⟩ (.slice ka 1 kc) = w4 := ⟨_, rfl⟩
  have hs4 : w3.heap.size = w4.heap.size := by rw [← hw4]; simp [World.setCell]
  have HS4 : Hid (g + 2 ≤ w4.heap.size) := by rw [← hs4]; exact HS3.out
  rw [hw4] at HO3 HM4 HX4 HK4 ⊢
  clear hw4 hs4 HS3 HM3 HB3 HKV q0 f0 HI HX2 HM2 HO2 k0 HF HM HX HO HS1 hg1
  have k1 : w4.cell? ⟨b, 1, none⟩ = some (.slice none 0 0) := Blk.cell HM4.out 1
  have x0 : w4.cell? ⟨g, 0, none⟩ = some (.string s2) := Blk.cell HX4.out 0
  have x1 : w4.cell? ⟨g, 1, none⟩ = some (.int .i64 h) := Blk.cell HX4.out 1
  have x2 : w4.cell? ⟨g, 2, none⟩ = some (.slice ps pn pc) := Blk.cell HX4.out 2
  have HFIN : Hid (∀ (W W' : World) (fa : Option Addr) (fc : Nat), Below w4.heap.size w4 W → W'.ownsRow W.heap.size 94 3 (.slice fa 1 fc) 1 [.string s2, .int .i64 h, .slice ps pn pc] → Below W.heap.size W W' →
      Blk W' b 177 #[.slice ka 1 kc, .slice none 0 0] ∧ Blk (W'.setCell ⟨b, 1, none⟩ (.slice fa 1 fc)) b 177 #[.slice ka 1 kc, .slice fa 1 fc] ∧ (W'.setCell ⟨b, 1, none⟩ (.slice fa 1 fc)).ownsRow g 9 1 (.slice ka 1 kc) 1 (svals [s]) ∧ (W'.setCell ⟨b, 1, none⟩ (.slice fa 1 fc)).ownsRow g 94 3 (.slice fa 1 fc) 1 [.string s2, .int .i64 h, .slice ps pn pc] ∧ Only (· = b) w (W'.setCell ⟨b, 1, none⟩ (.slice fa 1 fc))) := by
    intro W W' fa fc hW hr hb'
    have hWW : Below w4.heap.size w4 W' := hW.trans (hb'.mono hW.size)
    have hM : Blk W' b 177 #[.slice ka 1 kc, .slice none 0 0] := (hWW.block b (Blk.lt HM4.out)).trans HM4.out
    have ho : Only (· = b) W' (W'.setCell ⟨b, 1, none⟩ (.slice fa 1 fc)) := (Only.refl (· = b) W').setCell (p := ⟨b, 1, none⟩) (.inl rfl) _
    have hgW : g ≤ W.heap.size := by have := HS4.out; have := hW.size; omega
    have h2 : W'.ownsRow g 94 3 (.slice fa 1 fc) 1 [.string s2, .int .i64 h, .slice ps pn pc] := own_mono hr hgW
    have h3 : W'.ownsRow g 9 1 (.slice ka 1 kc) 1 (svals [s]) := own_below HK4.out hWW
    refine ⟨hM, ?_, own_only h3 ho (fun k hk e => by have := (h3.lt k hk).1; have e : k = b := e; omega), own_only h2 ho (fun k hk e => by have := (h2.lt k hk).1; have e : k = b := e; omega), (HO3.out.trans (Only.of_below hWW (· = b)) (fun k e => .inl e)).then ho⟩
    have := Blk.set hM 1 (.slice fa 1 fc)
    show Blk _ _ _ _
    simpa using this
  have k1a : (w4.alloc (.cells #[.string s2, .int .i64 h, .slice ps pn pc] 94)).cell? ⟨b, 1, none⟩ = some (.slice none 0 0) := Blk.cell (Blk.alloc HM4.out _) 1
  have k1b : (w4.alloc (.cells #[.string s2, .int .i64 h, .slice ps pn pc] 94)).drew.cell? ⟨b, 1, none⟩ = some (.slice none 0 0) := Blk.cell (Blk.alloc HM4.out _).drew 1
  have HI2 : Hid (∀ W, W = (w4.alloc (.cells #[.string s2, .int .i64 h, .slice ps pn pc] 94)) ∨ W = (w4.alloc (.cells #[.string s2, .int .i64 h, .slice ps pn pc] 94)).drew → Calls Tryz.prog 105 #[.slice none 0 0, .int .i64 0, .slice (some ⟨w4.heap.size, 0, none⟩) 1 1] W fun e w' => ∃ fa fc, e = .returned (.slice fa 1 fc) ∧ w'.cell? ⟨b, 1, none⟩ = some (.slice none 0 0) ∧ w'.frozen? ⟨b, 1, none⟩ = false ∧ Hid (Blk (w'.setCell ⟨b, 1, none⟩ (.slice fa 1 fc)) b 177 #[.slice ka 1 kc, .slice fa 1 fc] ∧ (w'.setCell ⟨b, 1, none⟩ (.slice fa 1 fc)).ownsRow g 9 1 (.slice ka 1 kc) 1 (svals [s]) ∧ (w'.setCell ⟨b, 1, none⟩ (.slice fa 1 fc)).ownsRow g 94 3 (.slice fa 1 fc) 1 [.string s2, .int .i64 h, .slice ps pn pc] ∧ Only (· = b) w (w'.setCell ⟨b, 1, none⟩ (.slice fa 1 fc)))) := by
    have key : ∀ W, Below w4.heap.size w4 W → Blk W w4.heap.size 94 #[.string s2, .int .i64 h, .slice ps pn pc] → Calls Tryz.prog 105 #[.slice none 0 0, .int .i64 0, .slice (some ⟨w4.heap.size, 0, none⟩) 1 1] W fun e w' => ∃ fa fc, e = .returned (.slice fa 1 fc) ∧ w'.cell? ⟨b, 1, none⟩ = some (.slice none 0 0) ∧ w'.frozen? ⟨b, 1, none⟩ = false ∧ Hid (Blk (w'.setCell ⟨b, 1, none⟩ (.slice fa 1 fc)) b 177 #[.slice ka 1 kc, .slice fa 1 fc] ∧ (w'.setCell ⟨b, 1, none⟩ (.slice fa 1 fc)).ownsRow g 9 1 (.slice ka 1 kc) 1 (svals [s]) ∧ (w'.setCell ⟨b, 1, none⟩ (.slice fa 1 fc)).ownsRow g 94 3 (.slice fa 1 fc) 1 [.string s2, .int .i64 h, .slice ps pn pc] ∧ Only (· = b) w (w'.setCell ⟨b, 1, none⟩ (.slice fa 1 fc))) := by
      intro W hW hB
      refine (insF0 w4.heap.size s2 h ps pn pc W hB).mono ?_
      rintro e w5 ⟨fv, rfl, hfv, hb5⟩
      obtain ⟨fa, fc, rfl, hfc⟩ := own_slice' hfv
      obtain ⟨r1, r2⟩ := HFIN.out W w5 fa fc hW hfv hb5
      exact ⟨fa, fc, rfl, Blk.cell r1 1, Blk.frozen r1 1, r2⟩
    rintro W (rfl | rfl)
    · exact key _ ((Below.refl _ _).alloc (Nat.le_refl _) _) (Blk.new _ _ _)
    · exact key _ (((Below.refl _ _).alloc (Nat.le_refl _) _).drew) ((Blk.new _ _ _).drew)
  clear HFIN
  go_region_with (go_at_call 105; refine (HI2.out _ (by first | exact .inl rfl | exact .inr rfl)).mono ?_; rintro e w5 ⟨fa, fc, rfl, r1, s1, HH⟩)
  all_goals
    go_wp2_with fail
    go_ret
    rw [hg]
    exact ⟨_, _, rfl, HH.out⟩
end Go.Proofs.YtlenfiiocmchdaaGreatDoor
