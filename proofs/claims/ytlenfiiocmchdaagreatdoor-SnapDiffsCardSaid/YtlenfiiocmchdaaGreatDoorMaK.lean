/- Texts in a row: MkE, LwA, LwB, MkF, MkG, AwP, LwC, LwD, InsF, FactM, InsStr. -/
import Derived.Test.YtlenfiiocmchdaaGreatDoorMaJ
import Derived.BigQuiet
import Derived.Lib.Strings
import Derived.Deep.AppendLies
import Derived.Deep.DeepFit
import Derived.Test.YtlenfiiocmchdaaGreatDoorChecked
import Derived.WalkKit
import Derived.RegionTactic
import Derived.Shelf.RegionOpenPlain
import Derived.Lib.Walk
import Derived.Lib.SliceRun
import Derived.Lib.JoinLaws
import Derived.Lib.AppendZeros
import Derived.Lib.AppendZerosOnto
import Derived.Lib.Overlaps
import Derived.Laws.Externs
import Derived.Laws.IdiomCopy
import Derived.Laws.NewBlocks
import Derived.Deep.RegionLaw
import Derived.Maps.AppendAt
/- What stands at a path of a tree; the files of a folder (plain). -/
namespace Go.Proofs.YtlenfiiocmchdaaGreatDoor
open Go.RowKit Book Pap Ojt Sn
set_option linter.unusedVariables false
set_option linter.unusedSimpArgs false

def subs : List ByteArray → List Fl → List Fl
  | [], fs => fs
  | n :: r, fs => subs r (sub n fs)
theorem subs_nil : ∀ ns : List ByteArray, subs ns [] = []
  | [] => rfl
  | n :: r => subs_nil r
theorem ents_find {ti : List Fl → ByteArray} {fs : List Fl} (n : ByteArray) : ∀ (ns : List ByteArray), (ns.map (entOf ti fs)).find? (fun e => decide (e.name = n)) = if hasN ns n = true then some (entOf ti fs n) else none
  | [] => rfl
  | m :: r => by
    have hm : (entOf ti fs m).name = m := by unfold entOf; split <;> rfl
    rw [List.map_cons]
    by_cases h : m = n
    · subst h
      rw [List.find?_cons_of_pos (by simp [hm]), if_pos (hasN_iff.2 (List.mem_cons_self ..))]
    · rw [List.find?_cons_of_neg (by simp [hm, h]), ents_find n r]
      have : hasN (m :: r) n = hasN r n := by
        rw [Bool.eq_iff_iff, hasN_iff, hasN_iff]
        exact ⟨fun e => (List.mem_cons.1 e).resolve_left (fun e => h e.symm), List.mem_cons_of_mem _⟩
      rw [this]
theorem names_of_sub {n : ByteArray} {fs : List Fl} (h : sub n fs ≠ []) : n ∈ namesF fs := by
  obtain ⟨f, hf⟩ := List.exists_mem_of_ne_nil _ h
  exact mem_names.2 ⟨_, (mem_sub_iff.1 hf).2, rfl⟩
/-- what stands at names -/
structure FindIs (G : Sw.Src) (d : Nat) (fs : List Fl) (ns : List ByteArray) (r : Ent × Int) : Prop where
  dir : subs ns fs ≠ [] → ns.length ≤ d ∧ ∃ nm, r = (⟨nm, 2, tid (d + 1 - ns.length) (subs ns fs)⟩, 0)
  file : ∀ dat, ((ns, dat) : Fl) ∈ fs → ∃ nm, r = (⟨nm, 1, Sw.idOf (encP (blobOf dat))⟩, 0)
  no : subs ns fs = [] → (∀ dat, ((ns, dat) : Fl) ∉ fs) → r = (noEnt, 12)
theorem find_tree {G : Sw.Src} : ∀ (ns : List ByteArray) (d : Nat) (fs : List Fl) (nm : ByteArray), ns ≠ [] → Cov G (texts (d + 1) fs) → AptL fs → (∀ f ∈ fs, f.1.length ≤ d + 1) → GoodFl fs → fs.length ≤ 256 → FindIs G d fs ns (findF G ns ⟨nm, 2, tid (d + 1) fs⟩)
  | [], d, fs, nm, h, _, _, _, _, _ => absurd rfl h
  | n :: r, d, fs, nm, _, hc, ha, hl, hg, hn => by
    have hgt := tree_good d ha hl hg hn
    have hlk : lookK G (tid (d + 1) fs) 2 21 = (treeOf (tents d fs), 0) :=
      lookK_of (x := treeOf (tents d fs)) (hc _ (List.mem_append.2 (.inr (List.mem_singleton.2 rfl)))) hgt (dec_tree hgt) rfl
    have hfd : findF G (n :: r) ⟨nm, 2, tid (d + 1) fs⟩ = if hasN (namesF fs) n = true then findF G r (entOf (tid d) fs n) else (noEnt, 12) := by
      have he := ents_find (ti := tid d) (fs := fs) n (namesF fs)
      show (if (2 : Int) ≠ 2 then _ else if (lookK G (tid (d + 1) fs) 2 21).2 ≠ 0 then _ else match (lookK G (tid (d + 1) fs) 2 21).1.ents.find? (fun e => decide (e.name = n)) with | none => _ | some e => _) = _
      rw [if_neg (by simp), hlk, if_neg (by simp)]
      show (match (tents d fs).find? (fun e => decide (e.name = n)) with | none => (noEnt, (12 : Int)) | some e => findF G r e) = _
      unfold tents
      rw [he]
      cases hasN (namesF fs) n <;> rfl
    rw [hfd]
    by_cases hm : n ∈ namesF fs
    · rw [if_pos (hasN_iff.2 hm)]
      by_cases hs : sub n fs = []
      · -- a file stands at the name
        have hent : entOf (tid d) fs n = ⟨n, 1, Sw.idOf (leafT fs n)⟩ := by unfold entOf; rw [if_pos hs]
        rw [hent]
        have hsub : subs (n :: r) fs = [] := by show subs r (sub n fs) = []; rw [hs]; exact subs_nil r
        cases r with
        | nil =>
          refine ⟨fun h => absurd hsub h, fun dat hd => ⟨n, ?_⟩, fun _ h => ?_⟩
          · show ((⟨n, 1, Sw.idOf (leafT fs n)⟩ : Ent), (0 : Int)) = _
            unfold leafT
            rw [(leafs_val ha).2 hd]; rfl
          · exfalso
            obtain ⟨f, hf, he⟩ := mem_names.1 hm
            obtain ⟨a, b⟩ := f
            cases a with
            | nil => cases he
            | cons a q =>
              cases he
              cases q with
              | nil => exact h b hf
              | cons c q =>
                have : ((c :: q, b) : Fl) ∈ sub n fs := mem_sub_iff.2 ⟨by simp, hf⟩
                rw [hs] at this; cases this
        | cons m r =>
          have h12 : findF G (m :: r) ⟨n, 1, Sw.idOf (leafT fs n)⟩ = (noEnt, 12) := by
            show (if (1 : Int) ≠ 2 then _ else _) = _
            rw [if_pos (by decide)]
          rw [h12]
          refine ⟨fun h => absurd hsub h, fun dat hd => ?_, fun _ _ => rfl⟩
          have : ((m :: r, dat) : Fl) ∈ sub n fs := mem_sub_iff.2 ⟨by simp, hd⟩
          rw [hs] at this; cases this
      · have hent : entOf (tid d) fs n = ⟨n, 2, tid d (sub n fs)⟩ := by unfold entOf; rw [if_neg hs]
        rw [hent]
        obtain ⟨d, rfl⟩ : ∃ k, d = k + 1 := by
          cases d with
          | zero => exact absurd (sub_zero ha hl n) hs
          | succ d => exact ⟨d, rfl⟩
        cases r with
        | nil =>
          refine ⟨fun _ => ⟨by simp, n, rfl⟩, fun dat hd => ?_, fun h => absurd h hs⟩
          exact absurd (ha.lone n (by rw [(leafs_val ha).2 hd]; simp)) hs
        | cons m r =>
          have ih := find_tree (m :: r) d (sub n fs) n (by simp) (cov_sub hc hs) (ha.sub n) (sub_len hl) (hg.sub n) (Nat.le_trans (sub_few n fs) hn)
          refine ⟨fun h => ?_, fun dat hd => ?_, fun h hno => ?_⟩
          · obtain ⟨q1, nm', q2⟩ := ih.dir h
            refine ⟨by rw [List.length_cons]; omega, nm', ?_⟩
            rw [q2, List.length_cons (a := n)]
            have : d + 1 + 1 - ((m :: r).length + 1) = d + 1 - (m :: r).length := by omega
            rw [this]; rfl
          · exact ih.file dat (mem_sub_iff.2 ⟨by simp, hd⟩)
          · exact ih.no h (fun dat hd => hno dat (mem_sub_iff.1 hd).2)
    · rw [if_neg (fun e => hm (hasN_iff.1 e))]
      have hs : sub n fs = [] := Decidable.byContradiction fun h => hm (names_of_sub h)
      refine ⟨fun h => ?_, fun dat hd => ?_, fun _ _ => rfl⟩
      · exfalso; apply h; show subs r (sub n fs) = []; rw [hs]; exact subs_nil r
      · exact absurd (mem_names.2 ⟨_, hd, rfl⟩) hm
/-! files of a folder -/
theorem filterMap_congr' {α β : Type} {f g : α → Option β} : ∀ {l : List α}, (∀ x ∈ l, f x = g x) → l.filterMap f = l.filterMap g
  | [], _ => rfl
  | a :: l, h => by
    have ih := filterMap_congr' (fun x hx => h x (List.mem_cons_of_mem _ hx))
    rw [List.filterMap_cons, List.filterMap_cons, h a (List.mem_cons_self ..), ih]
def cutN (ns : List ByteArray) (f : Fl) : Option Fl := if ns <+: f.1 ∧ ns.length < f.1.length then some (f.1.drop ns.length, f.2) else none
theorem subs_eq : ∀ (ns : List ByteArray) (fs : List Fl), (∀ f ∈ fs, f.1 ≠ []) → subs ns fs = fs.filterMap (cutN ns)
  | [], fs, h => by
    show fs = _
    conv => lhs; rw [← List.filterMap_some (l := fs)]
    refine filterMap_congr' (fun f hf => ?_)
    unfold cutN
    rw [if_pos ⟨List.nil_prefix, List.length_pos_iff.2 (h f hf)⟩]; rfl
  | n :: r, fs, h => by
    show subs r (sub n fs) = _
    rw [subs_eq r (sub n fs) (fun f hf => (mem_sub_iff.1 hf).1)]
    unfold sub
    rw [List.filterMap_filterMap]
    refine filterMap_congr' (fun f hf => ?_)
    obtain ⟨a, b⟩ := f
    rcases a with _ | ⟨a, _ | ⟨c, q⟩⟩
    · exact absurd rfl (h _ hf)
    · unfold subOf cutN
      simp only [List.length_cons, List.length_nil, Option.bind_none]
      rw [if_neg (by omega)]
    · unfold subOf
      simp only
      by_cases e : a = n
      · subst e
        rw [if_pos rfl]
        show cutN r (c :: q, b) = cutN (a :: r) (a :: c :: q, b)
        unfold cutN
        simp only [List.cons_prefix_cons, List.length_cons, true_and, List.drop_succ_cons]
        by_cases hh : r <+: c :: q ∧ r.length < q.length + 1
        · rw [if_pos hh, if_pos ⟨hh.1, by omega⟩]
        · rw [if_neg hh, if_neg (fun e => hh ⟨e.1, by omega⟩)]
      · rw [if_neg e]
        unfold cutN
        rw [if_neg (fun hh => e (List.cons_prefix_cons.1 hh.1).1.symm)]; rfl
end Go.Proofs.YtlenfiiocmchdaaGreatDoor
/- Layer 15's laws: whether items or files are more than is asked: vast, great. -/
namespace Go.Proofs.YtlenfiiocmchdaaGreatDoor
open Go.RowKit Book Pap Ojt Sn
set_option linter.unusedVariables false
set_option linter.unusedSimpArgs false

def sumF (l : List Fi) : Nat := (l.map (fun f : Fi => f.path.size + f.data.size)).sum
theorem sumF_snoc (l : List Fi) (f : Fi) : sumF (l ++ [f]) = sumF l + (f.path.size + f.data.size) := by unfold sumF; simp
/-- true, or no more than is asked -/
def MuchOut (m n : Nat) (fs : List Fi) (w : World) (e : Ending) (w' : World) : Prop := ∃ r : Bool, e = .returned (.bool r) ∧ Below w.heap.size w w' ∧ (r = false → n ≤ 60 ∧ sumF fs ≤ m)
set_option maxRecDepth 100000 in
set_option maxHeartbeats 4000000 in
theorem vast_any (a : Option Addr) (n c : Nat) (fs : List Fi) (w : World) (h : FisAt w a n fs) (hz : ∀ f ∈ fs, f.path.size ≤ 140737488355328 ∧ f.data.size ≤ 140737488355328) :
    Calls Tryz.prog 11 #[.slice a n c] w (MuchOut 262144 n fs w) := by
  obtain ⟨h1, h2, h3⟩ := h
  have HL := hid h1
  have HZ := hid hz
  clear hz
  by_cases hbig : 60 < n
  · have ci : (60 : Int) < n := by omega
    go_enter Tryz.func11, Tryz.ntmps11
    go_wp2_with fail
    go_ret
    exact ⟨true, rfl, Below.refl _ _, fun h => by cases h⟩
  have ci : ¬ (60 : Int) < n := by omega
  go_enter Tryz.func11, Tryz.ntmps11
  go_wp2_with fail
  clear ci
  go_loopw [3, 4] (fun sv iv wr => ∃ i s : Nat, i ≤ n ∧ iv = .int .i64 i ∧ sv = .int .i64 s ∧ s ≤ 1048576 ∧ Hid (sumF (fs.take i) = s) ∧ Hid (Below w.heap.size w wr)) (fun _ iv _ => n - (intOf iv).toNat)
  case atStart => exact ⟨0, 0, Nat.zero_le _, rfl, rfl, by omega, rfl, Below.refl _ _⟩
  case round =>
    obtain ⟨i, s, hi, rfl, rfl, hs, HS, HB⟩ := hrel
    by_cases hlt : i < n
    · obtain ⟨b, off, rfl, hc⟩ := h3.resolve_left (by omega)
      have ci : (i : Int) < n := by omega
      have ci0 : (0 : Int) ≤ (i : Int) := by omega
      obtain ⟨k0, k1⟩ := hc i hlt
      have bl : b < w.heap.size := World.block_lt_of_cell? w _ k0
      have q0 := (HB.out.cell (p := ⟨b, off + i * 2, none⟩) bl).trans k0
      have q1 := (HB.out.cell (p := ⟨b, off + i * 2 + 1, none⟩) bl).trans k1
      have hl : i < fs.length := by rw [HL.out]; exact hlt
      have HT : Hid (fs.take (i + 1) = fs.take i ++ [fs.getD i noFi]) := by
        show _ = _
        rw [List.take_succ_eq_append_getElem hl, List.getD_eq_getElem?_getD, List.getElem?_eq_getElem hl]; rfl
      have HMM : fs.getD i noFi ∈ fs := by
        rw [List.getD_eq_getElem?_getD, List.getElem?_eq_getElem hl]; exact List.getElem_mem hl
      obtain ⟨x, hx⟩ : ∃ x, fs.getD i noFi = x := ⟨_, rfl⟩
      rw [hx] at q0 q1 HT HMM
      obtain ⟨p, dd⟩ := x
      obtain ⟨hp1, hp2⟩ := HZ.out _ HMM
      simp only at q0 q1 hp1 hp2
      clear hx k0 k1 hc hl HMM
      have e1 : IntKind.i64.wrap ((p.size : Int) + dd.size) = (p.size : Int) + dd.size := by rw [IntKind.wrap_i64]; omega
      have e2 : IntKind.i64.wrap ((s : Int) + ((p.size : Int) + dd.size)) = (s : Int) + ((p.size : Int) + dd.size) := by rw [IntKind.wrap_i64]; omega
      have HS2 : Hid (sumF (fs.take (i + 1)) = s + (p.size + dd.size)) := by
        show _ = _
        rw [HT.out, sumF_snoc, HS.out]
      by_cases hgt : 1048576 < s + (p.size + dd.size)
      · have g1 : (1048576 : Int) < (s : Int) + ((p.size : Int) + dd.size) := by omega
        go_upto_region 7 with fail
        go_region
        all_goals
          go_wp2_with fail
          go_ret
          exact ⟨true, rfl, by first | exact HB.out | exact HB.out.drew, fun h => by cases h⟩
      · have g1 : ¬ (1048576 : Int) < (s : Int) + ((p.size : Int) + dd.size) := by omega
        go_upto_region 7 with fail
        go_region
        all_goals
          go_wp2_with fail
          refine ⟨⟨i + 1, s + (p.size + dd.size), by omega, by go_num, by push_cast; rfl, by omega, HS2, by first | exact HB.out | exact HB.out.drew⟩, ?_⟩
          simp [intOf]; omega
    · obtain rfl : i = n := by omega
      have ci : ¬ (i : Int) < i := by omega
      have hall : fs.take i = fs := List.take_of_length_le (by rw [HL.out]; exact Nat.le_refl _)
      have HSA : Hid (sumF fs = s) := by have h := HS.out; rw [hall] at h; exact h
      clear HS hall
      by_cases hf : 262144 < s
      · have g1 : (262144 : Int) < (s : Int) := by omega
        go_wp2_with fail
        go_ret
        exact ⟨true, rfl, HB.out, fun h => by cases h⟩
      · have g1 : ¬ (262144 : Int) < (s : Int) := by omega
        go_wp2_with fail
        go_ret
        exact ⟨false, rfl, HB.out, fun _ => ⟨by omega, by rw [HSA.out]; omega⟩⟩
set_option maxRecDepth 100000 in
set_option maxHeartbeats 4000000 in
theorem great_any (a : Option Addr) (n c : Nat) (fs : List Fi) (w : World) (h : FisAt w a n fs) (hz : ∀ f ∈ fs, f.path.size ≤ 140737488355328 ∧ f.data.size ≤ 140737488355328) :
    Calls Tryz.prog 28 #[.slice a n c] w (MuchOut 131072 n fs w) := by
  obtain ⟨h1, h2, h3⟩ := h
  have HL := hid h1
  have HZ := hid hz
  clear hz
  by_cases hbig : 60 < n
  · have ci : (60 : Int) < n := by omega
    go_enter Tryz.func28, Tryz.ntmps28
    go_wp2_with fail
    go_ret
    exact ⟨true, rfl, Below.refl _ _, fun h => by cases h⟩
  have ci : ¬ (60 : Int) < n := by omega
  go_enter Tryz.func28, Tryz.ntmps28
  go_wp2_with fail
  clear ci
  go_loopw [3, 4] (fun sv iv wr => ∃ i s : Nat, i ≤ n ∧ iv = .int .i64 i ∧ sv = .int .i64 s ∧ s ≤ 1048576 ∧ Hid (sumF (fs.take i) = s) ∧ Hid (Below w.heap.size w wr)) (fun _ iv _ => n - (intOf iv).toNat)
  case atStart => exact ⟨0, 0, Nat.zero_le _, rfl, rfl, by omega, rfl, Below.refl _ _⟩
  case round =>
    obtain ⟨i, s, hi, rfl, rfl, hs, HS, HB⟩ := hrel
    by_cases hlt : i < n
    · obtain ⟨b, off, rfl, hc⟩ := h3.resolve_left (by omega)
      have ci : (i : Int) < n := by omega
      have ci0 : (0 : Int) ≤ (i : Int) := by omega
      obtain ⟨k0, k1⟩ := hc i hlt
      have bl : b < w.heap.size := World.block_lt_of_cell? w _ k0
      have q0 := (HB.out.cell (p := ⟨b, off + i * 2, none⟩) bl).trans k0
      have q1 := (HB.out.cell (p := ⟨b, off + i * 2 + 1, none⟩) bl).trans k1
      have hl : i < fs.length := by rw [HL.out]; exact hlt
      have HT : Hid (fs.take (i + 1) = fs.take i ++ [fs.getD i noFi]) := by
        show _ = _
        rw [List.take_succ_eq_append_getElem hl, List.getD_eq_getElem?_getD, List.getElem?_eq_getElem hl]; rfl
      have HMM : fs.getD i noFi ∈ fs := by
        rw [List.getD_eq_getElem?_getD, List.getElem?_eq_getElem hl]; exact List.getElem_mem hl
      obtain ⟨x, hx⟩ : ∃ x, fs.getD i noFi = x := ⟨_, rfl⟩
      rw [hx] at q0 q1 HT HMM
      obtain ⟨p, dd⟩ := x
      obtain ⟨hp1, hp2⟩ := HZ.out _ HMM
      simp only at q0 q1 hp1 hp2
      clear hx k0 k1 hc hl HMM
      have e1 : IntKind.i64.wrap ((p.size : Int) + dd.size) = (p.size : Int) + dd.size := by rw [IntKind.wrap_i64]; omega
      have e2 : IntKind.i64.wrap ((s : Int) + ((p.size : Int) + dd.size)) = (s : Int) + ((p.size : Int) + dd.size) := by rw [IntKind.wrap_i64]; omega
      have HS2 : Hid (sumF (fs.take (i + 1)) = s + (p.size + dd.size)) := by
        show _ = _
        rw [HT.out, sumF_snoc, HS.out]
      by_cases hgt : 1048576 < s + (p.size + dd.size)
      · have g1 : (1048576 : Int) < (s : Int) + ((p.size : Int) + dd.size) := by omega
        go_upto_region 7 with fail
        go_region
        all_goals
          go_wp2_with fail
          go_ret
          exact ⟨true, rfl, by first | exact HB.out | exact HB.out.drew, fun h => by cases h⟩
      · have g1 : ¬ (1048576 : Int) < (s : Int) + ((p.size : Int) + dd.size) := by omega
        go_upto_region 7 with fail
        go_region
        all_goals
          go_wp2_with fail
          refine ⟨⟨i + 1, s + (p.size + dd.size), by omega, by go_num, by push_cast; rfl, by omega, HS2, by first | exact HB.out | exact HB.out.drew⟩, ?_⟩
          simp [intOf]; omega
    · obtain rfl : i = n := by omega
      have ci : ¬ (i : Int) < i := by omega
      have hall : fs.take i = fs := List.take_of_length_le (by rw [HL.out]; exact Nat.le_refl _)
      have HSA : Hid (sumF fs = s) := by have h := HS.out; rw [hall] at h; exact h
      clear HS hall
      by_cases hf : 131072 < s
      · have g1 : (131072 : Int) < (s : Int) := by omega
        go_wp2_with fail
        go_ret
        exact ⟨true, rfl, HB.out, fun h => by cases h⟩
      · have g1 : ¬ (131072 : Int) < (s : Int) := by omega
        go_wp2_with fail
        go_ret
        exact ⟨false, rfl, HB.out, fun _ => ⟨by omega, by rw [HSA.out]; omega⟩⟩
end Go.Proofs.YtlenfiiocmchdaaGreatDoor
/- Layer 15's laws: a Book as a source; ref14.Get. -/
namespace Go.Proofs.YtlenfiiocmchdaaGreatDoor
open Go.RowKit Book Pap Ojt Sn
set_option linter.unusedVariables false
set_option linter.unusedSimpArgs false

/-- the bytes of an id in a list of items -/
def getF (l : List Fi) : Sw.Src := fun id => (l.find? (fun f => decide (f.path = id))).map (·.data)
theorem getF_hit {l : List Fi} {k : Nat} {id : ByteArray} (hk : k < l.length) (h : ∀ j, j < k → (l.getD j noFi).path ≠ id) (hp : (l.getD k noFi).path = id) : getF l id = some (l.getD k noFi).data := by
  induction l generalizing k with
  | nil => simp at hk
  | cons f r ih =>
    cases k with
    | zero =>
      have hp : f.path = id := hp
      show ((f :: r).find? _).map _ = _
      rw [List.find?_cons_of_pos (by simp [hp])]; rfl
    | succ k =>
      have h0 : f.path ≠ id := h 0 (by omega)
      show ((f :: r).find? _).map _ = _
      rw [List.find?_cons_of_neg (by simp [h0])]
      exact ih (k := k) (by simp only [List.length_cons] at hk; omega) (fun j hj => h (j + 1) (by omega)) hp
theorem getF_miss {l : List Fi} {id : ByteArray} (h : ∀ j, j < l.length → (l.getD j noFi).path ≠ id) : getF l id = none := by
  induction l with
  | nil => rfl
  | cons f r ih =>
    have h0 : f.path ≠ id := h 0 (by simp)
    show ((f :: r).find? _).map _ = _
    rw [List.find?_cons_of_neg (by simp [h0])]
    exact ih (fun j hj => h (j + 1) (by simp only [List.length_cons]; omega))
set_option maxRecDepth 100000 in
set_option maxHeartbeats 4000000 in
theorem r14get_any (a : Option Addr) (n c : Nat) (fs : List Fi) (id : ByteArray) (w : World) (h : FisAt w a n fs) :
    Calls Tryz.prog 67 #[.slice a n c, .string id] w (GetOut (getF fs) id w) := by
  obtain ⟨h1, h2, h3⟩ := h
  have HL := hid h1
  go_enter Tryz.func67, Tryz.ntmps67
  go_wp2_with fail
  go_loopw [6] (fun iv wr => ∃ i : Nat, i ≤ n ∧ iv = .int .i64 i ∧ w = wr ∧ Hid (∀ j, j < i → (fs.getD j noFi).path ≠ id)) (fun iv _ => n - (intOf iv).toNat)
  case atStart => exact ⟨0, Nat.zero_le _, rfl, rfl, fun j hj => by omega⟩
  case round =>
    obtain ⟨i, hi, rfl, rfl, HN⟩ := hrel
    by_cases hlt : i < n
    · obtain ⟨b, off, rfl, hc⟩ := h3.resolve_left (by omega)
      have ci : (i : Int) < n := by omega
      have ci0 : (0 : Int) ≤ (i : Int) := by omega
      obtain ⟨q0, q1⟩ := hc i hlt
      have hl : i < fs.length := by rw [HL.out]; exact hlt
      obtain ⟨x, hx⟩ : ∃ x, fs.getD i noFi = x := ⟨_, rfl⟩
      rw [hx] at q0 q1
      have HX := hid hx
      obtain ⟨p, dd⟩ := x
      simp only at q0 q1
      clear hx hc
      by_cases he : p = id
      · have HR : Hid (getF fs id = some dd) := by
          have h := getF_hit (id := id) hl HN.out (by rw [HX.out]; exact he)
          rw [HX.out] at h; exact h
        have e1 : (p.toList == id.toList) = true := by rw [he]; simp
        clear hl he
        go_wp2_with fail
        go_ret2
        unfold GetOut
        rw [HR.out]
        exact ⟨rfl, Below.refl _ _⟩
      · have e1 : (p.toList == id.toList) = false := by
          rw [ba_toList, ba_toList, beq_eq_false_iff_ne]
          exact fun e => he (ba_ext e)
        have HN2 : Hid (∀ j, j < i + 1 → (fs.getD j noFi).path ≠ id) := fun j hj => by
          by_cases hji : j = i
          · subst hji; rw [HX.out]; exact he
          · exact HN.out j (by omega)
        clear hl he
        go_wp2_with fail
        go_roundw
        case rel => first | exact ⟨i + 1, by omega, by go_num, by first | rfl | trivial, HN2⟩ | ((repeat apply Exists.intro); exact ⟨⟨i + 1, by omega, by go_num, by first | rfl | trivial, HN2⟩, rfl⟩)
        case measure => simp [intOf]; omega
    · obtain rfl : i = n := by omega
      have ci : ¬ (i : Int) < i := by omega
      have HR : Hid (getF fs id = none) := getF_miss (fun j hj => HN.out j (by rw [← HL.out]; exact hj))
      go_wp2_with fail
      go_ret2
      unfold GetOut
      rw [HR.out]
      exact ⟨rfl, Below.refl _ _⟩
/-- a Book in memory -/
def BookAt (w : World) (bb : Nat) (fs : List Fi) : Prop := ∃ a n c, Blk w bb 31 #[.slice a n c] ∧ FisAt w a n fs
theorem BookAt.later {w w' : World} {bb : Nat} {fs : List Fi} (h : BookAt w bb fs) (hb : Below w.heap.size w w') : BookAt w' bb fs := by
  obtain ⟨a, n, c, h1, h2⟩ := h
  exact ⟨a, n, c, (hb.block bb (Blk.lt h1)).trans h1, h2.later hb⟩
theorem bookget_any (bb : Nat) (fs : List Fi) (id : ByteArray) (w : World) (h : BookAt w bb fs) :
    Calls Tryz.prog 306 #[.pointer (some ⟨bb, 0, none⟩), .string id] w (GetOut (getF fs) id w) := by
  obtain ⟨a, n, c, h1, h2⟩ := h
  have k0 : w.cell? ⟨bb, 0, none⟩ = some (.slice a n c) := Blk.cell h1 0
  have HG := hid (r14get_any a n c fs id w h2)
  clear h1 h2
  go_enter Tryz.func306, Tryz.ntmps306
  go_wp2_with fail
  refine HG.out.mono ?_; rintro e w1 ⟨rfl, hb⟩
  have HB := hid hb
  clear hb
  go_wp2_with fail
  go_ret2
  exact ⟨rfl, HB.out⟩
theorem book_src (bb : Nat) (fs : List Fi) (w : World) (h : BookAt w bb fs) : SrcAt w 29 (.pointer (some ⟨bb, 0, none⟩)) (getF fs) :=
  ⟨306, .pointer (some ⟨bb, 0, none⟩), fun W => by kernel_rfl, enters_of Tryz.func306 (by kernel_rfl) rfl, fun id W hW => bookget_any bb fs id W (h.later hW)⟩
end Go.Proofs.YtlenfiiocmchdaaGreatDoor
/- The statement on folders, plain: what stands at a folder's path is the tree of the files in it. -/
namespace Go.Proofs.YtlenfiiocmchdaaGreatDoor
open Go.RowKit Book Pap Ojt Sn
set_option linter.unusedVariables false
set_option linter.unusedSimpArgs false

/-- a file's path below a folder's -/
def stripF (p : ByteArray) (f : Fi) : Fi := ⟨f.path.extract (p.size + 1) f.path.size, f.data⟩
def inOne (p : ByteArray) (f : Fi) : Option Fi := if withinR p.data.toList f.path.data.toList = true then some (stripF p f) else none
/-- the files in a folder -/
def inF (p : ByteArray) (fs : List Fi) : List Fi := fs.filterMap (inOne p)
theorem extract_drop (s : ByteArray) (k : Nat) : (s.extract k s.size).data.toList = s.data.toList.drop k := by
  rw [Lib.extract_data]
  have : s.data.toList.length = s.size := Array.length_toList
  rw [List.take_of_length_le (by rw [List.length_drop]; omega)]
theorem strip_cut {p f : List UInt8} (hp : splitE p = 0) (hf : splitE f = 0) (h : withinR p f = true) : ∃ r, f = p ++ 47 :: r ∧ pieces f = pieces p ++ pieces r := by
  rw [← within_eq hp hf] at h
  unfold Lib.hasPrefix at h
  rw [List.isPrefixOf_iff_prefix] at h
  obtain ⟨r, hr⟩ := h
  refine ⟨r, by rw [← hr]; simp, ?_⟩
  rw [← hr, List.append_assoc, List.singleton_append, pieces_app]
theorem strip_data {p : ByteArray} {f : Fi} {r : List UInt8} (h : f.path.data.toList = p.data.toList ++ 47 :: r) : (stripF p f).path.data.toList = r := by
  unfold stripF
  simp only
  rw [extract_drop, h]
  have : p.data.toList.length = p.size := Array.length_toList
  have e1 : p.data.toList ++ 47 :: r = (p.data.toList ++ [47]) ++ r := by simp
  have e2 : p.size + 1 = (p.data.toList ++ [47]).length := by rw [List.length_append, this]; rfl
  rw [e1, e2, List.drop_left]
theorem within_list {p f : List UInt8} (hp : splitE p = 0) (hf : splitE f = 0) : withinR p f = true ↔ pieces p <+: pieces f ∧ (pieces p).length < (pieces f).length := by
  rw [withinR_ok hp hf, decide_eq_true_eq, List.prefix_iff_eq_take, and_comm]
theorem cut_one {p : ByteArray} {f : Fi} (hp : splitE p.data.toList = 0) (hf : splitE f.path.data.toList = 0) : cutN ((pieces p.data.toList).map bz) (flOf f) = (inOne p f).map flOf := by
  have hiff : ((pieces p.data.toList).map bz <+: (flOf f).1 ∧ ((pieces p.data.toList).map bz).length < (flOf f).1.length) ↔ withinR p.data.toList f.path.data.toList = true := by
    rw [within_list hp hf]
    unfold flOf
    rw [List.length_map, List.length_map]
    refine and_congr ⟨map_bz_inj, fun ⟨t, ht⟩ => ⟨t.map bz, by rw [← ht, List.map_append]⟩⟩ Iff.rfl
  unfold cutN inOne
  by_cases h : withinR p.data.toList f.path.data.toList = true
  · rw [if_pos (hiff.2 h), if_pos h]
    obtain ⟨r, h1, h2⟩ := strip_cut hp hf h
    show some _ = some _
    congr 1
    unfold flOf
    simp only
    rw [strip_data h1, h2, List.map_append, List.length_map]
    refine Prod.ext ?_ rfl
    show ((pieces p.data.toList).map bz ++ (pieces r).map bz).drop (pieces p.data.toList).length = _
    rw [List.drop_append_of_le_length (by simp)]
    simp
  · rw [if_neg (fun e => h (hiff.1 e)), if_neg h]; rfl
theorem subs_in {p : ByteArray} {fs : List Fi} (hp : splitE p.data.toList = 0) (h : OkFs fs) : subs ((pieces p.data.toList).map bz) (fs.map flOf) = (inF p fs).map flOf := by
  rw [subs_eq _ _ h.apt.1, List.filterMap_map]
  unfold inF
  rw [List.map_filterMap]
  exact filterMap_congr' (fun f hf => cut_one hp (h.split f hf))
theorem OkFs.inF {p : ByteArray} {fs : List Fi} (hp : splitE p.data.toList = 0) (h : OkFs fs) : OkFs (inF p fs) := by
  have key : ∀ f ∈ fs, ∀ g, inOne p f = some g → ∃ r, f.path.data.toList = p.data.toList ++ 47 :: r ∧ pieces f.path.data.toList = pieces p.data.toList ++ pieces r ∧ g.path.data.toList = r ∧ g.data = f.data ∧ splitE r = 0 := by
    intro f hf g hg
    unfold inOne at hg
    split at hg
    · rename_i hw
      cases hg
      obtain ⟨r, h1, h2⟩ := strip_cut hp (h.split f hf) hw
      refine ⟨r, h1, h2, strip_data h1, rfl, ?_⟩
      obtain ⟨q1, q2, q3⟩ := check_pieces (h.split f hf)
      refine checkE_ok.2 ⟨pieces_ne r, fun x hx => q2 x (by rw [h2]; exact List.mem_append.2 (.inr hx)), ?_⟩
      rw [h2, List.length_append] at q3
      omega
    · cases hg
  refine ⟨Nat.le_trans (List.length_filterMap_le ..) h.few, fun g hg => ?_, ?_, fun g hg => ?_⟩
  · obtain ⟨f, hf, e⟩ := List.mem_filterMap.1 hg
    obtain ⟨r, -, -, h3, -, h5⟩ := key f hf g e
    rw [h3]; exact h5
  · unfold Go.Proofs.YtlenfiiocmchdaaGreatDoor.inF
    rw [List.pairwise_filterMap]
    refine List.Pairwise.imp_of_mem ?_ h.off
    intro f f' hf hf' hap g hg g' hg'
    obtain ⟨r, h1, h2, h3, -, h5⟩ := key f hf g hg
    obtain ⟨r', h1', h2', h3', -, h5'⟩ := key f' hf' g' hg'
    rw [h3, h3']
    obtain ⟨n1, n2, n3⟩ := apart_off hap
    have lift : ∀ {x y : List UInt8}, splitE x = 0 → splitE y = 0 → ∀ {a b : List UInt8}, splitE a = 0 → splitE b = 0 → pieces a = pieces p.data.toList ++ pieces x → pieces b = pieces p.data.toList ++ pieces y → withinR a b = false → withinR x y = false := by
      intro x y hx hy a b hA hB ea eb hw
      rw [Bool.eq_false_iff] at hw ⊢
      intro hxy
      apply hw
      rw [within_list hx hy] at hxy
      rw [within_list hA hB, ea, eb]
      exact ⟨(List.prefix_append_right_inj _).2 hxy.1, by rw [List.length_append, List.length_append]; omega⟩
    refine ⟨fun e => n1 (by rw [h1, h1', e]), ?_⟩
    unfold meets
    rw [Bool.or_eq_false_iff]
    exact ⟨lift h5 h5' (h.split f hf) (h.split f' hf') h2 h2' n2, lift h5' h5 (h.split f' hf') (h.split f hf) h2' h2 n3⟩
  · obtain ⟨f, hf, e⟩ := List.mem_filterMap.1 hg
    obtain ⟨r, -, -, -, h4, -⟩ := key f hf g e
    rw [h4]; exact h.size f hf
theorem mem_flOf {p : ByteArray} {dat : ByteArray} {fs : List Fi} : (((pieces p.data.toList).map bz, dat) : Fl) ∈ fs.map flOf ↔ (⟨p, dat⟩ : Fi) ∈ fs := by
  rw [List.mem_map]
  constructor
  · rintro ⟨f, hf, e⟩
    have h1 : (pieces f.path.data.toList).map bz = (pieces p.data.toList).map bz := congrArg Prod.fst e
    have h2 : f.data = dat := congrArg Prod.snd e
    have h3 : pathOf ((pieces f.path.data.toList).map bz) = pathOf ((pieces p.data.toList).map bz) := by rw [h1]
    have h4 : f.path = p := by
      have a := flOf_path f
      have b := flOf_path (⟨p, dat⟩ : Fi)
      unfold flOf at a b
      simp only at a b
      rw [a, b] at h3; exact h3
    rw [← h4, ← h2]; exact hf
  · intro h
    exact ⟨_, h, rfl⟩
/-- what stands at a path, of a commit of files -/
structure FoldIs (fs : List Fi) (p : ByteArray) (r : Ent × Int) : Prop where
  dir : inF p fs ≠ [] → OkFs (inF p fs) ∧ r.2 = 0 ∧ r.1.kind = 2 ∧ r.1.id = tid 64 ((inF p fs).map flOf)
  file : inF p fs = [] → (∃ f ∈ fs, f.path = p) → r.2 = 0 ∧ r.1.kind = 1
  no : inF p fs = [] → (¬ ∃ f ∈ fs, f.path = p) → r.2 ≠ 0
theorem folders_plain {G : Sw.Src} {fs : List Fi} {p cid : ByteArray} {x : Ob} (h : OkFs fs) (hne : p.size ≠ 0) (hc : Cov G (texts 64 (fs.map flOf))) (hl : lookK G cid 3 12 = (x, 0)) (hx : x.tree = tid 64 (fs.map flOf)) : FoldIs fs p (findS G cid p) := by
  by_cases hp : splitE p.data.toList = 0
  · have hf : findS G cid p = findF G ((pieces p.data.toList).map bz) ⟨ByteArray.empty, 2, tid 64 (fs.map flOf)⟩ := by
      unfold findS
      rw [if_neg (fun e => e.2 hp), hl, if_neg (by simp), if_neg hne, hx]
    rw [hf]
    have hns : (pieces p.data.toList).map bz ≠ [] := fun e => pieces_ne _ (List.map_eq_nil_iff.1 e)
    have hq := find_tree (G := G) _ 63 (fs.map flOf) ByteArray.empty hns hc h.apt h.len h.goodFl (by rw [List.length_map]; exact h.few)
    have hs := subs_in hp h
    have hin := OkFs.inF hp h
    refine ⟨fun hi => ⟨hin, ?_⟩, fun hi hfile => ?_, fun hi hno => ?_⟩
    · obtain ⟨h1, nm, h2⟩ := hq.dir (by rw [hs]; exact fun e => hi (List.map_eq_nil_iff.1 e))
      rw [h2]
      refine ⟨rfl, rfl, ?_⟩
      show tid (63 + 1 - _) _ = _
      rw [hs]
      obtain ⟨k, hk⟩ : ∃ k, ((pieces p.data.toList).map bz).length + k = 63 := ⟨63 - ((pieces p.data.toList).map bz).length, by omega⟩
      have e1 : 63 + 1 - ((pieces p.data.toList).map bz).length = k + 1 := by omega
      have e2 : k + 1 + ((pieces p.data.toList).map bz).length = 64 := by omega
      rw [e1, ← e2]
      refine tid_depth k _ _ hin.apt (fun f hf => ?_)
      rw [← hs, subs_eq _ _ h.apt.1] at hf
      obtain ⟨g, hg, e⟩ := List.mem_filterMap.1 hf
      unfold cutN at e
      split at e
      · cases e
        have := h.len g hg
        rw [List.length_drop]; omega
      · cases e
    · obtain ⟨f, hmem, rfl⟩ := hfile
      obtain ⟨nm, h2⟩ := hq.file f.data (mem_flOf.2 hmem)
      rw [h2]; exact ⟨rfl, rfl⟩
    · rw [hq.no (by rw [hs, hi]; rfl) (fun dat hd => hno ⟨_, mem_flOf.1 hd, rfl⟩)]
      decide
  · have hin : inF p fs = [] := by
      unfold inF
      rw [List.filterMap_eq_nil_iff]
      intro f hf
      unfold inOne
      rw [within_no (.inl hp)]; rfl
    have hz : p.size ≠ 0 ∧ splitE p.data.toList ≠ 0 := ⟨hne, hp⟩
    refine ⟨fun e => absurd hin e, fun _ ⟨f, hf, e⟩ => absurd (h.split f hf) (by rw [e]; exact hp), fun _ _ => ?_⟩
    unfold findS
    rw [if_pos hz]; exact hp
/-! objects as items -/
def itemsS (l : List ByteArray) : List Fi := l.map (fun t => ⟨Sw.idOf t, t⟩)
theorem items_cov {l : List ByteArray} (h : Sw.Apart l) : Cov (getF (itemsS l)) l := fun t ht => by
  unfold getF itemsS
  rw [List.find?_map]
  have h1 := srcL_cov h t ht
  unfold srcL at h1
  show (Option.map _ (l.find? (fun x => decide (Sw.idOf x = Sw.idOf t)))).map _ = _
  rw [h1]; rfl
/-- a commit of files -/
theorem commit_ok {G : Sw.Src} {fs : List Fi} {note : ByteArray} (h : OkFs fs) (hn : note.size ≤ 1000) : commitS G fs [] note = (layS (treeS 64 (fs.map flOf) []).1 (commitOf (tid 64 (fs.map flOf)) [] 0 note), 0) := by
  have hb : buildS fs = (treeS 64 (fs.map flOf) [], 0) := by unfold buildS; rw [if_pos ((checkF_iff fs).2 h)]
  have hh : highS G [] = ([], 0) := by unfold highS; rw [if_neg (by simp), if_neg (by simp)]; rfl
  unfold commitS
  rw [hb, hh, if_neg (by simp), if_neg (by simp), if_neg (by decide), if_neg (by omega), (treeS_mem 64 _ []).1]
  have e : sortB [] = [] := by unfold sortB; simp
  rw [e]; rfl
theorem commit_good {fs : List Fi} {note : ByteArray} (hn : note.size ≤ 1000) : good (commitOf (tid 64 (fs.map flOf)) [] 0 note) = true := by
  have h1 : (tid 64 (fs.map flOf)).size = 32 := idOf_size _
  unfold good commitOf
  simp only
  rw [if_neg (by decide), if_neg (by decide), if_pos trivial]
  unfold Ojt.goodCommit goodPars
  simp [h1, hn, risingB]
theorem commit_mem {fs : List Fi} {note t : ByteArray} : t ∈ (layS (treeS 64 (fs.map flOf) []).1 (commitOf (tid 64 (fs.map flOf)) [] 0 note)).1 ↔ t ∈ texts 64 (fs.map flOf) ∨ t = encP (commitOf (tid 64 (fs.map flOf)) [] 0 note) := by
  rw [layS_mem, (treeS_mem 64 _ []).2]
  simp
theorem commit_look {G : Sw.Src} {fs : List Fi} {note : ByteArray} (hn : note.size ≤ 1000) (hc : G (Sw.idOf (encP (commitOf (tid 64 (fs.map flOf)) [] 0 note))) = some (encP (commitOf (tid 64 (fs.map flOf)) [] 0 note))) (lacks : Int) :
    lookK G (Sw.idOf (encP (commitOf (tid 64 (fs.map flOf)) [] 0 note))) 3 lacks = (commitOf (tid 64 (fs.map flOf)) [] 0 note, 0) :=
  lookK_of hc (commit_good hn) (dec_commit (commit_good hn)) rfl
theorem commit_list {G : Sw.Src} {fs : List Fi} {note : ByteArray} (h : OkFs fs) (h60 : fs.length ≤ 60) (hn : note.size ≤ 1000) (hc : Cov G (layS (treeS 64 (fs.map flOf) []).1 (commitOf (tid 64 (fs.map flOf)) [] 0 note)).1) :
    listS G (Sw.idOf (encP (commitOf (tid 64 (fs.map flOf)) [] 0 note))) = ((sortF fs).map blobEnt, 0) := by
  obtain ⟨m, ho⟩ := over_files h h60 (G := G) (fun t ht => hc t (commit_mem.2 (.inl ht)))
  unfold listS
  rw [commit_look hn (hc _ (commit_mem.2 (.inr rfl))) 12, if_neg (by simp)]
  show (if (overS G 66 (tid 64 (fs.map flOf)) [] ⟨0, []⟩).2 ≠ 0 then _ else ((overS G 66 (tid 64 (fs.map flOf)) [] ⟨0, []⟩).1.blobs, (0 : Int))) = _
  rw [ho, if_neg (by simp)]
end Go.Proofs.YtlenfiiocmchdaaGreatDoor
/- The statement on differences, plain: put on the first one's files they give the second one's; turned round they are turned. -/
namespace Go.Proofs.YtlenfiiocmchdaaGreatDoor
open Go.RowKit Book Pap Ojt Sn
set_option linter.unusedVariables false
set_option linter.unusedSimpArgs false

/-- the id of a name -/
def idl (l : List Ent) (q : ByteArray) : Option ByteArray := (l.find? (fun e => decide (e.name = q))).map (·.id)
def wasOf (l : List Ent) (q : ByteArray) : ByteArray := (idl l q).getD ByteArray.empty
theorem idl_hit {y : Ent} {r : List Ent} {q : ByteArray} (h : y.name = q) : idl (y :: r) q = some y.id := by
  unfold idl; rw [List.find?_cons_of_pos (by simp [h])]; rfl
theorem idl_miss {y : Ent} {r : List Ent} {q : ByteArray} (h : y.name ≠ q) : idl (y :: r) q = idl r q := by
  unfold idl; rw [List.find?_cons_of_neg (by simp [h])]
theorem idl_none {l : List Ent} {q : ByteArray} : idl l q = none ↔ q ∉ l.map (·.name) := by
  induction l with
  | nil => simp [idl]
  | cons y r ih =>
    by_cases h : y.name = q
    · rw [idl_hit h]; simp [h]
    · rw [idl_miss h, ih, List.map_cons, List.mem_cons]
      exact ⟨fun h1 e => e.elim (fun e => h e.symm) h1, fun h1 e => h1 (.inr e)⟩
theorem idl_some {l : List Ent} (hn : (l.map (·.name)).Nodup) {y : Ent} (hy : y ∈ l) : idl l y.name = some y.id := by
  induction l with
  | nil => cases hy
  | cons z r ih =>
    rw [List.map_cons] at hn
    obtain ⟨h1, h2⟩ := List.nodup_cons.1 hn
    rcases List.mem_cons.1 hy with rfl | hy
    · exact idl_hit rfl
    · have hne : z.name ≠ y.name := fun e => h1 (by rw [e]; exact List.mem_map.2 ⟨y, hy, rfl⟩)
      rw [idl_miss hne]; exact ih h2 hy
theorem idl_in {l : List Ent} {q i : ByteArray} (h : idl l q = some i) : ∃ y ∈ l, y.name = q ∧ y.id = i := by
  unfold idl at h
  cases hf : l.find? (fun e => decide (e.name = q)) with
  | none => rw [hf] at h; cases h
  | some y =>
    rw [hf] at h
    cases h
    exact ⟨y, List.mem_of_find?_eq_some hf, of_decide_eq_true (by simpa using List.find?_some hf), rfl⟩
theorem tabA_val : ∀ (l : List Ent) (f : ByteArray → Option Ch) (q : ByteArray), (l.map (·.name)).Nodup → l.foldl putA f q = match idl l q with | some i => some ⟨q, i, ByteArray.empty⟩ | none => f q
  | [], f, q, _ => rfl
  | y :: r, f, q, h => by
    rw [List.map_cons] at h
    obtain ⟨h1, h2⟩ := List.nodup_cons.1 h
    rw [List.foldl_cons, tabA_val r _ q h2]
    by_cases hq : y.name = q
    · subst hq
      rw [idl_none.2 h1, idl_hit rfl]
      show putA f y y.name = _
      unfold putA; rw [if_pos rfl]
    · rw [idl_miss hq]
      cases idl r q with
      | some i => rfl
      | none =>
        show putA f y q = f q
        unfold putA; rw [if_neg (fun e => hq e.symm)]
theorem tabB_val : ∀ (l : List Ent) (f : ByteArray → Option Ch) (q : ByteArray), (l.map (·.name)).Nodup → l.foldl putB f q = match idl l q with | some i => some ⟨q, ((f q).getD noCh).was, i⟩ | none => f q
  | [], f, q, _ => rfl
  | y :: r, f, q, h => by
    rw [List.map_cons] at h
    obtain ⟨h1, h2⟩ := List.nodup_cons.1 h
    rw [List.foldl_cons, tabB_val r _ q h2]
    by_cases hq : y.name = q
    · subst hq
      rw [idl_none.2 h1, idl_hit rfl]
      show putB f y y.name = _
      unfold putB; rw [if_pos rfl]
    · rw [idl_miss hq]
      have e : putB f y q = f q := by unfold putB; rw [if_neg (fun e => hq e.symm)]
      rw [e]
theorem tab_iff {l m : List Ent} (hl : (l.map (·.name)).Nodup) (hm : (m.map (·.name)).Nodup) (c : Ch) :
    (tabD l m c.path = some c ∧ c.was ≠ c.is) ↔ (c.was = wasOf l c.path ∧ c.is = wasOf m c.path ∧ c.was ≠ c.is) := by
  obtain ⟨p, wa, is⟩ := c
  simp only
  unfold tabD wasOf
  rw [tabB_val m _ p hm, tabA_val l _ p hl]
  cases hm1 : idl m p with
  | some i =>
    cases hl1 : idl l p with
    | some j =>
      constructor
      · rintro ⟨h1, h3⟩
        have h1 : (⟨p, j, i⟩ : Ch) = ⟨p, wa, is⟩ := Option.some.inj h1
        injection h1 with _ e1 e2
        exact ⟨e1.symm, e2.symm, h3⟩
      · rintro ⟨h1, h2, h3⟩
        subst h1; subst h2
        exact ⟨rfl, h3⟩
    | none =>
      constructor
      · rintro ⟨h1, h3⟩
        have h1 : (⟨p, ByteArray.empty, i⟩ : Ch) = ⟨p, wa, is⟩ := Option.some.inj h1
        injection h1 with _ e1 e2
        exact ⟨e1.symm, e2.symm, h3⟩
      · rintro ⟨h1, h2, h3⟩
        subst h1; subst h2
        exact ⟨rfl, h3⟩
  | none =>
    cases hl1 : idl l p with
    | some j =>
      constructor
      · rintro ⟨h1, h3⟩
        have h1 : (⟨p, j, ByteArray.empty⟩ : Ch) = ⟨p, wa, is⟩ := Option.some.inj h1
        injection h1 with _ e1 e2
        exact ⟨e1.symm, e2.symm, h3⟩
      · rintro ⟨h1, h2, h3⟩
        subst h1; subst h2
        exact ⟨rfl, h3⟩
    | none =>
      constructor
      · rintro ⟨h1, h3⟩
        cases h1
      · rintro ⟨h1, h2, h3⟩
        exact absurd (h1.trans h2.symm) h3
theorem diff_mem {l m : List Ent} {D : List Ch} (hl : (l.map (·.name)).Nodup) (hm : (m.map (·.name)).Nodup) (h : IsDiff l m D) (c : Ch) : c ∈ D ↔ (c.was = wasOf l c.path ∧ c.is = wasOf m c.path ∧ c.was ≠ c.is) :=
  (h.2 c).trans (tab_iff hl hm c)
def swapC (c : Ch) : Ch := ⟨c.path, c.is, c.was⟩
theorem diff_swap {l m : List Ent} {D R : List Ch} (hl : (l.map (·.name)).Nodup) (hm : (m.map (·.name)).Nodup) (h : IsDiff l m D) (k : IsDiff m l R) : R = D.map swapC := by
  refine k.one ⟨?_, fun c => ?_⟩
  · rw [List.pairwise_map]; exact h.1
  · rw [tab_iff hm hl c]
    constructor
    · intro hc
      obtain ⟨d, hd, rfl⟩ := List.mem_map.1 hc
      obtain ⟨h1, h2, h3⟩ := (diff_mem hl hm h d).1 hd
      exact ⟨h2, h1, fun e => h3 e.symm⟩
    · rintro ⟨h1, h2, h3⟩
      refine List.mem_map.2 ⟨swapC c, (diff_mem hl hm h _).2 ⟨h2, h1, fun e => h3 e.symm⟩, rfl⟩
/-- a table with a change put on -/
def stepW (W : ByteArray → Option ByteArray) (c : Ch) : ByteArray → Option ByteArray := fun q => if q = c.path then (if c.is.size = 0 then none else some c.is) else W q
def Full (l : List Ent) : Prop := ∀ y ∈ l, y.id.size = 32
theorem size0 {s : ByteArray} (h : s.size = 0) : s = ByteArray.empty := by
  refine ba_ext ?_
  have : s.data.toList.length = 0 := by rw [bx_data]; exact h
  rw [List.length_eq_zero_iff.1 this]; rfl
theorem was_opt {m : List Ent} (hf : Full m) (q : ByteArray) : (if (wasOf m q).size = 0 then none else some (wasOf m q)) = idl m q := by
  unfold wasOf
  cases h : idl m q with
  | none => rfl
  | some i =>
    obtain ⟨y, hy, -, rfl⟩ := idl_in h
    have := hf y hy
    show (if y.id.size = 0 then none else some y.id) = _
    rw [if_neg (by omega)]
theorem fold_val {m : List Ent} (hf : Full m) : ∀ (P : List Ch) (W : ByteArray → Option ByteArray) (q : ByteArray), (∀ c ∈ P, c.is = wasOf m c.path) → P.foldl stepW W q = if hasN (P.map (·.path)) q = true then idl m q else W q
  | [], W, q, _ => rfl
  | c :: P, W, q, h => by
    rw [List.foldl_cons, fold_val hf P _ q (fun x hx => h x (List.mem_cons_of_mem _ hx)), List.map_cons]
    by_cases hp : q ∈ P.map (·.path)
    · rw [if_pos (hasN_iff.2 hp), if_pos (hasN_iff.2 (List.mem_cons_of_mem _ hp))]
    · rw [if_neg (fun e => hp (hasN_iff.1 e))]
      by_cases hq : q = c.path
      · rw [if_pos (hasN_iff.2 (by rw [hq]; exact List.mem_cons_self ..))]
        unfold stepW
        rw [if_pos hq, h c (List.mem_cons_self ..), was_opt hf, hq]
      · rw [if_neg (fun e => (List.mem_cons.1 (hasN_iff.1 e)).elim hq hp)]
        unfold stepW
        rw [if_neg hq]
theorem diff_end {l m : List Ent} {D : List Ch} (hl : (l.map (·.name)).Nodup) (hm : (m.map (·.name)).Nodup) (fl : Full l) (fm : Full m) (h : IsDiff l m D) : D.foldl stepW (idl l) = idl m := by
  funext q
  rw [fold_val fm D _ q (fun c hc => ((diff_mem hl hm h c).1 hc).2.1)]
  by_cases hq : q ∈ D.map (·.path)
  · rw [if_pos (hasN_iff.2 hq)]
  · rw [if_neg (fun e => hq (hasN_iff.1 e))]
    have : wasOf l q = wasOf m q := Decidable.byContradiction fun hne => hq (List.mem_map.2 ⟨⟨q, wasOf l q, wasOf m q⟩, (diff_mem hl hm h _).2 ⟨rfl, rfl, hne⟩, rfl⟩)
    rw [← was_opt fl, ← was_opt fm, this]
theorem diff_ne {l m : List Ent} {D : List Ch} (h : IsDiff l m D) {i j : Nat} (hi : i < D.length) (hj : j < D.length) (hij : i < j) : cmpP (pieces D[i].path.data.toList) (pieces D[j].path.data.toList) = -1 :=
  List.pairwise_iff_getElem.1 h.1 i j hi hj hij
theorem diff_get {l m : List Ent} {D : List Ch} (hl : (l.map (·.name)).Nodup) (hm : (m.map (·.name)).Nodup) (fm : Full m) (h : IsDiff l m D) (i : Nat) (hi : i < D.length) : ((D.take i).foldl stepW (idl l) D[i].path).getD ByteArray.empty = D[i].was := by
  rw [fold_val fm (D.take i) _ _ (fun c hc => ((diff_mem hl hm h c).1 (List.mem_of_mem_take hc)).2.1), if_neg]
  · exact ((diff_mem hl hm h _).1 (List.getElem_mem hi)).1.symm
  · intro e
    obtain ⟨c, hc, he⟩ := List.mem_map.1 (hasN_iff.1 e)
    obtain ⟨j, hj, rfl⟩ := List.getElem_of_mem hc
    rw [List.length_take] at hj
    have := diff_ne h (i := j) (j := i) (by omega) hi (by omega)
    rw [List.getElem_take] at he
    rw [he, cmpP_self] at this
    cases this
theorem OkFs.nodup {fs : List Fi} (h : OkFs fs) : (((sortF fs).map blobEnt).map (·.name)).Nodup := by
  rw [List.map_map]
  show ((sortF fs).map (fun f => f.path)).Pairwise (· ≠ ·)
  rw [List.pairwise_map]
  refine h.sorted.imp (fun {a b} hab e => ?_)
  unfold LtF at hab
  rw [e, cmpP_self] at hab
  cases hab
theorem OkFs.full {fs : List Fi} : Full ((sortF fs).map blobEnt) := fun y hy => by
  obtain ⟨f, -, rfl⟩ := List.mem_map.1 hy
  exact idOf_size _
theorem OkFs.names {fs : List Fi} (h : OkFs fs) : ∀ y ∈ (sortF fs).map blobEnt, splitE y.name.data.toList = 0 := fun y hy => by
  obtain ⟨f, hf, rfl⟩ := List.mem_map.1 hy
  exact h.split f ((sortF_perm fs).mem_iff.1 hf)
theorem diff_split {l m : List Ent} {D : List Ch} (hl : (l.map (·.name)).Nodup) (hm : (m.map (·.name)).Nodup) (sl : ∀ y ∈ l, splitE y.name.data.toList = 0) (sm : ∀ y ∈ m, splitE y.name.data.toList = 0) (h : IsDiff l m D) {c : Ch} (hc : c ∈ D) : splitE c.path.data.toList = 0 := by
  obtain ⟨h1, h2, h3⟩ := (diff_mem hl hm h c).1 hc
  unfold wasOf at h1 h2
  cases e1 : idl l c.path with
  | some i =>
    obtain ⟨y, hy, e, -⟩ := idl_in e1
    rw [← e]; exact sl y hy
  | none =>
    cases e2 : idl m c.path with
    | some i =>
      obtain ⟨y, hy, e, -⟩ := idl_in e2
      rw [← e]; exact sm y hy
    | none =>
      rw [e1] at h1; rw [e2] at h2
      exact absurd (h1.trans h2.symm) h3
end Go.Proofs.YtlenfiiocmchdaaGreatDoor
/- What awake() asks, plain: reckoned by the kernel. -/
namespace Go.Proofs.YtlenfiiocmchdaaGreatDoor
open Go.RowKit Book Pap Ojt Sn
set_option linter.unusedVariables false
set_option linter.unusedSimpArgs false

def awF : List Fi := [⟨⟨#[98]⟩, ⟨#[50]⟩⟩, ⟨⟨#[97, 47, 120]⟩, ⟨#[49]⟩⟩]
def awR : (List ByteArray × ByteArray) × Int := commitS (getF []) awF [] ⟨#[110]⟩
def awL : List ByteArray := awR.1.1
def awI : ByteArray := awR.1.2
def awG : Sw.Src := getF (itemsS awL)
theorem aw_err : awR.2 = 0 := by decide +kernel
theorem aw_len : awL.length = 5 := by decide +kernel
theorem aw_0 : awL.getD 0 ByteArray.empty = ⟨#[1, 49]⟩ := by decide +kernel
theorem aw_2 : awL.getD 2 ByteArray.empty = ⟨#[1, 50]⟩ := by decide +kernel
theorem aw_sz : ∀ s ∈ awL, s.size ≤ 1000 := by decide +kernel
theorem aw_id : awI.size = 32 := by decide +kernel
theorem aw_files : filesS awG awI = ([⟨⟨#[97, 47, 120]⟩, ⟨#[49]⟩⟩, ⟨⟨#[98]⟩, ⟨#[50]⟩⟩], 0) := by decide +kernel
theorem aw_find : (findS awG awI ⟨#[97, 47, 120]⟩).2 = 0 ∧ (findS awG awI ⟨#[97, 47, 120]⟩).1.name = ⟨#[120]⟩ := by decide +kernel
theorem aw_look : (lookK awG awI 3 21).2 = 0 ∧ (lookK awG awI 3 21).1.pars = [] ∧ (lookK awG awI 3 21).1.height = 0 := by decide +kernel
theorem aw_list : (listS awG awI).2 = 0 := by decide +kernel
theorem aw_none : (filesS awG ⟨#[120]⟩).2 = 12 := by decide +kernel
theorem aw_names : ((listS awG awI).1.map (fun e => e.name)).Nodup := by decide +kernel
/-- a commit differs from itself in nothing -/
theorem aw_diff {D : List Ch} (h : IsDiff (listS awG awI).1 (listS awG awI).1 D) : D = [] := by
  cases D with
  | nil => rfl
  | cons c r =>
    have h1 := (diff_mem aw_names aw_names h c).1 (List.mem_cons_self ..)
    exact absurd (h1.1.trans h1.2.1.symm) h1.2.2
end Go.Proofs.YtlenfiiocmchdaaGreatDoor
/- Layer 15's laws: whether two lists of files are the same: same. -/
namespace Go.Proofs.YtlenfiiocmchdaaGreatDoor
open Go.RowKit Book Pap Ojt Sn
set_option linter.unusedVariables false
set_option linter.unusedSimpArgs false

theorem fi_ext {x y : Fi} (h1 : x.path = y.path) (h2 : x.data = y.data) : x = y := by
  obtain ⟨a, b⟩ := x; obtain ⟨c, d⟩ := y; simp only at h1 h2; rw [h1, h2]
theorem getD_ext {α : Type} {d : α} {l m : List α} (hl : l.length = m.length) (h : ∀ j, j < l.length → l.getD j d = m.getD j d) : l = m := by
  apply List.ext_getElem hl
  intro i h1 h2
  have := h i h1
  rw [List.getD_eq_getElem?_getD, List.getD_eq_getElem?_getD, List.getElem?_eq_getElem h1, List.getElem?_eq_getElem h2] at this
  exact this
/-- what comparing hands back -/
def EqOut (p : Prop) (w : World) (e : Ending) (w' : World) : Prop := ∃ r : Bool, e = .returned (.bool r) ∧ (r = true ↔ p) ∧ Below w.heap.size w w'
set_option maxRecDepth 100000 in
set_option maxHeartbeats 4000000 in
theorem same_any (a b : Option Addr) (n m c d : Nat) (x y : List Fi) (w : World) (hx : FisAt w a n x) (hy : FisAt w b m y) :
    Calls Tryz.prog 17 #[.slice a n c, .slice b m d] w (EqOut (x = y) w) := by
  obtain ⟨h1, h2, h3⟩ := hx
  obtain ⟨g1, g2, g3⟩ := hy
  have HL := hid h1
  have HM := hid g1
  by_cases hnm : n = m
  · subst hnm
    have cne : ((n : Int) != n) = false := by simp
    go_enter Tryz.func17, Tryz.ntmps17
    go_wp2_with fail
    go_loopw [5] (fun iv wr => ∃ i : Nat, i ≤ n ∧ iv = .int .i64 i ∧ Hid (Below w.heap.size w wr) ∧ Hid (∀ j, j < i → x.getD j noFi = y.getD j noFi)) (fun iv _ => n - (intOf iv).toNat)
    case atStart => exact ⟨0, Nat.zero_le _, rfl, Below.refl _ _, fun j hj => by omega⟩
    case round =>
      obtain ⟨i, hi, rfl, HB, HN⟩ := hrel
      by_cases hlt : i < n
      · obtain ⟨xb, xo, rfl, hc⟩ := h3.resolve_left (by omega)
        obtain ⟨yb, yo, rfl, hd⟩ := g3.resolve_left (by omega)
        have ci : (i : Int) < n := by omega
        have ci0 : (0 : Int) ≤ (i : Int) := by omega
        obtain ⟨k0, k1⟩ := hc i hlt
        obtain ⟨l0, l1⟩ := hd i hlt
        have bl : xb < w.heap.size := World.block_lt_of_cell? w _ k0
        have bm : yb < w.heap.size := World.block_lt_of_cell? w _ l0
        have q0 := (HB.out.cell (p := ⟨xb, xo + i * 2, none⟩) bl).trans k0
        have q1 := (HB.out.cell (p := ⟨xb, xo + i * 2 + 1, none⟩) bl).trans k1
        have p0 := (HB.out.cell (p := ⟨yb, yo + i * 2, none⟩) bm).trans l0
        have p1 := (HB.out.cell (p := ⟨yb, yo + i * 2 + 1, none⟩) bm).trans l1
        obtain ⟨u, hu⟩ : ∃ u, x.getD i noFi = u := ⟨_, rfl⟩
        obtain ⟨v, hv⟩ : ∃ v, y.getD i noFi = v := ⟨_, rfl⟩
        rw [hu] at q0 q1
        rw [hv] at p0 p1
        have HUV := hid hu; have HVV := hid hv
        obtain ⟨up, ud⟩ := u
        obtain ⟨vp, vd⟩ := v
        simp only at q0 q1 p0 p1
        clear k0 k1 l0 l1 hc hd hu hv
        by_cases hA : up.toList = vp.toList
        · by_cases hB : ud.toList = vd.toList
          · have HN2 : Hid (∀ j, j < i + 1 → x.getD j noFi = y.getD j noFi) := fun j hj => by
              by_cases hji : j = i
              · subst hji
                rw [HUV.out, HVV.out]
                rw [ba_toList, ba_toList] at hA hB
                exact fi_ext (ba_ext hA) (ba_ext hB)
              · exact HN.out j (by omega)
            go_upto_region 6 with fail
            go_region
            all_goals
              go_wp2_with fail
              refine ⟨⟨i + 1, by omega, by go_num, by first | exact HB.out | exact HB.out.drew, HN2⟩, ?_⟩
              simp [intOf]; omega
          · have HNE : Hid (¬ x = y) := fun e => by
              have h := HUV.out
              rw [e, HVV.out] at h
              exact hB (by rw [(Fi.mk.inj h).2])
            go_upto_region 6 with fail
            go_region
            all_goals
              go_wp2_with fail
              go_ret
              exact ⟨false, rfl, ⟨fun h => (by cases h), fun h => absurd h HNE.out⟩, by first | exact HB.out | exact HB.out.drew⟩
        · have HNE : Hid (¬ x = y) := fun e => by
            have h := HUV.out
            rw [e, HVV.out] at h
            exact hA (by rw [(Fi.mk.inj h).1])
          go_upto_region 6 with fail
          go_region
          all_goals
            go_wp2_with fail
            go_ret
            exact ⟨false, rfl, ⟨fun h => (by cases h), fun h => absurd h HNE.out⟩, by first | exact HB.out | exact HB.out.drew⟩
      · obtain rfl : i = n := by omega
        have ci : ¬ (i : Int) < i := by omega
        have HEQ : Hid (x = y) := getD_ext (d := noFi) (by rw [HL.out, HM.out]) (fun j hj => HN.out j (by rw [← HL.out]; exact hj))
        go_wp2_with fail
        go_ret
        exact ⟨true, rfl, ⟨fun _ => HEQ.out, fun _ => rfl⟩, HB.out⟩
  · have cne : ((n : Int) != m) = true := by simp; omega
    have ce : ¬ (n : Int) = m := by omega
    have HNE : Hid (¬ x = y) := fun e => by
      rw [e, HM.out] at h1; exact hnm h1.symm
    go_enter Tryz.func17, Tryz.ntmps17
    go_wp2_with fail
    go_ret
    exact ⟨false, rfl, ⟨fun h => (by cases h), fun h => absurd h HNE.out⟩, Below.refl _ _⟩
theorem ent_ext {x y : Ent} (h1 : x.name = y.name) (h2 : x.kind = y.kind) (h3 : x.id = y.id) : x = y := by
  obtain ⟨a, b, c⟩ := x; obtain ⟨d, e, f⟩ := y; simp only at h1 h2 h3; rw [h1, h2, h3]
def noEn : Ent := ⟨ByteArray.empty, 0, ByteArray.empty⟩
set_option maxRecDepth 100000 in
set_option maxHeartbeats 4000000 in
theorem entries_eq (a b : Option Addr) (n m c d : Nat) (x y : List Ent) (w : World) (hx : EntsAt w a n x) (hy : EntsAt w b m y) :
    Calls Tryz.prog 14 #[.slice a n c, .slice b m d] w (EqOut (x = y) w) := by
  obtain ⟨h1, h2, h3⟩ := hx
  obtain ⟨g1, g2, g3⟩ := hy
  have HL := hid h1
  have HM := hid g1
  by_cases hnm : n = m
  · subst hnm
    have cne : ((n : Int) != n) = false := by simp
    go_enter Tryz.func14, Tryz.ntmps14
    go_wp2_with fail
    go_loopw [5] (fun iv wr => ∃ i : Nat, i ≤ n ∧ iv = .int .i64 i ∧ Hid (Below w.heap.size w wr) ∧ Hid (∀ j, j < i → x.getD j noEn = y.getD j noEn)) (fun iv _ => n - (intOf iv).toNat)
    case atStart => exact ⟨0, Nat.zero_le _, rfl, Below.refl _ _, fun j hj => by omega⟩
    case round =>
      obtain ⟨i, hi, rfl, HB, HN⟩ := hrel
      by_cases hlt : i < n
      · obtain ⟨xb, xo, rfl, hc⟩ := h3.resolve_left (by omega)
        obtain ⟨yb, yo, rfl, hd⟩ := g3.resolve_left (by omega)
        have ci : (i : Int) < n := by omega
        have ci0 : (0 : Int) ≤ (i : Int) := by omega
        obtain ⟨k0, k1, k2⟩ := hc i hlt
        obtain ⟨l0, l1, l2⟩ := hd i hlt
        have bl : xb < w.heap.size := World.block_lt_of_cell? w _ k0
        have bm : yb < w.heap.size := World.block_lt_of_cell? w _ l0
        have q0 := (HB.out.cell (p := ⟨xb, xo + i * 3, none⟩) bl).trans k0
        have q1 := (HB.out.cell (p := ⟨xb, xo + i * 3 + 1, none⟩) bl).trans k1
        have q2 := (HB.out.cell (p := ⟨xb, xo + i * 3 + 2, none⟩) bl).trans k2
        have p0 := (HB.out.cell (p := ⟨yb, yo + i * 3, none⟩) bm).trans l0
        have p1 := (HB.out.cell (p := ⟨yb, yo + i * 3 + 1, none⟩) bm).trans l1
        have p2 := (HB.out.cell (p := ⟨yb, yo + i * 3 + 2, none⟩) bm).trans l2
        obtain ⟨u, hu⟩ : ∃ u, x.getD i noEn = u := ⟨_, rfl⟩
        obtain ⟨v, hv⟩ : ∃ v, y.getD i noEn = v := ⟨_, rfl⟩
        have hu' : x.getD i ⟨ByteArray.empty, 0, ByteArray.empty⟩ = u := hu
        have hv' : y.getD i ⟨ByteArray.empty, 0, ByteArray.empty⟩ = v := hv
        rw [hu'] at q0 q1 q2
        rw [hv'] at p0 p1 p2
        have HUV := hid hu; have HVV := hid hv
        obtain ⟨up, uk, ud⟩ := u
        obtain ⟨vp, vk, vd⟩ := v
        simp only at q0 q1 q2 p0 p1 p2
        clear k0 k1 k2 l0 l1 l2 hc hd hu hv hu' hv'
        by_cases hA : up.toList = vp.toList
        · by_cases hK : uk = vk
          · by_cases hB : ud.toList = vd.toList
            · have HN2 : Hid (∀ j, j < i + 1 → x.getD j noEn = y.getD j noEn) := fun j hj => by
                by_cases hji : j = i
                · subst hji
                  rw [HUV.out, HVV.out]
                  rw [ba_toList, ba_toList] at hA hB
                  exact ent_ext (ba_ext hA) hK (ba_ext hB)
                · exact HN.out j (by omega)
              go_upto_region 6 with fail
              go_region
              all_goals
                go_wp2_with fail
                refine ⟨⟨i + 1, by omega, by go_num, by first | exact HB.out | exact HB.out.drew, HN2⟩, ?_⟩
                simp [intOf]; omega
            · have HNE : Hid (¬ x = y) := fun e => by
                have h := HUV.out
                rw [e, HVV.out] at h
                exact hB (by rw [(Ent.mk.inj h).2.2])
              go_upto_region 6 with fail
              go_region
              all_goals
                go_wp2_with fail
                go_ret
                exact ⟨false, rfl, ⟨fun h => (by cases h), fun h => absurd h HNE.out⟩, by first | exact HB.out | exact HB.out.drew⟩
          · have HNE : Hid (¬ x = y) := fun e => by
              have h := HUV.out
              rw [e, HVV.out] at h
              exact hK ((Ent.mk.inj h).2.1).symm
            go_upto_region 6 with fail
            go_region
            all_goals
              go_wp2_with fail
              go_ret
              exact ⟨false, rfl, ⟨fun h => (by cases h), fun h => absurd h HNE.out⟩, by first | exact HB.out | exact HB.out.drew⟩
        · have HNE : Hid (¬ x = y) := fun e => by
            have h := HUV.out
            rw [e, HVV.out] at h
            exact hA (by rw [(Ent.mk.inj h).1])
          go_upto_region 6 with fail
          go_region
          all_goals
            go_wp2_with fail
            go_ret
            exact ⟨false, rfl, ⟨fun h => (by cases h), fun h => absurd h HNE.out⟩, by first | exact HB.out | exact HB.out.drew⟩
      · obtain rfl : i = n := by omega
        have ci : ¬ (i : Int) < i := by omega
        have HEQ : Hid (x = y) := getD_ext (d := noEn) (by rw [HL.out, HM.out]) (fun j hj => HN.out j (by rw [← HL.out]; exact hj))
        go_wp2_with fail
        go_ret
        exact ⟨true, rfl, ⟨fun _ => HEQ.out, fun _ => rfl⟩, HB.out⟩
  · have cne : ((n : Int) != m) = true := by simp; omega
    have ce : ¬ (n : Int) = m := by omega
    have HNE : Hid (¬ x = y) := fun e => by
      rw [e, HM.out] at h1; exact hnm h1.symm
    go_enter Tryz.func14, Tryz.ntmps14
    go_wp2_with fail
    go_ret
    exact ⟨false, rfl, ⟨fun h => (by cases h), fun h => absurd h HNE.out⟩, Below.refl _ _⟩
end Go.Proofs.YtlenfiiocmchdaaGreatDoor
/- Layer 15's laws: texts under their ids (items). -/
namespace Go.Proofs.YtlenfiiocmchdaaGreatDoor
open Go.RowKit Book Pap Ojt Sn
set_option linter.unusedVariables false
set_option linter.unusedSimpArgs false

theorem own_items {w : World} {B : Nat} {v : Value} {n : Nat} {l : List Fi} (h : w.ownsRow B 99 2 v n (fivals l)) (hm : n ≤ 9223372036854775807) : ∃ a c, v = .slice a n c ∧ FisAt w a n l := by
  have h' := h
  have hl := fivals_length l
  have hln : l.length = n := by have := h.1; omega
  rcases h.2 with ⟨rfl, h0⟩ | ⟨g, cap, cur, rfl, hb, hg, hn, hc, hsz, htk⟩
  · exact ⟨none, 0, by rw [h0], hln, hm, .inl h0⟩
  · refine ⟨_, _, rfl, hln, hm, .inr ⟨g, 0, rfl, fun j hj => ?_⟩⟩
    obtain ⟨x0, x1⟩ := fivals_get l j (by omega)
    have h1 := h'.cellAt (j * 2) (by omega)
    have h2 := h'.cellAt (j * 2 + 1) (by omega)
    rw [Nat.zero_add]
    rw [x0] at h1
    rw [x1] at h2
    exact ⟨h1, h2⟩
theorem own_noneI (w : World) : (w.alloc (.cells #[] 99)).ownsRow w.heap.size 99 2 (.slice (some ⟨w.heap.size, 0, none⟩) 0 0) 0 [] :=
  ⟨rfl, .inr ⟨w.heap.size, 0, #[], rfl, Nat.le_refl _, by show (w.heap.push _)[w.heap.size]? = _; simp, Nat.le_refl _, by unfold maxLen; omega, rfl, rfl⟩⟩
theorem Tryz.infoIt : (Tryz.prog.info? 99).map (fun i => (i.zero, i.size, i.bytes)) = some (some (.agg #[.string ⟨#[]⟩, .string ⟨#[]⟩]), 2, 32) := by kernel_rfl
theorem objid_id (s : ByteArray) (hs : s.size ≤ 1000000000) (w : World) : Calls Tryz.prog 42 #[.string s] w fun e w' => e = .returned (.string (Sw.idOf s)) ∧ Below w.heap.size w w' := objid_any s hs w
set_option maxRecDepth 100000 in
set_option maxHeartbeats 8000000 in
theorem items_any (a : Option Addr) (n c : Nat) (l : List ByteArray) (w : World) (h : StrsAt w a n l) (hn : n ≤ 1000000) (hz : ∀ s ∈ l, s.size ≤ 1000000000) :
    Calls Tryz.prog 34 #[.slice a n c] w fun e w' => ∃ a' c', e = .returned (.slice a' n c') ∧ w'.ownsRow w.heap.size 99 2 (.slice a' n c') n (fivals (itemsS l)) ∧ Below w.heap.size w w' := by
  obtain ⟨i0, hi0, hz0, hz1, hz2⟩ := info_parts Tryz.infoIt
  have HS := hid h
  have HL := hid h.1
  have HZ := hid hz
  have HO1 : Hid ((w.alloc (.cells #[] 99)).ownsRow w.heap.size 99 2 (.slice (some ⟨w.heap.size, 0, none⟩) 0 0) 0 (fivals (itemsS (l.take 0)))) := own_noneI w
  have HB1 : Hid (Below w.heap.size w (w.alloc (.cells #[] 99))) := (Below.refl _ _).alloc (Nat.le_refl _) _
  clear h hz
  go_enter Tryz.func34, Tryz.ntmps34
  go_upto_region 2 with fail
  generalize (w.alloc (.cells #[] 99)) = w1 at HO1 HB1 ⊢
  generalize hg : w.heap.size = g at HO1 HB1 ⊢
  have HG := hid hg
  clear hg
  go_wp2_with fail
  go_loopw [4, 3] (fun iv ov wr => ∃ i : Nat, i ≤ n ∧ iv = .int .i64 i ∧ Hid (wr.ownsRow g 99 2 ov i (fivals (itemsS (l.take i)))) ∧ Hid (Below g w wr)) (fun iv _ _ => n - (intOf iv).toNat)
  case atStart => exact ⟨0, Nat.zero_le _, rfl, HO1, HB1⟩
  case round =>
    obtain ⟨i, hi, rfl, HO, HB⟩ := hrel
    obtain ⟨va, vc, rfl, hvc⟩ := own_slice' HO.out
    by_cases hlt : i < n
    · have ci : (i : Int) < n := by omega
      have ci0 : (0 : Int) ≤ (i : Int) := by omega
      obtain ⟨-, -, h3⟩ := HS.out.later (by rw [HG.out]; exact HB.out)
      obtain ⟨b, off, rfl, hc⟩ := h3.resolve_left (by omega)
      have q0 := hc i hlt
      have hil : i < l.length := by rw [HL.out]; exact hlt
      have hsz := HZ.out (l.getD i ByteArray.empty) (by rw [List.getD_eq_getElem?_getD, List.getElem?_eq_getElem hil]; exact List.getElem_mem hil)
      have HT : Hid (fivals (itemsS (l.take (i + 1))) = fivals (itemsS (l.take i)) ++ [.string (Sw.idOf (l.getD i ByteArray.empty)), .string (l.getD i ByteArray.empty)]) := by
        show _ = _
        rw [List.take_succ_eq_append_getElem hil]
        unfold itemsS
        rw [List.map_append, fivals_append, List.getD_eq_getElem?_getD, List.getElem?_eq_getElem hil]; rfl
      obtain ⟨s, hs⟩ : ∃ s, l.getD i ByteArray.empty = s := ⟨_, rfl⟩
      rw [hs] at q0 hsz HT
      have HID := hid (fun W => objid_id s hsz W)
      obtain ⟨idv, hidv⟩ : ∃ z, Sw.idOf s = z := ⟨_, rfl⟩
      rw [hidv] at HID HT
      have hgr : g ≤ wr.heap.size := by have := HB.out.size; rw [HG.out] at this; exact this
      have hbb := World.block_lt_of_cell? wr _ q0
      clear hs hidv hc h3 hil hsz
      go_upto_region 5 with fail
      go_region_law (first
        | (go_simp; go_at_call 42; (refine (HID.out _).mono ?_; rintro e w5 ⟨rfl, hb5⟩; have HO5 := hid (own_below HO.out.drew hb5); have HB5 := hid (HB.out.drew.trans (hb5.mono hgr)); have q1 : w5.cell? ⟨b, off + i, none⟩ = some (.string s) := ((hb5.cell (p := ⟨b, off + i, none⟩) hbb).trans q0); have hg5 : g ≤ w5.heap.size := (Nat.le_trans hgr hb5.size); clear hb5))
        | (refine step_append_lies _ (by rfl) (.tmp 12) (.tmp 23) 22 (by rfl) g 99 i0 (.agg #[.string ⟨#[]⟩, .string ⟨#[]⟩]) 2 32 Tryz.underlying22 hi0 hz0 hz1 hz2 rfl (by decide) (.slice va i vc) i (fivals (itemsS (l.take i))) (by simp [Act.eval, Act.put]) (HO5.out.alloc _) ⟨w5.heap.size, 0, none⟩ 1 1 [.string idv, .string s] (by simp [Act.eval, Act.put]) rfl (cellNew2 _ _ _ _) (one2 rfl rfl) (by decide) (by unfold maxLen; omega) (by omega) (by rw [World.size_alloc]; omega) (w5.heap.size + 1) (by simp) ?_; intro g1 cap1 wf hown hgrow hat hglt; have HOWN := hid hown; have HGR := hid hgrow; clear hown hgrow hat hglt))
      all_goals
        have HO9 : Hid (wf.ownsRow g 99 2 (.slice (some ⟨g1, 0, none⟩) (i + 1) cap1) (i + 1) (fivals (itemsS (l.take (i + 1))))) := by
          show World.ownsRow _ _ _ _ _ _ _
          rw [HT.out]; exact HOWN.out
        have HB9 : Hid (Below g w wf) := (HB5.out.alloc hg5 _).grown HGR.out (by rw [World.size_alloc]; omega) (fun j hj => (HO5.out.lt j hj).1)
        go_wp2_with fail
        go_roundw
        case rel => first | exact ⟨i + 1, by omega, by go_num, HO9, HB9⟩ | ((repeat apply Exists.intro); exact ⟨⟨i + 1, by omega, by go_num, HO9, HB9⟩, rfl⟩)
        case measure => simp [intOf]; omega
    · obtain rfl : i = n := by omega
      have ci : ¬ (i : Int) < i := by omega
      have HE : Hid (wr.ownsRow g 99 2 (.slice va i vc) i (fivals (itemsS l))) := by
        have h := HO.out
        rw [List.take_of_length_le (by rw [HL.out]; exact Nat.le_refl _)] at h; exact h
      go_wp2_with fail
      go_ret
      rw [HG.out]
      exact ⟨_, _, rfl, HE.out, HB.out⟩
end Go.Proofs.YtlenfiiocmchdaaGreatDoor
/- The first element put into an empty slice: slices.Insert at []api.Fact and []string. -/
namespace Go.Proofs.YtlenfiiocmchdaaGreatDoor
open Go.RowKit Book Pap
set_option linter.unusedVariables false
set_option linter.unusedSimpArgs false

theorem Tryz.infoFact : (Tryz.prog.info? 94).map (fun i => (i.zero, i.size, i.bytes)) = some (some (.agg #[.string ⟨#[]⟩, .int .i64 0, .slice none 0 0]), 3, 48) := by kernel_rfl
theorem cellBlk3 {w : World} {b : Nat} {t : TypeId} {x0 x1 x2 : Value} (h : Blk w b t #[x0, x1, x2]) : ∀ j u, [x0, x1, x2][j]? = some u → w.cell? ((⟨b, 0, none⟩ : Addr).add j) = some u := by
  intro j u hj
  rw [Addr.add_lit, Nat.zero_add, h.cell]
  rw [← hj]; simp
theorem cellBlk1 {w : World} {b : Nat} {t : TypeId} {x0 : Value} (h : Blk w b t #[x0]) : ∀ j u, [x0][j]? = some u → w.cell? ((⟨b, 0, none⟩ : Addr).add j) = some u := by
  intro j u hj
  rw [Addr.add_lit, Nat.zero_add, h.cell]
  rw [← hj]; simp
set_option maxRecDepth 100000 in
set_option maxHeartbeats 4000000 in
theorem insF0 (vb : Nat) (s : ByteArray) (h : Int) (ps : Option Addr) (pn pc : Nat) (w : World) (hb : Blk w vb 94 #[.string s, .int .i64 h, .slice ps pn pc]) :
    Calls Tryz.prog 105 #[.slice none 0 0, .int .i64 0, .slice (some ⟨vb, 0, none⟩) 1 1] w fun e w' => ∃ v', e = .returned v' ∧ w'.ownsRow w.heap.size 94 3 v' 1 [.string s, .int .i64 h, .slice ps pn pc] ∧ Below w.heap.size w w' := by
  obtain ⟨i0, hi0, hz0, hz1, hz2⟩ := info_parts Tryz.infoFact
  have HC := hid (cellBlk3 hb)
  clear hb
  go_enter Tryz.func105, Tryz.ntmps105
  go_wp2_with (first
    | (at_builtin; refine wpList_append_own _ rfl (.tmp 23) (.tmp 24) 51 rfl w.heap.size 94 i0 (.agg #[.string ⟨#[]⟩, .int .i64 0, .slice none 0 0]) 3 48 Tryz.underlying51 hi0 hz0 hz1 hz2 rfl (by decide) (.slice none 0 0) _ _ rfl (World.ownsRow_nil _ _ _ _) ⟨vb, 0, none⟩ 1 1 [.string s, .int .i64 h, .slice ps pn pc] rfl rfl HC.out (one3 rfl rfl rfl) (by unfold maxLen; omega) (by omega) (Nat.le_refl _) ?_; intro v' w5 hown' hg5 _; have HOWN := hid hown'; have HG5 := hid hg5; clear hown' hg5)
    | go_in)
  go_ret
  exact ⟨_, rfl, HOWN.out, (Below.refl _ _).grown HG5.out (Nat.le_refl _) (fun j hj => by cases hj)⟩
set_option maxRecDepth 100000 in
set_option maxHeartbeats 4000000 in
theorem insS0 (vb : Nat) (s : ByteArray) (w : World) (hb : Blk w vb 9 #[.string s]) :
    Calls Tryz.prog 79 #[.slice none 0 0, .int .i64 0, .slice (some ⟨vb, 0, none⟩) 1 1] w fun e w' => ∃ v', e = .returned v' ∧ w'.ownsRow w.heap.size 9 1 v' 1 (svals [s]) ∧ Below w.heap.size w w' := by
  obtain ⟨i0, hi0, hz0, hz1, hz2⟩ := info_parts Tryz.infoS
  have HC := hid (cellBlk1 hb)
  clear hb
  go_enter Tryz.func79, Tryz.ntmps79
  go_wp2_with (first
    | (at_builtin; refine wpList_append_own _ rfl (.tmp 23) (.tmp 24) 56 rfl w.heap.size 9 i0 (.string ⟨#[]⟩) 1 16 Tryz.underlying56 hi0 hz0 hz1 hz2 rfl (by decide) (.slice none 0 0) _ _ rfl (World.ownsRow_nil _ _ _ _) ⟨vb, 0, none⟩ 1 1 [.string s] rfl rfl HC.out (one_bytes rfl) (by unfold maxLen; omega) (by omega) (Nat.le_refl _) ?_; intro v' w5 hown' hg5 _; have HOWN := hid hown'; have HG5 := hid hg5; clear hown' hg5)
    | go_in)
  go_ret
  exact ⟨_, rfl, HOWN.out, (Below.refl _ _).grown HG5.out (Nat.le_refl _) (fun j hj => by cases hj)⟩
end Go.Proofs.YtlenfiiocmchdaaGreatDoor
/- shelf.Map[string, api.Fact] while it is empty: New, find, Get; Put of the first. -/
namespace Go.Proofs.YtlenfiiocmchdaaGreatDoor
open Go.RowKit Book Pap
set_option linter.unusedVariables false
set_option linter.unusedSimpArgs false

def FM0 (w : World) (b : Nat) : Prop := Blk w b 177 #[.slice none 0 0, .slice none 0 0]
theorem fnew_any (w : World) : Calls Tryz.prog 62 #[] w fun e w' => e = .returned (.pointer (some ⟨w.heap.size, 0, none⟩)) ∧ FM0 w' w.heap.size ∧ Below w.heap.size w w' := by
  have HX : Hid (FM0 (w.alloc (.cells #[.slice none 0 0, .slice none 0 0] 177)) w.heap.size) := Blk.new w _ _
  have HB : Hid (Below w.heap.size w (w.alloc (.cells #[.slice none 0 0, .slice none 0 0] 177))) := (Below.refl _ _).alloc (Nat.le_refl _) _
  go_enter Tryz.func62, Tryz.ntmps62
  go_wp2_with fail
  go_ret
  exact ⟨rfl, HX.out, HB.out⟩
theorem ffind0 (b : Nat) (s : ByteArray) (w : World) (h : FM0 w b) : Calls Tryz.prog 104 #[.pointer (some ⟨b, 0, none⟩), .string s] w fun e w' => e = .returned (.tuple #[.int .i64 0, .bool false]) ∧ w = w' := by
  have k0 : w.cell? ⟨b, 0, none⟩ = some (.slice none 0 0) := Blk.cell h 0
  have HS := hid (bs_names none 0 0 [] s w ⟨rfl, by omega, .inl rfl⟩ (by omega) List.Pairwise.nil)
  have hn : hasN [] s = false := by rw [hasN_no]; simp
  rw [hn] at HS
  clear hn h
  go_enter Tryz.func104, Tryz.ntmps104
  go_wp2_with (go_at_call 126; refine HS.out.mono ?_; rintro e w' ⟨rfl, rfl⟩)
  go_ret2
  exact ⟨rfl, rfl⟩
theorem fget_results (tmps : Array Value) (g : Nat) (bo : Bool) (w : World) (h2 : tmps.getD 4 undef = .pointer (some ⟨g, 0, none⟩)) (h3 : tmps.getD 5 undef = .bool bo) (H : Blk w g 94 #[.string ⟨#[]⟩, .int .i64 0, .slice none 0 0]) : (results Tryz.f63 tmps).run Tryz.prog w = .ok (.tuple #[.agg #[.string ⟨#[]⟩, .int .i64 0, .slice none 0 0], .bool bo]) w := by
  have c0 : w.cell? ⟨g, 0, none⟩ = some (.string ⟨#[]⟩) := Blk.cell H 0
  have c1 : w.cell? ⟨g, 1, none⟩ = some (.int .i64 0) := Blk.cell H 1
  have c2 : w.cell? ⟨g, 2, none⟩ = some (.slice none 0 0) := Blk.cell H 2
  have h2' : tmps[4]?.getD undef = .pointer (some ⟨g, 0, none⟩) := by simpa using h2
  have h3' : tmps[5]?.getD undef = .bool bo := by simpa using h3
  simp [results, Tryz.results63, go_sem, h2', h3', c0, c1, c2]
set_option maxRecDepth 100000 in
set_option maxHeartbeats 4000000 in
theorem fget0 (b : Nat) (s : ByteArray) (w : World) (h : FM0 w b) : Calls Tryz.prog 63 #[.pointer (some ⟨b, 0, none⟩), .string s] w fun e w' => e = .returned (.tuple #[.agg #[.string ⟨#[]⟩, .int .i64 0, .slice none 0 0], .bool false]) ∧ Below w.heap.size w w' := by
  have hb := Blk.lt h
  have HX : Hid (Blk (w.alloc (.cells #[.string ⟨#[]⟩, .int .i64 0, .slice none 0 0] 94)) w.heap.size 94 #[.string ⟨#[]⟩, .int .i64 0, .slice none 0 0]) := Blk.new w _ _
  have HB : Hid (Below w.heap.size w (w.alloc (.cells #[.string ⟨#[]⟩, .int .i64 0, .slice none 0 0] 94))) := (Below.refl _ _).alloc (Nat.le_refl _) _
  have HF := hid (ffind0 b s (w.alloc (.cells #[.string ⟨#[]⟩, .int .i64 0, .slice none 0 0] 94)) (Blk.alloc h _))
  clear h
  go_enter Tryz.func63, Tryz.ntmps63
  go_upto_region 1 with fail
  generalize (w.alloc (.cells #[.string ⟨#[]⟩, .int .i64 0, .slice none 0 0] 94)) = w1 at HX HB HF ⊢
  generalize hg : w.heap.size = g at HX ⊢
  have k0 : w1.cell? ⟨g, 0, none⟩ = some (.string ⟨#[]⟩) := Blk.cell HX.out 0
  have k1 : w1.cell? ⟨g, 1, none⟩ = some (.int .i64 0) := Blk.cell HX.out 1
  have k2 : w1.cell? ⟨g, 2, none⟩ = some (.slice none 0 0) := Blk.cell HX.out 2
  have f0 := Blk.frozen HX.out 0
  have f1 := Blk.frozen HX.out 1
  have f2 := Blk.frozen HX.out 2
  go_wp2_with (go_at_call 104; refine HF.out.mono ?_; rintro e w' ⟨rfl, rfl⟩)
  have HX3 : Hid (Blk (((w1.setCell ⟨g, 0, none⟩ (.string ⟨#[]⟩)).setCell ⟨g, 1, none⟩ (.int .i64 0)).setCell ⟨g, 2, none⟩ (.slice none 0 0)) g 94 #[.string ⟨#[]⟩, .int .i64 0, .slice none 0 0]) := by
    have := Blk.set (Blk.set (Blk.set HX.out 0 (.string ⟨#[]⟩)) 1 (.int .i64 0)) 2 (.slice none 0 0)
    show Blk _ _ _ _
    simpa using this
  have HB3 : Below g w (((w1.setCell ⟨g, 0, none⟩ (.string ⟨#[]⟩)).setCell ⟨g, 1, none⟩ (.int .i64 0)).setCell ⟨g, 2, none⟩ (.slice none 0 0)) := by
    rw [hg] at HB
    exact ((HB.out.setCell (p := ⟨g, 0, none⟩) (Nat.le_refl _) _).setCell (p := ⟨g, 1, none⟩) (Nat.le_refl _) _).setCell (p := ⟨g, 2, none⟩) (Nat.le_refl _) _
  refine bodyPost_ret (v := .tuple #[.agg #[.string ⟨#[]⟩, .int .i64 0, .slice none 0 0], .bool false]) ?hr rfl ⟨rfl, by rw [hg]; exact HB3⟩
  case hr => exact fget_results _ g false _ rfl rfl HX3.out
set_option maxRecDepth 100000 in
set_option maxHeartbeats 8000000 in
theorem own_mono {w : World} {B B' : Nat} {e : TypeId} {k n : Nat} {v : Value} {xs : List Value} (h : w.ownsRow B e k v n xs) (hB : B' ≤ B) : w.ownsRow B' e k v n xs := by
  refine ⟨h.1, h.2.imp id ?_⟩
  rintro ⟨g, cap, cur, h1, h2, r⟩
  exact ⟨g, cap, cur, h1, Nat.le_trans hB h2, r⟩
set_option maxRecDepth 100000 in
set_option maxHeartbeats 8000000 in
theorem fput0 (b : Nat) (s s2 : ByteArray) (h : Int) (ps : Option Addr) (pn pc : Nat) (w : World) (hm : FM0 w b) : Calls Tryz.prog 65 #[.pointer (some ⟨b, 0, none⟩), .string s, .agg #[.string s2, .int .i64 h, .slice ps pn pc]] w fun e w' =>
    ∃ kv fv, e = .returned (.bool true) ∧ Blk w' b 177 #[kv, fv] ∧ w'.ownsRow w.heap.size 9 1 kv 1 (svals [s]) ∧ w'.ownsRow w.heap.size 94 3 fv 1 [.string s2, .int .i64 h, .slice ps pn pc] ∧ Only (· = b) w w' := by
  have hb := Blk.lt hm
  have HX : Hid (Blk (w.alloc (.cells #[.string s2, .int .i64 h, .slice ps pn pc] 94)) w.heap.size 94 #[.string s2, .int .i64 h, .slice ps pn pc]) := Blk.new w _ _
  have HO : Hid (Only (· = b) w (w.alloc (.cells #[.string s2, .int .i64 h, .slice ps pn pc] 94))) := (Only.refl _ _).alloc _
  have HM : Hid (FM0 (w.alloc (.cells #[.string s2, .int .i64 h, .slice ps pn pc] 94)) b) := Blk.alloc hm _
  have hs1 : (w.alloc (.cells #[.string s2, .int .i64 h, .slice ps pn pc] 94)).heap.size = w.heap.size + 1 := World.size_alloc _ _
  clear hm
  go_enter Tryz.func65, Tryz.ntmps65
  go_upto_region 1 with fail
  generalize (w.alloc (.cells #[.string s2, .int .i64 h, .slice ps pn pc] 94)) = w1 at HX HO HM hs1 ⊢
  generalize hg : w.heap.size = g at HX hs1 hb ⊢
  have HS1 := hid hs1
  clear hs1
  have HF := hid (ffind0 b s w1 HM.out)
  have HM2 : Hid (FM0 (w1.alloc (.cells #[.string s] 9)) b) := Blk.alloc HM.out _
  have HX2 : Hid (Blk (w1.alloc (.cells #[.string s] 9)) g 94 #[.string s2, .int .i64 h, .slice ps pn pc]) := Blk.alloc HX.out _
  have HO2 : Hid (Only (· = b) w (w1.alloc (.cells #[.string s] 9))) := HO.out.alloc _
  have HI := hid (insS0 w1.heap.size s (w1.alloc (.cells #[.string s] 9)) (Blk.new _ _ _))
  have k0 : w1.cell? ⟨b, 0, none⟩ = some (.slice none 0 0) := Blk.cell HM.out 0
  go_upto_region 3 with (first
    | (go_at_call 104; refine HF.out.mono ?_; rintro e w' ⟨rfl, rfl⟩)
    | (go_at_call 79; refine HI.out.mono ?_; rintro e w3 ⟨kv, rfl, hkv, hb3⟩; obtain ⟨ka, kc, hkk, hkc⟩ := own_slice' hkv; subst hkk; have HKV := hid hkv; have HB3 := hid hb3; have HM3 : Hid (FM0 w3 b) := ((hb3.block b (Blk.lt HM2.out)).trans HM2.out); have q0 : w3.cell? ⟨b, 0, none⟩ = some (.slice none 0 0) := Blk.cell HM3.out 0; have f0 := Blk.frozen HM3.out 0))
  have HS3 : Hid (g + 2 ≤ w3.heap.size) := by
    have h1 := HB3.out.size
    rw [World.size_alloc] at h1
    have := HS1.out
    show _ ≤ _; omega
  have HO3 : Hid (Only (· = b) w (w3.setCell ⟨b, 0, none⟩ (.slice ka 1 kc))) := ((HO2.out.trans (Only.of_below HB3.out (· = b)) (fun k e => .inl e)).setCell (p := ⟨b, 0, none⟩) (.inl rfl) _)
  have HM4 : Hid (Blk (w3.setCell ⟨b, 0, none⟩ (.slice ka 1 kc)) b 177 #[.slice ka 1 kc, .slice none 0 0]) := by
    have := Blk.set HM3.out 0 (.slice ka 1 kc)
    show Blk _ _ _ _
    simpa using this
  have HX4 : Hid (Blk (w3.setCell ⟨b, 0, none⟩ (.slice ka 1 kc)) g 94 #[.string s2, .int .i64 h, .slice ps pn pc]) := Blk.far ((HB3.out.block g (Blk.lt HX2.out)).trans HX2.out) (p := ⟨b, 0, none⟩) (by show g ≠ b; omega) _
  have hg1 : g ≤ (w1.alloc (.cells #[.string s] 9)).heap.size := by rw [World.size_alloc]; have := HS1.out; omega
  have HK4 : Hid ((w3.setCell ⟨b, 0, none⟩ (.slice ka 1 kc)).ownsRow g 9 1 (.slice ka 1 kc) 1 (svals [s])) := by
    have h1 : w3.ownsRow g 9 1 (.slice ka 1 kc) 1 (svals [s]) := own_mono HKV.out hg1
    exact own_only h1 ((Only.refl (· = b) w3).setCell (p := ⟨b, 0, none⟩) (.inl rfl) _) (fun k hk e => by have := (h1.lt k hk).1; have e : k = b := e; omega)
  obtain ⟨w4, hw4⟩ : ∃ w4, w3.setCell ⟨b, 0, none⟩ (.slice ka 1 kc) = w4 := ⟨_, rfl⟩
  have hs4 : w3.heap.size = w4.heap.size := by rw [← hw4]; simp [World.setCell]
  have HS4 : Hid (g + 2 ≤ w4.heap.size) := by rw [← hs4]; exact HS3.out
  rw [hw4] at HO3 HM4 HX4 HK4 ⊢
  clear hw4 hs4 HS3 HM3 HB3 HKV q0 f0 HI HX2 HM2 HO2 k0 HF HM HX HO HS1 hg1
  have k1 : w4.cell? ⟨b, 1, none⟩ = some (.slice none 0 0) := Blk.cell HM4.out 1
  have x0 : w4.cell? ⟨g, 0, none⟩ = some (.string s2) := Blk.cell HX4.out 0
  have x1 : w4.cell? ⟨g, 1, none⟩ = some (.int .i64 h) := Blk.cell HX4.out 1
  have x2 : w4.cell? ⟨g, 2, none⟩ = some (.slice ps pn pc) := Blk.cell HX4.out 2
  have HFIN : Hid (∀ (W W' : World) (fa : Option Addr) (fc : Nat), Below w4.heap.size w4 W → W'.ownsRow W.heap.size 94 3 (.slice fa 1 fc) 1 [.string s2, .int .i64 h, .slice ps pn pc] → Below W.heap.size W W' →
      Blk W' b 177 #[.slice ka 1 kc, .slice none 0 0] ∧ Blk (W'.setCell ⟨b, 1, none⟩ (.slice fa 1 fc)) b 177 #[.slice ka 1 kc, .slice fa 1 fc] ∧ (W'.setCell ⟨b, 1, none⟩ (.slice fa 1 fc)).ownsRow g 9 1 (.slice ka 1 kc) 1 (svals [s]) ∧ (W'.setCell ⟨b, 1, none⟩ (.slice fa 1 fc)).ownsRow g 94 3 (.slice fa 1 fc) 1 [.string s2, .int .i64 h, .slice ps pn pc] ∧ Only (· = b) w (W'.setCell ⟨b, 1, none⟩ (.slice fa 1 fc))) := by
    intro W W' fa fc hW hr hb'
    have hWW : Below w4.heap.size w4 W' := hW.trans (hb'.mono hW.size)
    have hM : Blk W' b 177 #[.slice ka 1 kc, .slice none 0 0] := (hWW.block b (Blk.lt HM4.out)).trans HM4.out
    have ho : Only (· = b) W' (W'.setCell ⟨b, 1, none⟩ (.slice fa 1 fc)) := (Only.refl (· = b) W').setCell (p := ⟨b, 1, none⟩) (.inl rfl) _
    have hgW : g ≤ W.heap.size := by have := HS4.out; have := hW.size; omega
    have h2 : W'.ownsRow g 94 3 (.slice fa 1 fc) 1 [.string s2, .int .i64 h, .slice ps pn pc] := own_mono hr hgW
    have h3 : W'.ownsRow g 9 1 (.slice ka 1 kc) 1 (svals [s]) := own_below HK4.out hWW
    refine ⟨hM, ?_, own_only h3 ho (fun k hk e => by have := (h3.lt k hk).1; have e : k = b := e; omega), own_only h2 ho (fun k hk e => by have := (h2.lt k hk).1; have e : k = b := e; omega), (HO3.out.trans (Only.of_below hWW (· = b)) (fun k e => .inl e)).then ho⟩
    have := Blk.set hM 1 (.slice fa 1 fc)
    show Blk _ _ _ _
    simpa using this
  have k1a : (w4.alloc (.cells #[.string s2, .int .i64 h, .slice ps pn pc] 94)).cell? ⟨b, 1, none⟩ = some (.slice none 0 0) := Blk.cell (Blk.alloc HM4.out _) 1
  have k1b : (w4.alloc (.cells #[.string s2, .int .i64 h, .slice ps pn pc] 94)).drew.cell? ⟨b, 1, none⟩ = some (.slice none 0 0) := Blk.cell (Blk.alloc HM4.out _).drew 1
  have HI2 : Hid (∀ W, W = (w4.alloc (.cells #[.string s2, .int .i64 h, .slice ps pn pc] 94)) ∨ W = (w4.alloc (.cells #[.string s2, .int .i64 h, .slice ps pn pc] 94)).drew → Calls Tryz.prog 105 #[.slice none 0 0, .int .i64 0, .slice (some ⟨w4.heap.size, 0, none⟩) 1 1] W fun e w' => ∃ fa fc, e = .returned (.slice fa 1 fc) ∧ w'.cell? ⟨b, 1, none⟩ = some (.slice none 0 0) ∧ w'.frozen? ⟨b, 1, none⟩ = false ∧ Hid (Blk (w'.setCell ⟨b, 1, none⟩ (.slice fa 1 fc)) b 177 #[.slice ka 1 kc, .slice fa 1 fc] ∧ (w'.setCell ⟨b, 1, none⟩ (.slice fa 1 fc)).ownsRow g 9 1 (.slice ka 1 kc) 1 (svals [s]) ∧ (w'.setCell ⟨b, 1, none⟩ (.slice fa 1 fc)).ownsRow g 94 3 (.slice fa 1 fc) 1 [.string s2, .int .i64 h, .slice ps pn pc] ∧ Only (· = b) w (w'.setCell ⟨b, 1, none⟩ (.slice fa 1 fc)))) := by
    have key : ∀ W, Below w4.heap.size w4 W → Blk W w4.heap.size 94 #[.string s2, .int .i64 h, .slice ps pn pc] → Calls Tryz.prog 105 #[.slice none 0 0, .int .i64 0, .slice (some ⟨w4.heap.size, 0, none⟩) 1 1] W fun e w' => ∃ fa fc, e = .returned (.slice fa 1 fc) ∧ w'.cell? ⟨b, 1, none⟩ = some (.slice none 0 0) ∧ w'.frozen? ⟨b, 1, none⟩ = false ∧ Hid (Blk (w'.setCell ⟨b, 1, none⟩ (.slice fa 1 fc)) b 177 #[.slice ka 1 kc, .slice fa 1 fc] ∧ (w'.setCell ⟨b, 1, none⟩ (.slice fa 1 fc)).ownsRow g 9 1 (.slice ka 1 kc) 1 (svals [s]) ∧ (w'.setCell ⟨b, 1, none⟩ (.slice fa 1 fc)).ownsRow g 94 3 (.slice fa 1 fc) 1 [.string s2, .int .i64 h, .slice ps pn pc] ∧ Only (· = b) w (w'.setCell ⟨b, 1, none⟩ (.slice fa 1 fc))) := by
      intro W hW hB
      refine (insF0 w4.heap.size s2 h ps pn pc W hB).mono ?_
      rintro e w5 ⟨fv, rfl, hfv, hb5⟩
      obtain ⟨fa, fc, rfl, hfc⟩ := own_slice' hfv
      obtain ⟨r1, r2⟩ := HFIN.out W w5 fa fc hW hfv hb5
      exact ⟨fa, fc, rfl, Blk.cell r1 1, Blk.frozen r1 1, r2⟩
    rintro W (rfl | rfl)
    · exact key _ ((Below.refl _ _).alloc (Nat.le_refl _) _) (Blk.new _ _ _)
    · exact key _ (((Below.refl _ _).alloc (Nat.le_refl _) _).drew) ((Blk.new _ _ _).drew)
  clear HFIN
  go_region_with (go_at_call 105; refine (HI2.out _ (by first | exact .inl rfl | exact .inr rfl)).mono ?_; rintro e w5 ⟨fa, fc, rfl, r1, s1, HH⟩)
  all_goals
    go_wp2_with fail
    go_ret
    rw [hg]
    exact ⟨_, _, rfl, HH.out⟩
end Go.Proofs.YtlenfiiocmchdaaGreatDoor
/- slices.Insert of one thing, over a slice of the program's own: Str. -/
namespace Go.Proofs.YtlenfiiocmchdaaGreatDoor
open Go.RowKit
set_option linter.unusedVariables false
set_option linter.unusedSimpArgs false

theorem Tryz.infoStr : (Tryz.prog.info? 9).map (fun i => (i.zero, i.size, i.bytes)) = some (some (.string ⟨#[]⟩), 1, 16) := by kernel_rfl

/-- a copy whose run is known -/
theorem wp_copy_isStr {P : Program} (w : World) {o : Oper} {a : Act} {K : Act → World → Prop} {Q : Exit → Act → World → Prop} (d s : Operand) (t t' : TypeId)
    (ho : o.op = .call { callee := .builtin .copy, args := #[d, s], argTypes := #[t, t'] }) (v u : Value) (hd : a.eval d = v) (hs : a.eval s = u) {v' : Value} {w' : World}
    (hr : (Builtin.copy_ #[t, t'] o.type #[v, u]).run P w = .ok v' w') (h : K (a.put o.dst v') w') : o.wp P a w K Q := by
  unfold Oper.wp execOp
  simp only [ho, resolve, invoke, builtin, Sem.run_bind, Sem.run_pure, Result.andThen_ok, List.map_toArray, List.map_cons, List.map_nil, hd, hs, hr]
  exact h
theorem wpList_copy_isStr {P : Program} (w : World) {ops : Array Oper} {rest : List Oper} {o : Oper} {a : Act} {Q : Exit → Act → World → Prop} (hgd : o.guard = none) (d s : Operand) (t t' : TypeId)
    (ho : o.op = .call { callee := .builtin .copy, args := #[d, s], argTypes := #[t, t'] }) (v u : Value) (hd : a.eval d = v) (hs : a.eval s = u) {v' : Value} {w' : World}
    (hr : (Builtin.copy_ #[t, t'] o.type #[v, u]).run P w = .ok v' w') (h : wpList P ops Q rest (a.put o.dst v') w') : wpList P ops Q (o :: rest) a w :=
  wpList_plain hgd fun _ hK => wp_copy_isStr w d s t t' ho v u hd hs hr (hK _ _ h)
theorem step_copy_isStr {P : Program} {ops : Array Oper} {o : Oper} {a : Act} {w : World} {K : Act → World → Prop} {Q : Exit → Act → World → Prop} {E : Prop}
    (hg : o.guard = none) (d x : Operand) (dT sT : TypeId) (hop : o.op = Op.call { callee := Callee.builtin Builtin.copy, args := #[d, x], argTypes := #[dT, sT] })
    (v u : Value) (hd : a.eval d = v) (hx : a.eval x = u) {v' : Value} {w' : World} (hr : (Builtin.copy_ #[dT, sT] o.type #[v, u]).run P w = .ok v' w') (hK : K (a.put o.dst v') w') :
    if Region.wanted o (yielded ops a.tmps) = true then Oper.wp P o a w K Q else E := by
  have hw : Region.wanted o (yielded ops a.tmps) = true := by simp [Region.wanted, hg]
  rw [if_pos hw]
  exact wp_copy_isStr w d x dT sT hop v u hd hx hr hK

theorem ins_listStr {cur : Array Value} {xs : List Value} {n i : Nat} (x : Value) (hsz : n + 1 ≤ cur.size) (ht : cur.toList.take n = xs) (hi : i < n) : (wr (wr cur (i + 1) (xs.drop i)) i [x]).toList.take (n + 1) = xs.take i ++ x :: xs.drop i := by
  have hl : xs.length = n := by rw [← ht, List.length_take]; simp; omega
  have hd : (xs.drop i).length = n - i := by rw [List.length_drop, hl]
  rw [wr_toList _ _ _ (by rw [wr_size]; simp; omega), wr_toList _ _ _ (by rw [hd]; omega), hd]
  have e1 : cur.toList.take (i + 1) = (cur.toList.take (i + 1)).take i ++ (cur.toList.take (i + 1)).drop i := (List.take_append_drop _ _).symm
  have hc : (cur.toList.take (i + 1)).length = i + 1 := by rw [List.length_take]; simp; omega
  have e2 : (cur.toList.take (i + 1) ++ xs.drop i ++ cur.toList.drop (i + 1 + (n - i))).take i = xs.take i := by
    rw [List.append_assoc, List.take_append_of_le_length (by omega), List.take_take, ← ht, List.take_take, Nat.min_eq_left (by omega), Nat.min_eq_left (by omega)]
  have e3 : (cur.toList.take (i + 1) ++ xs.drop i ++ cur.toList.drop (i + 1 + (n - i))).drop (i + [x].length) = xs.drop i ++ cur.toList.drop (i + 1 + (n - i)) := by
    rw [List.append_assoc, show i + [x].length = (cur.toList.take (i + 1)).length from hc.symm, List.drop_left]
  rw [e2, e3]
  have e4 : (xs.take i).length = i := by rw [List.length_take]; omega
  rw [show xs.take i ++ [x] ++ (xs.drop i ++ cur.toList.drop (i + 1 + (n - i))) = (xs.take i ++ x :: xs.drop i) ++ cur.toList.drop (i + 1 + (n - i)) by simp]
  rw [List.take_append_of_le_length (by rw [List.length_append, List.length_cons, hd, e4]; omega), List.take_of_length_le (by rw [List.length_append, List.length_cons, hd, e4]; omega)]
theorem ins_list2Str {cur : Array Value} {xs : List Value} {n i : Nat} (x : Value) (hsz : n + 1 ≤ cur.size) (hl : xs.length = n) (ht : cur.toList.take i = xs.take i) (hi : i < n) : (wr (wr cur i [x]) (i + 1) (xs.drop i)).toList.take (n + 1) = xs.take i ++ x :: xs.drop i := by
  have hd : (xs.drop i).length = n - i := by rw [List.length_drop, hl]
  have e4 : (xs.take i).length = i := by rw [List.length_take]; omega
  have e5 : (xs.take i ++ [x] ++ cur.toList.drop (i + [x].length)).take (i + 1) = xs.take i ++ [x] := by
    rw [List.take_append_of_le_length (by rw [List.length_append, e4]; exact Nat.le_refl _), List.take_of_length_le (by rw [List.length_append, e4]; exact Nat.le_refl _)]
  rw [wr_toList _ _ _ (by rw [wr_size, hd]; omega), wr_toList [x] _ _ (by simp; omega), ht, e5]
  have e6 : (xs.take i ++ [x] ++ xs.drop i).length = n + 1 := by rw [List.length_append, List.length_append, e4, hd, List.length_singleton]; omega
  rw [List.take_append_of_le_length (by omega), List.take_of_length_le (by omega)]
  simp

set_option maxRecDepth 100000 in
set_option maxHeartbeats 4000000 in
/-- at the end -/
theorem insEndStr (v : Value) (n : Nat) (xs : List Value) (x : Value) (vb : Nat) (w : World) (hown : w.ownsRow 0 9 1 v n xs) (hx1 : x.oneCell' = true) (hn : n ≤ 1048576) (hblk : Blk w vb 9 #[x]) :
    Calls Tryz.prog 79 #[v, .int .i64 n, .slice (some ⟨vb, 0, none⟩) 1 1] w fun e w' => ∃ v', e = .returned v' ∧ w'.ownsRow 0 9 1 v' (n + 1) (xs ++ [x]) ∧ w.grownBy w' v.ownBlock ∧ (v'.ownBlock = v.ownBlock ∨ v'.ownBlock = some w.heap.size) := by
  obtain ⟨i0, hi0, hz0, hz1, hz2⟩ := info_parts Tryz.infoStr
  have HC := hid (show ∀ j u, [x][j]? = some u → w.cell? ((⟨vb, 0, none⟩ : Addr).add j) = some u from fun j u hu => by
    cases j with
    | zero => simp at hu; subst hu; simpa [Addr.add] using hblk.cell 0
    | succ j => simp at hu)
  have HX : Hid (∀ u ∈ [x], u.oneCell' = true) := fun u hu => by rw [List.mem_singleton] at hu; subst hu; exact hx1
  have hown0 := hown
  rcases hown.2 with ⟨rfl, rfl⟩ | ⟨g, cap, cur, rfl, hb, hg, hnc, hcm, hsz, htk⟩
  · clear hown hx1 hblk
    go_enter Tryz.func79, Tryz.ntmps79
    go_wp2_with (at_builtin; refine wpList_append_own_at _ rfl (.tmp 23) (.tmp 24) 56 rfl 0 9 i0 (.string ⟨#[]⟩) 1 16 Tryz.underlying56 hi0 hz0 hz1 hz2 rfl (by decide) _ _ _ rfl hown0 _ 1 1 [x] rfl rfl HC.out HX.out (by unfold maxLen; omega) (by omega) (Nat.zero_le _) ?_; intro v' w3 hown' hgrow _ hbk)
    go_ret
    exact ⟨_, rfl, hown', hgrow, hbk⟩
  · have HT := hid htk
    have HS := hid hsz
    have HG := hid hg
    unfold maxLen at hcm
    clear hown hx1 hblk htk hsz hg hb
    have hd : decide (n ≤ cap) = true := decide_eq_true hnc
    go_enter Tryz.func79, Tryz.ntmps79
    go_wp2_with (at_builtin; refine wpList_append_own_at _ rfl (.tmp 23) (.tmp 24) 56 rfl 0 9 i0 (.string ⟨#[]⟩) 1 16 Tryz.underlying56 hi0 hz0 hz1 hz2 rfl (by decide) _ _ _ rfl hown0 _ 1 1 [x] rfl rfl HC.out HX.out (by unfold maxLen; omega) (by omega) (Nat.zero_le _) ?_; intro v' w3 hown' hgrow _ hbk)
    all_goals (go_ret; exact ⟨_, rfl, hown', hgrow, hbk⟩)

set_option maxHeartbeats 4000000 in
set_option maxRecDepth 100000 in
/-- ahead of the end, where there is room -/
theorem insRoomStr (g n c i vb : Nat) (cs : List Value) (x : Value) (w : World) (hi : i < n) (hroom : n + 1 ≤ c) (hc63 : c ≤ 9223372036854775807) (hn : n ≤ 1048576) (hvb : vb ≠ g)
    (cur : Array Value) (hcur : Blk w g 9 cur) (hsz : cur.size = c) (htk : cur.toList.take n = cs) (h1c : ∀ v ∈ cs, v.oneCell' = true) (hx1 : x.oneCell' = true) (hblk : Blk w vb 9 #[x]) :
    Calls Tryz.prog 79 #[.slice (some ⟨g, 0, none⟩) n c, .int .i64 i, .slice (some ⟨vb, 0, none⟩) 1 1] w fun e w' =>
      e = .returned (.slice (some ⟨g, 0, none⟩) (n + 1) c) ∧ w' = (w.drew.setCells g (i + 1) (cs.drop i)).setCells g i [x] := by
  have hcl : cs.length = n := by rw [← htk, List.length_take]; simp; omega
  have hcs : ∀ j v, cs[j]? = some v → w.cell? ⟨g, j, none⟩ = some v := fun j v hj => by
    rw [hcur.cell j, ← hj, ← htk, List.getElem?_take, if_pos (by have := (List.getElem?_eq_some_iff.1 hj).1; omega)]; simp
  have hsp : ∀ j, j < n + 1 → (w.cell? ⟨g, j, none⟩).isSome = true := fun j hj => by rw [hcur.cell j, Array.getElem?_eq_getElem (by omega)]; rfl
  have hfz : ∀ j, w.frozen? ⟨g, j, none⟩ = false := fun j => hcur.frozen j
  have hu := Tryz.underlying56
  have hsize : (Tryz.prog.info? 9).map (·.size) = some 1 := by
    obtain ⟨i0, hi0, h0, h1, h2⟩ := info_parts Tryz.infoStr
    rw [hi0]; simp [h1]
  have hz1 : ∀ w : World, (Go.sizeOf 9).run Tryz.prog w = .ok 1 w := fun w => by
    obtain ⟨i0, hi0, h0, h1, h2⟩ := info_parts Tryz.infoStr
    simp [Go.sizeOf, typeInfo, hi0, h1]
  have hsa : w.shape? vb = some (9, 1) := by have := hblk; unfold Blk at this; simp [World.shape?, this]
  have hsb : w.shape? g = some (9, c) := by have := hcur; unfold Blk at this; simp [World.shape?, this, hsz]
  have hov : ∀ lb cb, (callFunc 127 #[.slice (some ⟨vb, 0, none⟩) 1 1, .slice (some ⟨g, i + 1, none⟩) lb cb]).run Tryz.prog w = .ok (.value (.bool false)) w := fun lb cb => by
    rw [run_callFunc_extern Tryz.func127 (by kernel_rfl) (by kernel_rfl) (by kernel_rfl) (e := Extern.SlicesOverlaps.overlaps #[56, 56] #[4]) (by kernel_rfl),
      Lib.run_overlaps_apart w 56 4 9 hu 1 hz1 ⟨vb, 0, none⟩ ⟨g, i + 1, none⟩ 1 1 lb cb hvb 9 9 1 c hsa hsb (by omega) (hblk.frozen 0) (hblk.frozen 1)]
    rfl
  have hdl : (cs.drop i).length = n - i := by rw [List.length_drop, hcl]
  have hw1 : IntKind.i64.wrap ((i : Int) + 1) = (i : Int) + 1 := by rw [IntKind.wrap_i64]; omega
  have hb1 : (0 : Int) ≤ (i : Int) + 1 := by omega
  have hin : i ≤ n := by omega
  have htn : ((i : Int) + 1).toNat = i + 1 := by omega
  have hb2 : ¬ (c = i + 1) := by omega
  have hb3 : (i : Int) ≤ (n : Int) + 1 := by omega
  have hb4 : ¬ (c = i) := by omega
  have hz2 : ¬ ((i : Int) = (n : Int)) := by omega
  have hcp1 : ∀ ty dc sc, (Builtin.copy_ #[56, 56] ty #[.slice (some ⟨g, i + 1, none⟩) (n - i) dc, .slice (some ⟨g, i, none⟩) (n + 1 - i) sc]).run Tryz.prog w.drew = .ok (goInt (cs.drop i).length) (w.drew.setCells g (i + 1) (cs.drop i)) := fun ty dc sc =>
    run_copy_cells w.drew _ _ ty 9 g (i + 1) (n - i) dc ⟨g, i, none⟩ (n + 1 - i) sc (cs.drop i) hu hsize (by rw [hdl]; simp only [Nat.min_def]; split <;> omega)
      (fun j v hj => by rw [Addr.add_lit]; exact hcs (i + j) v (by rwa [List.getElem?_drop] at hj))
      (fun j hj => hsp _ (by omega)) (fun j hj => hfz _) (fun v hv => h1c v (List.mem_of_mem_drop hv))
  obtain ⟨W1, hW1⟩ : ∃ W1, W1 = w.drew.setCells g (i + 1) (cs.drop i) := ⟨_, rfl⟩
  have hB1 : Blk W1 g 9 (wr cur (i + 1) (cs.drop i)) := by rw [hW1]; exact heap_setCells _ _ _ _ hcur
  have hX1 : Blk W1 vb 9 #[x] := by rw [hW1]; exact hblk.only (only_setCells (F := (· = g)) (.inl rfl) (cs.drop i) (i + 1) w.drew (Only.refl (· = g) w).drew) hvb
  have hcp2 : ∀ (W : World), (∀ x, W.cell? x = W1.cell? x) → (∀ x, W.frozen? x = W1.frozen? x) → ∀ ty dc, (Builtin.copy_ #[56, 56] ty #[.slice (some ⟨g, i, none⟩) (n + 1 - i) dc, .slice (some ⟨vb, 0, none⟩) 1 1]).run Tryz.prog W = .ok (goInt 1) (W.setCells g i [x]) := fun W hWc hWf ty dc =>
    run_copy_cells W _ _ ty 9 g i (n + 1 - i) dc ⟨vb, 0, none⟩ 1 1 [x] hu hsize (by simp only [Nat.min_def, List.length_singleton]; split <;> omega)
      (fun j v hj => by
        cases j with
        | zero => simp at hj; subst hj; rw [Addr.add_lit, hWc]; exact hX1.cell 0
        | succ j => simp at hj)
      (fun j hj => by rw [hWc, hB1.cell, Array.getElem?_eq_getElem (by rw [wr_size]; simp at hj; omega)]; rfl) (fun j hj => by rw [hWf]; exact hB1.frozen _) (fun u hu => by rw [List.mem_singleton] at hu; subst hu; exact hx1)
  rw [← hW1] at hcp1
  clear hcs hsp hfz hsa hsb hcur hblk htk h1c hx1 hB1 hX1 hsz hcl hz1 hsize
  have HCP2 := hid hcp2
  clear hcp2
  have HDL := hid hdl; clear hdl
  have HW1 := hid hW1; clear hW1
  have mixed : Tryz.prog.follows .mixedOrders = true := by kernel_rfl
  go_enter Tryz.func79, Tryz.ntmps79
  go_wp2_with (simp only [hov])
  go_region_law (refine step_copy_isStr rfl _ _ 56 56 rfl _ _ (by simp [Act.eval, Act.put]) (by simp [Act.eval, Act.put]) (hcp1 _ _ _) ?_)
  go_wp2_with (refine wpList_copy_isStr _ rfl (.tmp 80) (.tmp 81) 56 56 rfl _ _ rfl rfl (HCP2.out _ (fun _ => rfl) (fun _ => rfl) _ _) ?_)
  go_ret
  exact ⟨rfl, by rw [HW1.out]⟩

set_option maxHeartbeats 4000000 in
set_option maxRecDepth 100000 in
/-- ahead of the end, where there is no room -/
theorem insGrowStr (g n c i vb : Nat) (cs : List Value) (x : Value) (w : World) (hi : i < n) (hnc : n ≤ c) (hroom : c < n + 1) (hn : n ≤ 1048576)
    (cur : Array Value) (hcur : Blk w g 9 cur) (hsz : cur.size = c) (htk : cur.toList.take n = cs) (h1c : ∀ v ∈ cs, v.oneCell' = true) (hx1 : x.oneCell' = true) (hblk : Blk w vb 9 #[x]) :
    Calls Tryz.prog 79 #[.slice (some ⟨g, 0, none⟩) n c, .int .i64 i, .slice (some ⟨vb, 0, none⟩) 1 1] w fun e w' =>
      ∃ v', e = .returned v' ∧ w'.ownsRow 0 9 1 v' (n + 1) (cs.take i ++ x :: cs.drop i) ∧ Below w.heap.size w w' ∧ v'.ownBlock = some w.heap.size := by
  have hcl : cs.length = n := by rw [← htk, List.length_take]; simp; omega
  have hcs : ∀ j v, cs[j]? = some v → w.cell? ⟨g, j, none⟩ = some v := fun j v hj => by
    rw [hcur.cell j, ← hj, ← htk, List.getElem?_take, if_pos (by have := (List.getElem?_eq_some_iff.1 hj).1; omega)]; simp
  have hu := Tryz.underlying56
  obtain ⟨i0, hi0, hz0, hzs, hzb⟩ := info_parts Tryz.infoStr
  have hsize : (Tryz.prog.info? 9).map (·.size) = some 1 := by rw [hi0]; simp [hzs]
  have hdl : (cs.drop i).length = n - i := by rw [List.length_drop, hcl]
  have hold : (Builtin.firstCells i0.size i (.slice (some ⟨g, 0, none⟩) i c)).run Tryz.prog w.drew = .ok (cs.take i).toArray w.drew := by
    rw [hzs]
    exact run_firstCells_some w.drew 1 i ⟨g, 0, none⟩ i c (cs.take i) (by rw [List.length_take]; omega) (fun j v hj => by
      rw [Addr.add_lit, Nat.zero_add]
      rw [List.getElem?_take] at hj
      split at hj
      · exact hcs j v hj
      · cases hj)
  obtain ⟨G, hG⟩ : ∃ G, G = grownCap w (n + 1) c 9 := ⟨_, rfl⟩
  obtain ⟨ROW, hROW⟩ : ∃ ROW : Array Value, ROW = (cs.take i).toArray ++ Builtin.zeroCells (Value.cells (.string ⟨#[]⟩)) (n + 1 - i) ++ Builtin.zeroCells (Value.cells (.string ⟨#[]⟩)) (G - (n + 1)) := ⟨_, rfl⟩
  have hkk : (n : Int) + 1 - (i : Int) = ((n + 1 - i : Nat) : Int) := by omega
  have hik : i + (n + 1 - i) = n + 1 := by omega
  have hrz : ∀ ty, (Builtin.append_ #[56, 3] ty #[.slice (some ⟨g, 0, none⟩) i c, .int .i64 ((n : Int) + 1 - (i : Int))]).run Tryz.prog w =
      .ok (.slice (some ⟨w.heap.size, 0, none⟩) (n + 1) G) (w.drew.alloc (.cells ROW 9)) := fun ty => by
    have h := Lib.run_append_grow_zeros w 56 3 ty 9 i0 _ .i64 .i64 hu Tryz.underlying3 hi0 hz0 (some ⟨g, 0, none⟩) i c (cs.take i) hold (n + 1 - i) (by omega) (by omega) (by omega) (by omega) (by rw [hzb]; omega) (by rw [hzb, hik]; exact growslice_fits hroom (by omega))
    rw [hik] at h
    rw [hkk, hROW, hG]
    exact h
  have hGn : n + 1 ≤ G := by rw [hG]; exact grownCap_ge w _ _ _
  have hG63 : G ≤ 9223372036854775807 := by
    have := grownCap_le_maxLen w (n + 1) c 9 (by unfold maxLen; omega)
    rw [← hG] at this
    unfold maxLen at this
    omega
  have hRs : ROW.size = G := by
    rw [hROW]
    simp [Builtin.zeroCells, Value.cells]
    omega
  have hRt : ROW.toList.take i = cs.take i := by
    rw [hROW, Array.toList_append, Array.toList_append, List.append_assoc, List.take_append_of_le_length (by simp; omega)]
    show List.take i (cs.take i) = _
    rw [List.take_take, Nat.min_self]
  have hgl := hcur.lt
  have hvl := hblk.lt
  obtain ⟨W1, hW1⟩ : ∃ W1, W1 = w.drew.alloc (.cells ROW 9) := ⟨_, rfl⟩
  have hN1 : Blk W1 w.heap.size 9 ROW := by rw [hW1]; exact Blk.new w.drew _ _
  have hC1 : Blk W1 g 9 cur := by rw [hW1]; exact hcur.drew.alloc _
  have hV1 : Blk W1 vb 9 #[x] := by rw [hW1]; exact hblk.drew.alloc _
  have hb1 : Below w.heap.size w W1 := by rw [hW1]; exact (Below.refl _ _).drew.alloc (Nat.le_refl _) _
  have hcpA : ∀ (W : World), (∀ x, W.cell? x = W1.cell? x) → (∀ x, W.frozen? x = W1.frozen? x) → ∀ ty dc, (Builtin.copy_ #[56, 56] ty #[.slice (some ⟨w.heap.size, i, none⟩) (n + 1 - i) dc, .slice (some ⟨vb, 0, none⟩) 1 1]).run Tryz.prog W = .ok (goInt 1) (W.setCells w.heap.size i [x]) := fun W hWc hWf ty dc =>
    run_copy_cells W _ _ ty 9 w.heap.size i (n + 1 - i) dc ⟨vb, 0, none⟩ 1 1 [x] hu hsize (by simp only [Nat.min_def, List.length_singleton]; split <;> omega)
      (fun j v hj => by
        cases j with
        | zero => simp at hj; subst hj; rw [Addr.add_lit, hWc]; exact hV1.cell 0
        | succ j => simp at hj)
      (fun j hj => by rw [hWc, hN1.cell, Array.getElem?_eq_getElem (by simp at hj; omega)]; rfl) (fun j hj => by rw [hWf]; exact hN1.frozen _) (fun u hu => by rw [List.mem_singleton] at hu; subst hu; exact hx1)
  have hN2 : Blk (W1.setCells w.heap.size i [x]) w.heap.size 9 (wr ROW i [x]) := heap_setCells _ _ _ _ hN1
  have hO2 : Only (· = w.heap.size) W1 (W1.setCells w.heap.size i [x]) := only_setCells (F := (· = w.heap.size)) (.inl rfl) _ _ _ (Only.refl _ _)
  have hC2 : Blk (W1.setCells w.heap.size i [x]) g 9 cur := hC1.only hO2 (by omega)
  have hcpB : ∀ (W : World), (∀ y, W.cell? y = (W1.setCells w.heap.size i [x]).cell? y) → (∀ y, W.frozen? y = (W1.setCells w.heap.size i [x]).frozen? y) → ∀ ty dc sc, (Builtin.copy_ #[56, 56] ty #[.slice (some ⟨w.heap.size, i + 1, none⟩) (n - i) dc, .slice (some ⟨g, i, none⟩) (n - i) sc]).run Tryz.prog W = .ok (goInt (cs.drop i).length) (W.setCells w.heap.size (i + 1) (cs.drop i)) := fun W hWc hWf ty dc sc =>
    run_copy_cells W _ _ ty 9 w.heap.size (i + 1) (n - i) dc ⟨g, i, none⟩ (n - i) sc (cs.drop i) hu hsize (by rw [hdl]; simp only [Nat.min_def]; split <;> omega)
      (fun j v hj => by
        rw [Addr.add_lit, hWc, hC2.cell]
        rw [List.getElem?_drop] at hj
        rw [← hj, ← htk, List.getElem?_take, if_pos (by have := (List.getElem?_eq_some_iff.1 hj).1; omega)]; simp)
      (fun j hj => by rw [hWc, hN2.cell, Array.getElem?_eq_getElem (by rw [wr_size]; omega)]; rfl)
      (fun j hj => by rw [hWf]; exact hN2.frozen _) (fun v hv => h1c v (List.mem_of_mem_drop hv))
  have hGi : ¬ (G = i) := by omega
  have hGim : ¬ (G = i + 1) := by omega
  have hci : ¬ (c = i) := by omega
  have hw1 : IntKind.i64.wrap ((i : Int) + 1) = (i : Int) + 1 := by rw [IntKind.wrap_i64]; omega
  have hb1' : (0 : Int) ≤ (i : Int) + 1 := by omega
  have hin : i ≤ n := by omega
  have htn : ((i : Int) + 1).toNat = i + 1 := by omega
  have hb3 : (i : Int) ≤ (n : Int) := by omega
  have hz2 : ¬ ((i : Int) = (n : Int)) := by omega
  have hz3 : (c : Int) < (n : Int) + 1 := by omega
  have hfin : (∃ v', (Value.slice (some ⟨w.heap.size, 0, none⟩) (n + 1) G) = v' ∧ ((((w.alloc (.cells ROW 9)).drew.setCells w.heap.size i [x]).drew).setCells w.heap.size (i + 1) (cs.drop i)).ownsRow 0 9 1 v' (n + 1) (cs.take i ++ x :: cs.drop i) ∧ Below w.heap.size w ((((w.alloc (.cells ROW 9)).drew.setCells w.heap.size i [x]).drew).setCells w.heap.size (i + 1) (cs.drop i)) ∧ v'.ownBlock = some w.heap.size) := by
    have a1 : Blk ((w.alloc (.cells ROW 9)).drew) w.heap.size 9 ROW := Blk.new w _ _
    have a2 : Blk (((w.alloc (.cells ROW 9)).drew.setCells w.heap.size i [x]).drew) w.heap.size 9 (wr ROW i [x]) := heap_setCells _ _ _ _ a1
    have a3 : Blk ((((w.alloc (.cells ROW 9)).drew.setCells w.heap.size i [x]).drew).setCells w.heap.size (i + 1) (cs.drop i)) w.heap.size 9 (wr (wr ROW i [x]) (i + 1) (cs.drop i)) := heap_setCells _ _ _ _ a2
    have o1 : Only NoF w ((w.alloc (.cells ROW 9)).drew) := ((Only.refl NoF w).alloc _).drew
    have o2 : Only NoF w ((((w.alloc (.cells ROW 9)).drew.setCells w.heap.size i [x]).drew).setCells w.heap.size (i + 1) (cs.drop i)) :=
      only_setCells (.inr (Nat.le_refl _)) _ _ _ (only_setCells (.inr (Nat.le_refl _)) _ _ _ o1).drew
    refine ⟨_, rfl, ⟨by simp; omega, .inr ⟨w.heap.size, G, _, rfl, Nat.zero_le _, a3, hGn, by unfold maxLen; omega, by rw [wr_size, wr_size, hRs]; simp, ?_⟩⟩, o2.below0, rfl⟩
    rw [Nat.mul_one]
    exact ins_list2Str x (by omega) hcl hRt hi
  have HFIN := hid hfin
  have HA := hid hcpA; have HB := hid hcpB; have HE := hid hW1
  have hE1 : Hid (∀ x, ((w.alloc (.cells ROW 9)).drew).cell? x = W1.cell? x) := fun x => by rw [hW1]; rfl
  have hE2 : Hid (∀ x, ((w.alloc (.cells ROW 9)).drew).frozen? x = W1.frozen? x) := fun x => by rw [hW1]; rfl
  have hF1 : Hid (∀ y, (((w.alloc (.cells ROW 9)).drew.setCells w.heap.size i [x]).drew).cell? y = (W1.setCells w.heap.size i [x]).cell? y) := fun y => by rw [hW1]; rfl
  have hF2 : Hid (∀ y, (((w.alloc (.cells ROW 9)).drew.setCells w.heap.size i [x]).drew).frozen? y = (W1.setCells w.heap.size i [x]).frozen? y) := fun y => by rw [hW1]; rfl
  have HZ := hid hrz
  clear hfin hcpA hcpB hrz hW1 hN1 hC1 hV1 hb1 hN2 hO2 hC2 hRt hRs hROW hG hold hcs hcur htk h1c hx1 hblk hsz hcl hkk hik hi0 hz0 hzs hzb hsize hdl
  have mixed : Tryz.prog.follows .mixedOrders = true := by kernel_rfl
  go_enter Tryz.func79, Tryz.ntmps79
  go_wp2_with (first
    | (at_builtin; refine Lib.wpList_append_run _ rfl _ _ _ _ rfl _ _ rfl rfl _ _ (HZ.out _) ?_)
    | (refine wpList_copy_isStr _ rfl (.tmp 43) (.tmp 44) 56 56 rfl _ _ rfl rfl (HA.out _ hE1.out hE2.out _ _) ?_))
  go_region_law (refine step_copy_isStr rfl _ _ 56 56 rfl (.slice (some ⟨w.heap.size, i + 1, none⟩) (n - i) (G - (i + 1))) (.slice (some ⟨g, i, none⟩) (n - i) (c - i)) (by simp [Act.eval, Act.put]) (by simp [Act.eval, Act.put]) (HB.out _ hF1.out hF2.out _ _ _) ?_)
  go_wp2
  go_ret
  obtain ⟨v', h1, h2⟩ := HFIN.out
  exact ⟨v', congrArg Ending.returned h1, h2⟩

/-- one thing more at a place -/
theorem insStr (v : Value) (n i : Nat) (xs : List Value) (x : Value) (vb : Nat) (w : World) (hown : w.ownsRow 0 9 1 v n xs) (h1 : ∀ u ∈ xs, u.oneCell' = true) (hx1 : x.oneCell' = true) (hi : i ≤ n) (hn : n ≤ 1048576) (hblk : Blk w vb 9 #[x]) (hne : v.ownBlock ≠ some vb) :
    Calls Tryz.prog 79 #[v, .int .i64 i, .slice (some ⟨vb, 0, none⟩) 1 1] w fun e w' => ∃ v', e = .returned v' ∧ w'.ownsRow 0 9 1 v' (n + 1) (xs.take i ++ x :: xs.drop i) ∧ w.grownBy w' v.ownBlock ∧ (v'.ownBlock = v.ownBlock ∨ v'.ownBlock = some w.heap.size) := by
  have hxl : xs.length = n := by have := hown.1; omega
  by_cases hin : i = n
  · subst hin
    rw [List.take_of_length_le (by omega), List.drop_eq_nil_of_le (by omega)]
    exact insEndStr v i xs x vb w hown hx1 hn hblk
  · rcases hown.2 with ⟨rfl, rfl⟩ | ⟨g, cap, cur, rfl, hb, hg, hnc, hcm, hsz, htk⟩
    · omega
    · unfold maxLen at hcm
      rw [Nat.mul_one] at hsz htk
      by_cases hr : n + 1 ≤ cap
      · refine (insRoomStr g n cap i vb xs x w (by omega) hr hcm hn (fun e => hne (by rw [e]; rfl)) cur hg hsz htk h1 hx1 hblk).mono ?_
        rintro e w' ⟨rfl, rfl⟩
        refine ⟨_, rfl, ⟨by simp; omega, .inr ⟨g, cap, _, rfl, Nat.zero_le _, heap_setCells _ _ _ _ (heap_setCells _ _ w.drew _ hg), hr, by unfold maxLen; omega, by rw [wr_size, wr_size, hsz]; omega, ?_⟩⟩, ?_, .inl rfl⟩
        · rw [Nat.mul_one]; exact ins_listStr x (by omega) htk (by omega)
        · exact grownBy_of_only (only_setCells (F := fun k => some g = some k) (.inl rfl) _ _ _ (only_setCells (F := fun k => some g = some k) (.inl rfl) _ _ _ (Only.refl _ w).drew))
      · refine (insGrowStr g n cap i vb xs x w (by omega) hnc (by omega) hn cur hg hsz htk h1 hx1 hblk).mono ?_
        rintro e w' ⟨v', rfl, h2, hb2, h3⟩
        exact ⟨v', rfl, h2, ⟨hb2.os, hb2.tape, hb2.output, hb2.size, fun k hk _ => hb2.block k hk⟩, .inr h3⟩
end Go.Proofs.YtlenfiiocmchdaaGreatDoor
