/- Texts in a row: SortK, LayS, SnH, OrdC, OrdR, OrdL, InsFc, FactG, FactP, FactS, LwA, LwC, PathPlainC, SnX. -/
import Derived.Test.YtmpjdoiogbbcoaaGreatDoorMhE
import Derived.Shelf.SlSortCmp.NoneTotal
import Derived.Shelf.SlGeneric
import Derived.Test.YtmpjdoiogbbcoaaGreatDoorProg
import Derived.BigQuiet
/- Own slices of structs sorted by a function. -/
namespace Go.Proofs.YtmpjdoiogbbcoaaGreatDoor
open Go.RowKit Go.Sort Go.Shelf
set_option linter.unusedVariables false
set_option linter.unusedSimpArgs false

section
variable {α : Type} [Inhabited α]
theorem flat_get (enc : α → List Value) (k : Nat) (hk0 : 0 < k) (hk : ∀ x, (enc x).length = k) : ∀ (l : List α) (j : Nat), j < l.length * k → (l.flatMap enc)[j]! = (enc (l[j / k]!))[j % k]!
 | [], j, h => by simp at h
 | a :: r, j, h => by
  rw [List.flatMap_cons]
  by_cases hj : j < k
  ·have e1 : j / k = 0 := Nat.div_eq_of_lt hj
   have e2 : j % k = j := Nat.mod_eq_of_lt hj
   rw [e1, e2]
   have hja : j < (enc a).length := by rw [hk]; exact hj
   rw [getElem!_pos _ j (by rw [List.length_append]; omega), List.getElem_append_left hja]
   simp [hja]
  ·obtain ⟨i, rfl⟩ : ∃ i, j = k + i := ⟨j - k, by omega⟩
   have hr : i < r.length * k := by rw [List.length_cons, Nat.succ_mul] at h; omega
   have ih := flat_get enc k hk0 hk r i hr
   have e1 : (k + i) / k = i / k + 1 := by rw [Nat.add_comm, Nat.add_div_right _ hk0]
   have e2 : (k + i) % k = i % k := by rw [Nat.add_mod_left]
   rw [e1, e2]
   have hlen : i < (r.flatMap enc).length := by
    have : (r.flatMap enc).length = r.length * k := by
     clear ih hr h e1 e2
     induction r with
     | nil => simp
     | cons b t ih => rw [List.flatMap_cons, List.length_append, hk, ih, List.length_cons, Nat.succ_mul]; omega
    omega
   rw [getElem!_pos _ (k + i) (by rw [List.length_append, hk]; omega), List.getElem_append_right (by rw [hk]; omega)]
   rw [getElem!_pos _ i hlen] at ih
   have e3 : (a :: r)[i / k + 1]! = r[i / k]! := rfl
   rw [e3, ← ih]
   congr 1
   rw [hk]; omega
theorem flat_len {β : Type} (enc : β → List Value) (k : Nat) (hk : ∀ x, (enc x).length = k) : ∀ l : List β, (l.flatMap enc).length = l.length * k
 | [] => by simp
 | b :: t => by rw [List.flatMap_cons, List.length_append, hk, flat_len enc k hk t, List.length_cons, Nat.succ_mul]; omega
theorem flatK_eq (enc : α → List Value) (k : Nat) (hk0 : 0 < k) (hk : ∀ x, (enc x).length = k) (d : Array α) : flatK enc k d = (d.toList.flatMap enc).toArray := by
 refine ext_get! (by simp [flat_len enc k hk]) fun t ht => ?_
 have ht' : t < d.size * k := by simpa using ht
 have hq : t / k < d.size := Nat.div_lt_of_lt_mul (by rw [Nat.mul_comm]; exact ht')
 have h := flat_get enc k hk0 hk d.toList t (by simpa using ht')
 rw [get_flatK _ _ _ t ht']
 have e1 : (d.toList.flatMap enc).toArray[t]! = (d.toList.flatMap enc)[t]! := by simp
 rw [e1, h]
 simp [hq]
theorem own_sortedK {w : World} {B g n cap k q : Nat} {e : TypeId} {xs ys : List Value} {os : Array Obj} (h : w.ownsRow B e k (.slice (some ⟨g, 0, none⟩) n cap) n xs) (hy : ys.length = n * k) :
  (grow (putRow id (Sort.ahead w q) g 0 ys.toArray) os).ownsRow B e k (.slice (some ⟨g, 0, none⟩) n cap) n ys := by
 rcases h.2 with ⟨e0, _⟩ | ⟨g', cap', cur, e0, hb, hg, hn, hm, hs, ht⟩
 ·cases e0
 ·injection e0 with e1 _ e3
  injection e1 with e1
  injection e1 with e1
  subst e1; subst e3
  have hlt : g < w.heap.size := (Array.getElem?_eq_some_iff.1 hg).1
  refine ⟨hy, .inr ⟨g, cap, putCells id 0 ys.toArray cur, rfl, hb, ?_, hn, hm, by simpa [putCells] using hs, ?_⟩⟩
  ·rw [heap_grow_old _ _ (by simpa [putRow, mapBlock, Sort.ahead] using hlt)]
   simp [putRow, mapBlock, Sort.ahead, Array.getElem?_modify, hg, onCells]
  ·have hle : n * k ≤ cur.size := by rw [hs]; exact Nat.mul_le_mul_right _ hn
   apply List.ext_getElem?
   intro j
   rw [List.getElem?_take, Array.getElem?_toList]
   by_cases hj : j < n * k
   ·have hjc : j < cur.size := by omega
    simp only [if_pos hj, putCells, Array.getElem?_mapIdx, Array.getElem?_eq_getElem hjc, Option.map_some]
    rw [if_pos (by simp; omega), List.getElem?_eq_getElem (by omega)]
    simp [getElem!_pos, show j < ys.length by omega]
   ·rw [if_neg hj, List.getElem?_eq_none (by omega)]
theorem holds_flat {w : World} {B g n cap k : Nat} {e : TypeId} {xs : List Value} (h : w.ownsRow B e k (.slice (some ⟨g, 0, none⟩) n cap) n xs) : Holds id w g 0 xs.toArray := by
 rcases h.2 with ⟨e0, _⟩ | ⟨g', cap', cur, e0, hb, hg, hn, hm, hs, ht⟩
 ·cases e0
 ·injection e0 with e1 _ e3
  injection e1 with e1
  injection e1 with e1
  subst e1
  intro j hj
  have hj' : j < xs.length := by simpa using hj
  refine ⟨?_, by simp [World.frozen?, hg]⟩
  have e1 : (cur.toList.take (n * k))[j]? = xs[j]? := by rw [ht]
  have hl := h.1
  rw [List.getElem?_take, if_pos (by omega), Array.getElem?_toList, List.getElem?_eq_getElem hj'] at e1
  simp only [World.cell?, hg, Nat.zero_add]
  simp only [Option.isSome_none, Bool.false_eq_true, if_false]
  rw [e1]
  simp [getElem!_pos, hj']
theorem grownBy_sortedK {w : World} {g n : Nat} {os : Array Obj} (d : Array Value) : w.grownBy (grow (putRow id (Sort.ahead w n) g 0 d) os) (some g) := by
 refine ⟨rfl, rfl, rfl, by simp, fun k hk hne => ?_⟩
 rw [heap_grow_old _ _ (by simpa using hk)]
 have : g ≠ k := fun e => hne (by rw [e])
 simp [putRow, mapBlock, Sort.ahead, Array.getElem?_modify, this]
/-- what sorting by a function leaves of an own slice of structs -/
def SortKOut (B : Nat) (e0 : TypeId) (k : Nat) (enc : α → List Value) (w : World) (v : Value) (n : Nat) (l : List α) (e : Ending) (w' : World) : Prop :=
 e = .returned (.tuple #[]) ∧ w'.ownsRow B e0 k v n (l.flatMap enc) ∧ w.grownBy w' v.ownBlock
theorem sortK_own {P : Program} {ρ : Ren} (L : SlLaysF0.n6 P ρ) (k : Nat) (hk0 : 0 < k) (aE : ∀ w, (isAgg (ρ.t 24)).run P w = .ok true w) (zE : ∀ w, (Go.sizeOf (ρ.t 24)).run P w = .ok k w)
  (enc : α → List Value) (hk : ∀ x, (enc x).length = k) (h1 : ∀ x, ∀ v ∈ enc x, v.oneCell' = true) (cf : α → α → Int) (hO : SWO (ltOf cf)) (hT : ∀ x y, (ltOf cf) x y = false → (ltOf cf) y x = false → x = y) (g : Nat) (cb : Array Value) (B n : Nat) (v : Value) (l : List α) (w : World)
  (eg : ∀ args w, (callFunc g args).run P w = .ok (.enter g args) w) (hcmp : ∀ W, w.grownBy W v.ownBlock → ∀ x y : α, Calls P g (#[.agg (enc x).toArray, .agg (enc y).toArray] ++ cb) W fun e w' => e = .returned (.int .i64 (cf x y)) ∧ ∃ q os', w' = grow (W.drewN q) os')
  (h : w.ownsRow B (ρ.t 24) k v n (l.flatMap enc)) (hn : n ≤ 1000000) :
  Calls P (ρ.f 6) #[v, .func (.func g) #[] cb] w (SortKOut B (ρ.t 24) k enc w v n (l.mergeSort fun x y => !(ltOf cf) y x)) := by
 have hl : l.length = n := by
  have := h.1
  rw [flat_len enc k hk] at this
  exact Nat.eq_of_mul_eq_mul_right hk0 this
 have h0 := h
 rcases h.2 with ⟨rfl, hz⟩ | ⟨gb, cap, cur, rfl, hb, hg, hn1, hc, hs, ht⟩
 ·subst hz
  have hl0 : l = [] := List.length_eq_zero_iff.1 hl
  subst hl0
  refine (AnyF.slices_SortFunc_none L none 0 _ w).mono ?_
  rintro e w' ⟨rfl, rfl⟩
  refine ⟨rfl, ?_, ⟨rfl, rfl, rfl, Nat.le_refl _, fun _ _ _ => rfl⟩⟩
  rw [List.mergeSort_nil]; exact World.ownsRow_nil _ _ _ _
 ·have hlt : gb < w.heap.size := (Array.getElem?_eq_some_iff.1 hg).1
  have hH : HoldsK enc k w gb 0 l.toArray := by
   unfold HoldsK
   rw [flatK_eq enc k hk0 hk]
   exact holds_flat h0
  have hsz : l.toArray.size = n := by simpa using hl
  have hS := AnyQ.slices_SortFunc_total L k aE zE enc hk h1 cf hO g cb gb 0 cap l.toArray w eg (fun m os dk hdk x y => hcmp _ (by unfold sortWorldK putRowK; exact grownBy_sortedK _) x y) hH hlt (by rw [hsz]; omega) hT
  rw [hsz] at hS
  refine hS.mono ?_
  rintro e w' ⟨rfl, q, os, rfl⟩
  unfold sortWorldK putRowK
  rw [flatK_eq enc k hk0 hk]
  refine ⟨rfl, own_sortedK h0 ?_, grownBy_sortedK _⟩
  rw [flat_len enc k hk]
  simp [List.length_mergeSort, hl]
end
end Go.Proofs.YtmpjdoiogbbcoaaGreatDoor
/-
 DERIVED: THE SHELF's CONTRACTS AT THIS DUMP, IN PLAIN WORDS (tools/lay-plain.mjs out of 'TryzLayT.lean', which tools/lay-shelf.mjs wrote): THE SAME DECLARATIONS UNDER THE SAME NAMES: 'import', 'namespace', 'open', 'def', 'theorem' AND NOTHING ELSE: no command of the shelf's: FOR A HAND-IN. Each laying: the table of numbers ('.._ren') and one theorem, a field a fact of the dump's own or the kernel's comparison; each contract: ONE APPLICATION.
-/
namespace Go.Proofs
open Go.Shelf
def Tryz.sortF30_ren : Go.Shelf.Ren := ⟨fun | 6 => 30 | 15 => 75 | 14 => 74 | 28 => 134 | 29 => 135 | 20 => 126 | 21 => 127 | 22 => 128 | 23 => 129 | 24 => 130 | 25 => 131 | 26 => 132 | 27 => 133 | 46 => 189 | 47 => 190 | 48 => 191 | 49 => 192 | 50 => 193 | 57 => 226 | n => n, fun | 22 => 25 | 24 => 34 | 25 => 89 | 3 => 3 | 39 => 53 | 0 => 0 | 53 => 195 | 55 => 218 | 4 => 4 | 46 => 211 | 45 => 210 | 50 => 161 | 5 => 5 | 9 => 9 | 66 => 264 | 70 => 268 | 76 => 290 | 77 => 291 | n => n, fun | n => n⟩
theorem Tryz.sortF30 : Go.Proofs.SlLaysF0.n6 Tryz.prog Tryz.sortF30_ren := {
 mixed := by kernel_rfl
 f6 := ⟨Tryz.f30.name, by decide, Tryz.func30.trans (congrArg some (by kernel_rfl))⟩
 f14 := ⟨Tryz.f74.name, by decide, Tryz.func74.trans (congrArg some (by kernel_rfl))⟩
 f15 := Tryz.func75.trans (congrArg some (by kernel_rfl))
 f20 := ⟨Tryz.f126.name, by decide, Tryz.func126.trans (congrArg some (by kernel_rfl))⟩
 f21 := ⟨Tryz.f127.name, by decide, Tryz.func127.trans (congrArg some (by kernel_rfl))⟩
 f22 := ⟨Tryz.f128.name, by decide, Tryz.func128.trans (congrArg some (by kernel_rfl))⟩
 f23 := ⟨Tryz.f129.name, by decide, Tryz.func129.trans (congrArg some (by kernel_rfl))⟩
 f24 := ⟨Tryz.f130.name, by decide, Tryz.func130.trans (congrArg some (by kernel_rfl))⟩
 f25 := ⟨Tryz.f131.name, by decide, Tryz.func131.trans (congrArg some (by kernel_rfl))⟩
 f26 := ⟨Tryz.f132.name, by decide, Tryz.func132.trans (congrArg some (by kernel_rfl))⟩
 f27 := ⟨Tryz.f133.name, by decide, Tryz.func133.trans (congrArg some (by kernel_rfl))⟩
 f28 := Tryz.func134.trans (congrArg some (by kernel_rfl))
 f29 := Tryz.func135.trans (congrArg some (by kernel_rfl))
 f46 := ⟨Tryz.f189.name, by decide, Tryz.func189.trans (congrArg some (by kernel_rfl))⟩
 f47 := Tryz.func190.trans (congrArg some (by kernel_rfl))
 f48 := Tryz.func191.trans (congrArg some (by kernel_rfl))
 f49 := ⟨Tryz.f192.name, by decide, Tryz.func192.trans (congrArg some (by kernel_rfl))⟩
 f50 := ⟨Tryz.f193.name, by decide, Tryz.func193.trans (congrArg some (by kernel_rfl))⟩
 f57 := ⟨Tryz.f226.name, by decide, Tryz.func226.trans (congrArg some (by kernel_rfl))⟩
 t0 := Tryz.underlying0
 a0 := Tryz.isAgg0
 z0 := Tryz.sizeOf0
 v0 := Tryz.zeroValue0
 t3 := Tryz.underlying3
 a3 := Tryz.isAgg3
 z3 := Tryz.sizeOf3
 v3 := Tryz.zeroValue3
 t4 := Tryz.underlying4
 a4 := Tryz.isAgg4
 z4 := Tryz.sizeOf4
 v4 := Tryz.zeroValue4
 t5 := Tryz.underlying5
 a5 := Tryz.isAgg5
 z5 := Tryz.sizeOf5
 v5 := Tryz.zeroValue5
 t9 := Tryz.underlying9
 a9 := Tryz.isAgg9
 z9 := Tryz.sizeOf9
 v9 := Tryz.zeroValue9
 t22 := Tryz.underlying25
 a22 := Tryz.isAgg25
 z22 := Tryz.sizeOf25
 v22 := Tryz.zeroValue25
 t25 := Tryz.underlying89
 a25 := Tryz.isAgg89
 z25 := Tryz.sizeOf89
 v25 := Tryz.zeroValue89
 t39 := Tryz.underlying53
 a39 := Tryz.isAgg53
 z39 := Tryz.sizeOf53
 v39 := Tryz.zeroValue53
 t45 := Tryz.underlying210
 a45 := Tryz.isAgg210
 z45 := Tryz.sizeOf210
 v45 := Tryz.zeroValue210
 t46 := Tryz.underlying211
 a46 := Tryz.isAgg211
 z46 := Tryz.sizeOf211
 v46 := Tryz.zeroValue211
 t50 := Tryz.underlying161
 a50 := Tryz.isAgg161
 z50 := Tryz.sizeOf161
 v50 := Tryz.zeroValue161
 t53 := Tryz.underlying195
 a53 := Tryz.isAgg195
 z53 := Tryz.sizeOf195
 v53 := Tryz.zeroValue195
 t55 := Tryz.underlying218
 a55 := Tryz.isAgg218
 z55 := Tryz.sizeOf218
 v55 := Tryz.zeroValue218
 t66 := Tryz.underlying264
 a66 := Tryz.isAgg264
 z66 := Tryz.sizeOf264
 v66 := Tryz.zeroValue264
 t70 := Tryz.underlying268
 a70 := Tryz.isAgg268
 z70 := Tryz.sizeOf268
 v70 := Tryz.zeroValue268
 t76 := Tryz.underlying290
 a76 := Tryz.isAgg290
 z76 := Tryz.sizeOf290
 v76 := Tryz.zeroValue290
 t77 := Tryz.underlying291
 a77 := Tryz.isAgg291
 z77 := Tryz.sizeOf291
 v77 := Tryz.zeroValue291 }
def Tryz.sortF148_ren : Go.Shelf.Ren := ⟨fun | 6 => 148 | 15 => 75 | 14 => 201 | 28 => 134 | 29 => 135 | 20 => 229 | 21 => 230 | 22 => 231 | 23 => 232 | 24 => 233 | 25 => 234 | 26 => 235 | 27 => 236 | 46 => 260 | 47 => 190 | 48 => 191 | 49 => 261 | 50 => 262 | 57 => 273 | n => n, fun | 22 => 35 | 24 => 66 | 25 => 144 | 3 => 3 | 39 => 53 | 0 => 0 | 53 => 195 | 55 => 218 | 4 => 4 | 46 => 211 | 45 => 210 | 50 => 161 | 5 => 5 | 9 => 9 | 66 => 264 | 70 => 268 | 76 => 290 | 77 => 291 | n => n, fun | n => n⟩
theorem Tryz.sortF148 : Go.Proofs.SlLaysF0.n6 Tryz.prog Tryz.sortF148_ren := {
 mixed := by kernel_rfl
 f6 := ⟨Tryz.f148.name, by decide, Tryz.func148.trans (congrArg some (by kernel_rfl))⟩
 f14 := ⟨Tryz.f201.name, by decide, Tryz.func201.trans (congrArg some (by kernel_rfl))⟩
 f15 := Tryz.func75.trans (congrArg some (by kernel_rfl))
 f20 := ⟨Tryz.f229.name, by decide, Tryz.func229.trans (congrArg some (by kernel_rfl))⟩
 f21 := ⟨Tryz.f230.name, by decide, Tryz.func230.trans (congrArg some (by kernel_rfl))⟩
 f22 := ⟨Tryz.f231.name, by decide, Tryz.func231.trans (congrArg some (by kernel_rfl))⟩
 f23 := ⟨Tryz.f232.name, by decide, Tryz.func232.trans (congrArg some (by kernel_rfl))⟩
 f24 := ⟨Tryz.f233.name, by decide, Tryz.func233.trans (congrArg some (by kernel_rfl))⟩
 f25 := ⟨Tryz.f234.name, by decide, Tryz.func234.trans (congrArg some (by kernel_rfl))⟩
 f26 := ⟨Tryz.f235.name, by decide, Tryz.func235.trans (congrArg some (by kernel_rfl))⟩
 f27 := ⟨Tryz.f236.name, by decide, Tryz.func236.trans (congrArg some (by kernel_rfl))⟩
 f28 := Tryz.func134.trans (congrArg some (by kernel_rfl))
 f29 := Tryz.func135.trans (congrArg some (by kernel_rfl))
 f46 := ⟨Tryz.f260.name, by decide, Tryz.func260.trans (congrArg some (by kernel_rfl))⟩
 f47 := Tryz.func190.trans (congrArg some (by kernel_rfl))
 f48 := Tryz.func191.trans (congrArg some (by kernel_rfl))
 f49 := ⟨Tryz.f261.name, by decide, Tryz.func261.trans (congrArg some (by kernel_rfl))⟩
 f50 := ⟨Tryz.f262.name, by decide, Tryz.func262.trans (congrArg some (by kernel_rfl))⟩
 f57 := ⟨Tryz.f273.name, by decide, Tryz.func273.trans (congrArg some (by kernel_rfl))⟩
 t0 := Tryz.underlying0
 a0 := Tryz.isAgg0
 z0 := Tryz.sizeOf0
 v0 := Tryz.zeroValue0
 t3 := Tryz.underlying3
 a3 := Tryz.isAgg3
 z3 := Tryz.sizeOf3
 v3 := Tryz.zeroValue3
 t4 := Tryz.underlying4
 a4 := Tryz.isAgg4
 z4 := Tryz.sizeOf4
 v4 := Tryz.zeroValue4
 t5 := Tryz.underlying5
 a5 := Tryz.isAgg5
 z5 := Tryz.sizeOf5
 v5 := Tryz.zeroValue5
 t9 := Tryz.underlying9
 a9 := Tryz.isAgg9
 z9 := Tryz.sizeOf9
 v9 := Tryz.zeroValue9
 t22 := Tryz.underlying35
 a22 := Tryz.isAgg35
 z22 := Tryz.sizeOf35
 v22 := Tryz.zeroValue35
 t25 := Tryz.underlying144
 a25 := Tryz.isAgg144
 z25 := Tryz.sizeOf144
 v25 := Tryz.zeroValue144
 t39 := Tryz.underlying53
 a39 := Tryz.isAgg53
 z39 := Tryz.sizeOf53
 v39 := Tryz.zeroValue53
 t45 := Tryz.underlying210
 a45 := Tryz.isAgg210
 z45 := Tryz.sizeOf210
 v45 := Tryz.zeroValue210
 t46 := Tryz.underlying211
 a46 := Tryz.isAgg211
 z46 := Tryz.sizeOf211
 v46 := Tryz.zeroValue211
 t50 := Tryz.underlying161
 a50 := Tryz.isAgg161
 z50 := Tryz.sizeOf161
 v50 := Tryz.zeroValue161
 t53 := Tryz.underlying195
 a53 := Tryz.isAgg195
 z53 := Tryz.sizeOf195
 v53 := Tryz.zeroValue195
 t55 := Tryz.underlying218
 a55 := Tryz.isAgg218
 z55 := Tryz.sizeOf218
 v55 := Tryz.zeroValue218
 t66 := Tryz.underlying264
 a66 := Tryz.isAgg264
 z66 := Tryz.sizeOf264
 v66 := Tryz.zeroValue264
 t70 := Tryz.underlying268
 a70 := Tryz.isAgg268
 z70 := Tryz.sizeOf268
 v70 := Tryz.zeroValue268
 t76 := Tryz.underlying290
 a76 := Tryz.isAgg290
 z76 := Tryz.sizeOf290
 v76 := Tryz.zeroValue290
 t77 := Tryz.underlying291
 a77 := Tryz.isAgg291
 z77 := Tryz.sizeOf291
 v77 := Tryz.zeroValue291 }
def Tryz.sortF177_ren : Go.Shelf.Ren := ⟨fun | 6 => 177 | 15 => 75 | 14 => 216 | 28 => 134 | 29 => 135 | 20 => 245 | 21 => 246 | 22 => 247 | 23 => 248 | 24 => 249 | 25 => 250 | 26 => 251 | 27 => 252 | 46 => 265 | 47 => 190 | 48 => 191 | 49 => 266 | 50 => 267 | 57 => 274 | n => n, fun | 22 => 198 | 24 => 201 | 25 => 257 | 3 => 3 | 39 => 53 | 0 => 0 | 53 => 195 | 55 => 218 | 4 => 4 | 46 => 211 | 45 => 210 | 50 => 161 | 5 => 5 | 9 => 9 | 66 => 264 | 70 => 268 | 76 => 290 | 77 => 291 | n => n, fun | n => n⟩
theorem Tryz.sortF177 : Go.Proofs.SlLaysF0.n6 Tryz.prog Tryz.sortF177_ren := {
 mixed := by kernel_rfl
 f6 := ⟨Tryz.f177.name, by decide, Tryz.func177.trans (congrArg some (by kernel_rfl))⟩
 f14 := ⟨Tryz.f216.name, by decide, Tryz.func216.trans (congrArg some (by kernel_rfl))⟩
 f15 := Tryz.func75.trans (congrArg some (by kernel_rfl))
 f20 := ⟨Tryz.f245.name, by decide, Tryz.func245.trans (congrArg some (by kernel_rfl))⟩
 f21 := ⟨Tryz.f246.name, by decide, Tryz.func246.trans (congrArg some (by kernel_rfl))⟩
 f22 := ⟨Tryz.f247.name, by decide, Tryz.func247.trans (congrArg some (by kernel_rfl))⟩
 f23 := ⟨Tryz.f248.name, by decide, Tryz.func248.trans (congrArg some (by kernel_rfl))⟩
 f24 := ⟨Tryz.f249.name, by decide, Tryz.func249.trans (congrArg some (by kernel_rfl))⟩
 f25 := ⟨Tryz.f250.name, by decide, Tryz.func250.trans (congrArg some (by kernel_rfl))⟩
 f26 := ⟨Tryz.f251.name, by decide, Tryz.func251.trans (congrArg some (by kernel_rfl))⟩
 f27 := ⟨Tryz.f252.name, by decide, Tryz.func252.trans (congrArg some (by kernel_rfl))⟩
 f28 := Tryz.func134.trans (congrArg some (by kernel_rfl))
 f29 := Tryz.func135.trans (congrArg some (by kernel_rfl))
 f46 := ⟨Tryz.f265.name, by decide, Tryz.func265.trans (congrArg some (by kernel_rfl))⟩
 f47 := Tryz.func190.trans (congrArg some (by kernel_rfl))
 f48 := Tryz.func191.trans (congrArg some (by kernel_rfl))
 f49 := ⟨Tryz.f266.name, by decide, Tryz.func266.trans (congrArg some (by kernel_rfl))⟩
 f50 := ⟨Tryz.f267.name, by decide, Tryz.func267.trans (congrArg some (by kernel_rfl))⟩
 f57 := ⟨Tryz.f274.name, by decide, Tryz.func274.trans (congrArg some (by kernel_rfl))⟩
 t0 := Tryz.underlying0
 a0 := Tryz.isAgg0
 z0 := Tryz.sizeOf0
 v0 := Tryz.zeroValue0
 t3 := Tryz.underlying3
 a3 := Tryz.isAgg3
 z3 := Tryz.sizeOf3
 v3 := Tryz.zeroValue3
 t4 := Tryz.underlying4
 a4 := Tryz.isAgg4
 z4 := Tryz.sizeOf4
 v4 := Tryz.zeroValue4
 t5 := Tryz.underlying5
 a5 := Tryz.isAgg5
 z5 := Tryz.sizeOf5
 v5 := Tryz.zeroValue5
 t9 := Tryz.underlying9
 a9 := Tryz.isAgg9
 z9 := Tryz.sizeOf9
 v9 := Tryz.zeroValue9
 t22 := Tryz.underlying198
 a22 := Tryz.isAgg198
 z22 := Tryz.sizeOf198
 v22 := Tryz.zeroValue198
 t25 := Tryz.underlying257
 a25 := Tryz.isAgg257
 z25 := Tryz.sizeOf257
 v25 := Tryz.zeroValue257
 t39 := Tryz.underlying53
 a39 := Tryz.isAgg53
 z39 := Tryz.sizeOf53
 v39 := Tryz.zeroValue53
 t45 := Tryz.underlying210
 a45 := Tryz.isAgg210
 z45 := Tryz.sizeOf210
 v45 := Tryz.zeroValue210
 t46 := Tryz.underlying211
 a46 := Tryz.isAgg211
 z46 := Tryz.sizeOf211
 v46 := Tryz.zeroValue211
 t50 := Tryz.underlying161
 a50 := Tryz.isAgg161
 z50 := Tryz.sizeOf161
 v50 := Tryz.zeroValue161
 t53 := Tryz.underlying195
 a53 := Tryz.isAgg195
 z53 := Tryz.sizeOf195
 v53 := Tryz.zeroValue195
 t55 := Tryz.underlying218
 a55 := Tryz.isAgg218
 z55 := Tryz.sizeOf218
 v55 := Tryz.zeroValue218
 t66 := Tryz.underlying264
 a66 := Tryz.isAgg264
 z66 := Tryz.sizeOf264
 v66 := Tryz.zeroValue264
 t70 := Tryz.underlying268
 a70 := Tryz.isAgg268
 z70 := Tryz.sizeOf268
 v70 := Tryz.zeroValue268
 t76 := Tryz.underlying290
 a76 := Tryz.isAgg290
 z76 := Tryz.sizeOf290
 v76 := Tryz.zeroValue290
 t77 := Tryz.underlying291
 a77 := Tryz.isAgg291
 z77 := Tryz.sizeOf291
 v77 := Tryz.zeroValue291 }
end Go.Proofs
/- Heights of parents: heights. -/
namespace Go.Proofs.YtmpjdoiogbbcoaaGreatDoor
open Go.RowKit Book Pap Ojt Sn
set_option linter.unusedVariables false
set_option linter.unusedSimpArgs false

def nvals (l : List Int) : List Value := l.map (Value.int .i64)
theorem nvals_append (a b : List Int) : nvals (a ++ b) = nvals a ++ nvals b := List.map_append
theorem own_nums {w : World} {B n : Nat} {a : Option Addr} {c : Nat} {l : List Int} (h : w.ownsRow B 3 1 (.slice a n c) n (nvals l)) : NumsAt w a n l := by
 have hl : l.length = n := by have := h.1; unfold nvals at this; rw [List.length_map] at this; omega
 refine ⟨hl, ?_⟩
 have h' := h
 rcases h.2 with ⟨h1, h0⟩ | ⟨g, cap, cur, h1, hb, hg, hn, hc, hsz, htk⟩
 ·exact .inl h0
 ·cases h1
  refine .inr ⟨g, 0, rfl, fun j hj => ?_⟩
  have c0 := h'.cellAt j (by omega)
  rw [Nat.zero_add]
  refine c0.trans ?_
  unfold nvals
  rw [List.getElem?_map, List.getD_eq_getElem?_getD, List.getElem?_eq_getElem (by omega)]; rfl
theorem Tryz.infoInt15 : (Tryz.prog.info? 3).map (fun i => (i.zero, i.size, i.bytes)) = some (some (.int .i64 0), 1, 8) := by kernel_rfl
theorem lookK_ok {G : Sw.Src} {id : ByteArray} {k lacks : Int} {x : Ob} (h : lookK G id k lacks = (x, 0)) (hl : lacks ≠ 0) : good x = true ∧ x.kind = k := by
 unfold lookK at h
 split at h
 ·injection h with _ h; exact absurd h hl
 ·split at h
  ·injection h with _ h; cases h
  ·rename_i t ht y hd
   split at h
   ·injection h with _ h; cases h
   ·rename_i hk
    injection h with h _
    subst h
    exact ⟨dec_good hd, Decidable.byContradiction hk⟩
/-- heights of parents -/
def highS (G : Sw.Src) (ps : List ByteArray) : List Int × Int := if 8 < ps.length then ([], 6) else if (Sw.setOf ps).length < ps.length then ([], 31) else heightsS G ps []
def HighOut (w : World) (r : List Int × Int) (e : Ending) (w' : World) : Prop :=
 ∃ a n c, e = .returned (.tuple #[.slice a n c, .int .i64 r.2]) ∧ NumsAt w' a n r.1 ∧ Below w.heap.size w w' ∧ n ≤ 8 ∧ ∀ z ∈ r.1, 0 ≤ z ∧ z ≤ 1073741824
set_option maxRecDepth 100000 in
set_option maxHeartbeats 8000000 in
theorem heights_any (t : TypeId) (rv : Value) (G : Sw.Src) (hz : SrcSz G) (a : Option Addr) (n c : Nat) (ps : List ByteArray) (w : World) (hs : SrcAt w t rv G) (hP : StrsAt w a n ps) :
  Calls Tryz.prog 53 #[.iface t rv, .slice a n c] w (HighOut w (highS G ps)) := by
 obtain ⟨i0, hi0, hz0, hz1, hz2⟩ := info_parts Tryz.infoInt15
 have HS := hid hs
 have HP := hid hP
 have HLP := hid hP.1
 have hn63 := hP.2.1
 clear hs hP
 by_cases h8 : 8 < n
 ·have HR : Hid (highS G ps = ([], 6)) := by
   show _ = _
   unfold highS; rw [if_pos (by rw [HLP.out]; exact h8)]
  have ci : (8 : Int) < n := by omega
  go_enter Tryz.func53, Tryz.ntmps53
  go_wp2_with fail
  go_ret2
  rw [HR.out]
  exact ⟨none, 0, 0, rfl, ⟨rfl, .inl rfl⟩, Below.refl _ _, by omega, fun z hz => by cases hz⟩
 have ci8 : ¬ (8 : Int) < n := by omega
 have HOF := hid (of_any a n c ps w HP.out (by omega))
 by_cases htw : (Sw.setOf ps).length < n
 ·have HR : Hid (highS G ps = ([], 31)) := by
   show _ = _
   unfold highS; rw [if_neg (by rw [HLP.out]; exact h8), if_pos (by rw [HLP.out]; exact htw)]
  have ci : ((Sw.setOf ps).length : Int) < n := by omega
  go_enter Tryz.func53, Tryz.ntmps53
  go_wp2_with (first
   | (go_at_call 16; refine HOF.out.mono ?_; rintro e w1 ⟨b1, rfl, hset, hb1⟩; have HB1 := hid hb1; have HSL := hid (slen_any w1 hset); clear hset hb1)
   | (go_at_call 23; refine HSL.out.mono ?_; rintro e w2 ⟨rfl, rfl⟩))
  go_ret2
  rw [HR.out]
  exact ⟨none, 0, 0, rfl, ⟨rfl, .inl rfl⟩, HB1.out, by omega, fun z hz => by cases hz⟩
 have HR : Hid (highS G ps = heightsS G ps []) := by
  show _ = _
  unfold highS; rw [if_neg (by rw [HLP.out]; exact h8), if_neg (by rw [HLP.out]; exact htw)]
 have ci : ¬ ((Sw.setOf ps).length : Int) < n := by omega
 go_enter Tryz.func53, Tryz.ntmps53
 go_wp2_with (first
  | (go_at_call 16; refine HOF.out.mono ?_; rintro e w1 ⟨b1, rfl, hset, hb1⟩; have HB1 := hid hb1; have HSL := hid (slen_any w1 hset); clear hset hb1)
  | (go_at_call 23; refine HSL.out.mono ?_; rintro e w2 ⟨rfl, rfl⟩))
 clear HSL HOF ci ci8 htw
 go_loopw [24, 6] (fun iv v wr => ∃ (i : Nat) (H : List Int), i ≤ n ∧ iv = .int .i64 i ∧ Hid (wr.ownsRow w.heap.size 3 1 v i (nvals H)) ∧ Hid (Below w.heap.size w wr) ∧ Hid (highS G ps = heightsS G (ps.drop i) H) ∧ Hid (∀ z ∈ H, 0 ≤ z ∧ z ≤ 1073741824)) (fun iv _ _ => n - (intOf iv).toNat)
 case atStart => exact ⟨0, [], Nat.zero_le _, rfl, World.ownsRow_nil _ _ _ _, HB1, HR.out, fun z hz => by cases hz⟩
 case round =>
  obtain ⟨i, H, hi, rfl, HO, HB, HE, HZ⟩ := hrel
  obtain ⟨va, vc, rfl, hvc⟩ := own_slice' HO.out
  have hsz := HB.out.size
  by_cases hlt : i < n
  ·have ci : (i : Int) < n := by omega
   have ci0 : (0 : Int) ≤ (i : Int) := by omega
   have h3 := (HP.out.later HB.out).2.2
   obtain ⟨pb, poff, rfl, hcell⟩ := h3.resolve_left (by omega)
   have q0 := hcell i hlt
   have hil : i < ps.length := by rw [HLP.out]; exact hlt
   have HT : Hid (ps.drop i = ps.getD i ByteArray.empty :: ps.drop (i + 1)) := by
    show _ = _
    rw [List.drop_eq_getElem_cons hil, List.getD_eq_getElem?_getD, List.getElem?_eq_getElem hil]; rfl
   obtain ⟨p, hp⟩ : ∃ z, ps.getD i ByteArray.empty = z := ⟨_, rfl⟩
   rw [hp] at q0 HT
   obtain ⟨x, er, hlk⟩ : ∃ x er, lookK G p 3 12 = (x, er) := ⟨_, _, rfl⟩
   have HE1 : Hid (highS G ps = if er ≠ 0 then ([], er) else heightsS G (ps.drop (i + 1)) (H ++ [x.height])) := by
    show _ = _
    rw [HE.out, HT.out]
    show (if (lookK G p 3 12).2 ≠ 0 then ([], (lookK G p 3 12).2) else heightsS G (ps.drop (i + 1)) (H ++ [(lookK G p 3 12).1.height])) = _
    rw [hlk]
   have HLK := hid (look_any t rv G p 3 12 wr (HS.out.later HB.out) hz)
   rw [hlk] at HLK
   have HLOK := hid hlk
   clear hlk hp HT hil hcell h3 HE
   go_wp2_with fail
   refine HLK.out.mono ?_; rintro e w3 ⟨ev, pv, rfl, hO3, hb3, hf3⟩
   simp only at hO3 ⊢
   obtain ⟨ea, en, ec, pa, pn, pc, rfl, -, rfl, -⟩ := hO3
   have HX4 : Hid (Blk (w3.alloc (.cells (obCs x (.slice ea en ec) (.slice pa pn pc)) 98)) w3.heap.size 98 (obCs x (.slice ea en ec) (.slice pa pn pc))) := Blk.new w3 _ _
   have HO4 : Hid ((w3.alloc (.cells (obCs x (.slice ea en ec) (.slice pa pn pc)) 98)).ownsRow w.heap.size 3 1 (.slice va i vc) i (nvals H)) := (own_below HO.out hb3).alloc _
   have HB4 : Hid (Below w.heap.size w (w3.alloc (.cells (obCs x (.slice ea en ec) (.slice pa pn pc)) 98))) := (below_then HB.out hb3).alloc (Nat.le_trans HB.out.size hb3.size) _
   unfold obCs at HX4 HO4 HB4
   simp only [obCs]
   clear hb3 hf3 HLK HO HB
   go_upto_region 10 with fail
   generalize (w3.alloc (.cells #[.int .i64 x.kind, .string x.data, .slice ea en ec, .string x.tree, .slice pa pn pc, .int .i64 x.height, .string x.note] 98)) = w4 at HX4 HO4 HB4 ⊢
   generalize w3.heap.size = g4 at HX4 ⊢
   by_cases he : er = 0
   ·subst he
    have HN : Hid (highS G ps = heightsS G (ps.drop (i + 1)) (H ++ [x.height])) := by
     show _ = _
     rw [HE1.out, if_neg (by simp)]
    have hgd := lookK_ok HLOK.out (by decide)
    have hgc := good_commit hgd.1 hgd.2
    have HZ1 : Hid (∀ z ∈ H ++ [x.height], 0 ≤ z ∧ z ≤ 1073741824) := fun z hz => by
     rcases List.mem_append.1 hz with hz | hz
     ·exact HZ.out z hz
     ·rw [List.mem_singleton.1 hz]; exact ⟨hgc.2.2.1, hgc.2.2.2.1⟩
    have k5 : w4.cell? ⟨g4, 5, none⟩ = some (.int .i64 x.height) := Blk.cell HX4.out 5
    have HS4 := hid HB4.out.size
    clear hgd hgc HLOK HE1
    go_wp2_with (first
     | (at_builtin; refine wpList_append_own _ rfl (.tmp 37) (.tmp 40) 52 rfl w.heap.size 3 i0 (.int .i64 0) 1 8 Tryz.underlying52 hi0 hz0 hz1 hz2 rfl (by decide) (.slice va i vc) _ _ rfl (HO4.out.alloc _) ⟨w4.heap.size, 0, none⟩ 1 1 [.int .i64 x.height] rfl rfl (cellNew1 _ _ _) (one_bytes rfl) (by unfold maxLen; omega) (by omega) (by rw [World.size_alloc]; have := HS4.out; omega) ?_; intro v' w9 hown' hgrow _; have HOWN := hid hown'; have HGR := hid hgrow; clear hown' hgrow))
    obtain ⟨va', vc', rfl, hvc'⟩ := own_slice' HOWN.out
    have HO9 : Hid (w9.ownsRow w.heap.size 3 1 (.slice va' (i + 1) vc') (i + 1) (nvals (H ++ [x.height]))) := by
     have h := HOWN.out
     rw [nvals_append]; exact h
    have HB9 : Hid (Below w.heap.size w w9) := below_grown1 HB4.out HO4.out _ HS4.out HGR.out
    go_roundw
    case rel => first | exact ⟨i + 1, _, by omega, by go_num, HO9, HB9, HN, HZ1⟩ | ((repeat apply Exists.intro); exact ⟨⟨i + 1, _, by omega, by go_num, HO9, HB9, HN, HZ1⟩, rfl⟩)
    case measure => simp [intOf]; omega
   ·have HN : Hid (highS G ps = ([], er)) := by
     show _ = _
     rw [HE1.out, if_pos he]
    clear HLOK HE1
    go_wp2_with fail
    go_ret2
    rw [HN.out]
    exact ⟨none, 0, 0, rfl, ⟨rfl, .inl rfl⟩, HB4.out, by omega, fun z hz => by cases hz⟩
  ·obtain rfl : i = n := by omega
   have ci : ¬ (i : Int) < i := by omega
   have HN : Hid (highS G ps = (H, 0)) := by
    show _ = _
    rw [HE.out, List.drop_of_length_le (by rw [HLP.out]; exact Nat.le_refl _)]; rfl
   go_wp2_with fail
   go_ret2
   rw [HN.out]
   exact ⟨_, _, _, rfl, own_nums HO.out, HB.out, by omega, HZ.out⟩
end Go.Proofs.YtmpjdoiogbbcoaaGreatDoor
/- How commits stand: order.Compare; facts sorted. -/
namespace Go.Proofs.YtmpjdoiogbbcoaaGreatDoor
open Go.RowKit Book Pap Go.Sort
set_option linter.unusedVariables false
set_option linter.unusedSimpArgs false

def valF (f : Fc) : Value := .agg (fcs f).toArray
/-- a number, or the next one -/
def orZ (x y : Int) : Int := if x ≠ 0 then x else y
def cmpZ (f g : Fc) : Int := orZ (Lib.compareInt f.h g.h) (Lib.compareBytes f.id.data.toList g.id.data.toList)
/-- nothing that lay has turned; orders may be drawn -/
def LaysD (w w' : World) : Prop := ∃ q os, w' = grow (w.drewN q) os
set_option maxRecDepth 100000 in
set_option maxHeartbeats 2000000 in
theorem or_any (x y : Int) (b : Nat) (w : World) (h : Blk w b 3 #[.int .i64 x, .int .i64 y]) : Calls Tryz.prog 120 #[.slice (some ⟨b, 0, none⟩) 2 2] w fun e w' => e = .returned (.int .i64 (orZ x y)) ∧ w = w' := by
 have k0 : w.cell? ⟨b, 0, none⟩ = some (.int .i64 x) := Blk.cell h 0
 have k1 : w.cell? ⟨b, 1, none⟩ = some (.int .i64 y) := Blk.cell h 1
 clear h
 by_cases hx : x = 0
 ·have HR : Hid (orZ x y = y) := by unfold Hid orZ; rw [if_neg (by simp [hx])]
  have q0 : (x != 0) = false := by simp [hx]
  have q0' : (x == 0) = true := by simp [hx]
  clear hx
  by_cases hy : y = 0
  ·have q1 : (y != 0) = false := by simp [hy]
   have q1' : (y == 0) = true := by simp [hy]
   have HY := hid hy
   clear hy
   go_enter Tryz.func120, Tryz.ntmps120
   go_wp2
   go_loopw [8] (fun iv wr => ∃ k : Nat, k ≤ 2 ∧ iv = .int .i64 k ∧ w = wr) (fun iv _ => 2 - (intOf iv).toNat)
   case atStart => exact ⟨0, by omega, rfl, rfl⟩
   case round =>
    obtain ⟨k, hk, rfl, rfl⟩ := hrel
    rcases (by omega : k = 0 ∨ k = 1 ∨ k = 2) with rfl | rfl | rfl
    ·go_wp2
     go_roundw
     case rel => first | exact ⟨1, by omega, by first | rfl | go_num, trivial⟩ | exact ⟨1, by omega, by first | rfl | go_num, rfl⟩
     case measure => simp [intOf]
    ·go_wp2
     go_roundw
     case rel => first | exact ⟨2, by omega, by first | rfl | go_num, trivial⟩ | exact ⟨2, by omega, by first | rfl | go_num, rfl⟩
     case measure => simp [intOf]
    ·go_wp2
     go_ret
     rw [HR.out, HY.out]
     exact ⟨rfl, rfl⟩
  ·have q1 : (y != 0) = true := by simp [hy]
   have q1' : (y == 0) = false := by simp [hy]
   clear hy
   go_enter Tryz.func120, Tryz.ntmps120
   go_wp2
   go_loopw [8] (fun iv wr => ∃ k : Nat, k ≤ 1 ∧ iv = .int .i64 k ∧ w = wr) (fun iv _ => 2 - (intOf iv).toNat)
   case atStart => exact ⟨0, by omega, rfl, rfl⟩
   case round =>
    obtain ⟨k, hk, rfl, rfl⟩ := hrel
    rcases (by omega : k = 0 ∨ k = 1) with rfl | rfl
    ·go_wp2
     go_roundw
     case rel => first | exact ⟨1, by omega, by first | rfl | go_num, trivial⟩ | exact ⟨1, by omega, by first | rfl | go_num, rfl⟩
     case measure => simp [intOf]
    ·go_wp2
     go_ret
     rw [HR.out]
     exact ⟨rfl, rfl⟩
 ·have HR : Hid (orZ x y = x) := by unfold Hid orZ; rw [if_pos hx]
  have q0 : (x != 0) = true := by simp [hx]
  have q0' : (x == 0) = false := by simp [hx]
  clear hx
  go_enter Tryz.func120, Tryz.ntmps120
  go_wp2
  go_loopw [8] (fun iv wr => iv = .int .i64 0 ∧ w = wr) (fun iv _ => 2 - (intOf iv).toNat)
  case atStart => exact ⟨rfl, rfl⟩
  case round =>
   obtain ⟨rfl, rfl⟩ := hrel
   go_wp2
   go_ret
   rw [HR.out]
   exact ⟨rfl, rfl⟩
set_option maxRecDepth 100000 in
set_option maxHeartbeats 4000000 in
theorem ordcmp_any (f g : Fc) (w : World) : Calls Tryz.prog 69 #[valF f, valF g] w fun e w' => e = .returned (.int .i64 (cmpZ f g)) ∧ LaysD w w' := by
 have e1 : valF f = .agg #[.string f.id, .int .i64 f.h, .slice f.pa f.pn f.pc] := rfl
 have e2 : valF g = .agg #[.string g.id, .int .i64 g.h, .slice g.pa g.pn g.pc] := rfl
 rw [e1, e2]
 clear e1 e2
 have HLY : Hid (Lays w ((w.alloc (.cells #[.string f.id, .int .i64 f.h, .slice f.pa f.pn f.pc] 66)).alloc (.cells #[.string g.id, .int .i64 g.h, .slice g.pa g.pn g.pc] 66))) := ((Lays.refl w).alloc _).alloc _
 have HXB : Hid (Blk ((w.alloc (.cells #[.string f.id, .int .i64 f.h, .slice f.pa f.pn f.pc] 66)).alloc (.cells #[.string g.id, .int .i64 g.h, .slice g.pa g.pn g.pc] 66)) w.heap.size 66 #[.string f.id, .int .i64 f.h, .slice f.pa f.pn f.pc]) := Blk.alloc (Blk.new w _ _) _
 have HYB : Hid (Blk ((w.alloc (.cells #[.string f.id, .int .i64 f.h, .slice f.pa f.pn f.pc] 66)).alloc (.cells #[.string g.id, .int .i64 g.h, .slice g.pa g.pn g.pc] 66)) (w.heap.size + 1) 66 #[.string g.id, .int .i64 g.h, .slice g.pa g.pn g.pc]) := by
  have h := Blk.new (w.alloc (.cells #[.string f.id, .int .i64 f.h, .slice f.pa f.pn f.pc] 66)) 66 #[.string g.id, .int .i64 g.h, .slice g.pa g.pn g.pc]
  rw [World.size_alloc] at h; exact h
 have HC1 := hid (Tryz.cmp_Compare_int f.h g.h)
 have HC2 := hid (Tryz.strings_Compare f.id g.id)
 have HCZ : Hid (cmpZ f g = orZ (Lib.compareInt f.h g.h) (Lib.compareBytes f.id.data.toList g.id.data.toList)) := rfl
 generalize Lib.compareInt f.h g.h = c1 at HC1 HCZ
 generalize Lib.compareBytes f.id.data.toList g.id.data.toList = c2 at HC2 HCZ
 go_enter Tryz.func69, Tryz.ntmps69
 go_upto_region 1 with fail
 generalize ((w.alloc (.cells #[.string f.id, .int .i64 f.h, .slice f.pa f.pn f.pc] 66)).alloc (.cells #[.string g.id, .int .i64 g.h, .slice g.pa g.pn g.pc] 66)) = w2 at HLY HXB HYB ⊢
 generalize hg1 : w.heap.size + 1 = g1 at HYB ⊢
 generalize w.heap.size = g0 at HXB hg1 ⊢
 clear hg1
 have k0 : w2.cell? ⟨g0, 0, none⟩ = some (.string f.id) := Blk.cell HXB.out 0
 have k1 : w2.cell? ⟨g0, 1, none⟩ = some (.int .i64 f.h) := Blk.cell HXB.out 1
 have k2 : w2.cell? ⟨g1, 0, none⟩ = some (.string g.id) := Blk.cell HYB.out 0
 have k3 : w2.cell? ⟨g1, 1, none⟩ = some (.int .i64 g.h) := Blk.cell HYB.out 1
 go_wp2_with fail
 refine wp_region_tail_drew 10 (by kernel_rfl) (by kernel_rfl) ?_
 simp only [List.take_succ_cons, List.take_zero, List.drop_succ_cons, List.drop_zero]
 repeat (first
  | go_big_quiet_step (first
   | (go_at_call 121; exact Calls.quiet_of_same (HC1.out _))
   | (go_at_call 122; exact Calls.quiet_of_same (HC2.out _)))
  | quiet_step (fail))
 refine wpQuiet_nil ?_
 intro _ hw'
 obtain ⟨nq, hw''⟩ := hw'
 subst hw''
 have HO := hid (or_any c1 c2 (w2.drewN nq).heap.size ((w2.drewN nq).alloc (.cells #[.int .i64 c1, .int .i64 c2] 3)) (Blk.new _ _ _))
 have HE : Hid (LaysD w ((w2.drewN nq).alloc (.cells #[.int .i64 c1, .int .i64 c2] 3))) := by
  obtain ⟨os, hos⟩ := HLY.out
  exact ⟨nq, os.push (.cells #[.int .i64 c1, .int .i64 c2] 3), by rw [hos]; simp [grow, World.alloc, World.drewN]⟩
 clear k0 k1 k2 k3
 go_wp2_with fail
 refine HO.out.mono ?_; rintro e w3 ⟨rfl, rfl⟩
 go_wp2_with fail
 go_ret
 rw [HCZ.out]
 exact ⟨rfl, HE.out⟩
set_option maxRecDepth 100000 in
set_option maxHeartbeats 4000000 in
/-- the greater one first -/
theorem met1_any (f g : Fc) (w : World) : Calls Tryz.prog 149 #[valF f, valF g] w fun e w' => e = .returned (.int .i64 (cmpZ g f)) ∧ LaysD w w' := by
  have e1 : valF f = .agg #[.string f.id, .int .i64 f.h, .slice f.pa f.pn f.pc] := rfl
  have e2 : valF g = .agg #[.string g.id, .int .i64 g.h, .slice g.pa g.pn g.pc] := rfl
  have e3 : (.agg #[.string g.id, .int .i64 g.h, .slice g.pa g.pn g.pc] : Value) = valF g := rfl
  have e4 : (.agg #[.string f.id, .int .i64 f.h, .slice f.pa f.pn f.pc] : Value) = valF f := rfl
  have HE3 := hid e3
  have HE4 := hid e4
  rw [e1, e2]
  clear e1 e2 e3 e4
  have HXB : Hid (Blk ((w.alloc (.cells #[.string f.id, .int .i64 f.h, .slice f.pa f.pn f.pc] 66)).alloc (.cells #[.string g.id, .int .i64 g.h, .slice g.pa g.pn g.pc] 66)) w.heap.size 66 #[.string f.id, .int .i64 f.h, .slice f.pa f.pn f.pc]) := Blk.alloc (Blk.new w _ _) _
  have HYB : Hid (Blk ((w.alloc (.cells #[.string f.id, .int .i64 f.h, .slice f.pa f.pn f.pc] 66)).alloc (.cells #[.string g.id, .int .i64 g.h, .slice g.pa g.pn g.pc] 66)) (w.heap.size + 1) 66 #[.string g.id, .int .i64 g.h, .slice g.pa g.pn g.pc]) := by
    have h := Blk.new (w.alloc (.cells #[.string f.id, .int .i64 f.h, .slice f.pa f.pn f.pc] 66)) 66 #[.string g.id, .int .i64 g.h, .slice g.pa g.pn g.pc]
    rw [World.size_alloc] at h; exact h
  have HLY : Hid (Lays w ((w.alloc (.cells #[.string f.id, .int .i64 f.h, .slice f.pa f.pn f.pc] 66)).alloc (.cells #[.string g.id, .int .i64 g.h, .slice g.pa g.pn g.pc] 66))) := ((Lays.refl w).alloc _).alloc _
  have HC := hid (ordcmp_any g f)
  rw [← HE3.out, ← HE4.out] at HC
  go_enter Tryz.func149, Tryz.ntmps149
  go_upto_region 1 with fail
  generalize ((w.alloc (.cells #[.string f.id, .int .i64 f.h, .slice f.pa f.pn f.pc] 66)).alloc (.cells #[.string g.id, .int .i64 g.h, .slice g.pa g.pn g.pc] 66)) = w2 at HLY HXB HYB ⊢
  generalize hg1 : w.heap.size + 1 = g1 at HYB ⊢
  generalize w.heap.size = g0 at HXB hg1 ⊢
  clear hg1
  have k0 : w2.cell? ⟨g0, 0, none⟩ = some (.string f.id) := Blk.cell HXB.out 0
  have k1 : w2.cell? ⟨g0, 1, none⟩ = some (.int .i64 f.h) := Blk.cell HXB.out 1
  have k2 : w2.cell? ⟨g0, 2, none⟩ = some (.slice f.pa f.pn f.pc) := Blk.cell HXB.out 2
  have k3 : w2.cell? ⟨g1, 0, none⟩ = some (.string g.id) := Blk.cell HYB.out 0
  have k4 : w2.cell? ⟨g1, 1, none⟩ = some (.int .i64 g.h) := Blk.cell HYB.out 1
  have k5 : w2.cell? ⟨g1, 2, none⟩ = some (.slice g.pa g.pn g.pc) := Blk.cell HYB.out 2
  go_wp2_with fail
  refine (HC.out w2).mono ?_; rintro e w3 ⟨rfl, hl⟩
  have HL : Hid (LaysD w w3) := by
    obtain ⟨os, hos⟩ := HLY.out
    obtain ⟨q, os', h⟩ := hl
    exact ⟨q, os ++ os', by rw [h, hos]; simp [grow, World.drewN, Array.append_assoc]⟩
  clear hl
  go_wp2_with fail
  go_ret
  exact ⟨rfl, HL.out⟩
end Go.Proofs.YtmpjdoiogbbcoaaGreatDoor
/- Facts as a book; a commit without parents told by itself: order.read, met, isRight, Log; snap.Log. -/
namespace Go.Proofs.YtmpjdoiogbbcoaaGreatDoor
open Go.RowKit Book Pap Ojt Sn
set_option linter.unusedVariables false
set_option linter.unusedSimpArgs false

def FcsAt (w : World) (a : Option Addr) (n : Nat) (l : List Fc) : Prop :=
 l.length = n ∧ n ≤ 1000000 ∧ (n = 0 ∨ ∃ b off, a = some ⟨b, off, none⟩ ∧ ∀ j, j < n → w.cell? ⟨b, off + j * 3, none⟩ = some (.string (l.getD j noFc).id) ∧ w.cell? ⟨b, off + j * 3 + 1, none⟩ = some (.int .i64 (l.getD j noFc).h) ∧ w.cell? ⟨b, off + j * 3 + 2, none⟩ = some (.slice (l.getD j noFc).pa (l.getD j noFc).pn (l.getD j noFc).pc))
theorem FcsAt.later {w w' : World} {a : Option Addr} {n : Nat} {l : List Fc} (h : FcsAt w a n l) (hb : Below w.heap.size w w') : FcsAt w' a n l := by
 obtain ⟨h1, h2, h3⟩ := h
 refine ⟨h1, h2, h3.imp id ?_⟩
 rintro ⟨b, off, ha, hc⟩
 refine ⟨b, off, ha, fun j hj => ?_⟩
 obtain ⟨c0, c1, c2⟩ := hc j hj
 exact ⟨(hb.cell (World.block_lt_of_cell? w _ c0)).trans c0, (hb.cell (World.block_lt_of_cell? w _ c1)).trans c1, (hb.cell (World.block_lt_of_cell? w _ c2)).trans c2⟩
theorem own_fcs {w : World} {B : Nat} {v : Value} {n : Nat} {l : List Fc} (h : w.ownsRow B 66 3 v n (fvals l)) (hm : n ≤ 1000000) : ∃ a c, v = .slice a n c ∧ FcsAt w a n l := by
 have h' := h
 have hl := fvals_length l
 have hln : l.length = n := by have := h.1; omega
 rcases h.2 with ⟨rfl, h0⟩ | ⟨g, cap, cur, rfl, hb, hg, hn, hc, hsz, htk⟩
 ·exact ⟨none, 0, by rw [h0], hln, hm, .inl h0⟩
 ·refine ⟨_, _, rfl, hln, hm, .inr ⟨g, 0, rfl, fun j hj => ?_⟩⟩
  have hj' : j < l.length := by omega
  have c0 := h'.cellAt (j * 3 + 0) (by omega)
  have c1 := h'.cellAt (j * 3 + 1) (by omega)
  have c2 := h'.cellAt (j * 3 + 2) (by omega)
  rw [fvals_get l j 0 hj' (by omega)] at c0
  rw [fvals_get l j 1 hj' (by omega)] at c1
  rw [fvals_get l j 2 hj' (by omega)] at c2
  rw [Nat.zero_add]
  exact ⟨c0, c1, c2⟩
/-! a Go map of facts -/
def datA : Option Addr → DataW Unit
 | none => .nil
 | some ⟨b, o, s⟩ => .agg [.lit (.int .i64 b), .lit (.int .i64 o), match s with | none => .nil | some k => .lit (.int .i64 k)]
theorem datA_inj (x y : Option Addr) (h : datA x = datA y) : x = y := by
 rcases x with _ | ⟨b, o, s⟩ <;> rcases y with _ | ⟨b', o', s'⟩
 ·rfl
 ·cases h
 ·cases h
 ·unfold datA at h
  injection h with h
  injection h with h1 h
  injection h with h2 h
  injection h with h3 _
  injection h1 with h1
  injection h1 with _ h1
  injection h2 with h2
  injection h2 with _ h2
  have e1 : b = b' := by omega
  have e2 : o = o' := by omega
  have e3 : s = s' := by
   rcases s with _ | k <;> rcases s' with _ | k'
   ·rfl
   ·cases h3
   ·cases h3
   ·injection h3 with h3
    injection h3 with _ h3
    have : k = k' := by omega
    rw [this]
  rw [e1, e2, e3]
def datF (f : Fc) : DataW Unit := .agg [datS f.id, .lit (.int .i64 f.h), datA f.pa, .lit (.int .i64 f.pn), .lit (.int .i64 f.pc)]
theorem valF_inj (x y : Fc) (h : valF x = valF y) : x = y := by
 obtain ⟨a, b, c, d, e⟩ := x
 obtain ⟨a', b', c', d', e'⟩ := y
 simp [valF, fcs] at h
 obtain ⟨h1, h2, h3, h4, h5⟩ := h
 subst h1 h2 h3 h4 h5; rfl
theorem datF_inj (x y : Fc) (h : datF x = datF y) : x = y := by
 obtain ⟨a, b, c, d, e⟩ := x
 obtain ⟨a', b', c', d', e'⟩ := y
 unfold datF at h
 injection h with h
 injection h with h1 h
 injection h with h2 h
 injection h with h3 h
 injection h with h4 h
 injection h with h5 _
 have e1 := datS_inj _ _ h1
 have e3 := datA_inj _ _ h3
 injection h2 with h2
 injection h2 with _ h2
 injection h4 with h4
 injection h4 with _ h4
 injection h5 with h5
 injection h5 with _ h5
 simp only at e1 e3 h2 h4 h5
 have e4 : d = d' := by omega
 have e5 : e = e' := by omega
 rw [e1, h2, e3, e4, e5]
abbrev FcMap := MapFn (α := Fc) Tryz.prog 9 valF datF
theorem zeroFc (w : World) : (zeroValue 66).run Tryz.prog w = .ok (valF noFc) w := by
 obtain ⟨i, hi, hz, -⟩ := info_parts Tryz.infoFact
 have e : valF noFc = .agg #[.string ⟨#[]⟩, .int .i64 0, .slice none 0 0] := rfl
 simp [zeroValue, typeInfo, hi, hz, e]
theorem fcMap_get2 {w : World} {m n : Nat} {f : ByteArray → Option Fc} (h : FcMap w m n f) (s : ByteArray) (hs : s.size ≤ maxLen) : (Instr.lookup 169 (.map (some m)) (.string s) true).run Tryz.prog w = .ok (.tuple #[valF ((f s).getD noFc), .bool (f s).isSome]) w :=
 MapFn.get2 Tryz.underlying9 Tryz.underlying169 valF_inj datF_inj (z0 := noFc) zeroFc h s hs
/-- facts by their ids -/
def tabF (l : List Fc) : ByteArray → Option Fc := fun q => l.find? (fun f => decide (f.id = q))
theorem tabF_snoc {l : List Fc} {f : Fc} (h : f.id ∉ l.map (·.id)) : tabF (l ++ [f]) = fun q => if q = f.id then some f else tabF l q := by
 funext q
 unfold tabF
 rw [List.find?_append]
 by_cases hq : q = f.id
 ·subst hq
  rw [if_pos rfl]
  have : l.find? (fun g => decide (g.id = f.id)) = none := List.find?_eq_none.2 (fun g hg => by
   simp only [decide_eq_true_eq]
   exact fun e => h (List.mem_map.2 ⟨g, hg, e⟩))
  rw [this]
  simp
 ·rw [if_neg hq]
  have : [f].find? (fun g => decide (g.id = q)) = none := List.find?_eq_none.2 (fun g hg => by
   rw [List.mem_singleton.1 hg]
   simp only [decide_eq_true_eq]
   exact fun e => hq e.symm)
  rw [this]
  cases l.find? (fun g => decide (g.id = q)) <;> rfl
theorem tabF_none {l : List Fc} {q : ByteArray} (h : q ∉ l.map (·.id)) : tabF l q = none := List.find?_eq_none.2 (fun g hg => by
 simp only [decide_eq_true_eq]
 exact fun e => h (List.mem_map.2 ⟨g, hg, e⟩))
set_option maxRecDepth 100000 in
set_option maxHeartbeats 8000000 in
theorem read_any (a : Option Addr) (n c : Nat) (l : List Fc) (w : World) (h : FcsAt w a n l) (hnd : (l.map (·.id)).Nodup) (hsz : ∀ f ∈ l, f.id.size ≤ maxLen) :
  Calls Tryz.prog 88 #[.slice a n c] w fun e w' => ∃ m, e = .returned (.tuple #[.map (some m), .int .i64 0]) ∧ FcMap w' m n (tabF l) ∧ w.heap.size ≤ m ∧ Below w.heap.size w w' := by
 have hmk : ∀ (T : TypeId) (W : World), (Instr.makeMap T none).run Tryz.prog W = .ok (.map (some W.heap.size)) (W.alloc (.map #[] 0)) := fun T W => run_makeMap T W
 have HF := hid h
 have HL := hid h.1
 have hn6 := h.2.1
 have HND := hid hnd
 have HSZ := hid hsz
 have HC0 : Hid (FcMap (w.alloc (.map #[] 0)) w.heap.size 0 (tabF [])) := MapFn.made w
 have HB0 : Hid (Below w.heap.size w (w.alloc (.map #[] 0))) := (Below.refl _ _).alloc (Nat.le_refl _) _
 clear h hnd hsz
 go_enter Tryz.func88, Tryz.ntmps88
 go_upto_region 2 with fail
 generalize (w.alloc (.map #[] 0)) = w1 at HC0 HB0 ⊢
 generalize hm : w.heap.size = m at HC0 HB0 ⊢
 have HM := hid hm
 clear hm
 go_wp2_with fail
 go_loopw [12] (fun iv wr => ∃ i : Nat, i ≤ n ∧ iv = .int .i64 i ∧ Hid (FcMap wr m i (tabF (l.take i))) ∧ Hid (Below m w wr)) (fun iv _ => n - (intOf iv).toNat)
 case atStart => exact ⟨0, Nat.zero_le _, rfl, HC0, HB0⟩
 case round =>
  obtain ⟨i, hi, rfl, HC, HB⟩ := hrel
  have hszr := HB.out.size
  rw [HM.out] at hszr
  by_cases hlt : i < n
  ·have ci : (i : Int) < n := by omega
   have ci0 : (0 : Int) ≤ (i : Int) := by omega
   obtain ⟨-, -, h3⟩ := HF.out.later (by rw [HM.out]; exact HB.out)
   obtain ⟨eb, eoff, rfl, hcell⟩ := h3.resolve_left (by omega)
   obtain ⟨q0, q1, q2⟩ := hcell i hlt
   have hil : i < l.length := by rw [HL.out]; exact hlt
   have hT : l.take (i + 1) = l.take i ++ [l.getD i noFc] := by
    rw [List.take_succ_eq_append_getElem hil, List.getD_eq_getElem?_getD, List.getElem?_eq_getElem hil]; rfl
   have hin : (l.getD i noFc).id ∉ (l.take i).map (·.id) := by
    have h1 := HND.out
    rw [← List.take_append_drop (i + 1) l, hT, List.map_append, List.map_append] at h1
    have h2 := (List.nodup_append.1 h1).1
    have h3 := (List.nodup_append.1 h2).2.2
    exact fun hh => h3 _ hh _ (by simp) rfl
   have HT2 : Hid (tabF (l.take (i + 1)) = fun q => if q = (l.getD i noFc).id then some (l.getD i noFc) else tabF (l.take i) q) := by
    show _ = _
    rw [hT]; exact tabF_snoc hin
   have hno := tabF_none hin
   have hids := HSZ.out (l.getD i noFc) (by rw [List.getD_eq_getElem?_getD, List.getElem?_eq_getElem hil]; exact List.getElem_mem hil)
   obtain ⟨f, hf⟩ : ∃ f, l.getD i noFc = f := ⟨_, rfl⟩
   rw [hf] at q0 q1 q2 HT2 hno hids
   have HNO := hid hno
   obtain ⟨fi, fh, fa, fn, fc⟩ := f
   simp only at q0 q1 q2 hids
   clear hf hcell h3 hT hin hil hno
   go_upto_region 5 with fail
   have HX1 : Hid (Blk (wr.alloc (.cells #[.string fi, .int .i64 fh, .slice fa fn fc] 66)) wr.heap.size 66 #[.string fi, .int .i64 fh, .slice fa fn fc]) := Blk.new wr _ _
   have HC1 : Hid (FcMap (wr.alloc (.cells #[.string fi, .int .i64 fh, .slice fa fn fc] 66)) m i (tabF (l.take i))) := HC.out.later ((Below.refl _ _).alloc (Nat.le_refl _) _)
   have HB1 : Hid (Below m w (wr.alloc (.cells #[.string fi, .int .i64 fh, .slice fa fn fc] 66))) := HB.out.alloc hszr _
   have hs1 : m ≤ (wr.alloc (.cells #[.string fi, .int .i64 fh, .slice fa fn fc] 66)).heap.size := by rw [World.size_alloc]; omega
   clear q0 q1 q2 HC HB
   generalize (wr.alloc (.cells #[.string fi, .int .i64 fh, .slice fa fn fc] 66)) = w4 at HX1 HC1 HB1 hs1 ⊢
   generalize wr.heap.size = g4 at HX1 ⊢
   have k0 : w4.cell? ⟨g4, 0, none⟩ = some (.string fi) := Blk.cell HX1.out 0
   have hlk := fcMap_get2 HC1.out fi hids
   have HNO' : tabF (l.take i) fi = none := HNO.out
   rw [HNO'] at hlk
   have ev : valF ((none : Option Fc).getD noFc) = .agg #[.string ⟨#[]⟩, .int .i64 0, .slice none 0 0] := rfl
   rw [ev] at hlk
   simp only [Option.isSome_none] at hlk
   clear ev HNO' HNO
   go_upto_region 6 with fail
   have HX5 : Hid (Blk (w4.alloc (.cells #[.string ⟨#[]⟩, .int .i64 0, .slice none 0 0] 66)) g4 66 #[.string fi, .int .i64 fh, .slice fa fn fc]) := Blk.alloc HX1.out _
   have HC5 : Hid (FcMap (w4.alloc (.cells #[.string ⟨#[]⟩, .int .i64 0, .slice none 0 0] 66)) m i (tabF (l.take i))) := HC1.out.later ((Below.refl _ _).alloc (Nat.le_refl _) _)
   have HB5 : Hid (Below m w (w4.alloc (.cells #[.string ⟨#[]⟩, .int .i64 0, .slice none 0 0] 66))) := HB1.out.alloc hs1 _
   have hs5 : m ≤ (w4.alloc (.cells #[.string ⟨#[]⟩, .int .i64 0, .slice none 0 0] 66)).heap.size := by rw [World.size_alloc]; omega
   clear hlk k0 HX1 HC1 HB1 hs1
   generalize (w4.alloc (.cells #[.string ⟨#[]⟩, .int .i64 0, .slice none 0 0] 66)) = w5 at HX5 HC5 HB5 hs5 ⊢
   have k0 : w5.cell? ⟨g4, 0, none⟩ = some (.string fi) := Blk.cell HX5.out 0
   have k1 : w5.cell? ⟨g4, 1, none⟩ = some (.int .i64 fh) := Blk.cell HX5.out 1
   have k2 : w5.cell? ⟨g4, 2, none⟩ = some (.slice fa fn fc) := Blk.cell HX5.out 2
   have him : i < maxLen := by unfold maxLen; omega
   go_wp2_with (first
    | (at_mapUpdate; refine wpList_mapFn_set rfl (.tmp 24) (.tmp 26) (.tmp 27) 169 rfl Tryz.underlying9 Tryz.underlying169 valF_inj HC5.out him fi hids ⟨fi, fh, fa, fn, fc⟩ rfl rfl rfl ?_; intro w6 hm6 hg6; have HM6 := hid hm6; have HG6 := hid hg6; clear hm6 hg6)
    | go_in)
   have HM7 : Hid (FcMap w6 m (i + 1) (tabF (l.take (i + 1)))) := by
    show FcMap _ _ _ _
    rw [HT2.out]; exact HM6.out
   have HB7 : Hid (Below m w w6) := HB5.out.grown HG6.out hs5 (fun j hj => by cases hj; exact Nat.le_refl _)
   go_roundw
   case rel => first | exact ⟨i + 1, by omega, by go_num, HM7, HB7⟩ | ((repeat apply Exists.intro); exact ⟨⟨i + 1, by omega, by go_num, HM7, HB7⟩, rfl⟩)
   case measure => simp [intOf]; omega
  ·obtain rfl : i = n := by omega
   have ci : ¬ (i : Int) < i := by omega
   have HE : Hid (FcMap wr m i (tabF l)) := by
    have h := HC.out
    rw [List.take_of_length_le (by rw [HL.out]; exact Nat.le_refl _)] at h; exact h
   go_wp2_with fail
   go_ret2
   rw [HM.out]
   exact ⟨m, rfl, HE.out, Nat.le_refl _, HB.out⟩
end Go.Proofs.YtmpjdoiogbbcoaaGreatDoor
/- A commit without parents told by itself: isRight, met, Log; snap.Log. -/
namespace Go.Proofs.YtmpjdoiogbbcoaaGreatDoor
open Go.RowKit Book Pap Ojt Sn Go.Sort
set_option linter.unusedVariables false
set_option linter.unusedSimpArgs false

abbrev BoMap := MapFn (α := Bool) Tryz.prog 9 Value.bool (fun b => DataW.lit (.bool b))
theorem valB_inj (x y : Bool) (h : Value.bool x = Value.bool y) : x = y := by injection h
theorem wpList_mapFn_ins {α : Type} {P : Program} {k : TypeId} {val : α → Value} {dat : α → DataW Unit} {w : World} {m n : Nat} {f : ByteArray → Option α} {ops : Array Oper} {rest : List Oper} {o : Oper} {a : Act} {Q : Exit → Act → World → Prop} (hg : o.guard = none) (mo xo vo : Operand) (t : TypeId) (hop : o.op = Op.insert t mo xo vo)
  (hk : P.underlying k = some .string) {e : TypeId} (ht : P.underlying t = some (.map k e)) (hi : ∀ x y, val x = val y → x = y) (h : MapFn P k val dat w m n f) (hn : n < maxLen) (s : ByteArray) (hs : s.size ≤ maxLen) (x : α)
  (hm : a.eval mo = .map (some m)) (hx : a.eval xo = .string s) (hv : a.eval vo = val x)
  (hK : ∀ w', MapFn P k val dat w' m (n + 1) (fun q => if q = s then some x else f q) → w.grownBy w' (some m) → wpList P ops Q rest (a.put o.dst undef) w') :
  wpList P ops Q (o :: rest) a w := by
 refine wpList_plain hg fun K' hK' => ?_
 obtain ⟨w', hrun, r1, r2⟩ := h.set hk ht hi hn s hs x
 unfold Oper.wp
 simp [execOp, hop, hm, hx, hv, hrun, Result.andThen]
 exact hK' _ _ (hK w' r1 r2)
end Go.Proofs.YtmpjdoiogbbcoaaGreatDoor
/- slices.Insert of one fact (three cells) at any place of a slice of the program's own. -/
namespace Go.Proofs.YtmpjdoiogbbcoaaGreatDoor
open Go.RowKit Book Pap
set_option linter.unusedVariables false
set_option linter.unusedSimpArgs false

/-- a copy of elements of several cells: all is read before anything is written -/
theorem run_copy_cells_k {P : Program} (w : World) (dT sT ty elem : TypeId) (k b o dLen dCap : Nat) (a : Addr) (sLen sCap m : Nat) (cs : List Value)
  (hu : P.underlying dT = some (.slice elem)) (hs : (P.info? elem).map (·.size) = some k) (hm : Nat.min sLen dLen = m) (hn : cs.length = m * k)
  (hsrc : ∀ j v, cs[j]? = some v → w.cell? (a.add j) = some v) (hc : ∀ j, j < cs.length → (w.cell? ⟨b, o + j, none⟩).isSome = true) (hf : ∀ j, j < cs.length → w.frozen? ⟨b, o + j, none⟩ = false) (h1 : ∀ v ∈ cs, v.oneCell' = true) :
  (Builtin.copy_ #[dT, sT] ty #[.slice (some ⟨b, o, none⟩) dLen dCap, .slice (some a) sLen sCap]).run P w = .ok (goInt m) (w.setCells b o cs) := by
 have hl := run_loadCells_list (P := P) w a cs hsrc
 have hst := run_storeCells_cells (P := P) b o cs 0 w (by simpa using hc) (by simpa using hf) h1
 cases hq : P.info? elem with
 | none => simp [hq] at hs
 | some i =>
  have hi : i.size = k := by simpa [hq] using hs
  simp [Builtin.copy_, run_underlying hu, Builtin.lenOf, Builtin.firstCells, sizeOf, typeInfo, hq, hi, hm, ← hn, hl, hst]
theorem inf_list {cur : Array Value} {xs : List Value} {n i : Nat} (x : List Value) (hx : x.length = 3) (hsz : (n + 1) * 3 ≤ cur.size) (ht : cur.toList.take (n * 3) = xs) (hi : i < n) : (wr (wr cur ((i + 1) * 3) (xs.drop (i * 3))) (i * 3) x).toList.take ((n + 1) * 3) = xs.take (i * 3) ++ x ++ xs.drop (i * 3) := by
 have hl : xs.length = n * 3 := by rw [← ht, List.length_take]; simp; omega
 have hd : (xs.drop (i * 3)).length = n * 3 - i * 3 := by rw [List.length_drop, hl]
 rw [wr_toList _ _ _ (by rw [wr_size]; omega), wr_toList _ _ _ (by rw [hd]; omega), hd, hx]
 have hc : (cur.toList.take ((i + 1) * 3)).length = (i + 1) * 3 := by rw [List.length_take]; simp; omega
 have e2 : (cur.toList.take ((i + 1) * 3) ++ xs.drop (i * 3) ++ cur.toList.drop ((i + 1) * 3 + (n * 3 - i * 3))).take (i * 3) = xs.take (i * 3) := by
  rw [List.append_assoc, List.take_append_of_le_length (by omega), List.take_take, ← ht, List.take_take, Nat.min_eq_left (by omega), Nat.min_eq_left (by omega)]
 have e3 : (cur.toList.take ((i + 1) * 3) ++ xs.drop (i * 3) ++ cur.toList.drop ((i + 1) * 3 + (n * 3 - i * 3))).drop (i * 3 + 3) = xs.drop (i * 3) ++ cur.toList.drop ((i + 1) * 3 + (n * 3 - i * 3)) := by
  rw [List.append_assoc, show i * 3 + 3 = (cur.toList.take ((i + 1) * 3)).length by rw [hc]; omega, List.drop_left]
 rw [e2, e3]
 have e4 : (xs.take (i * 3)).length = i * 3 := by rw [List.length_take]; omega
 rw [show xs.take (i * 3) ++ x ++ (xs.drop (i * 3) ++ cur.toList.drop ((i + 1) * 3 + (n * 3 - i * 3))) = (xs.take (i * 3) ++ x ++ xs.drop (i * 3)) ++ cur.toList.drop ((i + 1) * 3 + (n * 3 - i * 3)) by simp]
 have e5 : (xs.take (i * 3) ++ x ++ xs.drop (i * 3)).length = (n + 1) * 3 := by rw [List.length_append, List.length_append, hd, e4, hx]; omega
 rw [List.take_append_of_le_length (by omega), List.take_of_length_le (by omega)]
theorem inf_list2 {cur : Array Value} {xs : List Value} {n i : Nat} (x : List Value) (hx : x.length = 3) (hsz : (n + 1) * 3 ≤ cur.size) (hl : xs.length = n * 3) (ht : cur.toList.take (i * 3) = xs.take (i * 3)) (hi : i < n) : (wr (wr cur (i * 3) x) ((i + 1) * 3) (xs.drop (i * 3))).toList.take ((n + 1) * 3) = xs.take (i * 3) ++ x ++ xs.drop (i * 3) := by
 have hd : (xs.drop (i * 3)).length = n * 3 - i * 3 := by rw [List.length_drop, hl]
 have e4 : (xs.take (i * 3)).length = i * 3 := by rw [List.length_take]; omega
 have e7 : (xs.take (i * 3) ++ x).length = (i + 1) * 3 := by rw [List.length_append, e4, hx]; omega
 have e5 : (xs.take (i * 3) ++ x ++ cur.toList.drop (i * 3 + x.length)).take ((i + 1) * 3) = xs.take (i * 3) ++ x := by
  rw [List.take_append_of_le_length (by omega), List.take_of_length_le (by omega)]
 rw [wr_toList _ _ _ (by rw [wr_size, hd]; omega), wr_toList x _ _ (by omega), ht, e5]
 have e6 : (xs.take (i * 3) ++ x ++ xs.drop (i * 3)).length = (n + 1) * 3 := by rw [List.length_append, e7, hd]; omega
 rw [List.take_append_of_le_length (by omega), List.take_of_length_le (by omega)]

set_option maxRecDepth 100000 in
set_option maxHeartbeats 4000000 in
/-- at the end -/
theorem infEnd (v : Value) (n : Nat) (xs : List Value) (x : List Value) (hx3 : x.length = 3) (vb : Nat) (w : World) (hown : w.ownsRow 0 66 3 v n xs) (hx1 : ∀ u ∈ x, u.oneCell' = true) (hn : n ≤ 1048576) (hblk : Blk w vb 66 x.toArray) :
    Calls Tryz.prog 82 #[v, .int .i64 n, .slice (some ⟨vb, 0, none⟩) 1 1] w fun e w' => ∃ v', e = .returned v' ∧ w'.ownsRow 0 66 3 v' (n + 1) (xs ++ x) ∧ w.grownBy w' v.ownBlock ∧ (v'.ownBlock = v.ownBlock ∨ v'.ownBlock = some w.heap.size) := by
  obtain ⟨i0, hi0, hz0, hz1, hz2⟩ := info_parts Tryz.infoFact
  have HC := hid (show ∀ j u, x[j]? = some u → w.cell? ((⟨vb, 0, none⟩ : Addr).add j) = some u from fun j u hu => by
    rw [Addr.add_lit, Nat.zero_add, hblk.cell, ← hu]; simp)
  have HX := hid hx1
  have HX3 : Hid (x.length = 1 * 3) := hx3
  have hown0 := hown
  rcases hown.2 with ⟨rfl, rfl⟩ | ⟨g, cap, cur, rfl, hb, hg, hnc, hcm, hsz, htk⟩
  · clear hown hx1 hblk hx3
    go_enter Tryz.func82, Tryz.ntmps82
    go_wp2_with (at_builtin; refine wpList_append_own_at _ rfl (.tmp 23) (.tmp 24) 35 rfl 0 66 i0 (.agg #[.string ⟨#[]⟩, .int .i64 0, .slice none 0 0]) 3 48 Tryz.underlying35 hi0 hz0 hz1 hz2 rfl (by decide) _ _ _ rfl hown0 _ 1 1 x rfl HX3.out HC.out HX.out (by unfold maxLen; omega) (by omega) (Nat.zero_le _) ?_; intro v' w3 hown' hgrow _ hbk)
    go_ret
    exact ⟨_, rfl, hown', hgrow, hbk⟩
  · have HT := hid htk
    have HS := hid hsz
    have HG := hid hg
    unfold maxLen at hcm
    clear hown hx1 hblk htk hsz hg hb hx3
    have hd : decide (n ≤ cap) = true := decide_eq_true hnc
    go_enter Tryz.func82, Tryz.ntmps82
    go_wp2_with (at_builtin; refine wpList_append_own_at _ rfl (.tmp 23) (.tmp 24) 35 rfl 0 66 i0 (.agg #[.string ⟨#[]⟩, .int .i64 0, .slice none 0 0]) 3 48 Tryz.underlying35 hi0 hz0 hz1 hz2 rfl (by decide) _ _ _ rfl hown0 _ 1 1 x rfl HX3.out HC.out HX.out (by unfold maxLen; omega) (by omega) (Nat.zero_le _) ?_; intro v' w3 hown' hgrow _ hbk)
    all_goals (go_ret; exact ⟨_, rfl, hown', hgrow, hbk⟩)

set_option maxHeartbeats 4000000 in
set_option maxRecDepth 100000 in
/-- ahead of the end, where there is room -/
theorem infRoom (g n c i vb : Nat) (cs : List Value) (x : List Value) (hx3 : x.length = 3) (w : World) (hi : i < n) (hroom : n + 1 ≤ c) (hc63 : c ≤ 9223372036854775807) (hn : n ≤ 1048576) (hvb : vb ≠ g)
    (cur : Array Value) (hcur : Blk w g 66 cur) (hsz : cur.size = c * 3) (htk : cur.toList.take (n * 3) = cs) (h1c : ∀ v ∈ cs, v.oneCell' = true) (hx1 : ∀ u ∈ x, u.oneCell' = true) (hblk : Blk w vb 66 x.toArray) :
    Calls Tryz.prog 82 #[.slice (some ⟨g, 0, none⟩) n c, .int .i64 i, .slice (some ⟨vb, 0, none⟩) 1 1] w fun e w' =>
      e = .returned (.slice (some ⟨g, 0, none⟩) (n + 1) c) ∧ w' = (w.drew.setCells g ((i + 1) * 3) (cs.drop (i * 3))).setCells g (i * 3) x := by
  have hcl : cs.length = n * 3 := by rw [← htk, List.length_take]; simp; omega
  have hcs : ∀ j v, cs[j]? = some v → w.cell? ⟨g, j, none⟩ = some v := fun j v hj => by
    rw [hcur.cell j, ← hj, ← htk, List.getElem?_take, if_pos (by have := (List.getElem?_eq_some_iff.1 hj).1; omega)]; simp
  have hsp : ∀ j, j < (n + 1) * 3 → (w.cell? ⟨g, j, none⟩).isSome = true := fun j hj => by rw [hcur.cell j, Array.getElem?_eq_getElem (by omega)]; rfl
  have hfz : ∀ j, w.frozen? ⟨g, j, none⟩ = false := fun j => hcur.frozen j
  have hu := Tryz.underlying35
  have hsize : (Tryz.prog.info? 66).map (·.size) = some 3 := by
    obtain ⟨i0, hi0, h0, h1, h2⟩ := info_parts Tryz.infoFact
    rw [hi0]; simp [h1]
  have hz1 : ∀ w : World, (Go.sizeOf 66).run Tryz.prog w = .ok 3 w := fun w => by
    obtain ⟨i0, hi0, h0, h1, h2⟩ := info_parts Tryz.infoFact
    simp [Go.sizeOf, typeInfo, hi0, h1]
  have hsa : w.shape? vb = some (66, 3) := by have := hblk; unfold Blk at this; simp [World.shape?, this, hx3]
  have hsb : w.shape? g = some (66, c * 3) := by have := hcur; unfold Blk at this; simp [World.shape?, this, hsz]
  have hov : ∀ lb cb o, (callFunc 141 #[.slice (some ⟨vb, 0, none⟩) 1 1, .slice (some ⟨g, o, none⟩) lb cb]).run Tryz.prog w = .ok (.value (.bool false)) w := fun lb cb o => by
    rw [run_callFunc_extern Tryz.func141 (by kernel_rfl) (by kernel_rfl) (by kernel_rfl) (e := Extern.SlicesOverlaps.overlaps #[35, 35] #[4]) (by kernel_rfl),
      Lib.run_overlaps_apart w 35 4 66 hu 3 hz1 ⟨vb, 0, none⟩ ⟨g, o, none⟩ 1 1 lb cb hvb 66 66 3 (c * 3) hsa hsb (by omega) (hblk.frozen 0) (hblk.frozen 3)]
    rfl
  have hdl : (cs.drop (i * 3)).length = (n - i) * 3 := by rw [List.length_drop, hcl]; omega
  have hw1 : IntKind.i64.wrap ((i : Int) + 1) = (i : Int) + 1 := by rw [IntKind.wrap_i64]; omega
  have hb1 : (0 : Int) ≤ (i : Int) + 1 := by omega
  have hin : i ≤ n := by omega
  have htn : ((i : Int) + 1).toNat = i + 1 := by omega
  have hb2 : ¬ (c = i + 1) := by omega
  have hb3 : (i : Int) ≤ (n : Int) + 1 := by omega
  have hb4 : ¬ (c = i) := by omega
  have hz2 : ¬ ((i : Int) = (n : Int)) := by omega
  have hcp1 : ∀ ty dc sc, (Builtin.copy_ #[35, 35] ty #[.slice (some ⟨g, (i + 1) * 3, none⟩) (n - i) dc, .slice (some ⟨g, i * 3, none⟩) (n + 1 - i) sc]).run Tryz.prog w.drew = .ok (goInt ((n - i : Nat) : Int)) (w.drew.setCells g ((i + 1) * 3) (cs.drop (i * 3))) := fun ty dc sc =>
    run_copy_cells_k w.drew _ _ ty 66 3 g ((i + 1) * 3) (n - i) dc ⟨g, i * 3, none⟩ (n + 1 - i) sc (n - i) (cs.drop (i * 3)) hu hsize (by simp only [Nat.min_def]; split <;> omega) hdl
      (fun j v hj => by rw [Addr.add_lit]; exact hcs (i * 3 + j) v (by rwa [List.getElem?_drop] at hj))
      (fun j hj => hsp _ (by omega)) (fun j hj => hfz _) (fun v hv => h1c v (List.mem_of_mem_drop hv))
  obtain ⟨W1, hW1⟩ : ∃ W1, W1 = w.drew.setCells g ((i + 1) * 3) (cs.drop (i * 3)) := ⟨_, rfl⟩
  have hB1 : Blk W1 g 66 (wr cur ((i + 1) * 3) (cs.drop (i * 3))) := by rw [hW1]; exact heap_setCells _ _ _ _ hcur
  have hX1 : Blk W1 vb 66 x.toArray := by rw [hW1]; exact hblk.only (only_setCells (F := (· = g)) (.inl rfl) (cs.drop (i * 3)) ((i + 1) * 3) w.drew (Only.refl (· = g) w).drew) hvb
  have hcp2 : ∀ (W : World), (∀ x, W.cell? x = W1.cell? x) → (∀ x, W.frozen? x = W1.frozen? x) → ∀ ty dc, (Builtin.copy_ #[35, 35] ty #[.slice (some ⟨g, i * 3, none⟩) (n + 1 - i) dc, .slice (some ⟨vb, 0, none⟩) 1 1]).run Tryz.prog W = .ok (goInt 1) (W.setCells g (i * 3) x) := fun W hWc hWf ty dc =>
    run_copy_cells_k W _ _ ty 66 3 g (i * 3) (n + 1 - i) dc ⟨vb, 0, none⟩ 1 1 1 x hu hsize (by simp only [Nat.min_def]; split <;> omega) hx3
      (fun j v hj => by rw [Addr.add_lit, Nat.zero_add, hWc, hX1.cell, ← hj]; simp)
      (fun j hj => by rw [hWc, hB1.cell, Array.getElem?_eq_getElem (by rw [wr_size]; omega)]; rfl) (fun j hj => by rw [hWf]; exact hB1.frozen _) hx1
  rw [← hW1] at hcp1
  clear hcs hsp hfz hsa hsb hcur hblk htk h1c hx1 hB1 hX1 hsz hcl hz1 hsize hx3
  have HCP2 := hid hcp2
  clear hcp2
  have HDL := hid hdl; clear hdl
  have HW1 := hid hW1; clear hW1
  have mixed : Tryz.prog.follows .mixedOrders = true := by kernel_rfl
  go_enter Tryz.func82, Tryz.ntmps82
  go_wp2_with (simp only [hov])
  go_region_law (refine step_copy_isStr rfl _ _ 35 35 rfl _ _ (by simp [Act.eval, Act.put]) (by simp [Act.eval, Act.put]) (hcp1 _ _ _) ?_)
  go_wp2_with (refine wpList_copy_isStr _ rfl (.tmp 80) (.tmp 81) 35 35 rfl _ _ rfl rfl (HCP2.out _ (fun _ => rfl) (fun _ => rfl) _ _) ?_)
  go_ret
  exact ⟨rfl, by rw [HW1.out]⟩

set_option maxHeartbeats 4000000 in
set_option maxRecDepth 100000 in
/-- ahead of the end, where there is no room -/
theorem infGrow (g n c i vb : Nat) (cs : List Value) (x : List Value) (hx3 : x.length = 3) (w : World) (hi : i < n) (hnc : n ≤ c) (hroom : c < n + 1) (hn : n ≤ 1048576)
    (cur : Array Value) (hcur : Blk w g 66 cur) (hsz : cur.size = c * 3) (htk : cur.toList.take (n * 3) = cs) (h1c : ∀ v ∈ cs, v.oneCell' = true) (hx1 : ∀ u ∈ x, u.oneCell' = true) (hblk : Blk w vb 66 x.toArray) :
    Calls Tryz.prog 82 #[.slice (some ⟨g, 0, none⟩) n c, .int .i64 i, .slice (some ⟨vb, 0, none⟩) 1 1] w fun e w' =>
      ∃ v', e = .returned v' ∧ w'.ownsRow 0 66 3 v' (n + 1) (cs.take (i * 3) ++ x ++ cs.drop (i * 3)) ∧ Below w.heap.size w w' ∧ v'.ownBlock = some w.heap.size := by
  have hcl : cs.length = n * 3 := by rw [← htk, List.length_take]; simp; omega
  have hcs : ∀ j v, cs[j]? = some v → w.cell? ⟨g, j, none⟩ = some v := fun j v hj => by
    rw [hcur.cell j, ← hj, ← htk, List.getElem?_take, if_pos (by have := (List.getElem?_eq_some_iff.1 hj).1; omega)]; simp
  have hu := Tryz.underlying35
  obtain ⟨i0, hi0, hz0, hzs, hzb⟩ := info_parts Tryz.infoFact
  have hsize : (Tryz.prog.info? 66).map (·.size) = some 3 := by rw [hi0]; simp [hzs]
  have hdl : (cs.drop (i * 3)).length = (n - i) * 3 := by rw [List.length_drop, hcl]; omega
  have hold : (Builtin.firstCells i0.size i (.slice (some ⟨g, 0, none⟩) i c)).run Tryz.prog w.drew = .ok (cs.take (i * 3)).toArray w.drew := by
    rw [hzs]
    exact run_firstCells_some w.drew 3 i ⟨g, 0, none⟩ i c (cs.take (i * 3)) (by rw [List.length_take]; omega) (fun j v hj => by
      rw [Addr.add_lit, Nat.zero_add]
      rw [List.getElem?_take] at hj
      split at hj
      · exact hcs j v hj
      · cases hj)
  obtain ⟨G, hG⟩ : ∃ G, G = grownCap w (n + 1) c 66 := ⟨_, rfl⟩
  obtain ⟨ROW, hROW⟩ : ∃ ROW : Array Value, ROW = (cs.take (i * 3)).toArray ++ Builtin.zeroCells (Value.cells (.agg #[.string ⟨#[]⟩, .int .i64 0, .slice none 0 0])) (n + 1 - i) ++ Builtin.zeroCells (Value.cells (.agg #[.string ⟨#[]⟩, .int .i64 0, .slice none 0 0])) (G - (n + 1)) := ⟨_, rfl⟩
  have hkk : (n : Int) + 1 - (i : Int) = ((n + 1 - i : Nat) : Int) := by omega
  have hik : i + (n + 1 - i) = n + 1 := by omega
  have hrz : ∀ ty, (Builtin.append_ #[35, 3] ty #[.slice (some ⟨g, 0, none⟩) i c, .int .i64 ((n : Int) + 1 - (i : Int))]).run Tryz.prog w =
      .ok (.slice (some ⟨w.heap.size, 0, none⟩) (n + 1) G) (w.drew.alloc (.cells ROW 66)) := fun ty => by
    have h := Lib.run_append_grow_zeros w 35 3 ty 66 i0 _ .i64 .i64 hu Tryz.underlying3 hi0 hz0 (some ⟨g, 0, none⟩) i c (cs.take (i * 3)) hold (n + 1 - i) (by omega) (by omega) (by omega) (by omega) (by rw [hzb]; omega) (by rw [hzb, hik]; exact growslice_fits hroom (by omega))
    rw [hik] at h
    rw [hkk, hROW, hG]
    exact h
  have hGn : n + 1 ≤ G := by rw [hG]; exact grownCap_ge w _ _ _
  have hG63 : G ≤ 9223372036854775807 := by
    have := grownCap_le_maxLen w (n + 1) c 66 (by unfold maxLen; omega)
    rw [← hG] at this
    unfold maxLen at this
    omega
  have hRs : ROW.size = G * 3 := by
    rw [hROW]
    simp [Builtin.zeroCells, Value.cells, hcl]
    omega
  have hRt : ROW.toList.take (i * 3) = cs.take (i * 3) := by
    rw [hROW, Array.toList_append, Array.toList_append, List.append_assoc, List.take_append_of_le_length (by simp; omega)]
    show List.take (i * 3) (cs.take (i * 3)) = _
    rw [List.take_take, Nat.min_self]
  have hgl := hcur.lt
  have hvl := hblk.lt
  obtain ⟨W1, hW1⟩ : ∃ W1, W1 = w.drew.alloc (.cells ROW 66) := ⟨_, rfl⟩
  have hN1 : Blk W1 w.heap.size 66 ROW := by rw [hW1]; exact Blk.new w.drew _ _
  have hC1 : Blk W1 g 66 cur := by rw [hW1]; exact hcur.drew.alloc _
  have hV1 : Blk W1 vb 66 x.toArray := by rw [hW1]; exact hblk.drew.alloc _
  have hcpA : ∀ (W : World), (∀ x, W.cell? x = W1.cell? x) → (∀ x, W.frozen? x = W1.frozen? x) → ∀ ty dc, (Builtin.copy_ #[35, 35] ty #[.slice (some ⟨w.heap.size, i * 3, none⟩) (n + 1 - i) dc, .slice (some ⟨vb, 0, none⟩) 1 1]).run Tryz.prog W = .ok (goInt 1) (W.setCells w.heap.size (i * 3) x) := fun W hWc hWf ty dc =>
    run_copy_cells_k W _ _ ty 66 3 w.heap.size (i * 3) (n + 1 - i) dc ⟨vb, 0, none⟩ 1 1 1 x hu hsize (by simp only [Nat.min_def]; split <;> omega) hx3
      (fun j v hj => by rw [Addr.add_lit, Nat.zero_add, hWc, hV1.cell, ← hj]; simp)
      (fun j hj => by rw [hWc, hN1.cell, Array.getElem?_eq_getElem (by omega)]; rfl) (fun j hj => by rw [hWf]; exact hN1.frozen _) hx1
  have hN2 : Blk (W1.setCells w.heap.size (i * 3) x) w.heap.size 66 (wr ROW (i * 3) x) := heap_setCells _ _ _ _ hN1
  have hO2 : Only (· = w.heap.size) W1 (W1.setCells w.heap.size (i * 3) x) := only_setCells (F := (· = w.heap.size)) (.inl rfl) _ _ _ (Only.refl _ _)
  have hC2 : Blk (W1.setCells w.heap.size (i * 3) x) g 66 cur := hC1.only hO2 (by omega)
  have hcpB : ∀ (W : World), (∀ y, W.cell? y = (W1.setCells w.heap.size (i * 3) x).cell? y) → (∀ y, W.frozen? y = (W1.setCells w.heap.size (i * 3) x).frozen? y) → ∀ ty dc sc, (Builtin.copy_ #[35, 35] ty #[.slice (some ⟨w.heap.size, (i + 1) * 3, none⟩) (n - i) dc, .slice (some ⟨g, i * 3, none⟩) (n - i) sc]).run Tryz.prog W = .ok (goInt ((n - i : Nat) : Int)) (W.setCells w.heap.size ((i + 1) * 3) (cs.drop (i * 3))) := fun W hWc hWf ty dc sc =>
    run_copy_cells_k W _ _ ty 66 3 w.heap.size ((i + 1) * 3) (n - i) dc ⟨g, i * 3, none⟩ (n - i) sc (n - i) (cs.drop (i * 3)) hu hsize (by simp only [Nat.min_def]; split <;> omega) hdl
      (fun j v hj => by
        rw [Addr.add_lit, hWc, hC2.cell]
        rw [List.getElem?_drop] at hj
        rw [← hj, ← htk, List.getElem?_take, if_pos (by have := (List.getElem?_eq_some_iff.1 hj).1; omega)]; simp)
      (fun j hj => by rw [hWc, hN2.cell, Array.getElem?_eq_getElem (by rw [wr_size]; omega)]; rfl)
      (fun j hj => by rw [hWf]; exact hN2.frozen _) (fun v hv => h1c v (List.mem_of_mem_drop hv))
  have hGi : ¬ (G = i) := by omega
  have hGim : ¬ (G = i + 1) := by omega
  have hci : ¬ (c = i) := by omega
  have hw1 : IntKind.i64.wrap ((i : Int) + 1) = (i : Int) + 1 := by rw [IntKind.wrap_i64]; omega
  have hb1' : (0 : Int) ≤ (i : Int) + 1 := by omega
  have hin : i ≤ n := by omega
  have htn : ((i : Int) + 1).toNat = i + 1 := by omega
  have hb3 : (i : Int) ≤ (n : Int) := by omega
  have hz2 : ¬ ((i : Int) = (n : Int)) := by omega
  have hz3 : (c : Int) < (n : Int) + 1 := by omega
  have hfin : (∃ v', (Value.slice (some ⟨w.heap.size, 0, none⟩) (n + 1) G) = v' ∧ ((((w.alloc (.cells ROW 66)).drew.setCells w.heap.size (i * 3) x).drew).setCells w.heap.size ((i + 1) * 3) (cs.drop (i * 3))).ownsRow 0 66 3 v' (n + 1) (cs.take (i * 3) ++ x ++ cs.drop (i * 3)) ∧ Below w.heap.size w ((((w.alloc (.cells ROW 66)).drew.setCells w.heap.size (i * 3) x).drew).setCells w.heap.size ((i + 1) * 3) (cs.drop (i * 3))) ∧ v'.ownBlock = some w.heap.size) := by
    have a1 : Blk ((w.alloc (.cells ROW 66)).drew) w.heap.size 66 ROW := Blk.new w _ _
    have a2 : Blk (((w.alloc (.cells ROW 66)).drew.setCells w.heap.size (i * 3) x).drew) w.heap.size 66 (wr ROW (i * 3) x) := heap_setCells _ _ _ _ a1
    have a3 : Blk ((((w.alloc (.cells ROW 66)).drew.setCells w.heap.size (i * 3) x).drew).setCells w.heap.size ((i + 1) * 3) (cs.drop (i * 3))) w.heap.size 66 (wr (wr ROW (i * 3) x) ((i + 1) * 3) (cs.drop (i * 3))) := heap_setCells _ _ _ _ a2
    have o1 : Only NoF w ((w.alloc (.cells ROW 66)).drew) := ((Only.refl NoF w).alloc _).drew
    have o2 : Only NoF w ((((w.alloc (.cells ROW 66)).drew.setCells w.heap.size (i * 3) x).drew).setCells w.heap.size ((i + 1) * 3) (cs.drop (i * 3))) :=
      only_setCells (.inr (Nat.le_refl _)) _ _ _ (only_setCells (.inr (Nat.le_refl _)) _ _ _ o1).drew
    refine ⟨_, rfl, ⟨by simp only [List.length_append, List.length_take, hdl, hx3, hcl]; omega, .inr ⟨w.heap.size, G, _, rfl, Nat.zero_le _, a3, hGn, by unfold maxLen; omega, by rw [wr_size, wr_size, hRs], ?_⟩⟩, o2.below0, rfl⟩
    exact inf_list2 x hx3 (by omega) hcl hRt hi
  have HFIN := hid hfin
  have HA := hid hcpA; have HB := hid hcpB; have HE := hid hW1
  have hE1 : Hid (∀ x, ((w.alloc (.cells ROW 66)).drew).cell? x = W1.cell? x) := fun x => by rw [hW1]; rfl
  have hE2 : Hid (∀ x, ((w.alloc (.cells ROW 66)).drew).frozen? x = W1.frozen? x) := fun x => by rw [hW1]; rfl
  have hF1 : Hid (∀ y, (((w.alloc (.cells ROW 66)).drew.setCells w.heap.size (i * 3) x).drew).cell? y = (W1.setCells w.heap.size (i * 3) x).cell? y) := fun y => by rw [hW1]; rfl
  have hF2 : Hid (∀ y, (((w.alloc (.cells ROW 66)).drew.setCells w.heap.size (i * 3) x).drew).frozen? y = (W1.setCells w.heap.size (i * 3) x).frozen? y) := fun y => by rw [hW1]; rfl
  have HZ := hid hrz
  clear hfin hcpA hcpB hrz hW1 hN1 hC1 hV1 hN2 hO2 hC2 hRt hRs hROW hG hold hcs hcur htk h1c hx1 hblk hsz hcl hkk hik hi0 hz0 hzs hzb hsize hdl hx3
  have mixed : Tryz.prog.follows .mixedOrders = true := by kernel_rfl
  go_enter Tryz.func82, Tryz.ntmps82
  go_wp2_with (first
    | (at_builtin; refine Lib.wpList_append_run _ rfl _ _ _ _ rfl _ _ rfl rfl _ _ (HZ.out _) ?_)
    | (refine wpList_copy_isStr _ rfl (.tmp 43) (.tmp 44) 35 35 rfl _ _ rfl rfl (HA.out _ hE1.out hE2.out _ _) ?_))
  go_region_law (refine step_copy_isStr rfl _ _ 35 35 rfl (.slice (some ⟨w.heap.size, (i + 1) * 3, none⟩) (n - i) (G - (i + 1))) (.slice (some ⟨g, i * 3, none⟩) (n - i) (c - i)) (by simp [Act.eval, Act.put]) (by simp [Act.eval, Act.put]) (HB.out _ hF1.out hF2.out _ _ _) ?_)
  go_wp2
  go_ret
  obtain ⟨v', h1, h2⟩ := HFIN.out
  exact ⟨v', congrArg Ending.returned h1, h2⟩

/-- one thing more at a place -/
theorem infAny (v : Value) (n i : Nat) (xs : List Value) (x : List Value) (hx3 : x.length = 3) (vb : Nat) (w : World) (hown : w.ownsRow 0 66 3 v n xs) (h1 : ∀ u ∈ xs, u.oneCell' = true) (hx1 : ∀ u ∈ x, u.oneCell' = true) (hi : i ≤ n) (hn : n ≤ 1048576) (hblk : Blk w vb 66 x.toArray) (hne : v.ownBlock ≠ some vb) :
  Calls Tryz.prog 82 #[v, .int .i64 i, .slice (some ⟨vb, 0, none⟩) 1 1] w fun e w' => ∃ v', e = .returned v' ∧ w'.ownsRow 0 66 3 v' (n + 1) (xs.take (i * 3) ++ x ++ xs.drop (i * 3)) ∧ w.grownBy w' v.ownBlock ∧ (v'.ownBlock = v.ownBlock ∨ v'.ownBlock = some w.heap.size) := by
 have hxl : xs.length = n * 3 := by have := hown.1; omega
 by_cases hin : i = n
 ·subst hin
  rw [List.take_of_length_le (by omega), List.drop_eq_nil_of_le (by omega), List.append_nil]
  exact infEnd v i xs x hx3 vb w hown hx1 hn hblk
 ·rcases hown.2 with ⟨rfl, rfl⟩ | ⟨g, cap, cur, rfl, hb, hg, hnc, hcm, hsz, htk⟩
  ·omega
  ·unfold maxLen at hcm
   by_cases hr : n + 1 ≤ cap
   ·refine (infRoom g n cap i vb xs x hx3 w (by omega) hr hcm hn (fun e => hne (by rw [e]; rfl)) cur hg hsz htk h1 hx1 hblk).mono ?_
    rintro e w' ⟨rfl, rfl⟩
    refine ⟨_, rfl, ⟨by simp only [List.length_append, List.length_take, List.length_drop, hx3, hxl]; omega, .inr ⟨g, cap, _, rfl, Nat.zero_le _, heap_setCells _ _ _ _ (heap_setCells _ _ w.drew _ hg), hr, by unfold maxLen; omega, by rw [wr_size, wr_size, hsz], ?_⟩⟩, ?_, .inl rfl⟩
    ·exact inf_list x hx3 (by omega) htk (by omega)
    ·exact grownBy_of_only (only_setCells (F := fun k => some g = some k) (.inl rfl) _ _ _ (only_setCells (F := fun k => some g = some k) (.inl rfl) _ _ _ (Only.refl _ w).drew))
   ·refine (infGrow g n cap i vb xs x hx3 w (by omega) hnc (by omega) hn cur hg hsz htk h1 hx1 hblk).mono ?_
    rintro e w' ⟨v', rfl, h2, hb2, h3⟩
    exact ⟨v', rfl, h2, ⟨hb2.os, hb2.tape, hb2.output, hb2.size, fun k hk _ => hb2.block k hk⟩, .inr h3⟩
end Go.Proofs.YtmpjdoiogbbcoaaGreatDoor
/- The shelf's map of facts: find, Get, Put of a fact that is not there. -/
namespace Go.Proofs.YtmpjdoiogbbcoaaGreatDoor
open Go.RowKit Book Pap
set_option linter.unusedVariables false
set_option linter.unusedSimpArgs false

theorem MapIsF.only {F : Nat → Prop} {w w' : World} {m : Nat} {ks vs : Value} {l : List ByteArray} {fs : List Fc} (h : MapIsF w m ks vs l fs) (ho : Only F w w') (hf : ∀ k, MapF m ks vs k → ¬ F k) : MapIsF w' m ks vs l fs := by
 obtain ⟨h1, h2, h3, h4, h5, h6⟩ := h
 exact ⟨h1.only ho (hf m (.inl rfl)), own_only h2 ho (fun k hk => hf k (.inr (.inl hk))), own_only h3 ho (fun k hk => hf k (.inr (.inr hk))), h4, h5, h6⟩
theorem MapIsF.lt {w : World} {m : Nat} {ks vs : Value} {l : List ByteArray} {fs : List Fc} (h : MapIsF w m ks vs l fs) : ∀ k, MapF m ks vs k → k < w.heap.size := by
 obtain ⟨h1, h2, h3, h4, h5, h6⟩ := h
 rintro k (rfl | h | h)
 ·exact h1.lt
 ·exact own_lt h2 h
 ·exact own_lt h3 h
theorem MapIsF.later {w w' : World} {m : Nat} {ks vs : Value} {l : List ByteArray} {fs : List Fc} (h : MapIsF w m ks vs l fs) (hb : Below w.heap.size w w') : MapIsF w' m ks vs l fs :=
 h.only (Only.of_below hb NoF) (fun _ _ e => e)
set_option maxHeartbeats 1000000 in
theorem fcfindF (m : Nat) (ks vs : Value) (l : List ByteArray) (fs : List Fc) (x : ByteArray) (w : World) (h : MapIsF w m ks vs l fs) :
  Calls Tryz.prog 80 #[.pointer (some ⟨m, 0, none⟩), .string x] w fun e w' => e = .returned (.tuple #[.int .i64 (posOf l x : Nat), .bool (hasN l x)]) ∧ w = w' := by
 obtain ⟨h1, h2, h3, h4, h5, h6⟩ := h
 obtain ⟨ka, kc, rfl, hS⟩ := own_strs h2 (by omega)
 have c0 := h1.cell 0
 simp at c0
 have CB := hid (bs_names ka l.length kc l x w hS (by omega) h5)
 clear h1 h2 h3 h4 h5 hS
 go_enter Tryz.func80, Tryz.ntmps80
 go_wp2_with (go_at_call 138; refine CB.out.mono ?_; rintro e w' ⟨rfl, rfl⟩)
 go_ret2
 exact ⟨rfl, rfl⟩
theorem getFc_results (tmps : Array Value) (g : Nat) (bo : Bool) (f : Fc) (w : World) (h2 : tmps.getD 4 undef = .pointer (some ⟨g, 0, none⟩)) (h3 : tmps.getD 5 undef = .bool bo) (H : Blk w g 66 #[.string f.id, .int .i64 f.h, .slice f.pa f.pn f.pc]) : (results Tryz.f37 tmps).run Tryz.prog w = .ok (.tuple #[.agg #[.string f.id, .int .i64 f.h, .slice f.pa f.pn f.pc], .bool bo]) w := by
 have c0 : w.cell? ⟨g, 0, none⟩ = some (.string f.id) := Blk.cell H 0
 have c1 : w.cell? ⟨g, 1, none⟩ = some (.int .i64 f.h) := Blk.cell H 1
 have c2 : w.cell? ⟨g, 2, none⟩ = some (.slice f.pa f.pn f.pc) := Blk.cell H 2
 have h2' : tmps[4]?.getD undef = .pointer (some ⟨g, 0, none⟩) := by simpa using h2
 have h3' : tmps[5]?.getD undef = .bool bo := by simpa using h3
 simp [results, Tryz.results37, go_sem, h2', h3', c0, c1, c2]
set_option maxRecDepth 100000 in
set_option maxHeartbeats 8000000 in
theorem getFc (b : Nat) (ks vs : Value) (l : List ByteArray) (fs : List Fc) (s : ByteArray) (w : World) (h : MapIsF w b ks vs l fs) :
  Calls Tryz.prog 37 #[.pointer (some ⟨b, 0, none⟩), .string s] w fun e w' => ∃ f : Fc, e = .returned (.tuple #[.agg #[.string f.id, .int .i64 f.h, .slice f.pa f.pn f.pc], .bool (hasN l s)]) ∧ Below w.heap.size w w' := by
 have HX : Hid (Blk (w.alloc (.cells #[.string ⟨#[]⟩, .int .i64 0, .slice none 0 0] 66)) w.heap.size 66 #[.string ⟨#[]⟩, .int .i64 0, .slice none 0 0]) := Blk.new w _ _
 have HB : Hid (Below w.heap.size w (w.alloc (.cells #[.string ⟨#[]⟩, .int .i64 0, .slice none 0 0] 66))) := (Below.refl _ _).alloc (Nat.le_refl _) _
 have HM : Hid (MapIsF (w.alloc (.cells #[.string ⟨#[]⟩, .int .i64 0, .slice none 0 0] 66)) b ks vs l fs) := h.later HB.out
 have hbl := h.1.lt
 have hm := posOf_mem h.2.2.2.2.1 s
 have hfl := h.2.2.2.1
 clear h
 have HF := hid (fcfindF b ks vs l fs s _ HM.out)
 obtain ⟨P, hP⟩ : ∃ P, posOf l s = P := ⟨_, rfl⟩
 rw [hP] at HF hm
 have hiff : hasN l s = true → P < l.length := fun e => (hm.2 (hasN_iff.1 e)).1
 obtain ⟨va, vc, hvs, hvn⟩ := own_slice HM.out.2.2.1
 subst hvs
 cases hh : hasN l s
 ·rw [hh] at HF
  clear hm hh hiff hP
  go_enter Tryz.func37, Tryz.ntmps37
  go_upto_region 1 with fail
  generalize (w.alloc (.cells #[.string ⟨#[]⟩, .int .i64 0, .slice none 0 0] 66)) = w1 at HX HB HF HM ⊢
  generalize hg : w.heap.size = g at HX HB hbl ⊢
  have k0 : w1.cell? ⟨g, 0, none⟩ = some (.string ⟨#[]⟩) := Blk.cell HX.out 0
  have k1 : w1.cell? ⟨g, 1, none⟩ = some (.int .i64 0) := Blk.cell HX.out 1
  have k2 : w1.cell? ⟨g, 2, none⟩ = some (.slice none 0 0) := Blk.cell HX.out 2
  have f0 := Blk.frozen HX.out 0
  have f1 := Blk.frozen HX.out 1
  have f2 := Blk.frozen HX.out 2
  go_wp2_with (go_at_call 80; refine HF.out.mono ?_; rintro e w' ⟨rfl, rfl⟩)
  have HX3 : Hid (Blk (((w1.setCell ⟨g, 0, none⟩ (.string ⟨#[]⟩)).setCell ⟨g, 1, none⟩ (.int .i64 0)).setCell ⟨g, 2, none⟩ (.slice none 0 0)) g 66 #[.string ⟨#[]⟩, .int .i64 0, .slice none 0 0]) := by
   have := Blk.set (Blk.set (Blk.set HX.out 0 (.string ⟨#[]⟩)) 1 (.int .i64 0)) 2 (.slice none 0 0)
   show Blk _ _ _ _
   simpa using this
  have HB3 : Below g w (((w1.setCell ⟨g, 0, none⟩ (.string ⟨#[]⟩)).setCell ⟨g, 1, none⟩ (.int .i64 0)).setCell ⟨g, 2, none⟩ (.slice none 0 0)) := by
   exact ((HB.out.setCell (p := ⟨g, 0, none⟩) (Nat.le_refl _) _).setCell (p := ⟨g, 1, none⟩) (Nat.le_refl _) _).setCell (p := ⟨g, 2, none⟩) (Nat.le_refl _) _
  refine bodyPost_ret (v := .tuple #[.agg #[.string ⟨#[]⟩, .int .i64 0, .slice none 0 0], .bool false]) ?hr rfl ⟨noFc, rfl, by rw [hg]; exact HB3⟩
  case hr => exact getFc_results _ g false noFc _ rfl rfl HX3.out
 ·rw [hh] at HF
  have hPl := hiff hh
  clear hm hh hiff hP
  have hPf : P < fs.length := by omega
  have HV := hid HM.out.2.2.1
  obtain ⟨f, hf⟩ : ∃ f, fs.getD P noFc = f := ⟨_, rfl⟩
  have hVF := HV.out
  obtain ⟨g1, d1, e1, hg1, hd1⟩ := HV.out.form (by omega)
  injection e1 with e11 _ e12
  subst e11 e12
  have q0 := hVF.cellAt (P * 3 + 0) (by omega)
  have q1 := hVF.cellAt (P * 3 + 1) (by omega)
  have q2 := hVF.cellAt (P * 3 + 2) (by omega)
  rw [fvals_get fs P 0 hPf (by omega), hf] at q0
  rw [fvals_get fs P 1 hPf (by omega), hf] at q1
  rw [fvals_get fs P 2 hPf (by omega), hf] at q2
  have HQ : Hid ((w.alloc (.cells #[.string ⟨#[]⟩, .int .i64 0, .slice none 0 0] 66)).cell? ⟨g1, P * 3, none⟩ = some (.string f.id) ∧ (w.alloc (.cells #[.string ⟨#[]⟩, .int .i64 0, .slice none 0 0] 66)).cell? ⟨g1, P * 3 + 1, none⟩ = some (.int .i64 f.h) ∧ (w.alloc (.cells #[.string ⟨#[]⟩, .int .i64 0, .slice none 0 0] 66)).cell? ⟨g1, P * 3 + 2, none⟩ = some (.slice f.pa f.pn f.pc)) := ⟨q0, q1, q2⟩
  have HK := hid (HM.out.1.cell 1)
  clear q0 q1 q2 hf hVF HV
  go_enter Tryz.func37, Tryz.ntmps37
  go_upto_region 1 with fail
  generalize (w.alloc (.cells #[.string ⟨#[]⟩, .int .i64 0, .slice none 0 0] 66)) = w1 at HX HB HF HM HQ HK ⊢
  generalize hg : w.heap.size = g at HX HB hbl ⊢
  have k0 : w1.cell? ⟨g, 0, none⟩ = some (.string ⟨#[]⟩) := Blk.cell HX.out 0
  have k1 : w1.cell? ⟨g, 1, none⟩ = some (.int .i64 0) := Blk.cell HX.out 1
  have k2 : w1.cell? ⟨g, 2, none⟩ = some (.slice none 0 0) := Blk.cell HX.out 2
  have f0 := Blk.frozen HX.out 0
  have f1 := Blk.frozen HX.out 1
  have f2 := Blk.frozen HX.out 2
  go_upto_region 3 with (go_at_call 80; refine HF.out.mono ?_; rintro e w' ⟨rfl, rfl⟩)
  obtain ⟨q0, q1, q2⟩ := HQ.out
  have kb : w1.cell? ⟨b, 1, none⟩ = some (.slice (some ⟨g1, 0, none⟩) fs.length vc) := by have := HK.out; simpa using this
  obtain ⟨fi, fh, fa, fn, fc⟩ := f
  simp only at q0 q1 q2
  have hPc : (P : Int) < (fs.length : Int) := by omega
  have hP0 : (0 : Int) ≤ (P : Int) := by omega
  go_upto_region 4 with fail
  have HX3 : Hid (Blk (((w1.setCell ⟨g, 0, none⟩ (.string fi)).setCell ⟨g, 1, none⟩ (.int .i64 fh)).setCell ⟨g, 2, none⟩ (.slice fa fn fc)) g 66 #[.string fi, .int .i64 fh, .slice fa fn fc]) := by
   have := Blk.set (Blk.set (Blk.set HX.out 0 (.string fi)) 1 (.int .i64 fh)) 2 (.slice fa fn fc)
   show Blk _ _ _ _
   simpa using this
  have HB3 : Hid (Below g w (((w1.setCell ⟨g, 0, none⟩ (.string fi)).setCell ⟨g, 1, none⟩ (.int .i64 fh)).setCell ⟨g, 2, none⟩ (.slice fa fn fc))) := by
   exact ((HB.out.setCell (p := ⟨g, 0, none⟩) (Nat.le_refl _) _).setCell (p := ⟨g, 1, none⟩) (Nat.le_refl _) _).setCell (p := ⟨g, 2, none⟩) (Nat.le_refl _) _
  clear q0 q1 q2 kb f0 f1 f2 HQ HK HM HX HB k0 k1 k2
  generalize (((w1.setCell ⟨g, 0, none⟩ (.string fi)).setCell ⟨g, 1, none⟩ (.int .i64 fh)).setCell ⟨g, 2, none⟩ (.slice fa fn fc)) = w3 at HX3 HB3 ⊢
  have k0 : w3.cell? ⟨g, 0, none⟩ = some (.string fi) := Blk.cell HX3.out 0
  have k1 : w3.cell? ⟨g, 1, none⟩ = some (.int .i64 fh) := Blk.cell HX3.out 1
  have k2 : w3.cell? ⟨g, 2, none⟩ = some (.slice fa fn fc) := Blk.cell HX3.out 2
  have f0 := Blk.frozen HX3.out 0
  have f1 := Blk.frozen HX3.out 1
  have f2 := Blk.frozen HX3.out 2
  go_wp2_with fail
  have HX5 : Hid (Blk (((w3.setCell ⟨g, 0, none⟩ (.string fi)).setCell ⟨g, 1, none⟩ (.int .i64 fh)).setCell ⟨g, 2, none⟩ (.slice fa fn fc)) g 66 #[.string fi, .int .i64 fh, .slice fa fn fc]) := by
   have := Blk.set (Blk.set (Blk.set HX3.out 0 (.string fi)) 1 (.int .i64 fh)) 2 (.slice fa fn fc)
   show Blk _ _ _ _
   simpa using this
  have HB5 : Below g w (((w3.setCell ⟨g, 0, none⟩ (.string fi)).setCell ⟨g, 1, none⟩ (.int .i64 fh)).setCell ⟨g, 2, none⟩ (.slice fa fn fc)) := by
   exact ((HB3.out.setCell (p := ⟨g, 0, none⟩) (Nat.le_refl _) _).setCell (p := ⟨g, 1, none⟩) (Nat.le_refl _) _).setCell (p := ⟨g, 2, none⟩) (Nat.le_refl _) _
  refine bodyPost_ret (v := .tuple #[.agg #[.string fi, .int .i64 fh, .slice fa fn fc], .bool true]) ?hr2 rfl ⟨⟨fi, fh, fa, fn, fc⟩, rfl, by rw [hg]; exact HB5⟩
  case hr2 => exact getFc_results _ g true ⟨fi, fh, fa, fn, fc⟩ _ rfl rfl HX5.out
end Go.Proofs.YtmpjdoiogbbcoaaGreatDoor
/- The shelf's map of facts: Put of a fact that is not there. -/
namespace Go.Proofs.YtmpjdoiogbbcoaaGreatDoor
open Go.RowKit Book Pap
set_option linter.unusedVariables false
set_option linter.unusedSimpArgs false

theorem fvals_take (l : List Fc) (k : Nat) : (fvals l).take (k * 3) = fvals (l.take k) := by
 induction l generalizing k with
 | nil => simp [fvals]
 | cons f r ih =>
  cases k with
  | zero => simp [fvals]
  | succ k =>
   show (fcs f ++ fvals r).take ((k + 1) * 3) = fcs f ++ fvals (r.take k)
   have e : (k + 1) * 3 = (fcs f).length + k * 3 := by show _ = 3 + _; omega
   rw [e, List.take_append, ← ih, List.take_of_length_le (by omega)]
   congr 2; omega
theorem fvals_drop (l : List Fc) (k : Nat) : (fvals l).drop (k * 3) = fvals (l.drop k) := by
 induction l generalizing k with
 | nil => simp [fvals]
 | cons f r ih =>
  cases k with
  | zero => simp [fvals]
  | succ k =>
   show (fcs f ++ fvals r).drop ((k + 1) * 3) = fvals (r.drop k)
   have e : (k + 1) * 3 = (fcs f).length + k * 3 := by show _ = 3 + _; omega
   rw [e, ← ih, List.drop_append, List.drop_of_length_le (by omega), List.nil_append]
   congr 1; omega
/-- what a map's facts are behind Put of a new one -/
def putVF (l : List ByteArray) (fs : List Fc) (x : ByteArray) (f : Fc) : List Fc := fs.take (posOf l x) ++ f :: fs.drop (posOf l x)
theorem fvals_put (fs : List Fc) (f : Fc) (k : Nat) : (fvals fs).take (k * 3) ++ fcs f ++ (fvals fs).drop (k * 3) = fvals (fs.take k ++ f :: fs.drop k) := by
 rw [fvals_take, fvals_drop, fvals_append]
 show _ = fvals (fs.take k) ++ (fcs f ++ fvals (fs.drop k))
 rw [List.append_assoc]
/-- what Put hands back -/
def PutFOut (w : World) (b : Nat) (ks vs : Value) (l : List ByteArray) (fs : List Fc) (s : ByteArray) (f : Fc) (w' : World) : Prop :=
 ∃ ks' vs', MapIsF w' b ks' vs' (putN l s) (putVF l fs s f) ∧ Only (MapF b ks vs) w w' ∧ ∀ k, MapF b ks' vs' k → MapF b ks vs k ∨ w.heap.size ≤ k
set_option maxRecDepth 100000 in
set_option maxHeartbeats 8000000 in
theorem putF_no (b : Nat) (ks vs : Value) (l : List ByteArray) (fs : List Fc) (s s2 : ByteArray) (h : Int) (ps : Option Addr) (pn pc : Nat) (w : World) (hm : MapIsF w b ks vs l fs) (hh : hasN l s = false) (hl : l.length < 1000000) :
  Calls Tryz.prog 40 #[.pointer (some ⟨b, 0, none⟩), .string s, .agg #[.string s2, .int .i64 h, .slice ps pn pc]] w fun e w' =>
   e = .returned (.bool true) ∧ PutFOut w b ks vs l fs s ⟨s2, h, ps, pn, pc⟩ w' := by
 obtain ⟨f, hf⟩ : ∃ f : Fc, f = ⟨s2, h, ps, pn, pc⟩ := ⟨_, rfl⟩
 have HF0 : Hid (fcs f = [.string s2, .int .i64 h, .slice ps pn pc]) := by subst hf; rfl
 rw [← hf]
 clear hf
 have hlt := hm.lt
 have hris := putN_rising hm.2.2.2.2.1 s
 have hple := posOf_le l s
 have hfl := hm.2.2.2.1
 have eN : putN l s = l.take (posOf l s) ++ s :: l.drop (posOf l s) := by unfold putN; rw [if_neg (by simp [hh])]
 have eV : putVF l fs s f = fs.take (posOf l s) ++ f :: fs.drop (posOf l s) := rfl
 have HX : Hid (Blk (w.alloc (.cells #[.string s2, .int .i64 h, .slice ps pn pc] 66)) w.heap.size 66 #[.string s2, .int .i64 h, .slice ps pn pc]) := Blk.new w _ _
 have HO : Hid (Only (MapF b ks vs) w (w.alloc (.cells #[.string s2, .int .i64 h, .slice ps pn pc] 66))) := (Only.refl _ _).alloc _
 have HM : Hid (MapIsF (w.alloc (.cells #[.string s2, .int .i64 h, .slice ps pn pc] 66)) b ks vs l fs) := hm.later ((Below.refl _ _).alloc (Nat.le_refl _) _)
 have hs1 : (w.alloc (.cells #[.string s2, .int .i64 h, .slice ps pn pc] 66)).heap.size = w.heap.size + 1 := World.size_alloc _ _
 have HF := hid (fcfindF b ks vs l fs s _ HM.out)
 rw [hh] at HF
 obtain ⟨P, hP⟩ : ∃ P, posOf l s = P := ⟨_, rfl⟩
 rw [hP] at HF hple eN eV
 have HEN := hid eN; have HEV := hid eV; have HR := hid hris; have HLT := hid hlt; have HFL := hid hfl
 have hPf : P ≤ fs.length := by omega
 have hfs6 : fs.length < 1000000 := by omega
 obtain ⟨ka, kc, hks, hkc⟩ := own_slice HM.out.2.1
 obtain ⟨va, vc, hvs, hvc⟩ := own_slice HM.out.2.2.1
 clear hm hh hP eN eV hris hlt hfl
 subst hks hvs
 obtain ⟨M, hM⟩ : ∃ M : Nat → Prop, M = MapF b (.slice ka l.length kc) (.slice va fs.length vc) := ⟨_, rfl⟩
 have HMM := hid hM
 unfold PutFOut
 rw [← hM] at HO HLT ⊢
 clear hM
 go_enter Tryz.func40, Tryz.ntmps40
 go_upto_region 1 with fail
 generalize (w.alloc (.cells #[.string s2, .int .i64 h, .slice ps pn pc] 66)) = w1 at HX HO HM hs1 HF ⊢
 generalize hg : w.heap.size = g at HX hs1 HLT ⊢
 have HS1 := hid hs1
 have hs1' : g < w1.heap.size := by omega
 clear hs1
 have HM2 : Hid (MapIsF (w1.alloc (.cells #[.string s] 9)) b (.slice ka l.length kc) (.slice va fs.length vc) l fs) := HM.out.later ((Below.refl _ _).alloc (Nat.le_refl _) _)
 have HX2 : Hid (Blk (w1.alloc (.cells #[.string s] 9)) g 66 #[.string s2, .int .i64 h, .slice ps pn pc]) := Blk.alloc HX.out _
 have HO2 : Hid (Only M w (w1.alloc (.cells #[.string s] 9))) := HO.out.alloc _
 have HI := hid (insStr (.slice ka l.length kc) l.length P (svals l) (.string s) w1.heap.size (w1.alloc (.cells #[.string s] 9)) HM2.out.2.1 (svals_one l) rfl hple (by omega) (Blk.new _ _ _) (fun e => by have := HLT.out w1.heap.size (by rw [HMM.out]; exact .inr (.inl e)); omega))
 have k0 : w1.cell? ⟨b, 0, none⟩ = some (.slice ka l.length kc) := Blk.cell HM.out.1 0
 go_upto_region 3 with (first
  | (go_at_call 80; refine HF.out.mono ?_; rintro e w' ⟨rfl, rfl⟩)
  | (go_at_call 81; refine HI.out.mono ?_; rintro e w3 ⟨kv, rfl, hkv, hg3, hb3⟩; obtain ⟨ka', kc', hkk, hkc'⟩ := own_slice' hkv; subst hkk; have HKV := hid hkv; have HG3 := hid hg3; have HB3 := hid hb3; have HM3 : Hid (Blk w3 b 160 #[.slice ka l.length kc, .slice va fs.length vc]) := HM2.out.1.grown HG3.out (own_blk_ne HM2.out.2.1 HM2.out.1 (by decide)).symm; have q0 : w3.cell? ⟨b, 0, none⟩ = some (.slice ka l.length kc) := Blk.cell HM3.out 0; have f0 := Blk.frozen HM3.out 0; clear hkv hg3 hb3))
 have HS3 : Hid (g + 2 ≤ w3.heap.size) := by
  have h1 := HG3.out.size
  rw [World.size_alloc] at h1
  have := HS1.out
  show _ ≤ _; omega
 have hbM : M b := by rw [HMM.out]; exact .inl rfl
 have hbl : b < g := HLT.out b hbM
 have HO3 : Hid (Only M w (w3.setCell ⟨b, 0, none⟩ (.slice ka' (l.length + 1) kc'))) := (HO2.out.grown HG3.out (fun k hk => .inl (by rw [HMM.out]; exact .inr (.inl hk)))).setCell (p := ⟨b, 0, none⟩) (.inl hbM) _
 have HM4 : Hid (Blk (w3.setCell ⟨b, 0, none⟩ (.slice ka' (l.length + 1) kc')) b 160 #[.slice ka' (l.length + 1) kc', .slice va fs.length vc]) := by
  have := Blk.set HM3.out 0 (.slice ka' (l.length + 1) kc')
  show Blk _ _ _ _
  simpa using this
 have hgK : ∀ k, (Value.slice ka' (l.length + 1) kc').ownBlock = some k → M k ∨ g + 1 < k := fun k hk => by
  rcases HB3.out with e | e
  ·rw [e] at hk; exact .inl (by rw [HMM.out]; exact .inr (.inl hk))
  ·rw [e] at hk; injection hk with hk; rw [World.size_alloc] at hk; have := HS1.out; exact .inr (by omega)
 have HGK := hid hgK
 have HX4 : Hid (Blk (w3.setCell ⟨b, 0, none⟩ (.slice ka' (l.length + 1) kc')) g 66 #[.string s2, .int .i64 h, .slice ps pn pc]) :=
  Blk.far (HX2.out.grown HG3.out (fun e => by have := HLT.out g (by rw [HMM.out]; exact .inr (.inl e.symm)); omega)) (p := ⟨b, 0, none⟩) (by show g ≠ b; omega) _
 have oset : Only (· = b) w3 (w3.setCell ⟨b, 0, none⟩ (.slice ka' (l.length + 1) kc')) := (Only.refl (· = b) w3).setCell (p := ⟨b, 0, none⟩) (.inl rfl) _
 have HK4 : Hid ((w3.setCell ⟨b, 0, none⟩ (.slice ka' (l.length + 1) kc')).ownsRow 0 9 1 (.slice ka' (l.length + 1) kc') (l.length + 1) ((svals l).take P ++ .string s :: (svals l).drop P)) :=
  own_only HKV.out oset (fun k hk e => own_blk_ne HKV.out HM3.out (by decide) (by have e : k = b := e; rw [← e]; exact hk))
 have HV3 : w3.ownsRow 0 66 3 (.slice va fs.length vc) fs.length (fvals fs) := HM2.out.2.2.1.kept HG3.out (by
  cases hv : (Value.slice va fs.length vc).ownBlock with
  | none => exact .inl rfl
  | some k => exact .inr (fun e => own_ne HM2.out.2.2.1 HM2.out.2.1 (by decide) hv e.symm))
 have HV4 : Hid ((w3.setCell ⟨b, 0, none⟩ (.slice ka' (l.length + 1) kc')).ownsRow 0 66 3 (.slice va fs.length vc) fs.length (fvals fs)) :=
  own_only HV3 oset (fun k hk e => own_blk_ne HM2.out.2.2.1 HM2.out.1 (by decide) (by have e : k = b := e; rw [← e]; exact hk))
 obtain ⟨w4, hw4⟩ : ∃ w4, w3.setCell ⟨b, 0, none⟩ (.slice ka' (l.length + 1) kc') = w4 := ⟨_, rfl⟩
 have hs4 : w3.heap.size = w4.heap.size := by rw [← hw4]; simp [World.setCell]
 have HS4 : Hid (g + 2 ≤ w4.heap.size) := by rw [← hs4]; exact HS3.out
 rw [hw4] at HO3 HM4 HX4 HK4 HV4 ⊢
 clear hw4 hs4 HS3 HM3 HG3 HB3 HKV q0 f0 HI HX2 HM2 HO2 k0 HF HM HX HO HS1 oset HV3 hgK
 have k1 : w4.cell? ⟨b, 1, none⟩ = some (.slice va fs.length vc) := Blk.cell HM4.out 1
 have x0 : w4.cell? ⟨g, 0, none⟩ = some (.string s2) := Blk.cell HX4.out 0
 have x1 : w4.cell? ⟨g, 1, none⟩ = some (.int .i64 h) := Blk.cell HX4.out 1
 have x2 : w4.cell? ⟨g, 2, none⟩ = some (.slice ps pn pc) := Blk.cell HX4.out 2
 have HFIN : Hid (∀ (W W' : World) (fa : Option Addr) (fc : Nat), Below w4.heap.size w4 W → W'.ownsRow 0 66 3 (.slice fa (fs.length + 1) fc) (fs.length + 1) ((fvals fs).take (P * 3) ++ fcs f ++ (fvals fs).drop (P * 3)) → W.grownBy W' (Value.slice va fs.length vc).ownBlock → ((Value.slice fa (fs.length + 1) fc).ownBlock = (Value.slice va fs.length vc).ownBlock ∨ (Value.slice fa (fs.length + 1) fc).ownBlock = some W.heap.size) →
   Blk W' b 160 #[.slice ka' (l.length + 1) kc', .slice va fs.length vc] ∧ ∃ ks' vs', MapIsF (W'.setCell ⟨b, 1, none⟩ (.slice fa (fs.length + 1) fc)) b ks' vs' (putN l s) (putVF l fs s f) ∧ Only M w (W'.setCell ⟨b, 1, none⟩ (.slice fa (fs.length + 1) fc)) ∧ ∀ k, MapF b ks' vs' k → M k ∨ g ≤ k) := by
  intro W W' fa fc hW hr hb' hfb
  have oWW : Only M w4 W' := (Only.of_below hW M).grown hb' (fun k hk => .inl (by rw [HMM.out]; exact .inr (.inr hk)))
  have hM1 : Blk W b 160 #[.slice ka' (l.length + 1) kc', .slice va fs.length vc] := (hW.block b (Blk.lt HM4.out)).trans HM4.out
  have hM : Blk W' b 160 #[.slice ka' (l.length + 1) kc', .slice va fs.length vc] := hM1.grown hb' (own_blk_ne HV4.out HM4.out (by decide)).symm
  have ho : Only (· = b) W' (W'.setCell ⟨b, 1, none⟩ (.slice fa (fs.length + 1) fc)) := (Only.refl (· = b) W').setCell (p := ⟨b, 1, none⟩) (.inl rfl) _
  have hK1 : W.ownsRow 0 9 1 (.slice ka' (l.length + 1) kc') (l.length + 1) ((svals l).take P ++ .string s :: (svals l).drop P) := own_below HK4.out hW
  have hK : W'.ownsRow 0 9 1 (.slice ka' (l.length + 1) kc') (l.length + 1) ((svals l).take P ++ .string s :: (svals l).drop P) := hK1.kept hb' (by
   cases hv : (Value.slice ka' (l.length + 1) kc').ownBlock with
   | none => exact .inl rfl
   | some k => exact .inr (fun e => own_ne HK4.out HV4.out (by decide) hv e.symm))
  have e1 : (putN l s).length = l.length + 1 := by rw [HEN.out]; simp; omega
  have e2 : (putVF l fs s f).length = fs.length + 1 := by rw [HEV.out]; simp; omega
  refine ⟨hM, .slice ka' (l.length + 1) kc', .slice fa (fs.length + 1) fc, ⟨?_, ?_, ?_, by rw [e1, e2, HFL.out], HR.out, by rw [e1]; omega⟩, ?_, ?_⟩
  ·have := Blk.set hM 1 (.slice fa (fs.length + 1) fc)
   show Blk _ _ _ _
   simpa using this
  ·have h3 := own_only hK ho (fun k hk e => own_blk_ne hK hM (by decide) (by have e : k = b := e; rw [← e]; exact hk))
   rw [e1, HEN.out]
   unfold svals at h3 ⊢
   rw [List.map_append, List.map_cons, List.map_take, List.map_drop]
   exact h3
  ·have h3 := own_only hr ho (fun k hk e => own_blk_ne hr hM (by decide) (by have e : k = b := e; rw [← e]; exact hk))
   rw [e2, HEV.out, ← fvals_put]
   exact h3
  ·exact (HO3.out.trans oWW (fun k e => .inl e)).trans ho (fun k e => .inl (by have e : k = b := e; rw [e, HMM.out]; exact .inl rfl))
  ·rintro k (e | e | e)
   ·exact .inl (by rw [HMM.out]; exact .inl e)
   ·rcases HGK.out k e with e | e
    ·exact .inl e
    ·exact .inr (by omega)
   ·rcases hfb with e3 | e3
    ·rw [e3] at e; exact .inl (by rw [HMM.out]; exact .inr (.inr e))
    ·rw [e3] at e; injection e with e; have := HS4.out; have := hW.size; exact .inr (by omega)
 have k1a : (w4.alloc (.cells #[.string s2, .int .i64 h, .slice ps pn pc] 66)).cell? ⟨b, 1, none⟩ = some (.slice va fs.length vc) := Blk.cell (Blk.alloc HM4.out _) 1
 have k1b : (w4.alloc (.cells #[.string s2, .int .i64 h, .slice ps pn pc] 66)).drew.cell? ⟨b, 1, none⟩ = some (.slice va fs.length vc) := Blk.cell (Blk.alloc HM4.out _).drew 1
 have HI2 : Hid (∀ W, W = (w4.alloc (.cells #[.string s2, .int .i64 h, .slice ps pn pc] 66)) ∨ W = (w4.alloc (.cells #[.string s2, .int .i64 h, .slice ps pn pc] 66)).drew → Calls Tryz.prog 82 #[.slice va fs.length vc, .int .i64 P, .slice (some ⟨w4.heap.size, 0, none⟩) 1 1] W fun e w' => ∃ fa fc, e = .returned (.slice fa (fs.length + 1) fc) ∧ w'.cell? ⟨b, 1, none⟩ = some (.slice va fs.length vc) ∧ w'.frozen? ⟨b, 1, none⟩ = false ∧ Hid (∃ ks' vs', MapIsF (w'.setCell ⟨b, 1, none⟩ (.slice fa (fs.length + 1) fc)) b ks' vs' (putN l s) (putVF l fs s f) ∧ Only M w (w'.setCell ⟨b, 1, none⟩ (.slice fa (fs.length + 1) fc)) ∧ ∀ k, MapF b ks' vs' k → M k ∨ g ≤ k)) := by
  have key : ∀ W, Below w4.heap.size w4 W → Blk W w4.heap.size 66 #[.string s2, .int .i64 h, .slice ps pn pc] → Calls Tryz.prog 82 #[.slice va fs.length vc, .int .i64 P, .slice (some ⟨w4.heap.size, 0, none⟩) 1 1] W fun e w' => ∃ fa fc, e = .returned (.slice fa (fs.length + 1) fc) ∧ w'.cell? ⟨b, 1, none⟩ = some (.slice va fs.length vc) ∧ w'.frozen? ⟨b, 1, none⟩ = false ∧ Hid (∃ ks' vs', MapIsF (w'.setCell ⟨b, 1, none⟩ (.slice fa (fs.length + 1) fc)) b ks' vs' (putN l s) (putVF l fs s f) ∧ Only M w (w'.setCell ⟨b, 1, none⟩ (.slice fa (fs.length + 1) fc)) ∧ ∀ k, MapF b ks' vs' k → M k ∨ g ≤ k) := by
   intro W hW hB
   have hB' : Blk W w4.heap.size 66 (fcs f).toArray := by rw [HF0.out]; exact hB
   refine (infAny (.slice va fs.length vc) fs.length P (fvals fs) (fcs f) rfl w4.heap.size W (own_below HV4.out hW) (fvals_one fs) (by rw [HF0.out]; exact one3 rfl rfl rfl) hPf (by omega) hB' (fun e => by have := own_lt HV4.out e; omega)).mono ?_
   rintro e w5 ⟨fv, rfl, hfv, hb5, hk5⟩
   obtain ⟨fa, fc, rfl, hfc⟩ := own_slice' hfv
   obtain ⟨r1, r2⟩ := HFIN.out W w5 fa fc hW hfv hb5 hk5
   exact ⟨fa, fc, rfl, Blk.cell r1 1, Blk.frozen r1 1, r2⟩
  rintro W (rfl | rfl)
  ·exact key _ ((Below.refl _ _).alloc (Nat.le_refl _) _) (Blk.new _ _ _)
  ·exact key _ (((Below.refl _ _).alloc (Nat.le_refl _) _).drew) ((Blk.new _ _ _).drew)
 clear HFIN
 go_region_with (go_at_call 82; refine (HI2.out _ (by first | exact .inl rfl | exact .inr rfl)).mono ?_; rintro e w5 ⟨fa, fc, rfl, r1, s1, HH⟩)
 all_goals
  go_wp2_with fail
  go_ret
  rw [hg]
  exact ⟨rfl, HH.out⟩
end Go.Proofs.YtmpjdoiogbbcoaaGreatDoor
/- What a commit came from, in plain words: Rch, FactsIs (one answer), the walk's state Went. -/
namespace Go.Proofs.YtmpjdoiogbbcoaaGreatDoor
open Go.RowKit Book Pap Ojt Sn
set_option linter.unusedVariables false

def errF (G : Sw.Src) (q : ByteArray) : Int := (lookK G q 3 21).2
def obF (G : Sw.Src) (q : ByteArray) : Ob := (lookK G q 3 21).1
/-- a fact: id, height, parents -/
structure Fa where
 id : ByteArray
 h : Int
 ps : List ByteArray
def faOf (G : Sw.Src) (q : ByteArray) : Fa := ⟨q, (obF G q).height, (obF G q).pars⟩
inductive Rch (G : Sw.Src) (id : ByteArray) : ByteArray → Prop
 | root : Rch G id id
 | step {q p : ByteArray} (h : Rch G id q) (hp : p ∈ (obF G q).pars) : Rch G id p
theorem errF_cases (G : Sw.Src) (q : ByteArray) : errF G q = 0 ∨ errF G q = 4 ∨ errF G q = 21 ∨ errF G q = 22 := by
 unfold errF lookK
 cases G q with
 | none => exact .inr (.inr (.inl rfl))
 | some t =>
  cases hd : Sw.decO t with
  | none => exact .inr (.inl (by simp [hd]))
  | some x =>
   by_cases hk : x.kind = 3
   ·exact .inl (by simp [hd, hk])
   ·exact .inr (.inr (.inr (by simp [hd, hk])))
theorem obF_err {G : Sw.Src} {q : ByteArray} (h : errF G q ≠ 0) : obF G q = zero := by
 unfold errF at h
 unfold obF
 unfold lookK at h ⊢
 cases hG : G q with
 | none => rfl
 | some t =>
  rw [hG] at h
  cases hd : Sw.decO t with
  | none => simp [hd]
  | some x =>
   by_cases hk : x.kind = 3
   ·simp [hd, hk] at h
   ·simp [hd, hk]
def rk (e : Int) : Nat := if e = 4 then 3 else if e = 22 then 2 else if e = 21 then 1 else 0
def OkE (e : Int) : Prop := e = 0 ∨ e = 4 ∨ e = 21 ∨ e = 22
theorem worse_ok {a b : Int} (ha : OkE a) (hb : OkE b) : OkE (worseZ a b) ∧ (worseZ a b = a ∨ worseZ a b = b) ∧ rk a ≤ rk (worseZ a b) ∧ rk b ≤ rk (worseZ a b) := by
 rcases ha with rfl | rfl | rfl | rfl <;> rcases hb with rfl | rfl | rfl | rfl <;> (simp [worseZ, rk, OkE])
def WorstOf (G : Sw.Src) (R : ByteArray → Prop) (er : Int) : Prop := OkE er ∧ (er = 0 ∨ ∃ q, R q ∧ errF G q = er) ∧ ∀ q, R q → rk (errF G q) ≤ rk er
def FactsIs (G : Sw.Src) (id : ByteArray) (er : Int) (L : List Fa) : Prop :=
 (G id = none ∧ er = 12 ∧ L = []) ∨ (G id ≠ none ∧ WorstOf G (Rch G id) er ∧ ((er ≠ 0 ∧ L = []) ∨ (er = 0 ∧ ∃ l, Rising l ∧ (∀ q, q ∈ l ↔ Rch G id q) ∧ L = l.map (faOf G))))
/-- the walk's state: seen, still to see, the gravest error -/
structure Went (G : Sw.Src) (id : ByteArray) (l td : List ByteArray) (er : Int) : Prop where
 seen : ∀ q ∈ l, Rch G id q
 todo : ∀ q ∈ td, Rch G id q
 has : id ∈ l ∨ id ∈ td
 shut : ∀ q ∈ l, ∀ p ∈ (obF G q).pars, p ∈ l ∨ p ∈ td
 ok : OkE er
 met : er = 0 ∨ ∃ q ∈ l, errF G q = er
 top : ∀ q ∈ l, rk (errF G q) ≤ rk er
theorem Went.start (G : Sw.Src) (id : ByteArray) : Went G id [] [id] 0 :=
 ⟨fun q h => by (cases h), fun q h => by rw [List.mem_singleton.1 h]; exact .root, .inr (List.mem_singleton.2 rfl), fun q h => by (cases h), .inl rfl, .inl rfl, fun q h => by (cases h)⟩
theorem Went.skip {G : Sw.Src} {id at_ : ByteArray} {l td : List ByteArray} {er : Int} (h : Went G id l (at_ :: td) er) (hin : at_ ∈ l) : Went G id l td er := by
 refine ⟨h.seen, fun q hq => h.todo q (List.mem_cons_of_mem _ hq), ?_, fun q hq p hp => ?_, h.ok, h.met, h.top⟩
 ·rcases h.has with h1 | h1
  ·exact .inl h1
  ·rcases List.mem_cons.1 h1 with rfl | h2
   ·exact .inl hin
   ·exact .inr h2
 ·rcases h.shut q hq p hp with h1 | h1
  ·exact .inl h1
  ·rcases List.mem_cons.1 h1 with rfl | h2
   ·exact .inl hin
   ·exact .inr h2
theorem Went.take {G : Sw.Src} {id at_ : ByteArray} {l td l' td' : List ByteArray} {er : Int} (h : Went G id l (at_ :: td) er) (hl : ∀ q, q ∈ l' ↔ q ∈ l ∨ q = at_) (ht : ∀ q, (q ∈ l' ∨ q ∈ td') ↔ (q ∈ l' ∨ q ∈ td ∨ q ∈ (obF G at_).pars)) (htd : ∀ q ∈ td', q ∈ l ∨ q = at_ ∨ q ∈ td ∨ q ∈ (obF G at_).pars) : Went G id l' td' (worseZ er (errF G at_)) := by
 have hat : Rch G id at_ := h.todo at_ (List.mem_cons_self ..)
 obtain ⟨w1, w2, w3, w4⟩ := worse_ok h.ok (errF_cases G at_)
 refine ⟨fun q hq => ?_, fun q hq => ?_, ?_, fun q hq p hp => ?_, w1, ?_, fun q hq => ?_⟩
 ·rcases (hl q).1 hq with h1 | rfl
  ·exact h.seen q h1
  ·exact hat
 ·rcases htd q hq with h1 | rfl | h1 | h1
  ·exact h.seen q h1
  ·exact hat
  ·exact h.todo q (List.mem_cons_of_mem _ h1)
  ·exact .step hat h1
 ·rcases h.has with h1 | h1
  ·exact .inl ((hl _).2 (.inl h1))
  ·rcases List.mem_cons.1 h1 with e | h2
   ·exact .inl ((hl _).2 (.inr e))
   ·exact (ht _).2 (.inr (.inl h2))
 ·rcases (hl q).1 hq with h1 | rfl
  ·rcases h.shut q h1 p hp with h2 | h2
   ·exact .inl ((hl _).2 (.inl h2))
   ·rcases List.mem_cons.1 h2 with e | h3
    ·exact .inl ((hl _).2 (.inr e))
    ·exact (ht _).2 (.inr (.inl h3))
  ·exact (ht _).2 (.inr (.inr hp))
 ·rcases w2 with e | e
  ·rw [e]
   rcases h.met with h1 | ⟨q, h1, h2⟩
   ·exact .inl h1
   ·exact .inr ⟨q, (hl q).2 (.inl h1), h2⟩
  ·rw [e]; exact .inr ⟨at_, (hl _).2 (.inr rfl), rfl⟩
 ·rcases (hl q).1 hq with h1 | rfl
  ·exact Nat.le_trans (h.top q h1) w3
  ·exact w4
theorem Went.all {G : Sw.Src} {id : ByteArray} {l : List ByteArray} {er : Int} (h : Went G id l [] er) (q : ByteArray) : q ∈ l ↔ Rch G id q := by
 refine ⟨h.seen q, fun hr => ?_⟩
 induction hr with
 | root =>
  rcases h.has with h1 | h1
  ·exact h1
  ·cases h1
 | step _ hp ih =>
  rcases h.shut _ ih _ hp with h1 | h1
  ·exact h1
  ·cases h1
theorem Went.worst {G : Sw.Src} {id : ByteArray} {l : List ByteArray} {er : Int} (h : Went G id l [] er) : WorstOf G (Rch G id) er :=
 ⟨h.ok, h.met.imp (fun e => e) (fun ⟨q, h1, h2⟩ => ⟨q, h.seen q h1, h2⟩), fun q hq => h.top q ((h.all q).2 hq)⟩
theorem mem_putN {l : List ByteArray} (hr : Rising l) (x q : ByteArray) : q ∈ putN l x ↔ q ∈ l ∨ q = x := by
 unfold putN
 split
 ·rename_i hx
  have := hasN_iff.1 hx
  exact ⟨.inl, fun h => h.elim id (fun e => by rw [e]; exact this)⟩
 ·constructor
  ·intro h
   rcases List.mem_append.1 h with h | h
   ·exact .inl (List.mem_of_mem_take h)
   ·rcases List.mem_cons.1 h with h | h
    ·exact .inr h
    ·exact .inl (List.mem_of_mem_drop h)
  ·rintro (h | rfl)
   ·rw [← List.take_append_drop (posOf l x) l] at h
    rcases List.mem_append.1 h with h | h
    ·exact List.mem_append.2 (.inl h)
    ·exact List.mem_append.2 (.inr (List.mem_cons_of_mem _ h))
   ·exact List.mem_append.2 (.inr (List.mem_cons_self ..))
theorem rising_nodup {l : List ByteArray} (h : Rising l) : l.Nodup := by
 refine List.Pairwise.imp (fun {a b} hab e => ?_) h
 subst e
 unfold lt' at hab
 rw [bl_irr] at hab
 cases hab
theorem nodup_le {l m : List ByteArray} (h : l.Nodup) (hs : ∀ q ∈ l, q ∈ m) : l.length ≤ m.length := by
 classical
 induction l generalizing m with
 | nil => exact Nat.zero_le _
 | cons a l ih =>
  obtain ⟨h1, h2⟩ := List.nodup_cons.1 h
  have ha := hs a (List.mem_cons_self ..)
  have h3 := ih (m := m.filter (fun q => decide (q ≠ a))) h2 (fun q hq => List.mem_filter.2 ⟨hs q (List.mem_cons_of_mem _ hq), by simp only [decide_eq_true_eq]; exact fun e => h1 (by rw [← e]; exact hq)⟩)
  have h4 : (m.filter (fun q => decide (q ≠ a))).length < m.length := List.length_filter_lt_length_iff_exists.2 ⟨a, ha, by simp⟩
  rw [List.length_cons]; omega
/-- all that can be reached lies in a list -/
def Univ (G : Sw.Src) (id : ByteArray) (U : List ByteArray) : Prop := (∀ q, Rch G id q → q ∈ U) ∧ U.length ≤ 100000 ∧ ∀ q, (obF G q).pars.length ≤ 8
end Go.Proofs.YtmpjdoiogbbcoaaGreatDoor
/- Layer 15's laws: whether items or files are more than is asked: vast, great. -/
namespace Go.Proofs.YtmpjdoiogbbcoaaGreatDoor
open Go.RowKit Book Pap Ojt Sn
set_option linter.unusedVariables false
set_option linter.unusedSimpArgs false

def sumF (l : List Fi) : Nat := (l.map (fun f : Fi => f.path.size + f.data.size)).sum
theorem sumF_snoc (l : List Fi) (f : Fi) : sumF (l ++ [f]) = sumF l + (f.path.size + f.data.size) := by unfold sumF; simp
/-- true, or no more than is asked -/
def MuchOut (m n : Nat) (fs : List Fi) (w : World) (e : Ending) (w' : World) : Prop := ∃ r : Bool, e = .returned (.bool r) ∧ Below w.heap.size w w' ∧ (r = false → n ≤ 60 ∧ sumF fs ≤ m)
set_option maxRecDepth 100000 in
set_option maxHeartbeats 4000000 in
theorem great_any (a : Option Addr) (n c : Nat) (fs : List Fi) (w : World) (h : FisAt w a n fs) (hz : ∀ f ∈ fs, f.path.size ≤ 140737488355328 ∧ f.data.size ≤ 140737488355328) :
  Calls Tryz.prog 15 #[.slice a n c] w (MuchOut 131072 n fs w) := by
 obtain ⟨h1, h2, h3⟩ := h
 have HL := hid h1
 have HZ := hid hz
 clear hz
 by_cases hbig : 60 < n
 ·have ci : (60 : Int) < n := by omega
  go_enter Tryz.func15, Tryz.ntmps15
  go_wp2_with fail
  go_ret
  exact ⟨true, rfl, Below.refl _ _, fun h => by cases h⟩
 have ci : ¬ (60 : Int) < n := by omega
 go_enter Tryz.func15, Tryz.ntmps15
 go_wp2_with fail
 clear ci
 go_loopw [3, 4] (fun sv iv wr => ∃ i s : Nat, i ≤ n ∧ iv = .int .i64 i ∧ sv = .int .i64 s ∧ s ≤ 1048576 ∧ Hid (sumF (fs.take i) = s) ∧ Hid (Below w.heap.size w wr)) (fun _ iv _ => n - (intOf iv).toNat)
 case atStart => exact ⟨0, 0, Nat.zero_le _, rfl, rfl, by omega, rfl, Below.refl _ _⟩
 case round =>
  obtain ⟨i, s, hi, rfl, rfl, hs, HS, HB⟩ := hrel
  by_cases hlt : i < n
  ·obtain ⟨b, off, rfl, hc⟩ := h3.resolve_left (by omega)
   have ci : (i : Int) < n := by omega
   have ci0 : (0 : Int) ≤ (i : Int) := by omega
   obtain ⟨k0, k1⟩ := hc i hlt
   have bl : b < w.heap.size := World.block_lt_of_cell? w _ k0
   have q0 := (HB.out.cell (p := ⟨b, off + i * 2, none⟩) bl).trans k0
   have q1 := (HB.out.cell (p := ⟨b, off + i * 2 + 1, none⟩) bl).trans k1
   have hl : i < fs.length := by rw [HL.out]; exact hlt
   have HT : Hid (fs.take (i + 1) = fs.take i ++ [fs.getD i noFi]) := by
    show _ = _
    rw [List.take_succ_eq_append_getElem hl, List.getD_eq_getElem?_getD, List.getElem?_eq_getElem hl]; rfl
   have HMM : fs.getD i noFi ∈ fs := by
    rw [List.getD_eq_getElem?_getD, List.getElem?_eq_getElem hl]; exact List.getElem_mem hl
   obtain ⟨x, hx⟩ : ∃ x, fs.getD i noFi = x := ⟨_, rfl⟩
   rw [hx] at q0 q1 HT HMM
   obtain ⟨p, dd⟩ := x
   obtain ⟨hp1, hp2⟩ := HZ.out _ HMM
   simp only at q0 q1 hp1 hp2
   clear hx k0 k1 hc hl HMM
   have e1 : IntKind.i64.wrap ((p.size : Int) + dd.size) = (p.size : Int) + dd.size := by rw [IntKind.wrap_i64]; omega
   have e2 : IntKind.i64.wrap ((s : Int) + ((p.size : Int) + dd.size)) = (s : Int) + ((p.size : Int) + dd.size) := by rw [IntKind.wrap_i64]; omega
   have HS2 : Hid (sumF (fs.take (i + 1)) = s + (p.size + dd.size)) := by
    show _ = _
    rw [HT.out, sumF_snoc, HS.out]
   by_cases hgt : 1048576 < s + (p.size + dd.size)
   ·have g1 : (1048576 : Int) < (s : Int) + ((p.size : Int) + dd.size) := by omega
    go_upto_region 7 with fail
    go_region
    all_goals
     go_wp2_with fail
     go_ret
     exact ⟨true, rfl, by first | exact HB.out | exact HB.out.drew, fun h => by cases h⟩
   ·have g1 : ¬ (1048576 : Int) < (s : Int) + ((p.size : Int) + dd.size) := by omega
    go_upto_region 7 with fail
    go_region
    all_goals
     go_wp2_with fail
     refine ⟨⟨i + 1, s + (p.size + dd.size), by omega, by go_num, by push_cast; rfl, by omega, HS2, by first | exact HB.out | exact HB.out.drew⟩, ?_⟩
     simp [intOf]; omega
  ·obtain rfl : i = n := by omega
   have ci : ¬ (i : Int) < i := by omega
   have hall : fs.take i = fs := List.take_of_length_le (by rw [HL.out]; exact Nat.le_refl _)
   have HSA : Hid (sumF fs = s) := by have h := HS.out; rw [hall] at h; exact h
   clear HS hall
   by_cases hf : 131072 < s
   ·have g1 : (131072 : Int) < (s : Int) := by omega
    go_wp2_with fail
    go_ret
    exact ⟨true, rfl, HB.out, fun h => by cases h⟩
   ·have g1 : ¬ (131072 : Int) < (s : Int) := by omega
    go_wp2_with fail
    go_ret
    exact ⟨false, rfl, HB.out, fun _ => ⟨by omega, by rw [HSA.out]; omega⟩⟩
end Go.Proofs.YtmpjdoiogbbcoaaGreatDoor
/- Layer 15's laws: whether two lists of files are the same: same. -/
namespace Go.Proofs.YtmpjdoiogbbcoaaGreatDoor
open Go.RowKit Book Pap Ojt Sn
set_option linter.unusedVariables false
set_option linter.unusedSimpArgs false

end Go.Proofs.YtmpjdoiogbbcoaaGreatDoor
/- Plain laws of layer 5 without the reference: there and back, the order is one, what lies apart, folders. -/
namespace Go.Proofs.YtmpjdoiogbbcoaaGreatDoor.Pap

theorem check_pieces {s : List UInt8} (h : splitE s = 0) : pieces s ≠ [] ∧ (∀ x ∈ pieces s, goodL x = true) ∧ (pieces s).length ≤ 64 := checkE_ok.1 h
theorem split_join {l : List (List UInt8)} (h : checkE l = 0) : pieces (joinL l) = l ∧ splitE (joinL l) = 0 := by
 obtain ⟨h1, h2, h3⟩ := checkE_ok.1 h
 have e := pieces_join l h1 (fun x hx => good_free (h2 x hx))
 exact ⟨e, by unfold splitE; rw [e]; exact h⟩
/-! the order is one -/
theorem cmp_le_trans (a b c : List (List UInt8)) (h1 : cmpP a b ≤ 0) (h2 : cmpP b c ≤ 0) : cmpP a c ≤ 0 ∧ (cmpP a c = 0 → cmpP a b = 0 ∧ cmpP b c = 0) := by
 have r1 := cmpP_range a b
 have r2 := cmpP_range b c
 rcases r1 with e1 | e1 | e1
 ·rcases r2 with e2 | e2 | e2
  ·have := cmpP_trans a b c e1 e2; omega
  ·have := cmpP_zero b c e2; subst this; omega
  ·omega
 ·have := cmpP_zero a b e1; subst this
  constructor
  ·exact h2
  ·intro h; exact ⟨e1, h⟩
 ·omega
theorem withinR_ok {f p : List UInt8} (hf : splitE f = 0) (hp : splitE p = 0) : withinR f p = decide ((pieces f).length < (pieces p).length ∧ pieces f = (pieces p).take (pieces f).length) := by
 unfold withinR; simp [hf, hp]
/-! folders -/
/-! what lies apart -/
theorem apart_off {x y : List UInt8} (h : apart x y) : x ≠ y ∧ withinR x y = false ∧ withinR y x = false := by
 obtain ⟨h1, h2⟩ := h
 unfold meets at h2
 rw [Bool.or_eq_false_iff] at h2
 exact ⟨h1, h2.1, h2.2⟩
end Go.Proofs.YtmpjdoiogbbcoaaGreatDoor.Pap
/- What two commits differ in, plain; names of a commit's blobs are paths. -/
namespace Go.Proofs.YtmpjdoiogbbcoaaGreatDoor
open Go.RowKit Book Pap Ojt Sn
set_option linter.unusedVariables false
set_option linter.unusedSimpArgs false

/-- a blob's name is a path -/
def OkName (n : ByteArray) : Prop := splitE n.data.toList = 0 ∧ n.size ≤ 100000
def OkBlobs (l : List Ent) : Prop := ∀ y ∈ l, OkName y.name
theorem okName_of {l : List ByteArray} (h : checkE (l.map fun s => s.data.toList) = 0) : OkName (pathOf l) := by
 have h1 := split_join h
 have h2 := join_bound h
 unfold OkName pathOf
 refine ⟨by simpa [bz] using h1.2, ?_⟩
 have : (bz (joinL (l.map fun s => s.data.toList))).size = (joinL (l.map fun s => s.data.toList)).length := by unfold bz; simp [ByteArray.size]
 rw [this]; omega
theorem overE_names {rec : ByteArray → List ByteArray → Wk → Wk × Int} (hr : ∀ id above s, OkBlobs s.blobs → (∀ n ∈ above, goodL n.data.toList = true) → OkBlobs (rec id above s).1.blobs) (above : List ByteArray) (ha : ∀ n ∈ above, goodL n.data.toList = true) :
  ∀ (es : List Ent) (s : Wk), OkBlobs s.blobs → (∀ e ∈ es, goodL e.name.data.toList = true) → OkBlobs (overE rec above es s).1.blobs
 | [], s, h, _ => h
 | y :: r, s, h, he => by
  have hy := he y (List.mem_cons_self ..)
  have ha' : ∀ n ∈ above ++ [y.name], goodL n.data.toList = true := fun n hn => by
   rcases List.mem_append.1 hn with hn | hn
   ·exact ha n hn
   ·rw [List.mem_singleton.1 hn]; exact hy
  have ih := fun s hs => overE_names hr above ha r s hs (fun e h => he e (List.mem_cons_of_mem _ h))
  unfold overE
  split
  ·exact h
  ·split
   ·exact h
   ·rename_i h64
    split
    ·split
     ·exact hr _ _ _ h ha'
     ·exact ih _ (hr _ _ _ h ha')
    ·refine ih _ (fun z hz => ?_)
     rcases List.mem_append.1 hz with hz | hz
     ·exact h z hz
     ·rw [List.mem_singleton.1 hz]
      refine okName_of (checkE_ok.2 ⟨by simp, fun x hx => ?_, by rw [List.length_map, List.length_append]; simp only [List.length_cons, List.length_nil]; omega⟩)
      obtain ⟨n, hn, rfl⟩ := List.mem_map.1 hx
      exact ha' n hn
theorem overS_names (G : Sw.Src) : ∀ (d : Nat) (id : ByteArray) (above : List ByteArray) (s : Wk), OkBlobs s.blobs → (∀ n ∈ above, goodL n.data.toList = true) → OkBlobs (overS G d id above s).1.blobs
 | 0, id, above, s, h, _ => h
 | d + 1, id, above, s, h, ha => by
  unfold overS
  split
  ·exact h
  ·rename_i h0
   obtain ⟨x, er, hlk⟩ : ∃ x er, lookK G id 2 21 = (x, er) := ⟨_, _, rfl⟩
   rw [hlk] at h0 ⊢
   have h0 : er = 0 := by simpa using h0
   subst h0
   obtain ⟨hg, hk⟩ := lookK_ok hlk (by decide)
   obtain ⟨-, h2⟩ := good_tree hg hk
   exact overE_names (fun id above s h ha => overS_names G d id above s h ha) above ha _ s h (fun e he => (goodEnt_facts (h2 e he)).1)
theorem listS_names (G : Sw.Src) (id : ByteArray) : OkBlobs (listS G id).1 := by
 unfold listS
 split
 ·intro y hy; cases hy
 ·split
  ·intro y hy; cases hy
  ·exact overS_names G 66 _ [] ⟨0, []⟩ (fun y hy => by cases hy) (fun n hn => by cases hn)
/-- a change: path, was, is -/
structure Ch where
 path : ByteArray
 was : ByteArray
 is : ByteArray
def noCh : Ch := ⟨ByteArray.empty, ByteArray.empty, ByteArray.empty⟩
def putA (f : ByteArray → Option Ch) (y : Ent) : ByteArray → Option Ch := fun q => if q = y.name then some ⟨y.name, y.id, ByteArray.empty⟩ else f q
def putB (f : ByteArray → Option Ch) (y : Ent) : ByteArray → Option Ch := fun q => if q = y.name then some ⟨y.name, ((f y.name).getD noCh).was, y.id⟩ else f q
/-- the table of changes -/
def tabD (l m : List Ent) : ByteArray → Option Ch := m.foldl putB (l.foldl putA (fun _ => none))
def PathTab (f : ByteArray → Option Ch) : Prop := ∀ q c, f q = some c → c.path = q ∧ OkName q
theorem putA_tab {f : ByteArray → Option Ch} (h : PathTab f) (y : Ent) (hy : OkName y.name) : PathTab (putA f y) := by
 intro q c hc
 unfold putA at hc
 split at hc
 ·rename_i e; cases hc; exact ⟨e.symm, e ▸ hy⟩
 ·exact h q c hc
theorem putB_tab {f : ByteArray → Option Ch} (h : PathTab f) (y : Ent) (hy : OkName y.name) : PathTab (putB f y) := by
 intro q c hc
 unfold putB at hc
 split at hc
 ·rename_i e; cases hc; exact ⟨e.symm, e ▸ hy⟩
 ·exact h q c hc
theorem tabA_tab : ∀ (l : List Ent) (f : ByteArray → Option Ch), PathTab f → OkBlobs l → PathTab (l.foldl putA f)
 | [], f, h, _ => h
 | y :: r, f, h, ho => tabA_tab r _ (putA_tab h y (ho y (List.mem_cons_self ..))) (fun z hz => ho z (List.mem_cons_of_mem _ hz))
theorem tabB_tab : ∀ (l : List Ent) (f : ByteArray → Option Ch), PathTab f → OkBlobs l → PathTab (l.foldl putB f)
 | [], f, h, _ => h
 | y :: r, f, h, ho => tabB_tab r _ (putB_tab h y (ho y (List.mem_cons_self ..))) (fun z hz => ho z (List.mem_cons_of_mem _ hz))
theorem tabD_tab {l m : List Ent} (hl : OkBlobs l) (hm : OkBlobs m) : PathTab (tabD l m) := tabB_tab m _ (tabA_tab l _ (fun q c h => by cases h) hl) hm
/-- the differences in a list: in the order of paths, each once -/
def IsDiff (l m : List Ent) (D : List Ch) : Prop :=
 D.Pairwise (fun x y => cmpP (pieces x.path.data.toList) (pieces y.path.data.toList) = -1) ∧ ∀ c, c ∈ D ↔ tabD l m c.path = some c ∧ c.was ≠ c.is
theorem pw_ext {α : Type} {R : α → α → Prop} (hirr : ∀ a, ¬ R a a) (htr : ∀ a b c, R a b → R b c → R a c) : ∀ (l m : List α), l.Pairwise R → m.Pairwise R → (∀ x, x ∈ l ↔ x ∈ m) → l = m
 | [], [], _, _, _ => rfl
 | [], b :: m, _, _, h => by have := (h b).2 (List.mem_cons_self ..); cases this
 | a :: l, [], _, _, h => by have := (h a).1 (List.mem_cons_self ..); cases this
 | a :: l, b :: m, hl, hm, h => by
  obtain ⟨h1, h2⟩ := List.pairwise_cons.1 hl
  obtain ⟨h3, h4⟩ := List.pairwise_cons.1 hm
  have e : a = b := by
   rcases List.mem_cons.1 ((h a).1 (List.mem_cons_self ..)) with e | e
   ·exact e
   ·rcases List.mem_cons.1 ((h b).2 (List.mem_cons_self ..)) with e' | e'
    ·exact e'.symm
    ·exact absurd (htr _ _ _ (h1 b e') (h3 a e)) (hirr a)
  subst e
  refine congrArg (a :: ·) (pw_ext hirr htr l m h2 h4 (fun x => ⟨fun hx => ?_, fun hx => ?_⟩))
  ·rcases List.mem_cons.1 ((h x).1 (List.mem_cons_of_mem _ hx)) with e | e
   ·subst e; exact absurd (h1 _ hx) (hirr _)
   ·exact e
  ·rcases List.mem_cons.1 ((h x).2 (List.mem_cons_of_mem _ hx)) with e | e
   ·subst e; exact absurd (h3 _ hx) (hirr _)
   ·exact e
end Go.Proofs.YtmpjdoiogbbcoaaGreatDoor
