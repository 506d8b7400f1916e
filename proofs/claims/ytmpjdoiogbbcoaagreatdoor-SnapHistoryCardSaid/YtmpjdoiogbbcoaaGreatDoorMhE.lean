/- Texts in a row: SnA, SnN, SetO, InsF, FactM, InsStr, DelStr, Round, AllF, SnW, FactR, PathPlainB, PathWalkC, CmpX. -/
import Derived.Test.YtmpjdoiogbbcoaaGreatDoorMhD
import Derived.Carry
import Derived.Sort.KeysCollected
import Derived.Sort.OwnSorted
import Derived.Lib.OwnBridge
import Derived.Test.YtmpjdoiogbbcoaaGreatDoorChecked
import Derived.WalkKit
import Derived.RegionTactic
import Derived.Shelf.RegionOpenPlain
import Derived.Lib.Walk
import Derived.Lib.SliceRun
import Derived.Lib.JoinLaws
import Derived.Lib.AppendZeros
import Derived.Lib.AppendZerosOnto
import Derived.Lib.Overlaps
import Derived.Laws.Externs
import Derived.Laws.IdiomCopy
import Derived.Laws.NewBlocks
import Derived.Deep.RegionLaw
import Derived.Maps.AppendAt
import Derived.Lib.LazyBuf
import Derived.Deep.Quiet
import Derived.StillTail
import Derived.OrdersIn
import Derived.OwnWalkIn
import Derived.RangeFuncCalls
import Derived.ControlIn
import Derived.RangeFuncNested
import Derived.RangeFuncBound
import Derived.RangeFuncLeaves
import Derived.Shelf.Abstract
import Derived.Shelf.RegionOpen
import Derived.TacticsInMore
import Derived.LoopNIn
import Derived.LoopIn
import Derived.Deep.AppendLies
import Derived.Deep.Upon
import Derived.RangeFuncBox
import Derived.Lib.Strings
import Derived.WalkLawsBesides
import Derived.Laws.Concat
import Derived.Sort.Grow
/- Folders in memory: newFolder, add. -/
namespace Go.Proofs.YtmpjdoiogbbcoaaGreatDoor
open Go.RowKit Book Pap Ojt Sn
set_option linter.unusedVariables false
set_option linter.unusedSimpArgs false

def datS (s : ByteArray) : DataW Unit := .lit (.string s.data.toList)
theorem datS_inj (x y : ByteArray) (h : datS x = datS y) : x = y := by
 unfold datS at h
 injection h with h; injection h with h
 exact ba_ext h
theorem valS_inj (x y : ByteArray) (h : Value.string x = Value.string y) : x = y := by injection h
def valP : Option Nat → Value
 | none => .pointer none
 | some b => .pointer (some ⟨b, 0, none⟩)
def datP : Option Nat → DataW Unit
 | none => .lit (.int .i64 (-1))
 | some b => .lit (.int .i64 b)
theorem valP_inj (x y : Option Nat) (h : valP x = valP y) : x = y := by
 cases x <;> cases y <;> simp [valP] at h ⊢
 all_goals omega
theorem datP_inj (x y : Option Nat) (h : datP x = datP y) : x = y := by
 cases x <;> cases y <;> simp [datP] at h ⊢
 all_goals omega
abbrev StrMap := MapFn (α := ByteArray) Tryz.prog 9 Value.string datS
abbrev PtrMap := MapFn (α := Option Nat) Tryz.prog 9 valP datP
theorem Tryz.infoPF : (Tryz.prog.info? 182).map (fun i => (i.zero, i.size, i.bytes)) = some (some (.pointer none), 1, 8) := by kernel_rfl
theorem zeroS (w : World) : (zeroValue 9).run Tryz.prog w = .ok (.string ⟨#[]⟩) w := by
 obtain ⟨i, hi, hz, -⟩ := info_parts Tryz.infoS
 simp [zeroValue, typeInfo, hi, hz]
theorem zeroPF (w : World) : (zeroValue 182).run Tryz.prog w = .ok (.pointer none) w := by
 obtain ⟨i, hi, hz, -⟩ := info_parts Tryz.infoPF
 simp [zeroValue, typeInfo, hi, hz]
theorem strMap_get1 {w : World} {m n : Nat} {f : ByteArray → Option ByteArray} (h : StrMap w m n f) (s : ByteArray) (hs : s.size ≤ maxLen) : (Instr.lookup 132 (.map (some m)) (.string s) false).run Tryz.prog w = .ok (.string ((f s).getD ⟨#[]⟩)) w :=
 MapFn.get1 Tryz.underlying9 Tryz.underlying132 valS_inj datS_inj (z0 := ⟨#[]⟩) zeroS h s hs
theorem strMap_get2 {w : World} {m n : Nat} {f : ByteArray → Option ByteArray} (h : StrMap w m n f) (s : ByteArray) (hs : s.size ≤ maxLen) : (Instr.lookup 132 (.map (some m)) (.string s) true).run Tryz.prog w = .ok (.tuple #[.string ((f s).getD ⟨#[]⟩), .bool (f s).isSome]) w :=
 MapFn.get2 Tryz.underlying9 Tryz.underlying132 valS_inj datS_inj (z0 := ⟨#[]⟩) zeroS h s hs
theorem ptrMap_get1 {w : World} {m n : Nat} {f : ByteArray → Option (Option Nat)} (h : PtrMap w m n f) (s : ByteArray) (hs : s.size ≤ maxLen) : (Instr.lookup 236 (.map (some m)) (.string s) false).run Tryz.prog w = .ok (valP ((f s).getD none)) w :=
 MapFn.get1 Tryz.underlying9 Tryz.underlying236 valP_inj datP_inj (z0 := none) zeroPF h s hs
/-- a folder in memory: the blocks that are its own, its files with their names -/
def FoAt : Nat → World → (Nat → Prop) → Nat → List Fl → Prop
 | 0, _, _, _, _ => False
 | d + 1, w, F, b, fs => ∃ (mf md N : Nat) (kid : ByteArray → Option Nat) (KF : ByteArray → Nat → Prop),
   Blk w b 238 #[.map (some mf), .map (some md)] ∧ StrMap w mf N (leafs fs) ∧ PtrMap w md N (fun n => (kid n).map some) ∧ mf ≠ md ∧ N ≤ fs.length ∧
   (F b ∧ F mf ∧ F md) ∧ (∀ k, F k → k < w.heap.size) ∧ (∀ n, kid n = none ↔ sub n fs = []) ∧
   (∀ n c, kid n = some c → FoAt d w (KF n) c (sub n fs) ∧ ∀ k, KF n k → F k ∧ k ≠ b ∧ k ≠ mf ∧ k ≠ md) ∧ ∀ n n', n ≠ n' → ∀ k, KF n k → ¬ KF n' k
theorem FoAt.lt : ∀ {d : Nat} {w : World} {F : Nat → Prop} {b : Nat} {fs : List Fl}, FoAt d w F b fs → ∀ k, F k → k < w.heap.size
 | 0, _, _, _, _, h => h.elim
 | d + 1, _, _, _, _, h => by obtain ⟨_, _, _, _, _, -, -, -, -, -, -, h1, -⟩ := h; exact h1
theorem FoAt.only {G : Nat → Prop} : ∀ {d : Nat} {w w' : World} {F : Nat → Prop} {b : Nat} {fs : List Fl}, FoAt d w F b fs → Only G w w' → (∀ k, F k → ¬ G k) → FoAt d w' F b fs
 | 0, _, _, _, _, _, h, _, _ => h.elim
 | d + 1, w, w', F, b, fs, h, ho, hd => by
  obtain ⟨mf, md, N, kid, KF, h1, h2, h3, h4, h5, ⟨hb, hf, hm⟩, h6, h7, h8, h9⟩ := h
  exact ⟨mf, md, N, kid, KF, h1.only ho (hd b hb), h2.only ho (hd mf hf), h3.only ho (hd md hm), h4, h5, ⟨hb, hf, hm⟩, fun k hk => Nat.lt_of_lt_of_le (h6 k hk) ho.size, h7,
   fun n c hc => ⟨(h8 n c hc).1.only ho (fun k hk => hd k ((h8 n c hc).2 k hk).1), (h8 n c hc).2⟩, h9⟩
theorem newFolder_any (d : Nat) (w : World) : Calls Tryz.prog 99 #[] w fun e w' => ∃ b F, e = .returned (.pointer (some ⟨b, 0, none⟩)) ∧ FoAt (d + 1) w' F b [] ∧ Below w.heap.size w w' ∧ ∀ k, F k → w.heap.size ≤ k := by
 have HF : Hid (FoAt (d + 1) (((w.alloc (.map #[] 0)).alloc (.map #[] 0)).alloc (.cells #[.map (some w.heap.size), .map (some (w.heap.size + 1))] 238)) (fun k => w.heap.size ≤ k ∧ k < w.heap.size + 3) (w.heap.size + 1 + 1) [] ∧ Below w.heap.size w (((w.alloc (.map #[] 0)).alloc (.map #[] 0)).alloc (.cells #[.map (some w.heap.size), .map (some (w.heap.size + 1))] 238))) := by
  have z1 : (w.alloc (.map #[] 0)).heap.size = w.heap.size + 1 := World.size_alloc _ _
  have z2 : ((w.alloc (.map #[] 0)).alloc (.map #[] 0)).heap.size = w.heap.size + 1 + 1 := by rw [World.size_alloc, z1]
  refine ⟨⟨w.heap.size, w.heap.size + 1, 0, fun _ => none, fun _ _ => False, ?_, ?_, ?_, by omega, Nat.le_refl _, ⟨⟨by omega, by omega⟩, ⟨by omega, by omega⟩, ⟨by omega, by omega⟩⟩, ?_, ?_, ?_, ?_⟩, ?_⟩
  ·have := Blk.new ((w.alloc (.map #[] 0)).alloc (.map #[] 0)) 238 #[.map (some w.heap.size), .map (some (w.heap.size + 1))]
   rw [z2] at this; exact this
  ·have h : StrMap (w.alloc (.map #[] 0)) w.heap.size 0 (fun _ => none) := MapFn.made w
   exact (h.later ((Below.refl _ _).alloc (Nat.le_refl _) _)).later ((Below.refl _ _).alloc (Nat.le_refl _) _)
  ·have h : PtrMap ((w.alloc (.map #[] 0)).alloc (.map #[] 0)) (w.alloc (.map #[] 0)).heap.size 0 (fun _ => none) := MapFn.made _
   rw [z1] at h
   exact h.later ((Below.refl _ _).alloc (Nat.le_refl _) _)
  ·rintro k ⟨_, h⟩; rw [World.size_alloc, z2]; omega
  ·intro n; exact ⟨fun _ => rfl, fun _ => rfl⟩
  ·intro n c h; cases h
  ·intro n n' _ k h; exact h.elim
  ·exact (((Below.refl _ _).alloc (Nat.le_refl _) _).alloc (by rw [z1]; omega) _).alloc (by rw [z2]; omega) _
 have hmk : ∀ (T : TypeId) (W : World), (Instr.makeMap T none).run Tryz.prog W = .ok (.map (some W.heap.size)) (W.alloc (.map #[] 0)) := fun T W => run_makeMap T W
 go_enter Tryz.func99, Tryz.ntmps99
 go_wp2_with fail
 go_ret
 exact ⟨_, _, rfl, HF.out.1, HF.out.2, fun k hk => hk.1⟩
theorem sub_one (n0 n : ByteArray) (fs : List Fl) (data : ByteArray) : sub n (fs ++ [([n0], data)]) = sub n fs := by
 rw [sub_snoc]; simp [subOf]
theorem sub_more (n0 n1 : ByteArray) (r : List ByteArray) (n : ByteArray) (fs : List Fl) (data : ByteArray) : sub n (fs ++ [(n0 :: n1 :: r, data)]) = if n0 = n then sub n fs ++ [(n1 :: r, data)] else sub n fs := by
 rw [sub_snoc]
 by_cases h : n0 = n
 ·simp [subOf, h]
 ·simp [subOf, h]
theorem leafs_one (n0 : ByteArray) (fs : List Fl) (data : ByteArray) : leafs (fs ++ [([n0], data)]) = fun q => if q = n0 then some data else leafs fs q := by
 funext q
 rw [leafs_snoc]
 by_cases h : q = n0
 ·subst h; simp
 ·rw [if_neg (by simp; exact fun e => h e.symm), if_neg h]
theorem leafs_more (n0 n1 : ByteArray) (r : List ByteArray) (fs : List Fl) (data : ByteArray) : leafs (fs ++ [(n0 :: n1 :: r, data)]) = leafs fs := by
 funext q
 rw [leafs_snoc, if_neg (by simp)]
theorem FoAt.grow {d : Nat} {wk w' : World} {F K0 K0' : Nat → Prop} {b mf md N c0 : Nat} {kid : ByteArray → Option Nat} {KF : ByteArray → Nat → Prop} {fs : List Fl} {n0 n1 : ByteArray} {r : List ByteArray} {data : ByteArray}
  (H1 : Blk wk b 238 #[.map (some mf), .map (some md)]) (H2 : StrMap wk mf N (leafs fs)) (H3 : PtrMap wk md N (fun n => (if n = n0 then some c0 else kid n).map some)) (H4 : mf ≠ md) (H5 : N ≤ fs.length + 1)
  (HF : F b ∧ F mf ∧ F md) (H6 : ∀ k, F k → k < wk.heap.size) (H7 : ∀ n, kid n = none ↔ sub n fs = [])
  (H8 : ∀ n c, n ≠ n0 → kid n = some c → FoAt d wk (KF n) c (sub n fs) ∧ ∀ k, KF n k → F k ∧ k ≠ b ∧ k ≠ mf ∧ k ≠ md) (H9 : ∀ n n', n ≠ n' → ∀ k, KF n k → ¬ KF n' k)
  (C : FoAt d w' K0' c0 (sub n0 fs ++ [(n1 :: r, data)])) (CO : Only K0 wk w') (CK : ∀ k, K0' k → K0 k ∨ wk.heap.size ≤ k)
  (S1 : ∀ k, K0 k → k ≠ b ∧ k ≠ mf ∧ k ≠ md) (S2 : ∀ n c, n ≠ n0 → kid n = some c → ∀ k, KF n k → ¬ K0 k) :
  FoAt (d + 1) w' (fun k => F k ∨ K0' k) b (fs ++ [(n0 :: n1 :: r, data)]) := by
 refine ⟨mf, md, N, fun n => if n = n0 then some c0 else kid n, fun n k => if n = n0 then K0' k else (KF n k ∧ kid n ≠ none), H1.only CO (fun e => (S1 b e).1 rfl), ?_, H3.only CO (fun e => (S1 md e).2.2 rfl), H4, by rw [List.length_append]; exact H5, ⟨.inl HF.1, .inl HF.2.1, .inl HF.2.2⟩, ?_, ?_, ?_, ?_⟩
 ·rw [leafs_more]; exact H2.only CO (fun e => (S1 mf e).2.1 rfl)
 ·rintro k (hk | hk)
  ·exact Nat.lt_of_lt_of_le (H6 k hk) CO.size
  ·exact C.lt k hk
 ·intro n
  rw [sub_more]
  by_cases h : n = n0
  ·subst h; simp
  ·show (if n = n0 then some c0 else kid n) = none ↔ _
   rw [if_neg h, if_neg (fun e => h e.symm)]; exact H7 n
 ·intro n c hc
  rw [sub_more]
  by_cases h : n = n0
  ·subst h
   simp only [if_true] at hc ⊢
   cases hc
   refine ⟨C, fun k hk => ⟨.inr hk, ?_⟩⟩
   rcases CK k hk with h | h
   ·exact S1 k h
   ·have h1 := H6 b HF.1; have h2 := H6 mf HF.2.1; have h3 := H6 md HF.2.2
    exact ⟨by omega, by omega, by omega⟩
  ·simp only [if_neg h] at hc ⊢
   rw [if_neg (fun e => h e.symm)]
   obtain ⟨g1, g2⟩ := H8 n c h hc
   have e : (fun k => KF n k ∧ kid n ≠ none) = KF n := by
    funext k; apply propext
    exact ⟨fun h => h.1, fun h => ⟨h, by rw [hc]; simp⟩⟩
   rw [e]
   exact ⟨g1.only CO (fun k hk => S2 n c h hc k hk), fun k hk => ⟨.inl (g2 k hk.1).1, (g2 k hk.1).2⟩⟩
 ·intro n n' hne k hk hk'
  by_cases h : n = n0
  ·subst h
   have h' : ¬ n' = n := fun e => hne e.symm
   simp only [if_true] at hk
   simp only [if_neg h'] at hk'
   obtain ⟨c', hc'⟩ := Option.ne_none_iff_exists'.1 hk'.2
   rcases CK k hk with g | g
   ·exact S2 n' c' h' hc' k hk'.1 g
   ·have := H6 k ((H8 n' c' h' hc').2 k hk'.1).1
    omega
  ·simp only [if_neg h] at hk
   by_cases h' : n' = n0
   ·subst h'
    simp only [if_true] at hk'
    obtain ⟨c', hc'⟩ := Option.ne_none_iff_exists'.1 hk.2
    rcases CK k hk' with g | g
    ·exact S2 n c' h hc' k hk.1 g
    ·have := H6 k ((H8 n c' h hc').2 k hk.1).1
     omega
   ·simp only [if_neg h'] at hk'
    exact H9 n n' hne k hk.1 hk'.1
/-- what add leaves -/
def AddOut (d : Nat) (w : World) (F : Nat → Prop) (b : Nat) (fs : List Fl) (e : Ending) (w' : World) : Prop :=
 e = .returned (.tuple #[]) ∧ ∃ F', FoAt d w' F' b fs ∧ Only F w w' ∧ ∀ k, F' k → F k ∨ w.heap.size ≤ k
set_option maxRecDepth 100000 in
set_option maxHeartbeats 8000000 in
theorem add_any : ∀ (d : Nat) (l : List ByteArray) (data : ByteArray) (ab aoff n c b : Nat) (fs : List Fl) (F : Nat → Prop) (w : World),
  FoAt d w F b fs → StrsAt w (some ⟨ab, aoff, none⟩) n l → n ≤ c → c ≤ 9223372036854775807 → 1 ≤ n → n ≤ d → (∀ x ∈ l, x.size ≤ 9223372036854775807) → fs.length ≤ 1000 → ¬ F ab →
  Calls Tryz.prog 100 #[.pointer (some ⟨b, 0, none⟩), .slice (some ⟨ab, aoff, none⟩) n c, .string data] w (AddOut d w F b (fs ++ [(l, data)])) := by
 intro d
 induction d with
 | zero => intro l data ab aoff n c b fs F w h; exact h.elim
 | succ d ih =>
  intro l data ab aoff n c b fs F w hF hA hnc hcm hn1 hnd hsz hfl hab
  have IH := hid ih
  clear ih
  have hF0 := hid hF
  obtain ⟨mf, md, N, kid, KF, h1, h2, h3, h4, h5, ⟨hFb, hFf, hFd⟩, h6, h7, h8, h9⟩ := hF
  have HA := hid hA
  have hal := hA.1
  obtain ⟨n0, r, rfl⟩ : ∃ n0 r, l = n0 :: r := by
   cases l with
   | nil => simp at hal; omega
   | cons x r => exact ⟨x, r, rfl⟩
  have hs0 : n0.size ≤ 9223372036854775807 := hsz n0 (List.mem_cons_self ..)
  have q0 : w.cell? ⟨ab, aoff, none⟩ = some (.string n0) := by
   obtain ⟨b', off', e, hc⟩ := hA.2.2.resolve_left (by omega)
   cases e
   exact hc 0 (by omega)
  have k0 : w.cell? ⟨b, 0, none⟩ = some (.map (some mf)) := Blk.cell h1 0
  have k1 : w.cell? ⟨b, 1, none⟩ = some (.map (some md)) := Blk.cell h1 1
  have hbl := Blk.lt h1
  have hmax : N < maxLen := by unfold maxLen; omega
  have hs0m : n0.size ≤ maxLen := hs0
  by_cases hone : n = 1
  ·subst hone
   have hr : r = [] := by cases r with | nil => rfl | cons x y => simp at hal
   subst hr
   have HFIN : Hid (∀ nq w', StrMap w' mf (N + 1) (fun q => if q = n0 then some data else leafs fs q) → (w.drewN nq).grownBy w' (some mf) → AddOut (d + 1) w F b (fs ++ [([n0], data)]) (.returned (.tuple #[])) w') := fun nq w' hm hg => by
    have hO : Only (· = mf) w w' := ⟨hg.os, hg.tape, hg.output, hg.size, fun k hk hne => hg.block k hk (fun e => hne (by cases e; rfl))⟩
    refine ⟨rfl, F, ?_, hO.mono (fun k e => by have e : k = mf := e; subst e; exact hFf), fun k hk => .inl hk⟩
    refine ⟨mf, md, N + 1, kid, KF, h1.only hO (fun e => ?_), by rw [leafs_one]; exact hm, (h3.only hO (fun e => h4 (by have e : md = mf := e; exact e.symm))).more (Nat.le_succ _), h4, by rw [List.length_append]; simp only [List.length_cons, List.length_nil]; omega, ⟨hFb, hFf, hFd⟩, fun k hk => Nat.lt_of_lt_of_le (h6 k hk) hO.size, fun n => by rw [sub_one]; exact h7 n, fun n c hc => ?_, h9⟩
    ·have e : b = mf := e
     obtain ⟨D, ⟨es, clock, hb, _⟩, _⟩ := h2
     rw [← e] at hb
     unfold Blk at h1
     rw [h1] at hb; cases hb
    ·rw [sub_one]
     exact ⟨(h8 n c hc).1.only hO (fun k hk e => by have e : k = mf := e; exact ((h8 n c hc).2 k hk).2.2.1 e), (h8 n c hc).2⟩
   have HM := hid h2
   have c01 : (0 : Int) < ((1 : Nat) : Int) := by decide
   have b1 : (((1 : Nat) : Int) == 1) = true := by decide
   clear hF0 h1 h2 h3 h5 h7 h8 h9 hA HA k1
   go_enter Tryz.func100, Tryz.ntmps100
   go_wp2_with fail
   refine wp_region_tail_drew 8 (by kernel_rfl) (by kernel_rfl) ?_
   simp only [List.take_succ_cons, List.take_zero, List.drop_succ_cons, List.drop_zero]
   repeat (first | go_big_quiet_step (fail) | quiet_step (fail))
   refine wpQuiet_nil ?_
   intro _ hw'
   obtain ⟨nq, hw''⟩ := hw'
   subst hw''
   have HMq : StrMap (w.drewN nq) mf N (leafs fs) := HM.out
   have HMQ := hid HMq
   clear HMq k0 q0
   refine wpList_mapFn_set rfl (.tmp 13) (.tmp 16) (.tmp 17) 132 rfl Tryz.underlying9 Tryz.underlying132 valS_inj HMQ.out hmax n0 hs0m data rfl rfl rfl ?_
   intro w' hm hg
   have HR := hid (HFIN.out nq w' hm hg)
   clear hm hg HFIN
   go_wp2_with fail
   exact bodyPost_ret (results_none rfl _ _ _) rfl HR.out
  ·obtain ⟨n1, r', hrr⟩ : ∃ n1 r', r = n1 :: r' := by
    cases r with
    | nil => simp at hal; omega
    | cons x r => exact ⟨x, r, rfl⟩
   subst hrr
   have b1 : ((n : Int) == 1) = false := by rw [beq_eq_false_iff_ne]; omega
   have hn2 : 2 ≤ n := by omega
   have c01 : (0 : Int) < (n : Int) := by omega
   have g1 : (1 : Int) ≤ (n : Int) := by omega
   have g2 : (n : Int) ≤ (c : Int) := by omega
   have g3 : ¬ c = 1 := by omega
   have g4 : ¬ 1 = c := by omega
   have HTL : Hid (∀ W, StrsAt W (some ⟨ab, aoff, none⟩) n (n0 :: n1 :: r') → StrsAt W (some ⟨ab, aoff + 1, none⟩) (n - 1) (n1 :: r')) := fun W hW => by
    obtain ⟨w1, w2, w3⟩ := hW
    refine ⟨by simp at w1 ⊢; omega, by omega, .inr ⟨ab, aoff + 1, rfl, fun j hj => ?_⟩⟩
    obtain ⟨b', off', e, hc⟩ := w3.resolve_left (by omega)
    cases e
    have h := hc (j + 1) (by omega)
    rw [show aoff + 1 + j = aoff + (j + 1) by omega]
    exact h
   have hab1 : ab < w.heap.size := World.block_lt_of_cell? w _ q0
   have hsubl : (sub n0 fs).length ≤ fs.length := List.length_filterMap_le _ _
   have HTS : Hid (∀ x ∈ n1 :: r', x.size ≤ 9223372036854775807) := fun x hx => hsz x (List.mem_cons_of_mem _ hx)
   have H1 := hid h1; have H2 := hid h2; have H3 := hid h3; have H6 := hid h6; have H7 := hid h7; have H8 := hid h8; have H9 := hid h9
   have hgv : ((kid n0).map some).getD none = kid n0 := by cases kid n0 <;> rfl
   have HGET : ∀ q, (Instr.lookup 236 (.map (some md)) (.string n0) false).run Tryz.prog (w.drewN q) = .ok (valP (kid n0)) (w.drewN q) := fun q => by
    have h : PtrMap (w.drewN q) md N (fun n => (kid n).map some) := h3
    have := ptrMap_get1 h n0 hs0m
    rw [this, hgv]
   clear h1 h2 h3 h6 h7 h8 h9 hgv hal hA hF0
   cases hk : kid n0 with
   | some c0 =>
    rw [hk] at HGET
    simp only [valP] at HGET
    have HREC : Hid (∀ q, Calls Tryz.prog 100 #[.pointer (some ⟨c0, 0, none⟩), .slice (some ⟨ab, aoff + 1, none⟩) (n - 1) (c - 1), .string data] (w.drewN q) (AddOut d (w.drewN q) (KF n0) c0 (sub n0 fs ++ [(n1 :: r', data)]))) := fun q => by
     obtain ⟨g8, g9⟩ := H8.out n0 c0 hk
     exact IH.out (n1 :: r') data ab (aoff + 1) (n - 1) (c - 1) c0 (sub n0 fs) (KF n0) (w.drewN q) (g8.only (Only.of_below (below_drewN (Below.refl _ _) q) NoF) (fun k _ e => e)) (HTL.out _ (HA.out.later (below_drewN (Below.refl _ _) q))) (by omega) (by omega) (by omega) (by omega) HTS.out (by omega) (fun e => hab (g9 ab e).1)
    have HFIN : Hid (∀ q e w', AddOut d (w.drewN q) (KF n0) c0 (sub n0 fs ++ [(n1 :: r', data)]) e w' → AddOut (d + 1) w F b (fs ++ [(n0 :: n1 :: r', data)]) e w') := fun q e w' ho => by
     obtain ⟨rfl, K', hC, hCO, hCK⟩ := ho
     obtain ⟨g8, g9⟩ := H8.out n0 c0 hk
     have hCO' : Only (KF n0) w w' := ⟨hCO.os, hCO.tape, hCO.output, hCO.size, hCO.block⟩
     have e1 : (fun n => (if n = n0 then some c0 else kid n).map some) = fun n => (kid n).map some := by
      funext n
      by_cases h : n = n0
      ·rw [if_pos h, h, hk]
      ·rw [if_neg h]
     refine ⟨rfl, _, FoAt.grow (kid := kid) (KF := KF) (K0 := KF n0) (c0 := c0) H1.out H2.out (by rw [e1]; exact H3.out) h4 (by omega) ⟨hFb, hFf, hFd⟩ H6.out H7.out (fun n c _ hc => H8.out n c hc) H9.out hC hCO' (fun k h => hCK k h) (fun k h => (g9 k h).2) (fun n c hn _ k h h' => H9.out n n0 hn k h h'), hCO'.mono (fun k h => (g9 k h).1), fun k h => ?_⟩
     rcases h with h | h
     ·exact .inl h
     ·exact (hCK k h).imp (fun e => (g9 k e).1) (fun e => e)
    clear hk
    go_enter Tryz.func100, Tryz.ntmps100
    go_wp2_with fail
    go_quiet (fail)
    go_wp2_with fail
    refine (HREC.out _).mono ?_; rintro e w' ho
    have HR := hid (HFIN.out _ _ _ ho)
    obtain rfl : e = .returned (.tuple #[]) := ho.1
    clear ho
    go_wp2_with fail
    go_end0
    exact HR.out
   | none =>
    rw [hk] at HGET
    simp only [valP] at HGET
    obtain ⟨d', rfl⟩ : ∃ d', d = d' + 1 := ⟨d - 1, by omega⟩
    have hsub : sub n0 fs = [] := (H7.out n0).1 hk
    have hmdl : md < w.heap.size := H6.out md hFd
    have hmfl : mf < w.heap.size := H6.out mf hFf
    -- behind the new folder and the store
    have HSTEP : Hid (∀ q w1 nq w2 g K0, FoAt (d' + 1) w1 K0 g [] → Below (w.drewN q).heap.size (w.drewN q) w1 → (∀ k, K0 k → (w.drewN q).heap.size ≤ k) → PtrMap w2 md (N + 1) (fun q => if q = n0 then some (some g) else (kid q).map some) → (w1.drewN nq).grownBy w2 (some md) →
      Calls Tryz.prog 100 #[.pointer (some ⟨g, 0, none⟩), .slice (some ⟨ab, aoff + 1, none⟩) (n - 1) (c - 1), .string data] w2 (AddOut (d' + 1 + 1) w F b (fs ++ [(n0 :: n1 :: r', data)]))) := fun q w1 nq w2 g K0 hfo hb hK hpm hg => by
     have hz1 : w.heap.size ≤ w1.heap.size := hb.size
     have hOw1 : Only NoF w w1 := ⟨hb.os, hb.tape, hb.output, hb.size, fun k hk _ => hb.block k hk⟩
     have hO2 : Only (· = md) w1 w2 := ⟨hg.os, hg.tape, hg.output, hg.size, fun k hk hne => hg.block k hk (fun e => hne (by cases e; rfl))⟩
     have hOw2 : Only (· = md) w w2 := (hOw1.mono (fun _ e => e.elim)).then hO2
     have hf2 : FoAt (d' + 1) w2 K0 g [] := hfo.only hO2 (fun k h e => by have := hK k h; have e : k = md := e; have : (w.drewN q).heap.size = w.heap.size := rfl; omega)
     have hst : StrsAt w2 (some ⟨ab, aoff, none⟩) n (n0 :: n1 :: r') := StrsAt.only (c := c) HA.out hOw2 (fun k hk hl e => by
      have e1 : ab = k := by simpa [Value.ownBlock] using hk
      have e2 : k = md := e
      exact hab (by rw [e1, e2]; exact hFd))
     have hcall := IH.out (n1 :: r') data ab (aoff + 1) (n - 1) (c - 1) g [] K0 w2 hf2 (HTL.out _ hst) (by omega) (by omega) (by omega) (by omega) HTS.out (by simp) (fun e => by have := hK ab e; have : (w.drewN q).heap.size = w.heap.size := rfl; omega)
     refine hcall.mono ?_
     rintro e w' ⟨rfl, K', hC, hCO, hCK⟩
     have hz2 : w1.heap.size ≤ w2.heap.size := hO2.size
     have e1 : (fun n => (if n = n0 then some g else kid n).map some) = fun q => if q = n0 then some (some g) else (kid q).map some := by
      funext n
      by_cases h : n = n0
      ·rw [if_pos h, if_pos h]; rfl
      ·rw [if_neg h, if_neg h]
     have hKw : ∀ k, K0 k → w.heap.size ≤ k := fun k h => hK k h
     have hgrow := FoAt.grow (kid := kid) (KF := KF) (K0 := K0) (K0' := K') (c0 := g) (wk := w2) (w' := w') (b := b) (mf := mf) (md := md) (N := N + 1) (F := F) (fs := fs) (n0 := n0) (n1 := n1) (r := r') (data := data) (d := d' + 1)
      (H1.out.only hOw2 (fun e => by
       have e : b = md := e
       obtain ⟨D, ⟨es, clock, hb', _⟩, _⟩ := H3.out
       rw [← e] at hb'
       have h1 := H1.out
       unfold Blk at h1
       rw [h1] at hb'; cases hb'))
      ((H2.out.only hOw2 (fun e => h4 e)).more (Nat.le_succ _)) (by rw [e1]; exact hpm) h4 (by omega) ⟨hFb, hFf, hFd⟩ (fun k h => Nat.lt_of_lt_of_le (H6.out k h) hOw2.size) H7.out
      (fun n c hn hc => by
       obtain ⟨g8, g9⟩ := H8.out n c hc
       exact ⟨g8.only hOw2 (fun k h e => (g9 k h).2.2.2 e), g9⟩) H9.out
      (by rw [hsub]; exact hC) hCO (fun k h => hCK k h)
      (fun k h => by have := hKw k h; have := H6.out b hFb; exact ⟨by omega, by omega, by omega⟩)
      (fun n c hn hc k h h' => by have := hKw k h'; have := H6.out k ((H8.out n c hc).2 k h).1; omega)
     refine ⟨rfl, _, hgrow, (hOw2.mono (fun k e => by have e : k = md := e; rw [e]; exact hFd)).trans hCO (fun k h => .inr (hKw k h)), fun k h => ?_⟩
     rcases h with h | h
     ·exact .inl h
     ·rcases hCK k h with h | h
      ·exact .inr (hKw k h)
      ·exact .inr (by omega)
    have HQ0 : Hid (∀ q w1, Below (w.drewN q).heap.size (w.drewN q) w1 → w1.cell? ⟨ab, aoff, none⟩ = some (.string n0) ∧ w1.cell? ⟨b, 1, none⟩ = some (.map (some md)) ∧ PtrMap w1 md N (fun n => (kid n).map some)) := fun q w1 hb => by
     have hO : Only NoF w w1 := ⟨hb.os, hb.tape, hb.output, hb.size, fun k hk _ => hb.block k hk⟩
     exact ⟨hO.cell (p := ⟨ab, aoff, none⟩) q0 (fun e => e), hO.cell (p := ⟨b, 1, none⟩) k1 (fun e => e), H3.out.only hO (fun e => e)⟩
    clear hk hsub hmdl hmfl
    go_enter Tryz.func100, Tryz.ntmps100
    go_wp2_with fail
    go_quiet (fail)
    go_wp2_with fail
    refine (newFolder_any d' _).mono ?_; rintro e w1 ⟨g, K0, rfl, hfo, hb, hK⟩
    have HFO := hid hfo; have HBB := hid hb; have HKK := hid hK
    obtain ⟨q1, q2, q3⟩ := HQ0.out _ _ hb
    have HPM := hid q3
    clear hfo hb hK q3 HQ0 q0 k0 k1
    go_wp2_with fail
    refine wp_region_tail_drew 8 (by kernel_rfl) (by kernel_rfl) ?_
    simp only [List.take_succ_cons, List.take_zero, List.drop_succ_cons, List.drop_zero]
    repeat (first | go_big_quiet_step (fail) | quiet_step (fail))
    refine wpQuiet_nil ?_
    intro _ hw'
    obtain ⟨nq, hw''⟩ := hw'
    subst hw''
    have HMQ : Hid (PtrMap (w1.drewN nq) md N (fun n => (kid n).map some)) := HPM.out
    clear q1 q2
    refine wpList_mapFn_set rfl (.tmp 32) (.tmp 35) (.tmp 36) 236 rfl Tryz.underlying9 Tryz.underlying236 valP_inj HMQ.out hmax n0 hs0m (some g) rfl rfl rfl ?_
    intro w2 hm hg
    have HR := hid (HSTEP.out _ w1 nq w2 g K0 HFO.out HBB.out HKK.out hm hg)
    clear hm hg HSTEP HFO HBB HKK HMQ HPM
    go_wp2_with fail
    refine HR.out.mono ?_; rintro e w' ho
    have HRR := hid ho
    obtain rfl : e = .returned (.tuple #[]) := ho.1
    clear ho
    go_wp2_with fail
    go_end0
    exact HRR.out
end Go.Proofs.YtmpjdoiogbbcoaaGreatDoor
/- Folders in memory: their names, rising. -/
namespace Go.Proofs.YtmpjdoiogbbcoaaGreatDoor
open Go.RowKit Go.Sort Book Pap Ojt Sn
set_option linter.unusedVariables false
set_option linter.unusedSimpArgs false

theorem leafs_iff (fs : List Fl) (n : ByteArray) : leafs fs n ≠ none ↔ ∃ f ∈ fs, f.1 = [n] := by
 have key : ∀ (l : List Fl) (g : Option ByteArray), l.foldl (fun g f => if f.1 = [n] then some f.2 else g) g ≠ none ↔ g ≠ none ∨ ∃ f ∈ l, f.1 = [n] := by
  intro l
  induction l with
  | nil => intro g; simp
  | cons y r ih =>
   intro g
   rw [List.foldl_cons, ih]
   by_cases h : y.1 = [n]
   ·rw [if_pos h]
    exact ⟨fun _ => .inr ⟨y, List.mem_cons_self .., h⟩, fun _ => .inl (by simp)⟩
   ·rw [if_neg h]
    constructor
    ·rintro (h1 | ⟨f, hf, h1⟩)
     ·exact .inl h1
     ·exact .inr ⟨f, List.mem_cons_of_mem _ hf, h1⟩
    ·rintro (h1 | ⟨f, hf, h1⟩)
     ·exact .inl h1
     ·rcases List.mem_cons.1 hf with e | hf
      ·subst e; exact absurd h1 h
      ·exact .inr ⟨f, hf, h1⟩
 unfold leafs
 rw [key]; simp
theorem sub_iff (fs : List Fl) (n : ByteArray) : sub n fs ≠ [] ↔ ∃ f ∈ fs, ∃ b r, f.1 = n :: b :: r := by
 unfold sub
 rw [ne_eq, List.filterMap_eq_nil_iff]
 constructor
 ·intro h
  refine Classical.byContradiction fun hn => h (fun f hf => ?_)
  unfold subOf
  split
  ·rename_i a b r he
   rw [if_neg]
   rintro rfl
   exact hn ⟨f, hf, b, r, he⟩
  ·rfl
 ·rintro ⟨f, hf, b, r, he⟩ h
  have := h f hf
  unfold subOf at this
  rw [he] at this
  simp at this
theorem head_iff (fs : List Fl) (n : ByteArray) : n ∈ fs.filterMap headOf ↔ leafs fs n ≠ none ∨ sub n fs ≠ [] := by
 rw [leafs_iff, sub_iff, List.mem_filterMap]
 constructor
 ·rintro ⟨f, hf, h⟩
  unfold headOf at h
  cases hc : f.1 with
  | nil => rw [hc] at h; cases h
  | cons a r =>
   rw [hc] at h
   cases h
   cases r with
   | nil => exact .inl ⟨f, hf, hc⟩
   | cons b r => exact .inr ⟨f, hf, b, r, hc⟩
 ·rintro (⟨f, hf, h⟩ | ⟨f, hf, b, r, h⟩)
  ·exact ⟨f, hf, by unfold headOf; rw [h]; rfl⟩
  ·exact ⟨f, hf, by unfold headOf; rw [h]; rfl⟩
theorem sorted_names (fs : List Fl) (T : List (List UInt8)) (hn : T.Nodup) (hm : ∀ x, x ∈ T ↔ leafs fs (bz x) ≠ none ∨ sub (bz x) fs ≠ []) : ((T.mergeSort fun x y => decide (x ≤ y)).map bz) = namesF fs := by
 refine Sw.rising_ext ?_ (Sw.setOf_rising _) (fun x => ?_)
 ·show ((T.mergeSort fun x y => decide (x ≤ y)).map bz).Pairwise (fun a b => lt' a b = true)
  rw [List.pairwise_map]
  have hp := List.pairwise_mergeSort (le := fun x y => decide (x ≤ y)) Sw.ble_trans Sw.ble_total T
  have hnd : (T.mergeSort fun x y => decide (x ≤ y)).Nodup := (List.mergeSort_perm T _).nodup_iff.2 hn
  refine (hp.and hnd).imp ?_
  rintro a b ⟨h, hne⟩
  rw [Sw.ble_eq, Bool.not_eq_true'] at h
  unfold lt'
  rw [ba_toList, ba_toList]
  cases hab : Op.bytesLess a b
  ·exact absurd (bl_tri a b hab h) hne
  ·simpa [bz] using hab
 ·show _ ↔ x ∈ Sw.setOf (fs.filterMap headOf)
  rw [Sw.setOf_mem, head_iff, List.mem_map]
  constructor
  ·rintro ⟨y, hy, rfl⟩
   rw [List.mem_mergeSort] at hy
   exact (hm y).1 hy
  ·intro hx
   exact ⟨Sw.bl x, by rw [List.mem_mergeSort]; exact (hm _).2 (by rw [Sw.bz_bl]; exact hx), Sw.bz_bl x⟩
theorem encStr_bz (l : List (List UInt8)) : l.map encStr = svals (l.map bz) := by
 unfold svals; rw [List.map_map]; rfl
/-- what names hands back -/
def NamesOut (w : World) (l : List ByteArray) (e : Ending) (w' : World) : Prop :=
 ∃ a n c, e = .returned (.slice a n c) ∧ StrsAt w' a n l ∧ Below w.heap.size w w' ∧ (∀ k, (Value.slice a n c).ownBlock = some k → w.heap.size ≤ k) ∧ n ≤ c
set_option maxRecDepth 100000 in
set_option maxHeartbeats 8000000 in
theorem names_any (d b : Nat) (fs : List Fl) (F : Nat → Prop) (w : World) (hF : FoAt (d + 1) w F b fs) (hfit : ∀ n, leafs fs n ≠ none → sub n fs = []) (hfl : fs.length ≤ 1000) :
  Calls Tryz.prog 163 #[.pointer (some ⟨b, 0, none⟩)] w (NamesOut w (namesF fs)) := by
 obtain ⟨i0, hi, hz0, hz1, hz2⟩ := info_parts Tryz.infoS
 have hFL := hid hF.lt
 obtain ⟨mf, md, N, kid, KF, h1, ⟨D0, ho0, hs0⟩, ⟨D1, ho1, hs1⟩, h4, h5, ⟨hFb, hFf, hFd⟩, h6, h7, h8, h9⟩ := hF
 have hN : N ≤ 1000 := by omega
 have k0 : w.cell? ⟨b, 0, none⟩ = some (.map (some mf)) := Blk.cell h1 0
 have hz0' : Maps.size D0 ≤ N := ho0.size_le
 have hz1' : Maps.size D1 ≤ N := ho1.size_le
 have H1 := hid h1; have HO0 := hid ho0; have HO1 := hid ho1
 have hmfl := ho0.lt; have hmdl := ho1.lt
 have HS0 : Hid (∀ x, Maps.has D0 (.string x) = true ↔ leafs fs (bz x) ≠ none) := fun x => by
  have := (hs0 (bz x)).1
  have e : kl (bz x) = .string x := by unfold kl; simp [bz]
  rw [e] at this
  rw [this]; cases leafs fs (bz x) <;> simp
 have HS1 : Hid (∀ x, Maps.has D1 (.string x) = true ↔ sub (bz x) fs ≠ []) := fun x => by
  have := (hs1 (bz x)).1
  have e : kl (bz x) = .string x := by unfold kl; simp [bz]
  rw [e] at this
  rw [this]
  show (Option.map some (kid (bz x))).isSome = true ↔ _
  rw [ne_eq, ← h7 (bz x)]
  cases kid (bz x) <;> simp
 have HFT := hid hfit
 clear ho0 ho1 hs0 hs1 h1 h5 h6 h7 h8 h9 hfit
 go_enter Tryz.func163, Tryz.ntmps163
 go_wp2_with (first
  | (at_range; refine wpList_range_own _ rfl _ 132 rfl 9 9 (Maps.string_keyed Tryz.underlying9) Tryz.underlying132 _ mf N _ rfl HO0.out ?_; intro w0 hrg0 hg0 hsz0; have HR0 := hid hrg0; have HG0 := hid hg0; clear hrg0 hg0 hsz0)
  | go_in)
 go_frame
 go_loopw [3] (fun v wr => ∃ (left : Lit → Bool) (cnt : Nat) (ss : List (List UInt8)), Hid (wr.ranges Tryz.prog 9 (elemR Value.string datS) mf w.heap.size N D0 left cnt) ∧ Hid (ss.length + cnt ≤ Maps.size D0) ∧
   Hid (wr.ownsRow w.heap.size 9 1 v ss.length (ss.map encStr)) ∧ Hid (Collected D0 left ss) ∧ Hid (Below w.heap.size w wr)) (fun _ wr => wr.rangeLeft mf w.heap.size)
 case atStart =>
  exact ⟨_, _, [], HR0, by show 0 + _ ≤ _; omega, World.ownsRow_nil _ _ _ _, Collected.start D0, (Below.refl _ _).grown HG0.out (Nat.le_refl _) (fun j hj => by cases hj)⟩
 case round =>
  obtain ⟨left, cnt, ss, HRG, HCS, HRW, HC, HB⟩ := hrel
  obtain ⟨va, vc, rfl, hvc⟩ := own_slice' HRW.out
  have hszr := HB.out.size
  go_wp2_with (first
   | (at_next; refine wpList_next_ranges _ rfl _ rfl 9 (Maps.string_keyed Tryz.underlying9) (elemR Value.string datS) encStr Value.string (fun key kl hk => by obtain ⟨x, hx, _⟩ := Maps.keyOf_str Tryz.underlying9 hk; exact ⟨x, hx⟩) (fun v y hv => by obtain ⟨c, rfl, _⟩ := elemR_inv hv; exact ⟨c, rfl⟩) mf w.heap.size N _ _ _ rfl HRG.out ?_ ?_)
   | go_in)
  ·intro hc0 hl0
   rename World => W1
   have HL0 := hid hl0
   clear hc0 hl0
   have k1 : W1.cell? ⟨b, 1, none⟩ = some (.map (some md)) := Blk.cell ((HB.out.block b (Blk.lt H1.out)).trans H1.out) 1
   have HO1r : Hid (W1.ownsMap Tryz.prog 9 (elemR valP datP) md N D1) := by
    obtain ⟨es, clock, hb, r⟩ := HO1.out
    exact ⟨es, clock, (HB.out.block md hmdl).trans hb, r⟩
   have hmdr : md < W1.heap.size := by omega
   go_wp2_with (first
    | (at_range; refine wpList_range_own _ rfl _ 236 rfl 9 182 (Maps.string_keyed Tryz.underlying9) Tryz.underlying236 _ md N _ rfl HO1r.out ?_; intro w0' hrg0 hg0 hsz0; have HR0' := hid hrg0; have HG0' := hid hg0; clear hrg0 hg0 hsz0)
    | go_in)
   go_frame
   go_loopw [3] (fun v wx => ∃ (left : Lit → Bool) (cnt : Nat) (tt : List (List UInt8)) (q : Nat), Hid ((ss ++ tt).length = q) ∧ Hid (wx.ranges Tryz.prog 9 (elemR valP datP) md W1.heap.size N D1 left cnt) ∧ Hid (tt.length + cnt ≤ Maps.size D1) ∧
     Hid (wx.ownsRow w.heap.size 9 1 v q ((ss ++ tt).map encStr)) ∧ Hid (Collected D1 left tt) ∧ Hid (Below w.heap.size w wx)) (fun _ wx => wx.rangeLeft md W1.heap.size)
   case atStart =>
    exact ⟨_, _, [], ss.length, by show _ = _; rw [List.append_nil], HR0', by show 0 + _ ≤ _; omega, by rw [List.append_nil]; exact HRW.out.kept HG0'.out (by cases h : (Value.slice va ss.length vc).ownBlock with | none => exact .inl rfl | some k => exact .inr (by simp)), Collected.start D1, HB.out.grown HG0'.out hszr (fun j hj => by cases hj)⟩
   case round =>
    obtain ⟨left', cnt', tt, q, HQ, HRG', HCS', HRW', HC', HB'⟩ := hrel
    obtain ⟨va', vc', rfl, hvc'⟩ := own_slice' HRW'.out
    have hszx := HB'.out.size
    have hcs0 := HCS.out
    go_wp2_with (first
     | (at_next; refine wpList_next_ranges _ rfl _ rfl 9 (Maps.string_keyed Tryz.underlying9) (elemR valP datP) encStr valP (fun key kl hk => by obtain ⟨x, hx, _⟩ := Maps.keyOf_str Tryz.underlying9 hk; exact ⟨x, hx⟩) (fun v y hv => by obtain ⟨c, rfl, _⟩ := elemR_inv hv; exact ⟨c, rfl⟩) md W1.heap.size N _ _ _ rfl HRG'.out ?_ ?_)
     | go_in)
    ·intro hc0 hl0
     have hlt2 : q ≤ 4000 := by have := HCS'.out; rw [← HQ.out, List.length_append]; omega
     have HM : Hid (∀ x, x ∈ ss ++ tt ↔ leafs fs (bz x) ≠ none ∨ sub (bz x) fs ≠ []) := fun x => by
      rw [List.mem_append, HC.out.2 x, HC'.out.2 x, HS0.out x, HS1.out x, HL0.out, hl0]
      simp
     have HND : Hid ((ss ++ tt).Nodup) := by
      refine List.nodup_append.2 ⟨HC.out.1, HC'.out.1, fun x hx y hy e => ?_⟩
      subst e
      have g1 := (HS0.out x).1 ((HC.out.2 x).1 hx).1
      have g2 := (HS1.out x).1 ((HC'.out.2 x).1 hy).1
      exact g2 (HFT.out _ g1)
     clear hc0 hl0 hcs0
     obtain ⟨T, hT⟩ : ∃ T, ss ++ tt = T := ⟨_, rfl⟩
     rw [hT] at HRW' HM HND HQ
     have HSN := hid (sorted_names fs T HND.out HM.out)
     have HQL := HQ.out
     have HSL : Hid ((T.mergeSort fun x y => decide (x ≤ y)).length = q) := by show _ = _; rw [List.length_mergeSort, HQL]
     have HFIN : Hid (∀ W a c, W.ownsRow w.heap.size 9 1 (.slice a q c) q ((T.mergeSort fun x y => decide (x ≤ y)).map encStr) → q ≤ c → Below w.heap.size w W → NamesOut w (namesF fs) (.returned (.slice a q c)) W) := fun W a c ho hc hb => by
      rw [encStr_bz, HSN.out] at ho
      have hnl : (namesF fs).length = q := by rw [← HSN.out, List.length_map, HSL.out]
      have ho' : W.ownsRow w.heap.size 9 1 (.slice a q c) (namesF fs).length (svals (namesF fs)) := by rw [hnl]; exact ho
      obtain ⟨a', c', e1, hst⟩ := own_strs ho' (by omega)
      injection e1 with e2 e3 e4
      rw [hnl, ← e2] at hst
      exact ⟨a, q, c, rfl, hst, hb, fun k hk => (ho.lt k hk).1, hc⟩
     rcases HRW'.out.2 with ⟨hnil, hq0⟩ | ⟨g, cap, cur, hv, hbase, hb, g1, g2, g3, g4⟩
     ·injection hnil with n1 n2 n3
      subst n1 n2 n3
      have hT0 : T = [] := List.length_eq_zero_iff.1 HQL
      have HSO := hid (Tryz.slices_Sort_string_none none 0 wr)
      have HR := hid (HFIN.out wr none 0 (by rw [hT0, List.mergeSort_nil]; exact World.ownsRow_nil _ _ _ _) (Nat.le_refl _) HB'.out)
      clear hT HQL hT0
      go_wp2_with fail
      refine HSO.out.mono ?_; rintro e wz ⟨rfl, rfl⟩
      go_wp2_with fail
      go_ret
      exact HR.out
     ·injection hv with n1 n2 n3
      subst n1 n3
      have hH : Holds encStr wr g 0 T.toArray := holds_of_block hb (by rw [HQL]; simpa using g4)
      have HSO := hid (Tryz.slices_Sort_string g 0 vc' T wr hH (Array.getElem?_eq_some_iff.1 hb).1 (by omega))
      rw [HQL] at HSO
      have HR : Hid (∀ n os, NamesOut w (namesF fs) (.returned (.slice (some ⟨g, 0, none⟩) q vc')) (grow (putRow encStr (Sort.ahead wr n) g 0 (T.mergeSort fun x y => decide (x ≤ y)).toArray) os)) := fun n os => by
       have ho := ownsRow_sorted (n := n) (os := os) (ss := T) (ts := T.mergeSort fun x y => decide (x ≤ y)) (by rw [List.length_mergeSort]) hbase hb (by rw [HQL]; exact g1) g2 g3
       rw [HQL] at ho
       exact HFIN.out _ _ _ ho g1 (HB'.out.grown (grownBy_sorted _) hszx (fun j hj => by cases hj; exact hbase))
      clear hT HQL hH hb g3 g4
      go_wp2_with fail
      refine HSO.out.mono ?_; rintro e wz ⟨rfl, n, os, rfl⟩
      have HRR := hid (HR.out n os)
      go_wp2_with fail
      go_ret
      exact HRR.out
    ·intro x c kl yd yp w2 cnt2 hkey hlk hv hat hrg2 hlt hg2 hs2 hen
     obtain ⟨x', ex, rfl, _⟩ := Maps.keyOf_str Tryz.underlying9 hkey
     obtain rfl : x = x' := encStr_inj ex
     have HRW2 : Hid (w2.ownsRow w.heap.size 9 1 (.slice va' q vc') q ((ss ++ tt).map encStr)) := HRW'.out.kept hg2 (Or.inr (row_ne_iter HRW'.out HRG'.out).symm)
     have HRG2 := hid hrg2; have HLT := hid hlt; have HG2 := hid hg2; have HC2 := hid (HC'.out.step hlk hat)
     have hw2 : w.heap.size ≤ w2.heap.size := Nat.le_trans hszx hg2.size
     have hcs := HCS'.out
     have hla : q ≤ 2000 := by rw [← HQ.out, List.length_append]; omega
     clear hs2 hrg2 hlt hg2 hlk hat hkey hv hcs0 HRW'
     go_wp2_with (first
      | (at_builtin; refine wpList_append_own _ rfl _ _ 40 rfl w.heap.size 9 i0 (.string ⟨#[]⟩) 1 16 Tryz.underlying40 hi hz0 hz1 hz2 rfl (by decide) (.slice va' q vc') _ _ rfl (HRW2.out.alloc _) ⟨w2.heap.size, 0, none⟩ 1 1 [encStr x] rfl rfl (cellNew1 _ _ _) (one_bytes rfl) (by unfold maxLen; omega) (by omega) (by rw [World.size_alloc]; omega) ?_; intro v' w3 hown' hg3 hnil3; have HOWN := hid hown'; have HG3 := hid hg3; clear hown' hg3 hnil3)
      | go_in)
     have hrg3 := (HRG2.out.alloc _).kept HG3.out (fun e => by have := (HRW2.out.lt md e.symm).1; omega) (row_ne_iter HRW2.out HRG2.out)
     have HB3 : Hid (Below w.heap.size w w3) := ((HB'.out.grown HG2.out hszx (fun j hj => by cases hj; exact hszr)).alloc hw2 _).grown HG3.out (by rw [World.size_alloc]; omega) (fun j hj => (HRW2.out.lt j hj).1)
     have HO3 : Hid (w3.ownsRow w.heap.size 9 1 v' (q + 1) ((ss ++ (tt ++ [x])).map encStr)) := by
      have h := HOWN.out
      rw [← List.append_assoc, List.map_append]; exact h
     have HQ3 : Hid ((ss ++ (tt ++ [x])).length = q + 1) := by show _ = _; rw [← List.append_assoc, List.length_append, HQ.out]; rfl
     have HRG3 := hid hrg3
     clear hrg3
     go_roundw
     case rel => first | exact ⟨_, cnt2, tt ++ [x], q + 1, HQ3, HRG3, by show _ ≤ _; have := HLT.out; rw [List.length_append]; simp only [List.length_cons, List.length_nil]; omega, HO3, HC2, HB3⟩ | ((repeat apply Exists.intro); exact ⟨⟨_, cnt2, tt ++ [x], q + 1, HQ3, HRG3, by show _ ≤ _; have := HLT.out; rw [List.length_append]; simp only [List.length_cons, List.length_nil]; omega, HO3, HC2, HB3⟩, rfl⟩)
     case measure => rw [HRG3.out.left_eq, HRG'.out.left_eq]; exact HLT.out
  ·intro x c kl yd yp w2 cnt2 hkey hlk hv hat hrg2 hlt hg2 hs2 hen
   obtain ⟨x', ex, rfl, _⟩ := Maps.keyOf_str Tryz.underlying9 hkey
   obtain rfl : x = x' := encStr_inj ex
   have HRW2 : Hid (w2.ownsRow w.heap.size 9 1 (.slice va ss.length vc) ss.length (ss.map encStr)) := HRW.out.kept hg2 (Or.inr (row_ne_iter HRW.out HRG.out).symm)
   have HRG2 := hid hrg2; have HLT := hid hlt; have HG2 := hid hg2; have HC2 := hid (HC.out.step hlk hat)
   have hw2 : w.heap.size ≤ w2.heap.size := Nat.le_trans hszr hg2.size
   have hcs := HCS.out
   clear hs2 hrg2 hlt hg2 hlk hat hkey hv
   go_wp2_with (first
    | (at_builtin; refine wpList_append_own _ rfl _ _ 40 rfl w.heap.size 9 i0 (.string ⟨#[]⟩) 1 16 Tryz.underlying40 hi hz0 hz1 hz2 rfl (by decide) (.slice va ss.length vc) _ _ rfl (HRW2.out.alloc _) ⟨w2.heap.size, 0, none⟩ 1 1 [encStr x] rfl rfl (cellNew1 _ _ _) (one_bytes rfl) (by unfold maxLen; omega) (by omega) (by rw [World.size_alloc]; omega) ?_; intro v' w3 hown' hg3 hnil3; have HOWN := hid hown'; have HG3 := hid hg3; clear hown' hg3 hnil3)
    | go_in)
   have hrg3 := (HRG2.out.alloc _).kept HG3.out (row_ne_low HRW2.out hmfl) (row_ne_iter HRW2.out HRG2.out)
   have HB3 : Hid (Below w.heap.size w w3) := ((HB.out.grown HG2.out hszr (fun j hj => by cases hj; exact Nat.le_refl _)).alloc hw2 _).grown HG3.out (by rw [World.size_alloc]; omega) (fun j hj => (HRW2.out.lt j hj).1)
   have HO3 : Hid (w3.ownsRow w.heap.size 9 1 v' (ss ++ [x]).length ((ss ++ [x]).map encStr)) := by
    have h := HOWN.out
    rw [List.length_append, List.map_append]; exact h
   have HRG3 := hid hrg3
   clear hrg3
   go_roundw
   case rel => first | exact ⟨_, cnt2, ss ++ [x], HRG3, by show _ ≤ _; have := HLT.out; rw [List.length_append]; simp only [List.length_cons, List.length_nil]; omega, HO3, HC2, HB3⟩ | ((repeat apply Exists.intro); exact ⟨⟨_, cnt2, ss ++ [x], HRG3, by show _ ≤ _; have := HLT.out; rw [List.length_append]; simp only [List.length_cons, List.length_nil]; omega, HO3, HC2, HB3⟩, rfl⟩)
   case measure => rw [HRG3.out.left_eq, HRG.out.left_eq]; exact HLT.out
end Go.Proofs.YtmpjdoiogbbcoaaGreatDoor
/- Sets of texts made of a list: shelf.Of; its length. Sorting own slices. -/
namespace Go.Proofs.YtmpjdoiogbbcoaaGreatDoor
open Go.RowKit Go.Sort Book Pap Ojt Sn
set_option linter.unusedVariables false
set_option linter.unusedSimpArgs false

/-- texts sorted -/
def sortB (l : List ByteArray) : List ByteArray := ((l.map Sw.bl).mergeSort fun x y => decide (x ≤ y)).map bz
def compB (l : List ByteArray) : List ByteArray := (Lib.compact (l.map Sw.bl)).map bz
theorem map_bl_bz (l : List (List UInt8)) : (l.map bz).map Sw.bl = l := by
 rw [List.map_map]
 conv => rhs; rw [← List.map_id l]
 exact List.map_congr_left (fun x _ => by simp [Sw.bl, bz])
theorem compB_sortB (l : List ByteArray) : compB (sortB l) = Sw.setOf l := by
 unfold compB sortB
 rw [map_bl_bz]; exact Sw.sort_compact l
theorem sortB_length (l : List ByteArray) : (sortB l).length = l.length := by unfold sortB; rw [List.length_map, List.length_mergeSort, List.length_map]
theorem svals_enc (l : List ByteArray) : svals l = (l.map Sw.bl).map encStr := by
 rw [encStr_bz]
 congr 1
 rw [List.map_map]
 conv => lhs; rw [← List.map_id l]
 exact List.map_congr_left (fun x _ => (Sw.bz_bl x).symm)
/-- what sorting leaves of an own slice -/
def SortOut (B : Nat) (w : World) (v : Value) (n : Nat) (l : List ByteArray) (e : Ending) (w' : World) : Prop :=
 e = .returned (.tuple #[]) ∧ w'.ownsRow B 9 1 v n (svals (sortB l)) ∧ w.grownBy w' v.ownBlock
theorem sort_own {B n : Nat} {v : Value} {l : List ByteArray} {w : World} (h : w.ownsRow B 9 1 v n (svals l)) (hn : n ≤ 1000000) :
  Calls Tryz.prog 48 #[v] w (SortOut B w v n l) := by
 have hl : l.length = n := by have := h.1; unfold svals at this; rw [List.length_map] at this; omega
 rcases h.2 with ⟨rfl, h0⟩ | ⟨g, cap, cur, rfl, hb, hg, hn1, hc, hs, ht⟩
 ·subst h0
  have hl0 : l = [] := List.length_eq_zero_iff.1 hl
  subst hl0
  refine (Tryz.slices_Sort_string_none none 0 w).mono ?_
  rintro e w' ⟨rfl, rfl⟩
  refine ⟨rfl, ?_, ⟨rfl, rfl, rfl, Nat.le_refl _, fun _ _ _ => rfl⟩⟩
  have : sortB [] = [] := by unfold sortB; simp
  rw [this]; exact World.ownsRow_nil _ _ _ _
 ·have hlen : (l.map Sw.bl).length = n := by rw [List.length_map, hl]
  have hH : Holds encStr w g 0 (l.map Sw.bl).toArray := holds_of_block hg (by rw [hlen, ← svals_enc]; simpa using ht)
  have hS := Tryz.slices_Sort_string g 0 cap (l.map Sw.bl) w hH (Array.getElem?_eq_some_iff.1 hg).1 (by omega)
  rw [hlen] at hS
  refine hS.mono ?_
  rintro e w' ⟨rfl, q, os, rfl⟩
  refine ⟨rfl, ?_, grownBy_sorted _⟩
  have ho := ownsRow_sorted (n := q) (os := os) (ss := l.map Sw.bl) (ts := (l.map Sw.bl).mergeSort fun x y => decide (x ≤ y)) (by rw [List.length_mergeSort]) hb hg (by rw [hlen]; exact hn1) hc hs
  rw [hlen, encStr_bz] at ho
  exact ho
def CompOut (B : Nat) (w : World) (v : Value) (l : List ByteArray) (e : Ending) (w' : World) : Prop :=
 ∃ v', e = .returned v' ∧ w'.ownsRow B 9 1 v' (compB l).length (svals (compB l)) ∧ w.grownBy w' v.ownBlock ∧ v'.ownBlock = v.ownBlock
theorem compact_own {B n : Nat} {v : Value} {l : List ByteArray} {w : World} (h : w.ownsRow B 9 1 v n (svals l)) (hn : n ≤ 1000000) :
  Calls Tryz.prog 49 #[v] w (CompOut B w v l) := by
 have hl : l.length = n := by have := h.1; unfold svals at this; rw [List.length_map] at this; omega
 rcases h.2 with ⟨rfl, h0⟩ | ⟨g, cap, cur, rfl, hb, hg, hn1, hc, hs, ht⟩
 ·subst h0
  have hl0 : l = [] := List.length_eq_zero_iff.1 hl
  subst hl0
  refine (Tryz.slices_Compact_string_empty none 0 w).mono ?_
  rintro e w' ⟨rfl, rfl⟩
  exact ⟨_, rfl, World.ownsRow_nil _ _ _ _, ⟨rfl, rfl, rfl, Nat.le_refl _, fun _ _ _ => rfl⟩, rfl⟩
 ·have hlen : (l.map Sw.bl).length = n := by rw [List.length_map, hl]
  have hH : Holds encStr w g 0 (l.map Sw.bl).toArray := holds_of_block hg (by rw [hlen, ← svals_enc]; simpa using ht)
  have hS := Tryz.slices_Compact_string g 0 cap (l.map Sw.bl) w hH (by omega) (by omega)
  rw [hlen] at hS
  refine hS.mono ?_
  rintro e w' ⟨rfl, q, rfl⟩
  have hcl : (Lib.compact (l.map Sw.bl)).length ≤ n := by rw [← hlen]; exact Lib.compact_length_le _
  have hrow := h
  rw [svals_enc] at hrow
  have ho := Lib.ownsRow_putRow (q := q) (k := (Lib.compact (l.map Sw.bl)).length) (ys := Lib.compact (l.map Sw.bl) ++ List.replicate (n - (Lib.compact (l.map Sw.bl)).length) []) hrow (by rw [List.length_append, List.length_replicate]; omega) hcl
  rw [List.take_left, encStr_bz] at ho
  have e1 : (compB l).length = (Lib.compact (l.map Sw.bl)).length := by unfold compB; rw [List.length_map]
  refine ⟨_, rfl, ?_, ?_, rfl⟩
  ·rw [e1]; exact ho
  ·refine ⟨rfl, rfl, rfl, by simp [putRow, mapBlock, Sort.ahead], fun k hk hne => ?_⟩
   have : g ≠ k := fun e => hne (by rw [e]; rfl)
   simp [putRow, mapBlock, Sort.ahead, Array.getElem?_modify, this]
theorem clone_strs (a : Option Addr) (n c : Nat) (l : List ByteArray) (w : World) (h : StrsAt w a n l) (hn : n ≤ 100000) :
  Calls Tryz.prog 47 #[.slice a n c] w fun e w' => ∃ v', e = .returned v' ∧ w'.ownsRow w.heap.size 9 1 v' n (svals l) ∧ Below w.heap.size w w' := by
 obtain ⟨h1, h2, h3⟩ := h
 by_cases h0 : n = 0
 ·subst h0
  have hl0 : l = [] := List.length_eq_zero_iff.1 h1
  subst hl0
  cases a with
  | none =>
   refine (Tryz.slices_Clone_string_nil 0 c w).mono ?_
   rintro e w' ⟨rfl, rfl⟩
   exact ⟨_, rfl, World.ownsRow_nil _ _ _ _, Below.refl _ _⟩
  | some ad =>
   refine (Tryz.slices_Clone_string_zero ad c w).mono ?_
   rintro e w' ⟨v', rfl, ho, -, hb⟩
   exact ⟨_, rfl, ho, hb⟩
 ·obtain ⟨b, off, rfl, hc⟩ := h3.resolve_left h0
  refine (Tryz.slices_Clone_string b off n c l w (by omega) (by omega) (fun j hj => hc j (by omega))).mono ?_
  rintro e w' ⟨v', rfl, ho, -, hb⟩
  refine ⟨_, rfl, ?_, hb⟩
  rw [List.take_of_length_le (by omega)] at ho
  exact ho
/-- a set of texts in memory: its row of texts, its row of nothings -/
def SetAt (B : Nat) (w : World) (b : Nat) (S : List ByteArray) : Prop :=
 ∃ kv ev, Blk w b 116 #[kv, ev] ∧ w.ownsRow B 9 1 kv S.length (svals S) ∧ w.ownsRow B 120 0 ev S.length [] ∧ B ≤ b
theorem Tryz.infoNo : (Tryz.prog.info? 120).map (fun i => (i.zero, i.size, i.bytes)) = some (some (.agg #[]), 0, 0) := by kernel_rfl
theorem setOf_length (l : List ByteArray) : (Sw.setOf l).length ≤ l.length := by
 rw [← compB_sortB]
 have h := Lib.compact_length_le ((sortB l).map Sw.bl)
 unfold compB
 rw [List.length_map] at *
 rw [sortB_length] at h
 exact h
set_option maxRecDepth 100000 in
set_option maxHeartbeats 4000000 in
theorem of_any (a : Option Addr) (n c : Nat) (l : List ByteArray) (w : World) (h : StrsAt w a n l) (hn : n ≤ 100000) :
  Calls Tryz.prog 16 #[.slice a n c] w fun e w' => ∃ b, e = .returned (.pointer (some ⟨b, 0, none⟩)) ∧ SetAt w.heap.size w' b (Sw.setOf l) ∧ Below w.heap.size w w' := by
 obtain ⟨i1, hi1, hz0, hz1, hz2⟩ := info_parts Tryz.infoNo
 have HC := hid (clone_strs a n c l w h hn)
 have HSL := hid (setOf_length l)
 have HLN := hid h.1
 clear h
 go_enter Tryz.func16, Tryz.ntmps16
 go_wp2_with fail
 refine HC.out.mono ?_; rintro e w1 ⟨v1, rfl, ho1, hb1⟩
 have HO1 := hid ho1
 have HB1 := hid hb1
 have HS := hid (sort_own ho1 (by omega))
 clear ho1 hb1 HC
 go_wp2_with fail
 refine HS.out.mono ?_; rintro e w2 ⟨rfl, ho2, hg2⟩
 have HB2 : Hid (Below w.heap.size w w2) := HB1.out.grown hg2 HB1.out.size (fun j hj => (HO1.out.lt j hj).1)
 have HO2 := hid ho2
 have HS := hid (compact_own ho2 (by omega))
 clear ho2 hg2 HB1 HO1
 go_wp2_with fail
 refine HS.out.mono ?_; rintro e w3 ⟨v3, rfl, ho3, hg3, hv3⟩
 rw [compB_sortB] at ho3
 have HB3 : Hid (Below w.heap.size w w3) := HB2.out.grown hg3 HB2.out.size (fun j hj => (HO2.out.lt j hj).1)
 have HO3 := hid ho3
 obtain ⟨va, vc, rfl, hvc⟩ := own_slice' ho3
 have hq : (Sw.setOf l).length ≤ 100000 := by have := HSL.out; have := HLN.out; omega
 have hs3 : w.heap.size ≤ w3.heap.size := HB3.out.size
 clear ho3 hg3 hv3 HB2 HO2 HS HSL
 obtain ⟨S, hS⟩ : ∃ S, Sw.setOf l = S := ⟨_, rfl⟩
 rw [hS] at HO3 hq hvc ⊢
 have HSS := hid hS
 clear hS
 go_wp2_with (first
  | (refine wpList_make_full _ rfl _ _ 112 rfl w.heap.size 120 i1 (.agg #[]) 0 Tryz.underlying112 hi1 hz0 hz1 _ _ _ _ S.length rfl rfl rfl rfl (by rw [hz2]; omega) (by unfold maxLen; omega) (by first | exact hs3 | (simp; omega)) ?_; intro w4 ho4 hg4; have HO4 := hid ho4; have HG4 := hid hg4; clear ho4 hg4))
 go_ret
 rw [HSS.out]
 have hb4 : Below w3.heap.size w3 w4 := (Below.refl _ _).grown HG4.out (Nat.le_refl _) (fun j hj => by cases hj)
 have hs4 : w.heap.size ≤ w4.heap.size := Nat.le_trans hs3 hb4.size
 have h2 : (w4.ownsRow w.heap.size 120 0 (.slice (some ⟨w3.heap.size, 0, none⟩) S.length S.length) S.length []) := by
  have h := HO4.out
  have e : (madeCells (Value.agg #[]).cells (S.length * 0)).toList = [] := by simp [madeCells]
  rw [e] at h; exact h
 exact ⟨_, rfl, ⟨_, _, Blk.new _ _ _, (own_below HO3.out hb4).alloc _, h2.alloc _, hs4⟩, (HB3.out.trans (hb4.mono hs3)).alloc hs4 _⟩
theorem slen_any {B b : Nat} {S : List ByteArray} (w : World) (h : SetAt B w b S) : Calls Tryz.prog 23 #[.pointer (some ⟨b, 0, none⟩)] w fun e w' => e = .returned (.int .i64 S.length) ∧ w = w' := by
 obtain ⟨kv, ev, h1, h2, -, -⟩ := h
 obtain ⟨va, vc, rfl, -⟩ := own_slice' h2
 have k0 : w.cell? ⟨b, 0, none⟩ = some (.slice va S.length vc) := Blk.cell h1 0
 have HA : Calls Tryz.prog 50 #[.pointer (some ⟨b, 0, none⟩)] w fun e w' => e = .returned (.pointer (some ⟨b, 0, none⟩)) ∧ w = w' := by
  clear k0 h1 h2
  go_enter Tryz.func50, Tryz.ntmps50
  go_wp2_with fail
  go_ret
  exact ⟨rfl, rfl⟩
 have HL : Calls Tryz.prog 66 #[.pointer (some ⟨b, 0, none⟩)] w fun e w' => e = .returned (.int .i64 S.length) ∧ w = w' := by
  clear HA h1 h2
  go_enter Tryz.func66, Tryz.ntmps66
  go_wp2_with fail
  go_ret
  exact ⟨rfl, rfl⟩
 have HA := hid HA
 have HL := hid HL
 clear k0 h1 h2
 go_enter Tryz.func23, Tryz.ntmps23
 go_wp2_with (first
  | (go_at_call 50; refine HA.out.mono ?_; rintro e w' ⟨rfl, rfl⟩)
  | (go_at_call 66; refine HL.out.mono ?_; rintro e w' ⟨rfl, rfl⟩))
 go_ret
 exact ⟨rfl, rfl⟩
/-- a slice of whole numbers in memory -/
def NumsAt (w : World) (a : Option Addr) (n : Nat) (zs : List Int) : Prop :=
 zs.length = n ∧ (n = 0 ∨ ∃ b off, a = some ⟨b, off, none⟩ ∧ ∀ j, j < n → w.cell? ⟨b, off + j, none⟩ = some (.int .i64 (zs.getD j 0)))
theorem heightL_eq : ∀ zs : List Int, zs ≠ [] → heightL zs = Lib.maxOf zs + 1
 | [], h => absurd rfl h
 | a :: l, _ => by
  show l.foldl max a + 1 = (a :: l).foldl max a + 1
  rw [List.foldl_cons, Int.max_self]
theorem maxOf_mem : ∀ zs : List Int, zs ≠ [] → Lib.maxOf zs ∈ zs := by
 have key : ∀ (l : List Int) (a : Int), l.foldl max a = a ∨ l.foldl max a ∈ l := by
  intro l
  induction l with
  | nil => intro a; exact .inl rfl
  | cons x r ih =>
   intro a
   rw [List.foldl_cons]
   rcases ih (max a x) with h | h
   ·rw [h]
    rcases Int.max_def a x ▸ (by by_cases h : a ≤ x <;> simp [h] : (if a ≤ x then x else a) = a ∨ (if a ≤ x then x else a) = x) with h | h
    ·exact .inl h
    ·exact .inr (by rw [h]; exact List.mem_cons_self ..)
   ·exact .inr (List.mem_cons_of_mem _ h)
 intro zs h
 cases zs with
 | nil => exact absurd rfl h
 | cons a l =>
  show (a :: l).foldl max a ∈ _
  rw [List.foldl_cons, Int.max_self]
  rcases key l a with e | e
  ·rw [e]; exact List.mem_cons_self ..
  ·exact List.mem_cons_of_mem _ e
set_option maxRecDepth 100000 in
theorem objheight_any (a : Option Addr) (n c : Nat) (zs : List Int) (w : World) (h : NumsAt w a n zs) (h2 : n ≤ 1000000) (hz : ∀ z ∈ zs, -9223372036854775808 ≤ z ∧ z ≤ 9223372036854775806) :
  Calls Tryz.prog 56 #[.slice a n c] w fun e w' => e = .returned (.int .i64 (heightL zs)) ∧ w = w' := by
 obtain ⟨h1, h3⟩ := h
 by_cases h0 : n = 0
 ·subst h0
  have hl0 : zs = [] := List.length_eq_zero_iff.1 h1
  subst hl0
  clear h3 h1
  go_enter Tryz.func56, Tryz.ntmps56
  go_wp2_with fail
  go_ret
  exact ⟨rfl, rfl⟩
 ·obtain ⟨b, off, rfl, hc⟩ := h3.resolve_left h0
  have hne : zs ≠ [] := fun e => by rw [e] at h1; simp at h1; omega
  have HM := Tryz.slices_Max_int b off n c zs w (by omega) (by omega) (by omega) (fun j hj => hc j (by omega))
  rw [List.take_of_length_le (by omega)] at HM
  have hm := hz _ (maxOf_mem zs hne)
  rw [heightL_eq zs hne]
  generalize Lib.maxOf zs = M at HM hm ⊢
  have HM := hid HM
  have ci : ¬ (n : Int) = 0 := by omega
  have ew : IntKind.i64.wrap (M + 1) = M + 1 := by rw [IntKind.wrap_i64]; omega
  clear hc h1 h3 hne hz
  go_enter Tryz.func56, Tryz.ntmps56
  go_wp2_with (go_at_call 104; refine HM.out.mono ?_; rintro e w' ⟨rfl, rfl⟩)
  go_ret
  exact ⟨rfl, rfl⟩
end Go.Proofs.YtmpjdoiogbbcoaaGreatDoor
/- The first element put into an empty slice: slices.Insert at []api.Fact and []string. -/
namespace Go.Proofs.YtmpjdoiogbbcoaaGreatDoor
open Go.RowKit Book Pap
set_option linter.unusedVariables false
set_option linter.unusedSimpArgs false

theorem Tryz.infoFact : (Tryz.prog.info? 66).map (fun i => (i.zero, i.size, i.bytes)) = some (some (.agg #[.string ⟨#[]⟩, .int .i64 0, .slice none 0 0]), 3, 48) := by kernel_rfl
theorem cellBlk3 {w : World} {b : Nat} {t : TypeId} {x0 x1 x2 : Value} (h : Blk w b t #[x0, x1, x2]) : ∀ j u, [x0, x1, x2][j]? = some u → w.cell? ((⟨b, 0, none⟩ : Addr).add j) = some u := by
 intro j u hj
 rw [Addr.add_lit, Nat.zero_add, h.cell]
 rw [← hj]; simp
end Go.Proofs.YtmpjdoiogbbcoaaGreatDoor
/- shelf.Map[string, api.Fact] while it is empty: New, find, Get; Put of the first. -/
namespace Go.Proofs.YtmpjdoiogbbcoaaGreatDoor
open Go.RowKit Book Pap
set_option linter.unusedVariables false
set_option linter.unusedSimpArgs false

def FM0 (w : World) (b : Nat) : Prop := Blk w b 160 #[.slice none 0 0, .slice none 0 0]
theorem fnew_any (w : World) : Calls Tryz.prog 36 #[] w fun e w' => e = .returned (.pointer (some ⟨w.heap.size, 0, none⟩)) ∧ FM0 w' w.heap.size ∧ Below w.heap.size w w' := by
 have HX : Hid (FM0 (w.alloc (.cells #[.slice none 0 0, .slice none 0 0] 160)) w.heap.size) := Blk.new w _ _
 have HB : Hid (Below w.heap.size w (w.alloc (.cells #[.slice none 0 0, .slice none 0 0] 160))) := (Below.refl _ _).alloc (Nat.le_refl _) _
 go_enter Tryz.func36, Tryz.ntmps36
 go_wp2_with fail
 go_ret
 exact ⟨rfl, HX.out, HB.out⟩
set_option maxRecDepth 100000 in
set_option maxHeartbeats 8000000 in
theorem own_mono {w : World} {B B' : Nat} {e : TypeId} {k n : Nat} {v : Value} {xs : List Value} (h : w.ownsRow B e k v n xs) (hB : B' ≤ B) : w.ownsRow B' e k v n xs := by
 refine ⟨h.1, h.2.imp id ?_⟩
 rintro ⟨g, cap, cur, h1, h2, r⟩
 exact ⟨g, cap, cur, h1, Nat.le_trans hB h2, r⟩
end Go.Proofs.YtmpjdoiogbbcoaaGreatDoor
/- slices.Insert of one thing, over a slice of the program's own: Str. -/
namespace Go.Proofs.YtmpjdoiogbbcoaaGreatDoor
open Go.RowKit
set_option linter.unusedVariables false
set_option linter.unusedSimpArgs false

theorem Tryz.infoStr : (Tryz.prog.info? 9).map (fun i => (i.zero, i.size, i.bytes)) = some (some (.string ⟨#[]⟩), 1, 16) := by kernel_rfl

/-- a copy whose run is known -/
theorem wp_copy_isStr {P : Program} (w : World) {o : Oper} {a : Act} {K : Act → World → Prop} {Q : Exit → Act → World → Prop} (d s : Operand) (t t' : TypeId)
  (ho : o.op = .call { callee := .builtin .copy, args := #[d, s], argTypes := #[t, t'] }) (v u : Value) (hd : a.eval d = v) (hs : a.eval s = u) {v' : Value} {w' : World}
  (hr : (Builtin.copy_ #[t, t'] o.type #[v, u]).run P w = .ok v' w') (h : K (a.put o.dst v') w') : o.wp P a w K Q := by
 unfold Oper.wp execOp
 simp only [ho, resolve, invoke, builtin, Sem.run_bind, Sem.run_pure, Result.andThen_ok, List.map_toArray, List.map_cons, List.map_nil, hd, hs, hr]
 exact h
theorem wpList_copy_isStr {P : Program} (w : World) {ops : Array Oper} {rest : List Oper} {o : Oper} {a : Act} {Q : Exit → Act → World → Prop} (hgd : o.guard = none) (d s : Operand) (t t' : TypeId)
  (ho : o.op = .call { callee := .builtin .copy, args := #[d, s], argTypes := #[t, t'] }) (v u : Value) (hd : a.eval d = v) (hs : a.eval s = u) {v' : Value} {w' : World}
  (hr : (Builtin.copy_ #[t, t'] o.type #[v, u]).run P w = .ok v' w') (h : wpList P ops Q rest (a.put o.dst v') w') : wpList P ops Q (o :: rest) a w :=
 wpList_plain hgd fun _ hK => wp_copy_isStr w d s t t' ho v u hd hs hr (hK _ _ h)
theorem step_copy_isStr {P : Program} {ops : Array Oper} {o : Oper} {a : Act} {w : World} {K : Act → World → Prop} {Q : Exit → Act → World → Prop} {E : Prop}
  (hg : o.guard = none) (d x : Operand) (dT sT : TypeId) (hop : o.op = Op.call { callee := Callee.builtin Builtin.copy, args := #[d, x], argTypes := #[dT, sT] })
  (v u : Value) (hd : a.eval d = v) (hx : a.eval x = u) {v' : Value} {w' : World} (hr : (Builtin.copy_ #[dT, sT] o.type #[v, u]).run P w = .ok v' w') (hK : K (a.put o.dst v') w') :
  if Region.wanted o (yielded ops a.tmps) = true then Oper.wp P o a w K Q else E := by
 have hw : Region.wanted o (yielded ops a.tmps) = true := by simp [Region.wanted, hg]
 rw [if_pos hw]
 exact wp_copy_isStr w d x dT sT hop v u hd hx hr hK

theorem ins_listStr {cur : Array Value} {xs : List Value} {n i : Nat} (x : Value) (hsz : n + 1 ≤ cur.size) (ht : cur.toList.take n = xs) (hi : i < n) : (wr (wr cur (i + 1) (xs.drop i)) i [x]).toList.take (n + 1) = xs.take i ++ x :: xs.drop i := by
 have hl : xs.length = n := by rw [← ht, List.length_take]; simp; omega
 have hd : (xs.drop i).length = n - i := by rw [List.length_drop, hl]
 rw [wr_toList _ _ _ (by rw [wr_size]; simp; omega), wr_toList _ _ _ (by rw [hd]; omega), hd]
 have e1 : cur.toList.take (i + 1) = (cur.toList.take (i + 1)).take i ++ (cur.toList.take (i + 1)).drop i := (List.take_append_drop _ _).symm
 have hc : (cur.toList.take (i + 1)).length = i + 1 := by rw [List.length_take]; simp; omega
 have e2 : (cur.toList.take (i + 1) ++ xs.drop i ++ cur.toList.drop (i + 1 + (n - i))).take i = xs.take i := by
  rw [List.append_assoc, List.take_append_of_le_length (by omega), List.take_take, ← ht, List.take_take, Nat.min_eq_left (by omega), Nat.min_eq_left (by omega)]
 have e3 : (cur.toList.take (i + 1) ++ xs.drop i ++ cur.toList.drop (i + 1 + (n - i))).drop (i + [x].length) = xs.drop i ++ cur.toList.drop (i + 1 + (n - i)) := by
  rw [List.append_assoc, show i + [x].length = (cur.toList.take (i + 1)).length from hc.symm, List.drop_left]
 rw [e2, e3]
 have e4 : (xs.take i).length = i := by rw [List.length_take]; omega
 rw [show xs.take i ++ [x] ++ (xs.drop i ++ cur.toList.drop (i + 1 + (n - i))) = (xs.take i ++ x :: xs.drop i) ++ cur.toList.drop (i + 1 + (n - i)) by simp]
 rw [List.take_append_of_le_length (by rw [List.length_append, List.length_cons, hd, e4]; omega), List.take_of_length_le (by rw [List.length_append, List.length_cons, hd, e4]; omega)]
theorem ins_list2Str {cur : Array Value} {xs : List Value} {n i : Nat} (x : Value) (hsz : n + 1 ≤ cur.size) (hl : xs.length = n) (ht : cur.toList.take i = xs.take i) (hi : i < n) : (wr (wr cur i [x]) (i + 1) (xs.drop i)).toList.take (n + 1) = xs.take i ++ x :: xs.drop i := by
 have hd : (xs.drop i).length = n - i := by rw [List.length_drop, hl]
 have e4 : (xs.take i).length = i := by rw [List.length_take]; omega
 have e5 : (xs.take i ++ [x] ++ cur.toList.drop (i + [x].length)).take (i + 1) = xs.take i ++ [x] := by
  rw [List.take_append_of_le_length (by rw [List.length_append, e4]; exact Nat.le_refl _), List.take_of_length_le (by rw [List.length_append, e4]; exact Nat.le_refl _)]
 rw [wr_toList _ _ _ (by rw [wr_size, hd]; omega), wr_toList [x] _ _ (by simp; omega), ht, e5]
 have e6 : (xs.take i ++ [x] ++ xs.drop i).length = n + 1 := by rw [List.length_append, List.length_append, e4, hd, List.length_singleton]; omega
 rw [List.take_append_of_le_length (by omega), List.take_of_length_le (by omega)]
 simp

set_option maxRecDepth 100000 in
set_option maxHeartbeats 4000000 in
/-- at the end -/
theorem insEndStr (v : Value) (n : Nat) (xs : List Value) (x : Value) (vb : Nat) (w : World) (hown : w.ownsRow 0 9 1 v n xs) (hx1 : x.oneCell' = true) (hn : n ≤ 1048576) (hblk : Blk w vb 9 #[x]) :
    Calls Tryz.prog 81 #[v, .int .i64 n, .slice (some ⟨vb, 0, none⟩) 1 1] w fun e w' => ∃ v', e = .returned v' ∧ w'.ownsRow 0 9 1 v' (n + 1) (xs ++ [x]) ∧ w.grownBy w' v.ownBlock ∧ (v'.ownBlock = v.ownBlock ∨ v'.ownBlock = some w.heap.size) := by
  obtain ⟨i0, hi0, hz0, hz1, hz2⟩ := info_parts Tryz.infoStr
  have HC := hid (show ∀ j u, [x][j]? = some u → w.cell? ((⟨vb, 0, none⟩ : Addr).add j) = some u from fun j u hu => by
    cases j with
    | zero => simp at hu; subst hu; simpa [Addr.add] using hblk.cell 0
    | succ j => simp at hu)
  have HX : Hid (∀ u ∈ [x], u.oneCell' = true) := fun u hu => by rw [List.mem_singleton] at hu; subst hu; exact hx1
  have hown0 := hown
  rcases hown.2 with ⟨rfl, rfl⟩ | ⟨g, cap, cur, rfl, hb, hg, hnc, hcm, hsz, htk⟩
  · clear hown hx1 hblk
    go_enter Tryz.func81, Tryz.ntmps81
    go_wp2_with (at_builtin; refine wpList_append_own_at _ rfl (.tmp 23) (.tmp 24) 40 rfl 0 9 i0 (.string ⟨#[]⟩) 1 16 Tryz.underlying40 hi0 hz0 hz1 hz2 rfl (by decide) _ _ _ rfl hown0 _ 1 1 [x] rfl rfl HC.out HX.out (by unfold maxLen; omega) (by omega) (Nat.zero_le _) ?_; intro v' w3 hown' hgrow _ hbk)
    go_ret
    exact ⟨_, rfl, hown', hgrow, hbk⟩
  · have HT := hid htk
    have HS := hid hsz
    have HG := hid hg
    unfold maxLen at hcm
    clear hown hx1 hblk htk hsz hg hb
    have hd : decide (n ≤ cap) = true := decide_eq_true hnc
    go_enter Tryz.func81, Tryz.ntmps81
    go_wp2_with (at_builtin; refine wpList_append_own_at _ rfl (.tmp 23) (.tmp 24) 40 rfl 0 9 i0 (.string ⟨#[]⟩) 1 16 Tryz.underlying40 hi0 hz0 hz1 hz2 rfl (by decide) _ _ _ rfl hown0 _ 1 1 [x] rfl rfl HC.out HX.out (by unfold maxLen; omega) (by omega) (Nat.zero_le _) ?_; intro v' w3 hown' hgrow _ hbk)
    all_goals (go_ret; exact ⟨_, rfl, hown', hgrow, hbk⟩)

set_option maxHeartbeats 4000000 in
set_option maxRecDepth 100000 in
/-- ahead of the end, where there is room -/
theorem insRoomStr (g n c i vb : Nat) (cs : List Value) (x : Value) (w : World) (hi : i < n) (hroom : n + 1 ≤ c) (hc63 : c ≤ 9223372036854775807) (hn : n ≤ 1048576) (hvb : vb ≠ g)
    (cur : Array Value) (hcur : Blk w g 9 cur) (hsz : cur.size = c) (htk : cur.toList.take n = cs) (h1c : ∀ v ∈ cs, v.oneCell' = true) (hx1 : x.oneCell' = true) (hblk : Blk w vb 9 #[x]) :
    Calls Tryz.prog 81 #[.slice (some ⟨g, 0, none⟩) n c, .int .i64 i, .slice (some ⟨vb, 0, none⟩) 1 1] w fun e w' =>
      e = .returned (.slice (some ⟨g, 0, none⟩) (n + 1) c) ∧ w' = (w.drew.setCells g (i + 1) (cs.drop i)).setCells g i [x] := by
  have hcl : cs.length = n := by rw [← htk, List.length_take]; simp; omega
  have hcs : ∀ j v, cs[j]? = some v → w.cell? ⟨g, j, none⟩ = some v := fun j v hj => by
    rw [hcur.cell j, ← hj, ← htk, List.getElem?_take, if_pos (by have := (List.getElem?_eq_some_iff.1 hj).1; omega)]; simp
  have hsp : ∀ j, j < n + 1 → (w.cell? ⟨g, j, none⟩).isSome = true := fun j hj => by rw [hcur.cell j, Array.getElem?_eq_getElem (by omega)]; rfl
  have hfz : ∀ j, w.frozen? ⟨g, j, none⟩ = false := fun j => hcur.frozen j
  have hu := Tryz.underlying40
  have hsize : (Tryz.prog.info? 9).map (·.size) = some 1 := by
    obtain ⟨i0, hi0, h0, h1, h2⟩ := info_parts Tryz.infoStr
    rw [hi0]; simp [h1]
  have hz1 : ∀ w : World, (Go.sizeOf 9).run Tryz.prog w = .ok 1 w := fun w => by
    obtain ⟨i0, hi0, h0, h1, h2⟩ := info_parts Tryz.infoStr
    simp [Go.sizeOf, typeInfo, hi0, h1]
  have hsa : w.shape? vb = some (9, 1) := by have := hblk; unfold Blk at this; simp [World.shape?, this]
  have hsb : w.shape? g = some (9, c) := by have := hcur; unfold Blk at this; simp [World.shape?, this, hsz]
  have hov : ∀ lb cb, (callFunc 139 #[.slice (some ⟨vb, 0, none⟩) 1 1, .slice (some ⟨g, i + 1, none⟩) lb cb]).run Tryz.prog w = .ok (.value (.bool false)) w := fun lb cb => by
    rw [run_callFunc_extern Tryz.func139 (by kernel_rfl) (by kernel_rfl) (by kernel_rfl) (e := Extern.SlicesOverlaps.overlaps #[40, 40] #[4]) (by kernel_rfl),
      Lib.run_overlaps_apart w 40 4 9 hu 1 hz1 ⟨vb, 0, none⟩ ⟨g, i + 1, none⟩ 1 1 lb cb hvb 9 9 1 c hsa hsb (by omega) (hblk.frozen 0) (hblk.frozen 1)]
    rfl
  have hdl : (cs.drop i).length = n - i := by rw [List.length_drop, hcl]
  have hw1 : IntKind.i64.wrap ((i : Int) + 1) = (i : Int) + 1 := by rw [IntKind.wrap_i64]; omega
  have hb1 : (0 : Int) ≤ (i : Int) + 1 := by omega
  have hin : i ≤ n := by omega
  have htn : ((i : Int) + 1).toNat = i + 1 := by omega
  have hb2 : ¬ (c = i + 1) := by omega
  have hb3 : (i : Int) ≤ (n : Int) + 1 := by omega
  have hb4 : ¬ (c = i) := by omega
  have hz2 : ¬ ((i : Int) = (n : Int)) := by omega
  have hcp1 : ∀ ty dc sc, (Builtin.copy_ #[40, 40] ty #[.slice (some ⟨g, i + 1, none⟩) (n - i) dc, .slice (some ⟨g, i, none⟩) (n + 1 - i) sc]).run Tryz.prog w.drew = .ok (goInt (cs.drop i).length) (w.drew.setCells g (i + 1) (cs.drop i)) := fun ty dc sc =>
    run_copy_cells w.drew _ _ ty 9 g (i + 1) (n - i) dc ⟨g, i, none⟩ (n + 1 - i) sc (cs.drop i) hu hsize (by rw [hdl]; simp only [Nat.min_def]; split <;> omega)
      (fun j v hj => by rw [Addr.add_lit]; exact hcs (i + j) v (by rwa [List.getElem?_drop] at hj))
      (fun j hj => hsp _ (by omega)) (fun j hj => hfz _) (fun v hv => h1c v (List.mem_of_mem_drop hv))
  obtain ⟨W1, hW1⟩ : ∃ W1, W1 = w.drew.setCells g (i + 1) (cs.drop i) := ⟨_, rfl⟩
  have hB1 : Blk W1 g 9 (wr cur (i + 1) (cs.drop i)) := by rw [hW1]; exact heap_setCells _ _ _ _ hcur
  have hX1 : Blk W1 vb 9 #[x] := by rw [hW1]; exact hblk.only (only_setCells (F := (· = g)) (.inl rfl) (cs.drop i) (i + 1) w.drew (Only.refl (· = g) w).drew) hvb
  have hcp2 : ∀ (W : World), (∀ x, W.cell? x = W1.cell? x) → (∀ x, W.frozen? x = W1.frozen? x) → ∀ ty dc, (Builtin.copy_ #[40, 40] ty #[.slice (some ⟨g, i, none⟩) (n + 1 - i) dc, .slice (some ⟨vb, 0, none⟩) 1 1]).run Tryz.prog W = .ok (goInt 1) (W.setCells g i [x]) := fun W hWc hWf ty dc =>
    run_copy_cells W _ _ ty 9 g i (n + 1 - i) dc ⟨vb, 0, none⟩ 1 1 [x] hu hsize (by simp only [Nat.min_def, List.length_singleton]; split <;> omega)
      (fun j v hj => by
        cases j with
        | zero => simp at hj; subst hj; rw [Addr.add_lit, hWc]; exact hX1.cell 0
        | succ j => simp at hj)
      (fun j hj => by rw [hWc, hB1.cell, Array.getElem?_eq_getElem (by rw [wr_size]; simp at hj; omega)]; rfl) (fun j hj => by rw [hWf]; exact hB1.frozen _) (fun u hu => by rw [List.mem_singleton] at hu; subst hu; exact hx1)
  rw [← hW1] at hcp1
  clear hcs hsp hfz hsa hsb hcur hblk htk h1c hx1 hB1 hX1 hsz hcl hz1 hsize
  have HCP2 := hid hcp2
  clear hcp2
  have HDL := hid hdl; clear hdl
  have HW1 := hid hW1; clear hW1
  have mixed : Tryz.prog.follows .mixedOrders = true := by kernel_rfl
  go_enter Tryz.func81, Tryz.ntmps81
  go_wp2_with (simp only [hov])
  go_region_law (refine step_copy_isStr rfl _ _ 40 40 rfl _ _ (by simp [Act.eval, Act.put]) (by simp [Act.eval, Act.put]) (hcp1 _ _ _) ?_)
  go_wp2_with (refine wpList_copy_isStr _ rfl (.tmp 80) (.tmp 81) 40 40 rfl _ _ rfl rfl (HCP2.out _ (fun _ => rfl) (fun _ => rfl) _ _) ?_)
  go_ret
  exact ⟨rfl, by rw [HW1.out]⟩

set_option maxHeartbeats 4000000 in
set_option maxRecDepth 100000 in
/-- ahead of the end, where there is no room -/
theorem insGrowStr (g n c i vb : Nat) (cs : List Value) (x : Value) (w : World) (hi : i < n) (hnc : n ≤ c) (hroom : c < n + 1) (hn : n ≤ 1048576)
    (cur : Array Value) (hcur : Blk w g 9 cur) (hsz : cur.size = c) (htk : cur.toList.take n = cs) (h1c : ∀ v ∈ cs, v.oneCell' = true) (hx1 : x.oneCell' = true) (hblk : Blk w vb 9 #[x]) :
    Calls Tryz.prog 81 #[.slice (some ⟨g, 0, none⟩) n c, .int .i64 i, .slice (some ⟨vb, 0, none⟩) 1 1] w fun e w' =>
      ∃ v', e = .returned v' ∧ w'.ownsRow 0 9 1 v' (n + 1) (cs.take i ++ x :: cs.drop i) ∧ Below w.heap.size w w' ∧ v'.ownBlock = some w.heap.size := by
  have hcl : cs.length = n := by rw [← htk, List.length_take]; simp; omega
  have hcs : ∀ j v, cs[j]? = some v → w.cell? ⟨g, j, none⟩ = some v := fun j v hj => by
    rw [hcur.cell j, ← hj, ← htk, List.getElem?_take, if_pos (by have := (List.getElem?_eq_some_iff.1 hj).1; omega)]; simp
  have hu := Tryz.underlying40
  obtain ⟨i0, hi0, hz0, hzs, hzb⟩ := info_parts Tryz.infoStr
  have hsize : (Tryz.prog.info? 9).map (·.size) = some 1 := by rw [hi0]; simp [hzs]
  have hdl : (cs.drop i).length = n - i := by rw [List.length_drop, hcl]
  have hold : (Builtin.firstCells i0.size i (.slice (some ⟨g, 0, none⟩) i c)).run Tryz.prog w.drew = .ok (cs.take i).toArray w.drew := by
    rw [hzs]
    exact run_firstCells_some w.drew 1 i ⟨g, 0, none⟩ i c (cs.take i) (by rw [List.length_take]; omega) (fun j v hj => by
      rw [Addr.add_lit, Nat.zero_add]
      rw [List.getElem?_take] at hj
      split at hj
      · exact hcs j v hj
      · cases hj)
  obtain ⟨G, hG⟩ : ∃ G, G = grownCap w (n + 1) c 9 := ⟨_, rfl⟩
  obtain ⟨ROW, hROW⟩ : ∃ ROW : Array Value, ROW = (cs.take i).toArray ++ Builtin.zeroCells (Value.cells (.string ⟨#[]⟩)) (n + 1 - i) ++ Builtin.zeroCells (Value.cells (.string ⟨#[]⟩)) (G - (n + 1)) := ⟨_, rfl⟩
  have hkk : (n : Int) + 1 - (i : Int) = ((n + 1 - i : Nat) : Int) := by omega
  have hik : i + (n + 1 - i) = n + 1 := by omega
  have hrz : ∀ ty, (Builtin.append_ #[40, 3] ty #[.slice (some ⟨g, 0, none⟩) i c, .int .i64 ((n : Int) + 1 - (i : Int))]).run Tryz.prog w =
      .ok (.slice (some ⟨w.heap.size, 0, none⟩) (n + 1) G) (w.drew.alloc (.cells ROW 9)) := fun ty => by
    have h := Lib.run_append_grow_zeros w 40 3 ty 9 i0 _ .i64 .i64 hu Tryz.underlying3 hi0 hz0 (some ⟨g, 0, none⟩) i c (cs.take i) hold (n + 1 - i) (by omega) (by omega) (by omega) (by omega) (by rw [hzb]; omega) (by rw [hzb, hik]; exact growslice_fits hroom (by omega))
    rw [hik] at h
    rw [hkk, hROW, hG]
    exact h
  have hGn : n + 1 ≤ G := by rw [hG]; exact grownCap_ge w _ _ _
  have hG63 : G ≤ 9223372036854775807 := by
    have := grownCap_le_maxLen w (n + 1) c 9 (by unfold maxLen; omega)
    rw [← hG] at this
    unfold maxLen at this
    omega
  have hRs : ROW.size = G := by
    rw [hROW]
    simp [Builtin.zeroCells, Value.cells]
    omega
  have hRt : ROW.toList.take i = cs.take i := by
    rw [hROW, Array.toList_append, Array.toList_append, List.append_assoc, List.take_append_of_le_length (by simp; omega)]
    show List.take i (cs.take i) = _
    rw [List.take_take, Nat.min_self]
  have hgl := hcur.lt
  have hvl := hblk.lt
  obtain ⟨W1, hW1⟩ : ∃ W1, W1 = w.drew.alloc (.cells ROW 9) := ⟨_, rfl⟩
  have hN1 : Blk W1 w.heap.size 9 ROW := by rw [hW1]; exact Blk.new w.drew _ _
  have hC1 : Blk W1 g 9 cur := by rw [hW1]; exact hcur.drew.alloc _
  have hV1 : Blk W1 vb 9 #[x] := by rw [hW1]; exact hblk.drew.alloc _
  have hb1 : Below w.heap.size w W1 := by rw [hW1]; exact (Below.refl _ _).drew.alloc (Nat.le_refl _) _
  have hcpA : ∀ (W : World), (∀ x, W.cell? x = W1.cell? x) → (∀ x, W.frozen? x = W1.frozen? x) → ∀ ty dc, (Builtin.copy_ #[40, 40] ty #[.slice (some ⟨w.heap.size, i, none⟩) (n + 1 - i) dc, .slice (some ⟨vb, 0, none⟩) 1 1]).run Tryz.prog W = .ok (goInt 1) (W.setCells w.heap.size i [x]) := fun W hWc hWf ty dc =>
    run_copy_cells W _ _ ty 9 w.heap.size i (n + 1 - i) dc ⟨vb, 0, none⟩ 1 1 [x] hu hsize (by simp only [Nat.min_def, List.length_singleton]; split <;> omega)
      (fun j v hj => by
        cases j with
        | zero => simp at hj; subst hj; rw [Addr.add_lit, hWc]; exact hV1.cell 0
        | succ j => simp at hj)
      (fun j hj => by rw [hWc, hN1.cell, Array.getElem?_eq_getElem (by simp at hj; omega)]; rfl) (fun j hj => by rw [hWf]; exact hN1.frozen _) (fun u hu => by rw [List.mem_singleton] at hu; subst hu; exact hx1)
  have hN2 : Blk (W1.setCells w.heap.size i [x]) w.heap.size 9 (wr ROW i [x]) := heap_setCells _ _ _ _ hN1
  have hO2 : Only (· = w.heap.size) W1 (W1.setCells w.heap.size i [x]) := only_setCells (F := (· = w.heap.size)) (.inl rfl) _ _ _ (Only.refl _ _)
  have hC2 : Blk (W1.setCells w.heap.size i [x]) g 9 cur := hC1.only hO2 (by omega)
  have hcpB : ∀ (W : World), (∀ y, W.cell? y = (W1.setCells w.heap.size i [x]).cell? y) → (∀ y, W.frozen? y = (W1.setCells w.heap.size i [x]).frozen? y) → ∀ ty dc sc, (Builtin.copy_ #[40, 40] ty #[.slice (some ⟨w.heap.size, i + 1, none⟩) (n - i) dc, .slice (some ⟨g, i, none⟩) (n - i) sc]).run Tryz.prog W = .ok (goInt (cs.drop i).length) (W.setCells w.heap.size (i + 1) (cs.drop i)) := fun W hWc hWf ty dc sc =>
    run_copy_cells W _ _ ty 9 w.heap.size (i + 1) (n - i) dc ⟨g, i, none⟩ (n - i) sc (cs.drop i) hu hsize (by rw [hdl]; simp only [Nat.min_def]; split <;> omega)
      (fun j v hj => by
        rw [Addr.add_lit, hWc, hC2.cell]
        rw [List.getElem?_drop] at hj
        rw [← hj, ← htk, List.getElem?_take, if_pos (by have := (List.getElem?_eq_some_iff.1 hj).1; omega)]; simp)
      (fun j hj => by rw [hWc, hN2.cell, Array.getElem?_eq_getElem (by rw [wr_size]; omega)]; rfl)
      (fun j hj => by rw [hWf]; exact hN2.frozen _) (fun v hv => h1c v (List.mem_of_mem_drop hv))
  have hGi : ¬ (G = i) := by omega
  have hGim : ¬ (G = i + 1) := by omega
  have hci : ¬ (c = i) := by omega
  have hw1 : IntKind.i64.wrap ((i : Int) + 1) = (i : Int) + 1 := by rw [IntKind.wrap_i64]; omega
  have hb1' : (0 : Int) ≤ (i : Int) + 1 := by omega
  have hin : i ≤ n := by omega
  have htn : ((i : Int) + 1).toNat = i + 1 := by omega
  have hb3 : (i : Int) ≤ (n : Int) := by omega
  have hz2 : ¬ ((i : Int) = (n : Int)) := by omega
  have hz3 : (c : Int) < (n : Int) + 1 := by omega
  have hfin : (∃ v', (Value.slice (some ⟨w.heap.size, 0, none⟩) (n + 1) G) = v' ∧ ((((w.alloc (.cells ROW 9)).drew.setCells w.heap.size i [x]).drew).setCells w.heap.size (i + 1) (cs.drop i)).ownsRow 0 9 1 v' (n + 1) (cs.take i ++ x :: cs.drop i) ∧ Below w.heap.size w ((((w.alloc (.cells ROW 9)).drew.setCells w.heap.size i [x]).drew).setCells w.heap.size (i + 1) (cs.drop i)) ∧ v'.ownBlock = some w.heap.size) := by
    have a1 : Blk ((w.alloc (.cells ROW 9)).drew) w.heap.size 9 ROW := Blk.new w _ _
    have a2 : Blk (((w.alloc (.cells ROW 9)).drew.setCells w.heap.size i [x]).drew) w.heap.size 9 (wr ROW i [x]) := heap_setCells _ _ _ _ a1
    have a3 : Blk ((((w.alloc (.cells ROW 9)).drew.setCells w.heap.size i [x]).drew).setCells w.heap.size (i + 1) (cs.drop i)) w.heap.size 9 (wr (wr ROW i [x]) (i + 1) (cs.drop i)) := heap_setCells _ _ _ _ a2
    have o1 : Only NoF w ((w.alloc (.cells ROW 9)).drew) := ((Only.refl NoF w).alloc _).drew
    have o2 : Only NoF w ((((w.alloc (.cells ROW 9)).drew.setCells w.heap.size i [x]).drew).setCells w.heap.size (i + 1) (cs.drop i)) :=
      only_setCells (.inr (Nat.le_refl _)) _ _ _ (only_setCells (.inr (Nat.le_refl _)) _ _ _ o1).drew
    refine ⟨_, rfl, ⟨by simp; omega, .inr ⟨w.heap.size, G, _, rfl, Nat.zero_le _, a3, hGn, by unfold maxLen; omega, by rw [wr_size, wr_size, hRs]; simp, ?_⟩⟩, o2.below0, rfl⟩
    rw [Nat.mul_one]
    exact ins_list2Str x (by omega) hcl hRt hi
  have HFIN := hid hfin
  have HA := hid hcpA; have HB := hid hcpB; have HE := hid hW1
  have hE1 : Hid (∀ x, ((w.alloc (.cells ROW 9)).drew).cell? x = W1.cell? x) := fun x => by rw [hW1]; rfl
  have hE2 : Hid (∀ x, ((w.alloc (.cells ROW 9)).drew).frozen? x = W1.frozen? x) := fun x => by rw [hW1]; rfl
  have hF1 : Hid (∀ y, (((w.alloc (.cells ROW 9)).drew.setCells w.heap.size i [x]).drew).cell? y = (W1.setCells w.heap.size i [x]).cell? y) := fun y => by rw [hW1]; rfl
  have hF2 : Hid (∀ y, (((w.alloc (.cells ROW 9)).drew.setCells w.heap.size i [x]).drew).frozen? y = (W1.setCells w.heap.size i [x]).frozen? y) := fun y => by rw [hW1]; rfl
  have HZ := hid hrz
  clear hfin hcpA hcpB hrz hW1 hN1 hC1 hV1 hb1 hN2 hO2 hC2 hRt hRs hROW hG hold hcs hcur htk h1c hx1 hblk hsz hcl hkk hik hi0 hz0 hzs hzb hsize hdl
  have mixed : Tryz.prog.follows .mixedOrders = true := by kernel_rfl
  go_enter Tryz.func81, Tryz.ntmps81
  go_wp2_with (first
    | (at_builtin; refine Lib.wpList_append_run _ rfl _ _ _ _ rfl _ _ rfl rfl _ _ (HZ.out _) ?_)
    | (refine wpList_copy_isStr _ rfl (.tmp 43) (.tmp 44) 40 40 rfl _ _ rfl rfl (HA.out _ hE1.out hE2.out _ _) ?_))
  go_region_law (refine step_copy_isStr rfl _ _ 40 40 rfl (.slice (some ⟨w.heap.size, i + 1, none⟩) (n - i) (G - (i + 1))) (.slice (some ⟨g, i, none⟩) (n - i) (c - i)) (by simp [Act.eval, Act.put]) (by simp [Act.eval, Act.put]) (HB.out _ hF1.out hF2.out _ _ _) ?_)
  go_wp2
  go_ret
  obtain ⟨v', h1, h2⟩ := HFIN.out
  exact ⟨v', congrArg Ending.returned h1, h2⟩

/-- one thing more at a place -/
theorem insStr (v : Value) (n i : Nat) (xs : List Value) (x : Value) (vb : Nat) (w : World) (hown : w.ownsRow 0 9 1 v n xs) (h1 : ∀ u ∈ xs, u.oneCell' = true) (hx1 : x.oneCell' = true) (hi : i ≤ n) (hn : n ≤ 1048576) (hblk : Blk w vb 9 #[x]) (hne : v.ownBlock ≠ some vb) :
  Calls Tryz.prog 81 #[v, .int .i64 i, .slice (some ⟨vb, 0, none⟩) 1 1] w fun e w' => ∃ v', e = .returned v' ∧ w'.ownsRow 0 9 1 v' (n + 1) (xs.take i ++ x :: xs.drop i) ∧ w.grownBy w' v.ownBlock ∧ (v'.ownBlock = v.ownBlock ∨ v'.ownBlock = some w.heap.size) := by
 have hxl : xs.length = n := by have := hown.1; omega
 by_cases hin : i = n
 ·subst hin
  rw [List.take_of_length_le (by omega), List.drop_eq_nil_of_le (by omega)]
  exact insEndStr v i xs x vb w hown hx1 hn hblk
 ·rcases hown.2 with ⟨rfl, rfl⟩ | ⟨g, cap, cur, rfl, hb, hg, hnc, hcm, hsz, htk⟩
  ·omega
  ·unfold maxLen at hcm
   rw [Nat.mul_one] at hsz htk
   by_cases hr : n + 1 ≤ cap
   ·refine (insRoomStr g n cap i vb xs x w (by omega) hr hcm hn (fun e => hne (by rw [e]; rfl)) cur hg hsz htk h1 hx1 hblk).mono ?_
    rintro e w' ⟨rfl, rfl⟩
    refine ⟨_, rfl, ⟨by simp; omega, .inr ⟨g, cap, _, rfl, Nat.zero_le _, heap_setCells _ _ _ _ (heap_setCells _ _ w.drew _ hg), hr, by unfold maxLen; omega, by rw [wr_size, wr_size, hsz]; omega, ?_⟩⟩, ?_, .inl rfl⟩
    ·rw [Nat.mul_one]; exact ins_listStr x (by omega) htk (by omega)
    ·exact grownBy_of_only (only_setCells (F := fun k => some g = some k) (.inl rfl) _ _ _ (only_setCells (F := fun k => some g = some k) (.inl rfl) _ _ _ (Only.refl _ w).drew))
   ·refine (insGrowStr g n cap i vb xs x w (by omega) hnc (by omega) hn cur hg hsz htk h1 hx1 hblk).mono ?_
    rintro e w' ⟨v', rfl, h2, hb2, h3⟩
    exact ⟨v', rfl, h2, ⟨hb2.os, hb2.tape, hb2.output, hb2.size, fun k hk _ => hb2.block k hk⟩, .inr h3⟩
end Go.Proofs.YtmpjdoiogbbcoaaGreatDoor
/- slices.Delete of one thing, slices.Clone, over a slice of the program's own: Str. -/
namespace Go.Proofs.YtmpjdoiogbbcoaaGreatDoor
open Go.RowKit
set_option linter.unusedVariables false
set_option linter.unusedSimpArgs false

theorem own_noneStr (w : World) : (w.alloc (.cells #[] 9)).ownsRow w.heap.size 9 1 (.slice (some ⟨w.heap.size, 0, none⟩) 0 0) 0 [] :=
 ⟨rfl, .inr ⟨w.heap.size, 0, #[], rfl, Nat.le_refl _, by show (w.heap.push _)[w.heap.size]? = _; simp, Nat.le_refl _, by unfold maxLen; omega, rfl, rfl⟩⟩
set_option maxHeartbeats 4000000 in
set_option maxRecDepth 100000 in
/-- a copy -/
theorem cloneStr (v : Value) (n : Nat) (xs : List Value) (w : World) (hown : w.ownsRow 0 9 1 v n xs) (h1 : ∀ u ∈ xs, u.oneCell' = true) (hn : n ≤ 1048576) :
    Calls Tryz.prog 47 #[v] w fun e w' => ∃ v', e = .returned v' ∧ w'.ownsRow w.heap.size 9 1 v' n xs ∧ Below w.heap.size w w' := by
  obtain ⟨i0, hi0, hz0, hz1, hz2⟩ := info_parts Tryz.infoStr
  have hxl : xs.length = n := by have := hown.1; omega
  rcases hown.2 with ⟨rfl, rfl⟩ | ⟨g, cap, cur, rfl, hb, hg, hnc, hcm, hsz, htk⟩
  · obtain rfl : xs = [] := List.length_eq_zero_iff.1 hxl
    clear hown h1 hxl
    have hq : ∀ W : World, (binOp .eql 40 (.slice none 0 0) (.slice none 0 0)).run Tryz.prog W = .ok (.bool true) W := fun W => Go.run_eql_slice_nil W 40 9 none 0 0 Tryz.underlying40
    go_enter Tryz.func47, Tryz.ntmps47
    go_wp2
    go_ret
    exact ⟨_, rfl, World.ownsRow_nil _ _ _ _, Below.refl _ _⟩
  · unfold maxLen at hcm
    have hcells := hown.cells (g := g) rfl
    have hgl := (Array.getElem?_eq_some_iff.1 hg).1
    have HC : Hid (∀ j u, xs[j]? = some u → (w.alloc (.cells #[] 9)).cell? ((⟨g, 0, none⟩ : Addr).add j) = some u) := fun j u hu => by
      rw [World.cell?_alloc_lt w _ _ (by rw [Addr.add_lit]; exact hgl)]
      exact hcells j u hu
    have H1 := hid h1
    have HO := own_noneStr w
    have HXL : Hid (xs.length = n * 1) := by unfold Hid; omega
    have HN : Hid (0 + n = n) := by unfold Hid; omega
    clear hown h1 hxl hb hg hsz htk hcells
    have hq : ∀ W : World, (binOp .eql 40 (.slice (some ⟨g, 0, none⟩) n cap) (.slice none 0 0)).run Tryz.prog W = .ok (.bool false) W := fun W => Go.run_eql_slice_nil W 40 9 (some ⟨g, 0, none⟩) n cap Tryz.underlying40
    go_enter Tryz.func47, Tryz.ntmps47
    go_wp2_with (at_builtin; refine wpList_append_own_at _ rfl (.tmp 5) (.tmp 6) 40 rfl w.heap.size 9 i0 (.string ⟨#[]⟩) 1 16 Tryz.underlying40 hi0 hz0 hz1 hz2 rfl (by decide) _ _ _ rfl HO _ n cap xs rfl HXL.out HC.out H1.out (by unfold maxLen; omega) (by omega) (by simp) ?_; intro v' w3 hown' hgrow _ hbk)
    go_ret
    refine ⟨_, rfl, ?_, ?_⟩
    · rw [HN.out] at hown'; exact hown'
    · exact ((Below.refl _ w).alloc (Nat.le_refl _) _).grown hgrow (by simp) (fun k hk => by cases hk; exact Nat.le_refl _)
end Go.Proofs.YtmpjdoiogbbcoaaGreatDoor
/- A region that draws its order, in a round of a loop over an iterator: what holds of it outside a round holds in one. No program. -/
namespace Go.Proofs.YtmpjdoiogbbcoaaGreatDoor
open Go.RowKit
set_option linter.unusedVariables false

abbrev inR (l : Nat) : Fence := Fence.wide.inRound l
theorem callsIn_inR {l n : Nat} {P : Program} {f : FuncId} {args : Array Value} {w : World} {R : Ending → World → Prop} (h : Calls P f args w R) : CallsIn (inR l) n P f args w R := CallsIn.inRound l (callsIn_wide.2 h)
def noDefer (ops : Array Oper) : Bool := ops.toList.all fun o => match o.op with | .defer _ => false | _ => true
theorem noDefer_spec {ops : Array Oper} (h : noDefer ops = true) {i : Nat} {o : Oper} (hi : ops[i]? = some o) : ∀ c, o.op ≠ .defer c := by
 intro c hc
 unfold noDefer at h
 rw [List.all_eq_true] at h
 have hm : o ∈ ops.toList := by
  rw [← Array.getElem?_toList] at hi
  exact List.mem_of_getElem? hi
 have := h o hm
 rw [hc] at this
 cases this
section
variable {l n : Nat} {P : Program} {ops : Array Oper} {md : Region.Mode} {Q : Exit → Act → World → Prop}
theorem rowsIn_inR {row : String} {args : Array Value} {w : World} {R : Value → World → Prop} (h : Rows P row args w R) : RowsIn (inR l) n P row args w R := by
 intro c cs _
 obtain ⟨v, w', hR, hs⟩ := h c cs
 exact ⟨v, w', hR, stepsIn_wide.2 hs⟩
theorem uponIn_of {o : Oper} {a : Act} {K K' : Act → World → Prop} (hK : ∀ a w, K a w → K' a w) : ∀ r, o.upon P a K Q r → o.uponIn (inR l) n P a K' Q r
 | .ok (.value v) w', h => hK _ _ h
 | .ok .skip w', h => hK _ _ h
 | .ok (.defer d) w', h => hK _ _ h
 | .ok (.enter f args) w', h => ⟨fun e => (by cases e), callsIn_inR (Calls.mono h (fun e w'' he => by cases e <;> first | exact hK _ _ he | exact he))⟩
 | .ok (.row row args) w', h => ⟨fun e => (by cases e), RowsIn.mono (rowsIn_inR h) (fun v w'' he => hK _ _ he)⟩
 | .ok (.round _ _ _ _ _) _, h => h.elim
 | .halt (.panic v) w', h => h
 | .halt .goexit _, h => h.elim
theorem operIn_of {o : Oper} {a : Act} {w : World} {K K' : Act → World → Prop} (hd : ∀ c, o.op ≠ .defer c) (hK : ∀ a w, K a w → K' a w) (h : o.wp P a w K Q) : o.wpIn (inR l) n P a w K' Q := by
 refine ⟨fun _ _ => trivial, ?_⟩
 show o.uponIn (inR l) n P a K' Q ((o.semAt (some l) a.eval).run P w)
 rw [Oper.semAt_eq _ _ _ hd]
 exact uponIn_of hK _ h
theorem opIn_of (hno : ¬ LetsOut Q) (hd : noDefer ops = true) {i : Nat} {a : Act} {w : World} {K K' : Act → World → Prop} (hK : ∀ a w, K a w → K' a w) (h : wpOp P ops Q i K a w) : wpOpIn (inR l) n P ops Q i K' a w := by
 unfold wpOp at h
 unfold wpOpIn
 split at h
 ·rename_i e; rw [e]; exact hK _ _ h
 ·rename_i o e
  rw [e]
  split at h
  ·rename_i hw; simp only [hw, if_true]; exact operIn_of (noDefer_spec hd e) hK (h.resolve_right (fun e => hno e.2))
  ·rename_i hw; simp only [hw, if_false, Bool.false_eq_true]; exact ⟨fun _ _ => trivial, hK _ _ h⟩
theorem anyIn_of (hno : ¬ LetsOut Q) (hd : noDefer ops = true) : ∀ (fuel : Nat) (listed : Array Bool) (a : Act) (w : World), wpAny P md ops Q fuel listed a w → wpAnyIn (inR l) n P md ops Q fuel listed a w
 | 0, _, _, _, h => h
 | fuel + 1, _, _, _, h => ⟨h.1, fun i hi => opIn_of hno hd (fun a w => anyIn_of hno hd fuel _ a w) (h.2 i hi)⟩
theorem regionIn_of (hno : ¬ LetsOut Q) {id : Nat} {a : Act} {w : World} (hm : P.follows .mixedOrders = true) (hd : noDefer ops = true)
  (h : wpAny P .any ops Q ops.size (Array.replicate ops.size false) a { w with drawn := w.drawn + 1 }) : (Code.region id ops true).wpIn (inR l) n P Q a w :=
 wpIn_region_any hm (anyIn_of hno hd _ _ _ _ h)
/-- it reads, and calls what leaves the world alone -/
theorem regionIn_quiet (hno : ¬ LetsOut Q) {C : World → Prop} {id : Nat} {a : Act} {w : World} {L : List Oper} (hm : P.follows .mixedOrders = true) (hd : noDefer L.toArray = true) (hB : Region.lexB .any L.toArray = true) (hC : C { w with drawn := w.drawn + 1 })
  (h : wpQuiet P L.toArray C (fun a' => ∀ w', C w' → Q .normal a' w') L a) : (Code.region id L.toArray true).wpIn (inR l) n P Q a w := by
 refine regionIn_of hno hm hd ?_
 simp only [Region.lexB, Bool.and_eq_true] at hB
 refine wpAny_of_quiet (Q := fun a' => ∀ w', C w' → Q .normal a' w') (fun _ w' hw' h => h w' hw') _ _ _ _ hC ?_
 have := wpAnyQ_lex (C := C) (md := .any) hB.1 L 0 (Array.replicate L.toArray.size false) a (by simp) (by simpa using hB.2) h
 simpa using this
end
end Go.Proofs.YtmpjdoiogbbcoaaGreatDoor
/- The shelf's map of facts, gone over: clone, Keys, All. -/
namespace Go.Proofs.YtmpjdoiogbbcoaaGreatDoor
open Go.RowKit Book Pap
attribute [local go_sem] Oper.semAt_some
set_option linter.unusedVariables false
set_option linter.unusedSimpArgs false

/-- a fact in memory -/
structure Fc where
 id : ByteArray
 h : Int
 pa : Option Addr
 pn : Nat
 pc : Nat
def noFc : Fc := ⟨⟨#[]⟩, 0, none, 0, 0⟩
def fcs (f : Fc) : List Value := [.string f.id, .int .i64 f.h, .slice f.pa f.pn f.pc]
def fvals (l : List Fc) : List Value := l.flatMap fcs
theorem fvals_append (a b : List Fc) : fvals (a ++ b) = fvals a ++ fvals b := List.flatMap_append
theorem fvals_length : ∀ l : List Fc, (fvals l).length = l.length * 3
 | [] => rfl
 | f :: r => by
  show (fcs f ++ fvals r).length = _
  rw [List.length_append, fvals_length r, List.length_cons]
  show 3 + _ = _; omega
theorem fvals_one (l : List Fc) : ∀ u ∈ fvals l, u.oneCell' = true := by
 intro u hu
 obtain ⟨f, _, hf⟩ := List.mem_flatMap.1 hu
 unfold fcs at hf
 simp only [List.mem_cons, List.not_mem_nil, or_false] at hf
 rcases hf with rfl | rfl | rfl <;> rfl
theorem fvals_get : ∀ (l : List Fc) (k j : Nat), k < l.length → j < 3 → (fvals l)[k * 3 + j]? = (fcs (l.getD k noFc))[j]?
 | [], k, j, h, _ => by cases h
 | f :: r, 0, j, _, hj => by
  show (fcs f ++ fvals r)[0 * 3 + j]? = _
  rw [Nat.zero_mul, Nat.zero_add, List.getElem?_append_left (by exact hj)]; rfl
 | f :: r, k + 1, j, h, hj => by
  show (fcs f ++ fvals r)[(k + 1) * 3 + j]? = _
  rw [List.getElem?_append_right (by show 3 ≤ _; omega)]
  have e : (k + 1) * 3 + j - (fcs f).length = k * 3 + j := by show _ - 3 = _; omega
  rw [e, fvals_get r k j (by simpa using h) hj]; rfl
theorem own_noneF (w : World) : (w.alloc (.cells #[] 66)).ownsRow w.heap.size 66 3 (.slice (some ⟨w.heap.size, 0, none⟩) 0 0) 0 [] :=
 ⟨rfl, .inr ⟨w.heap.size, 0, #[], rfl, Nat.le_refl _, by show (w.heap.push _)[w.heap.size]? = _; simp, Nat.le_refl _, by unfold maxLen; omega, rfl, rfl⟩⟩
set_option maxHeartbeats 4000000 in
set_option maxRecDepth 100000 in
/-- a copy of facts -/
theorem cloneF (v : Value) (fs : List Fc) (w : World) (hown : w.ownsRow 0 66 3 v fs.length (fvals fs)) (hn : fs.length ≤ 1048576) :
    Calls Tryz.prog 84 #[v] w fun e w' => ∃ v', e = .returned v' ∧ w'.ownsRow w.heap.size 66 3 v' fs.length (fvals fs) ∧ Below w.heap.size w w' := by
  obtain ⟨i0, hi0, hz0, hz1, hz2⟩ := info_parts Tryz.infoFact
  obtain ⟨n, hnl⟩ : ∃ n, fs.length = n := ⟨_, rfl⟩
  have hxl : (fvals fs).length = n * 3 := by rw [fvals_length, hnl]
  rw [hnl] at hown hn ⊢
  have h1 := fvals_one fs
  obtain ⟨xs, hxs⟩ : ∃ xs, fvals fs = xs := ⟨_, rfl⟩
  rw [hxs] at hown hxl h1 ⊢
  rcases hown.2 with ⟨rfl, rfl⟩ | ⟨g, cap, cur, rfl, hb, hg, hnc, hcm, hsz, htk⟩
  · obtain rfl : xs = [] := List.length_eq_zero_iff.1 (by omega)
    clear hown h1 hxl hxs hnl
    have hq : ∀ W : World, (binOp .eql 35 (.slice none 0 0) (.slice none 0 0)).run Tryz.prog W = .ok (.bool true) W := fun W => Go.run_eql_slice_nil W 35 66 none 0 0 Tryz.underlying35
    go_enter Tryz.func84, Tryz.ntmps84
    go_wp2
    go_ret
    exact ⟨_, rfl, World.ownsRow_nil _ _ _ _, Below.refl _ _⟩
  · unfold maxLen at hcm
    have hcells := hown.cells (g := g) rfl
    have hgl := (Array.getElem?_eq_some_iff.1 hg).1
    have HC : Hid (∀ j u, xs[j]? = some u → (w.alloc (.cells #[] 66)).cell? ((⟨g, 0, none⟩ : Addr).add j) = some u) := fun j u hu => by
      rw [World.cell?_alloc_lt w _ _ (by rw [Addr.add_lit]; exact hgl)]
      exact hcells j u hu
    have H1 := hid h1
    have HO := own_noneF w
    have HXL : Hid (xs.length = n * 3) := hxl
    have HN : Hid (0 + n = n) := by unfold Hid; omega
    clear hown h1 hxl hb hg hsz htk hcells hxs hnl
    have hq : ∀ W : World, (binOp .eql 35 (.slice (some ⟨g, 0, none⟩) n cap) (.slice none 0 0)).run Tryz.prog W = .ok (.bool false) W := fun W => Go.run_eql_slice_nil W 35 66 (some ⟨g, 0, none⟩) n cap Tryz.underlying35
    go_enter Tryz.func84, Tryz.ntmps84
    go_wp2_with (at_builtin; refine wpList_append_own_at _ rfl (.tmp 5) (.tmp 6) 35 rfl w.heap.size 66 i0 (.agg #[.string ⟨#[]⟩, .int .i64 0, .slice none 0 0]) 3 48 Tryz.underlying35 hi0 hz0 hz1 hz2 rfl (by decide) _ _ _ rfl HO _ n cap xs rfl HXL.out HC.out H1.out (by unfold maxLen; omega) (by omega) (by simp) ?_; intro v' w3 hown' hgrow _ hbk)
    go_ret
    refine ⟨_, rfl, ?_, ?_⟩
    · rw [HN.out] at hown'; exact hown'
    · exact ((Below.refl _ w).alloc (Nat.le_refl _) _).grown hgrow (by simp) (fun k hk => by cases hk; exact Nat.le_refl _)
/-- a map of facts in memory -/
def MapIsF (w : World) (m : Nat) (ks vs : Value) (l : List ByteArray) (fs : List Fc) : Prop :=
 Blk w m 160 #[ks, vs] ∧ w.ownsRow 0 9 1 ks l.length (svals l) ∧ w.ownsRow 0 66 3 vs fs.length (fvals fs) ∧ fs.length = l.length ∧ Rising l ∧ l.length ≤ 1000000
set_option maxHeartbeats 1000000 in
theorem keysF (m : Nat) (ks vs : Value) (l : List ByteArray) (fs : List Fc) (w : World) (h : MapIsF w m ks vs l fs) :
  Calls Tryz.prog 85 #[.pointer (some ⟨m, 0, none⟩)] w fun e w' => ∃ v, e = .returned v ∧ w'.ownsRow w.heap.size 9 1 v l.length (svals l) ∧ Below w.heap.size w w' := by
 obtain ⟨h1, h2, h3, h4, h5, h6⟩ := h
 have CC := hid (cloneStr ks l.length (svals l) w h2 (svals_one l) (by omega))
 obtain ⟨ka, kc, rfl, hS⟩ := own_strs h2 (by omega)
 have c0 := h1.cell 0
 simp at c0
 clear h1 h2 h3 h4 h5 hS
 go_enter Tryz.func85, Tryz.ntmps85
 go_wp2_with (go_at_call 47; refine CC.out.mono ?_; rintro e w1 ⟨v, rfl, h1, h2⟩)
 go_ret
 exact ⟨_, rfl, h1, h2⟩
theorem allF_any (q : Option Addr) (w : World) : Calls Tryz.prog 41 #[.pointer q] w fun e w' => e = .returned (.func (.func 83) #[] #[.pointer (some ⟨w.heap.size, 0, none⟩)]) ∧ w' = w.alloc (.cells #[.pointer q] 94) := by
 go_enter Tryz.func41, Tryz.ntmps41
 go_wp2
 go_ret
 exact ⟨rfl, rfl⟩
/-- what is handed to a round: the j-th name, the j-th fact -/
def encsF (l : List ByteArray) (fs : List Fc) (j : Fin l.length) : Array Value := #[.string (l.getD j.1 ByteArray.empty), .agg (fcs (fs.getD j.1 noFc)).toArray]
end Go.Proofs.YtmpjdoiogbbcoaaGreatDoor
/- The graver one of two errors: worse. -/
namespace Go.Proofs.YtmpjdoiogbbcoaaGreatDoor
open Go.RowKit Book Pap Ojt Sn
set_option linter.unusedVariables false
set_option linter.unusedSimpArgs false

def worseZ (a b : Int) : Int := if a = 4 ∨ b = 4 then 4 else if a = 22 ∨ b = 22 then 22 else if a = 21 ∨ b = 21 then 21 else 0
def errs : List Int := [4, 22, 21]
def worseL (a b : Int) : List Int → Int
 | [] => 0
 | e :: r => if a = e ∨ b = e then e else worseL a b r
set_option maxRecDepth 100000 in
set_option maxHeartbeats 2000000 in
theorem worse_any (a b : Int) (w : World) : Calls Tryz.prog 39 #[.int .i64 a, .int .i64 b] w fun e w' => e = .returned (.int .i64 (worseZ a b)) ∧ Below w.heap.size w w' := by
 have HB0 : Hid (Below w.heap.size w (w.alloc (.cells #[.int .i64 4, .int .i64 22, .int .i64 21] 26))) := (Below.refl _ _).alloc (Nat.le_refl _) _
 have HX0 : Hid (Blk (w.alloc (.cells #[.int .i64 4, .int .i64 22, .int .i64 21] 26)) w.heap.size 26 #[.int .i64 4, .int .i64 22, .int .i64 21]) := Blk.new w _ _
 go_enter Tryz.func39, Tryz.ntmps39
 go_upto_region 2 with fail
 generalize (w.alloc (.cells #[.int .i64 4, .int .i64 22, .int .i64 21] 26)) = w1 at HB0 HX0 ⊢
 go_loopw [9] (fun iv wr => ∃ k : Nat, k ≤ 3 ∧ iv = .int .i64 k ∧ w1 = wr ∧ Hid (worseZ a b = worseL a b (errs.drop k))) (fun iv _ => 3 - (intOf iv).toNat)
 case atStart => exact ⟨0, by omega, rfl, rfl, rfl⟩
 case round =>
  obtain ⟨k, hk, rfl, rfl, HW⟩ := hrel
  by_cases hlt : k < 3
  ·have ci : (k : Int) < 3 := by omega
   have ci0 : (0 : Int) ≤ (k : Int) := by omega
   obtain ⟨e, he⟩ : ∃ e, errs.getD k 0 = e := ⟨_, rfl⟩
   have q0 : w1.cell? ⟨w.heap.size, k, none⟩ = some (.int .i64 e) := by
    rw [Blk.cell HX0.out k]
    subst he
    rcases (by omega : k = 0 ∨ k = 1 ∨ k = 2) with rfl | rfl | rfl <;> rfl
   have HD : Hid (worseZ a b = if a = e ∨ b = e then e else worseL a b (errs.drop (k + 1))) := by
    show _ = _
    rw [HW.out]
    subst he
    rcases (by omega : k = 0 ∨ k = 1 ∨ k = 2) with rfl | rfl | rfl <;> rfl
   clear he HW
   by_cases ha : a = e
   ·have HR : Hid (worseZ a b = e) := by show _ = _; rw [HD.out, if_pos (.inl ha)]
    subst ha
    clear HD
    go_wp2_with fail
    go_ret
    rw [HR.out]
    exact ⟨rfl, HB0.out⟩
   ·have e1 : (a == e) = false := by simpa using ha
    by_cases hb : b = e
    ·have HR : Hid (worseZ a b = e) := by show _ = _; rw [HD.out, if_pos (.inr hb)]
     subst hb
     clear HD
     go_wp2_with fail
     go_ret
     rw [HR.out]
     exact ⟨rfl, HB0.out⟩
    ·have HR : Hid (worseZ a b = worseL a b (errs.drop (k + 1))) := by show _ = _; rw [HD.out, if_neg (by rintro (h | h); exact ha h; exact hb h)]
     have e2 : (b == e) = false := by simpa using hb
     clear HD
     go_wp2_with fail
     go_roundw
     case rel => first | exact ⟨k + 1, by omega, by go_num, by first | rfl | trivial, HR⟩ | ((repeat apply Exists.intro); exact ⟨⟨k + 1, by omega, by go_num, by first | rfl | trivial, HR⟩, rfl⟩)
     case measure => simp [intOf]; omega
  ·obtain rfl : k = 3 := by omega
   have HR : Hid (worseZ a b = 0) := HW.out
   go_wp2_with fail
   go_ret
   rw [HR.out]
   exact ⟨rfl, HB0.out⟩
end Go.Proofs.YtmpjdoiogbbcoaaGreatDoor
/- A commit without parents: its facts. -/
namespace Go.Proofs.YtmpjdoiogbbcoaaGreatDoor
open Go.RowKit Book Pap Ojt Sn Go.Deep
attribute [local go_sem] Oper.semAt_some
set_option linter.unusedVariables false
set_option linter.unusedSimpArgs false

def lenV : Value → Nat
 | .slice _ n _ => n
 | _ => 0
end Go.Proofs.YtmpjdoiogbbcoaaGreatDoor
/- More plain laws of layer 5: what lies in a folder begins with it and a slash; a list of paths, checked. -/
namespace Go.Proofs.YtmpjdoiogbbcoaaGreatDoor.Pap

theorem pieces_app : ∀ (f r : List UInt8), pieces (f ++ 47 :: r) = pieces f ++ pieces r
 | [], r => by rw [List.nil_append, pieces_slash]; rfl
 | c :: f, r => by
  by_cases hc : c = 47
  ·subst hc; rw [List.cons_append, pieces_slash, pieces_slash, pieces_app f r]; rfl
  ·obtain ⟨p, q, h1, h2⟩ := pieces_other (r := f ++ 47 :: r) hc
   obtain ⟨p', q', h3, h4⟩ := pieces_other (r := f) hc
   rw [List.cons_append, h2, h4]
   rw [pieces_app f r, h3] at h1
   cases h1; rfl
theorem joinL_app : ∀ (a b : List (List UInt8)), a ≠ [] → b ≠ [] → joinL (a ++ b) = joinL a ++ 47 :: joinL b
 | [], _, h, _ => absurd rfl h
 | [x], b, _, hb => by rw [List.singleton_append, joinL_cons x hb]; rfl
 | x :: y :: r, b, _, hb => by
  show x ++ 47 :: joinL (y :: r ++ b) = (x ++ 47 :: joinL (y :: r)) ++ 47 :: joinL b
  rw [joinL_app (y :: r) b (by simp) hb]; simp
theorem hasPrefix_pieces (f p : List UInt8) : Lib.hasPrefix p (f ++ [47]) = decide ((pieces f).length < (pieces p).length ∧ pieces f = (pieces p).take (pieces f).length) := by
 rw [Bool.eq_iff_iff, decide_eq_true_eq]
 unfold Lib.hasPrefix
 rw [List.isPrefixOf_iff_prefix]
 constructor
 ·rintro ⟨r, rfl⟩
  rw [List.append_assoc, List.singleton_append, pieces_app]
  have := List.length_pos_iff.2 (pieces_ne r)
  exact ⟨by rw [List.length_append]; omega, by rw [List.take_left]⟩
 ·rintro ⟨h1, h2⟩
  refine ⟨joinL ((pieces p).drop (pieces f).length), ?_⟩
  have h3 : (pieces p).drop (pieces f).length ≠ [] := by
   intro e; have := congrArg List.length e; simp at this; omega
  have h4 := joinL_app (pieces f) _ (pieces_ne f) h3
  rw [List.append_assoc, List.singleton_append]
  conv at h4 => rhs; rw [join_pieces]
  rw [← h4]
  conv => lhs; arg 1; lhs; rw [h2]
  rw [List.take_append_drop, join_pieces]
theorem within_eq {f p : List UInt8} (hf : splitE f = 0) (hp : splitE p = 0) : Lib.hasPrefix p (f ++ [47]) = withinR f p := by
 rw [hasPrefix_pieces]; unfold withinR; simp [hf, hp]
theorem within_no {f p : List UInt8} (h : splitE f ≠ 0 ∨ splitE p ≠ 0) : withinR f p = false := by
 unfold withinR; rw [decide_eq_false_iff_not]; rintro ⟨h1, h2, _⟩; rcases h with h | h <;> exact h ‹_›
/-! bytes that stand ahead -/
theorem bytesLess_cmp : ∀ a b : List UInt8, Op.bytesLess a b = decide (cmpL a b = -1)
 | [], [] => by simp [Op.bytesLess, cmpL]
 | _ :: _, [] => by simp [Op.bytesLess, cmpL]
 | [], _ :: _ => by simp [Op.bytesLess, cmpL]
 | a :: x, b :: y => by
  unfold Op.bytesLess cmpL
  rw [bytesLess_cmp x y]
  by_cases h1 : a.toNat < b.toNat
  ·rw [if_pos h1]; have : a < b := UInt8.lt_iff_toNat_lt.2 h1; simp [this]
  ·have hn : ¬ a < b := fun e => h1 (UInt8.lt_iff_toNat_lt.1 e)
   rw [if_neg h1]
   by_cases h2 : b.toNat < a.toNat
   ·have : ¬ a = b := fun e => by rw [e] at h2; omega
    rw [if_pos h2]; simp [hn, this]
   ·have : a = b := UInt8.toNat_inj.1 (by omega)
    rw [if_neg h2]; simp [this]

/-! a list, checked -/
def bad1 : Int → List (List UInt8) → Option (Int × Int)
 | _, [] => none
 | k, x :: r => if splitE x = 0 then bad1 (k + 1) r else some (k, splitE x)
def meets (p q : List UInt8) : Bool := withinR p q || withinR q p
def pass2 (ahead : List (List UInt8)) : Int → List (List UInt8) → Int × Int
 | _, [] => (0, 0)
 | k, x :: r => if x ∈ ahead then (k, 31) else if ahead.any (meets x) then (k, 32) else pass2 (ahead ++ [x]) (k + 1) r
def checkR (l : List (List UInt8)) : Int × Int := match bad1 0 l with
 | some r => r
 | none => pass2 [] 0 l
/-- no two are alike, none lies in another one -/
def apart (x y : List UInt8) : Prop := x ≠ y ∧ meets x y = false
theorem apart_symm {x y : List UInt8} (h : apart x y) : apart y x := ⟨fun e => h.1 e.symm, by have := h.2; unfold meets at this ⊢; rw [Bool.or_comm]; exact this⟩
theorem bad1_none : ∀ (k : Int) (l : List (List UInt8)), bad1 k l = none ↔ ∀ x ∈ l, splitE x = 0
 | _, [] => by simp [bad1]
 | k, x :: r => by
  unfold bad1
  by_cases h : splitE x = 0
  ·rw [if_pos h, bad1_none (k + 1) r]; simp [h]
  ·rw [if_neg h]; simp [h]
theorem bad1_some : ∀ (k : Int) (l : List (List UInt8)) (r : Int × Int), bad1 k l = some r → r.2 ≠ 0
 | _, [], _, h => by simp [bad1] at h
 | k, x :: l, r, h => by
  unfold bad1 at h
  by_cases hx : splitE x = 0
  ·rw [if_pos hx] at h; exact bad1_some _ l r h
  ·rw [if_neg hx] at h; cases h; exact hx
theorem pass2_ok : ∀ (l ahead : List (List UInt8)) (k : Int), (pass2 ahead k l).2 = 0 ↔ (l.Pairwise apart ∧ ∀ x ∈ l, ∀ y ∈ ahead, apart x y)
 | [], _, _ => by simp [pass2]
 | x :: l, ahead, k => by
  unfold pass2
  by_cases h1 : x ∈ ahead
  ·rw [if_pos h1]
   constructor
   ·intro h; cases h
   ·rintro ⟨_, h⟩; exact absurd rfl (h x (by simp) x h1).1
  ·rw [if_neg h1]
   by_cases h2 : ahead.any (meets x) = true
   ·rw [if_pos h2]
    constructor
    ·intro h; cases h
    ·rintro ⟨_, h⟩
     obtain ⟨y, hy, hm⟩ := List.any_eq_true.1 h2
     have := (h x (by simp) y hy).2
     rw [hm] at this; cases this
   ·rw [if_neg h2, pass2_ok l (ahead ++ [x]) (k + 1)]
    constructor
    ·rintro ⟨h3, h4⟩
     refine ⟨List.pairwise_cons.2 ⟨fun y hy => apart_symm (h4 y hy x (by simp)), h3⟩, ?_⟩
     intro y hy z hz
     rcases List.mem_cons.1 hy with rfl | hy
     ·refine ⟨fun e => h1 (e ▸ hz), ?_⟩
      cases hm : meets y z
      ·rfl
      ·exact absurd (List.any_eq_true.2 ⟨z, hz, hm⟩) h2
     ·exact h4 y hy z (by simp [hz])
    ·rintro ⟨h3, h4⟩
     obtain ⟨h5, h6⟩ := List.pairwise_cons.1 h3
     refine ⟨h6, fun y hy z hz => ?_⟩
     rcases List.mem_append.1 hz with hz | hz
     ·exact h4 y (by simp [hy]) z hz
     ·simp at hz; subst hz; exact apart_symm (h5 y hy)
theorem checkR_ok (l : List (List UInt8)) : (checkR l).2 = 0 ↔ (∀ x ∈ l, splitE x = 0) ∧ l.Pairwise apart := by
 unfold checkR
 cases h : bad1 0 l with
 | some r =>
  constructor
  ·intro e; exact absurd e (bad1_some 0 l r h)
  ·rintro ⟨e, _⟩; rw [(bad1_none 0 l).2 e] at h; cases h
 | none =>
  have := (bad1_none 0 l).1 h
  show (pass2 [] 0 l).2 = 0 ↔ _
  rw [pass2_ok]; exact ⟨fun h => ⟨this, h.1⟩, fun h => ⟨h.2, fun x _ y hy => absurd hy (by simp)⟩⟩
theorem bad1_step (l : List (List UInt8)) (k : Nat) (hk : k < l.length) : bad1 k (l.drop k) = if splitE l[k] = 0 then bad1 ((k + 1 : Nat) : Int) (l.drop (k + 1)) else some ((k : Int), splitE l[k]) := by
 rw [List.drop_eq_getElem_cons hk]; rfl
theorem pass2_step (l : List (List UInt8)) (k : Nat) (hk : k < l.length) : pass2 (l.take k) k (l.drop k) = if l[k] ∈ l.take k then ((k : Int), 31) else if (l.take k).any (meets l[k]) then ((k : Int), 32) else pass2 (l.take (k + 1)) ((k + 1 : Nat) : Int) (l.drop (k + 1)) := by
 rw [List.drop_eq_getElem_cons hk, List.take_add_one, List.getElem?_eq_getElem hk]; rfl
theorem cmpP_step (a b : List (List UInt8)) (k : Nat) (ha : k < a.length) (hb : k < b.length) : cmpP (a.drop k) (b.drop k) = if cmpL a[k] b[k] = 0 then cmpP (a.drop (k + 1)) (b.drop (k + 1)) else cmpL a[k] b[k] := by
 rw [List.drop_eq_getElem_cons ha, List.drop_eq_getElem_cons hb]; rfl
theorem cmpP_behind (a b : List (List UInt8)) (k : Nat) (ha : k < a.length) (hb : b.length ≤ k) : cmpP (a.drop k) (b.drop k) = 1 := by
 rw [List.drop_eq_getElem_cons ha, List.drop_eq_nil_of_le hb]; rfl
theorem cmpP_ends (a b : List (List UInt8)) (k : Nat) (ha : a.length ≤ k) : cmpP (a.drop k) (b.drop k) = if k < b.length then -1 else 0 := by
 rw [List.drop_eq_nil_of_le ha]
 split
 ·rename_i h; rw [List.drop_eq_getElem_cons h]; rfl
 ·rename_i h; rw [List.drop_eq_nil_of_le (by omega)]; rfl
end Go.Proofs.YtmpjdoiogbbcoaaGreatDoor.Pap
/- cmp.Compare and slices.Compare at texts; Compare and Within of the program. -/
namespace Go.Proofs.YtmpjdoiogbbcoaaGreatDoor
open Go.RowKit Pap
set_option linter.unusedVariables false

theorem isNaN_any (s : ByteArray) (w : World) : Calls Tryz.prog 194 #[.string s] w fun e w' => e = .returned (.bool false) ∧ w = w' := by
 go_enter Tryz.func194, Tryz.ntmps194
 go_wp2
 go_ret
 exact ⟨ret_bool (by simp), rfl⟩

set_option maxHeartbeats 1000000 in
theorem cmpS_any (a b : ByteArray) (w : World) : Calls Tryz.prog 136 #[.string a, .string b] w fun e w' => e = .returned (.int .i64 (cmpL a.data.toList b.data.toList)) ∧ w = w' := by
 have hl : Op.bytesLess a.toList b.toList = decide (cmpL a.data.toList b.data.toList = -1) := by rw [ba_toList, ba_toList]; exact bytesLess_cmp _ _
 have he : (a.toList == b.toList) = decide (cmpL a.data.toList b.data.toList = 0) := by
  rw [ba_toList, ba_toList, Bool.eq_iff_iff, beq_iff_eq, decide_eq_true_eq]
  exact ⟨fun e => by rw [e]; exact cmpL_self _, cmpL_zero _ _⟩
 rcases cmpL_range a.data.toList b.data.toList with h | h | h
 ·rw [h] at hl he
  have h1 : Op.bytesLess a.toList b.toList = true := by rw [hl]; rfl
  have H := hid h; clear h hl he
  go_enter Tryz.func136, Tryz.ntmps136
  go_wp2_with (go_at_call 194; refine (isNaN_any _ _).mono ?_; rintro e w1 ⟨rfl, rfl⟩)
  go_ret
  exact ⟨ret_int (by rw [H.out]), rfl⟩
 ·rw [h] at hl he
  have h1 : Op.bytesLess a.toList b.toList = false := by rw [hl]; rfl
  have h2 : (a.toList == b.toList) = true := by rw [he]; rfl
  have H := hid h; clear h hl he
  go_enter Tryz.func136, Tryz.ntmps136
  go_wp2_with (go_at_call 194; refine (isNaN_any _ _).mono ?_; rintro e w1 ⟨rfl, rfl⟩)
  go_ret
  exact ⟨ret_int (by rw [H.out]), rfl⟩
 ·rw [h] at hl he
  have h1 : Op.bytesLess a.toList b.toList = false := by rw [hl]; rfl
  have h2 : (a.toList == b.toList) = false := by rw [he]; rfl
  have H := hid h; clear h hl he
  go_enter Tryz.func136, Tryz.ntmps136
  go_wp2_with (go_at_call 194; refine (isNaN_any _ _).mono ?_; rintro e w1 ⟨rfl, rfl⟩)
  go_ret
  exact ⟨ret_int (by rw [H.out]), rfl⟩

theorem ls_get (l : List ByteArray) (k : Nat) (h : k < (ls l).length) : (ls l)[k] = (l.getD k ByteArray.empty).data.toList := by
 rw [ls_length] at h
 simp [ls, List.getElem?_eq_getElem h]

set_option maxHeartbeats 1000000 in
theorem slicesCompare_any (a b : Option Addr) (n m c d : Nat) (x y : List ByteArray) (w : World) (hx : StrsAt w a n x) (hy : StrsAt w b m y) :
  Calls Tryz.prog 76 #[.slice a n c, .slice b m d] w fun e w' => e = .returned (.int .i64 (cmpP (ls x) (ls y))) ∧ w = w' := by
 have hnl := hx.1
 have hml := hy.1
 have hn := hx.2.1
 have hm := hy.2.1
 have xl := ls_length x
 have yl := ls_length y
 go_enter Tryz.func76, Tryz.ntmps76
 go_wp2
 go_loop [11] (fun i => ∃ k : Nat, k ≤ n ∧ k ≤ m ∧ i = .int .i64 k ∧ Hid (cmpP (ls x) (ls y) = cmpP ((ls x).drop k) ((ls y).drop k))) (fun i => n - (intOf i).toNat)
 case atStart => exact ⟨0, by omega, by omega, rfl, rfl⟩
 case round =>
  obtain ⟨k, hk, hk2, rfl, HK⟩ := hrel
  by_cases hlt : k < n
  ·by_cases hlt2 : k < m
   ·obtain ⟨b1, o1, rfl, hc1⟩ := hx.2.2.resolve_left (by omega)
    obtain ⟨b2, o2, rfl, hc2⟩ := hy.2.2.resolve_left (by omega)
    have h1 := hc1 k hlt
    have h2 := hc2 k hlt2
    have st := cmpP_step (ls x) (ls y) k (by omega) (by omega)
    rw [ls_get, ls_get] at st
    obtain ⟨p, hp⟩ : ∃ p, x.getD k ByteArray.empty = p := ⟨_, rfl⟩
    obtain ⟨q, hq⟩ : ∃ q, y.getD k ByteArray.empty = q := ⟨_, rfl⟩
    rw [hp] at h1 st
    rw [hq] at h2 st
    have cC := cmpS_any p q w
    obtain ⟨C, hC⟩ : ∃ C, cmpL p.data.toList q.data.toList = C := ⟨_, rfl⟩
    rw [hC] at cC st
    have CC := hid cC
    clear cC hp hq hC hc1 hc2
    by_cases h0 : C = 0
    ·subst h0
     have HS := hid (HK.out.trans st); clear st
     go_wp2_with (go_at_call 136; refine CC.out.mono ?_; rintro e w1 ⟨rfl, rfl⟩)
     go_round
     case rel => exact ⟨k + 1, by omega, by omega, by go_num, by have := HS.out; simp only [if_true] at this; exact this⟩
     case measure => simp [intOf]; omega
    ·have HS : Hid (cmpP (ls x) (ls y) = C) := by have := HK.out.trans st; rwa [if_neg h0] at this
     have e1 : (C != 0) = true := by simpa using h0
     have e2 : (C == 0) = false := by simpa using h0
     clear st h0
     go_wp2_with (go_at_call 136; refine CC.out.mono ?_; rintro e w1 ⟨rfl, rfl⟩)
     go_ret
     exact ⟨ret_int (by rw [HS.out]), rfl⟩
   ·obtain ⟨b1, o1, rfl, hc1⟩ := hx.2.2.resolve_left (by omega)
    have h1 := hc1 k hlt
    have HS : Hid (cmpP (ls x) (ls y) = 1) := HK.out.trans (cmpP_behind _ _ k (by omega) (by omega))
    have g1 : (m : Int) ≤ k := by omega
    clear hc1
    go_wp2
    go_ret
    exact ⟨ret_int (by rw [HS.out]), rfl⟩
  ·have st := HK.out.trans (cmpP_ends (ls x) (ls y) k (by omega))
   by_cases hlt2 : n < m
   ·have HS : Hid (cmpP (ls x) (ls y) = -1) := by rwa [if_pos (by omega)] at st
    have g1 : (n : Int) < m := by omega
    clear st
    go_wp2
    go_ret
    exact ⟨ret_int (by rw [HS.out]), rfl⟩
   ·have HS : Hid (cmpP (ls x) (ls y) = 0) := by rwa [if_neg (by omega)] at st
    have g1 : ¬ (n : Int) < m := by omega
    clear st
    go_wp2
    go_ret
    exact ⟨ret_int (by rw [HS.out]), rfl⟩

set_option maxHeartbeats 1000000 in
theorem within_any (f p : ByteArray) (w : World) (hf : f.size < 4294967281) (hp : p.size < 4294967281) (hm : MaxAt w) :
  Calls Tryz.prog 207 #[.string f, .string p] w fun e w' => e = .returned (.bool (withinR f.data.toList p.data.toList)) ∧ Below w.heap.size w w' := by
 have HM := hid hm
 have HB := Below.refl w.heap.size w
 clear hm
 by_cases h1 : splitE f.data.toList = 0
 ·by_cases h2 : splitE p.data.toList = 0
  ·have HR := hid (within_eq h1 h2)
   have f1 : (splitE f.data.toList == 0) = true := by simp [h1]
   have f2 : (splitE p.data.toList == 0) = true := by simp [h2]
   clear h1 h2
   go_enter Tryz.func207, Tryz.ntmps207
   go_wp2_with (first
    | (go_at_call 70; refine (split_any _ _ (by assumption) (HM.out.later HB)).mono ?_; rintro e w1 ⟨v, rfl, hv, hb1⟩; replace HB := below_then HB hb1; clear hv hb1)
    | (go_at_call 239; refine (Tryz.strings_HasPrefix _ _ _).mono ?_; rintro e w3 ⟨rfl, hw⟩; obtain rfl := hw.symm))
   go_ret
   exact ⟨ret_bool (by rw [← HR.out]), HB⟩
  ·have HR := hid (within_no (f := f.data.toList) (p := p.data.toList) (.inr h2))
   have f1 : (splitE f.data.toList == 0) = true := by simp [h1]
   have f2 : (splitE p.data.toList == 0) = false := by simp [h2]
   clear h1 h2
   go_enter Tryz.func207, Tryz.ntmps207
   go_wp2_with (go_at_call 70; refine (split_any _ _ (by assumption) (HM.out.later HB)).mono ?_; rintro e w1 ⟨v, rfl, hv, hb1⟩; replace HB := below_then HB hb1; clear hv hb1)
   go_ret
   exact ⟨ret_bool (by rw [HR.out]), HB⟩
 ·have HR := hid (within_no (f := f.data.toList) (p := p.data.toList) (.inl h1))
  have f1 : (splitE f.data.toList == 0) = false := by simp [h1]
  clear h1
  go_enter Tryz.func207, Tryz.ntmps207
  go_wp2_with (go_at_call 70; refine (split_any _ _ (by assumption) (HM.out.later HB)).mono ?_; rintro e w1 ⟨v, rfl, hv, hb1⟩; replace HB := below_then HB hb1; clear hv hb1)
  go_ret
  exact ⟨ret_bool (by rw [HR.out]), HB⟩
end Go.Proofs.YtmpjdoiogbbcoaaGreatDoor
/- path.Compare: it lays blocks and turns nothing. -/
namespace Go.Proofs.YtmpjdoiogbbcoaaGreatDoor
open Go.RowKit Go.Sort Pap
set_option linter.unusedVariables false

/-- blocks laid; nothing else -/
def Lays (w w' : World) : Prop := ∃ os, w' = grow w os
theorem Lays.refl (w : World) : Lays w w := ⟨#[], by simp [grow]⟩
theorem Lays.trans {a b c : World} (h : Lays a b) (k : Lays b c) : Lays a c := by
 obtain ⟨os, rfl⟩ := h
 obtain ⟨ps, rfl⟩ := k
 exact ⟨os ++ ps, by simp [grow, Array.append_assoc]⟩
theorem Lays.alloc {a b : World} (h : Lays a b) (o : Obj) : Lays a (b.alloc o) := by
 obtain ⟨os, rfl⟩ := h
 exact ⟨os.push o, by simp [grow, World.alloc]⟩
theorem Lays.below {a b : World} (h : Lays a b) : Below a.heap.size a b := by
 obtain ⟨os, rfl⟩ := h
 exact ⟨rfl, rfl, rfl, by simp [grow], fun k hk => heap_grow_old _ _ hk⟩
set_option maxHeartbeats 1000000 in
theorem indexFunc_still (g : Nat) (lb : Array Value) (eg : ∀ args w, (callFunc g args).run Tryz.prog w = .ok (.enter g args) w) (p : ByteArray → Bool) (a : Option Addr) (n c : Nat) (l : List ByteArray) (w : World) (hS : StrsAt w a n l)
  (hp : ∀ x ∈ l, Calls Tryz.prog g (#[.string x] ++ lb) w fun e w' => e = .returned (.bool (p x)) ∧ w = w') :
  Calls Tryz.prog 224 #[.slice a n c, .func (.func g) #[] lb] w fun e w' => e = .returned (.int .i64 (idxP p l)) ∧ w = w' := by
 have hl := hS.1
 have hm := hS.2.1
 have HP := hid hp; clear hp
 go_enter Tryz.func224, Tryz.ntmps224
 go_wp2
 go_loopw [8] (fun i wr => ∃ k : Nat, k ≤ n ∧ i = .int .i64 k ∧ w = wr ∧ Hid (∀ j, j < k → p (l.getD j ByteArray.empty) = false)) (fun i _ => n - (intOf i).toNat)
 case atStart => exact ⟨0, by omega, rfl, rfl, fun j hj => absurd hj (Nat.not_lt_zero _)⟩
 case round =>
  obtain ⟨k, hk, rfl, rfl, HK⟩ := hrel
  by_cases hlt : k < n
  ·have hSr := hS
   obtain ⟨b, off, rfl, hc⟩ := hSr.2.2.resolve_left (by omega)
   have hck := hc k hlt
   have hmem : l.getD k ByteArray.empty ∈ l := by rw [List.getD_eq_getElem?_getD, List.getElem?_eq_getElem (by omega)]; exact List.getElem_mem _
   obtain ⟨x, hx⟩ : ∃ x, l.getD k ByteArray.empty = x := ⟨_, rfl⟩
   rw [hx] at hck hmem
   have cS := HP.out x hmem
   have HXE := hid hx
   clear hx hc
   cases hpx : p x
   ·rw [hpx] at cS
    have HPX := hid hpx; clear hpx
    have CS := hid cS; clear cS
    go_wp2_with (first | (go_at_fn g; refine CS.out.mono ?_; rintro e w1 ⟨rfl, rfl⟩))
    go_roundw
    case rel => exact ⟨k + 1, by omega, by go_num, by first | rfl | trivial, upto_succ HK.out (by rw [HXE.out]; exact HPX.out)⟩
    case measure => simp [intOf]; omega
   ·rw [hpx] at cS
    have HR : Hid (idxP p l = (k : Int)) := idxP_hit (by omega) HK.out (by rw [HXE.out]; exact hpx)
    clear hpx
    have CS := hid cS; clear cS
    go_wp2_with (first | (go_at_fn g; refine CS.out.mono ?_; rintro e w1 ⟨rfl, rfl⟩))
    go_ret
    exact ⟨ret_int (by rw [HR.out]), rfl⟩
  ·have HR : Hid (idxP p l = -1) := idxP_miss (fun j hj => HK.out j (by omega))
   go_wp2
   go_ret
   exact ⟨ret_int (by rw [HR.out]), rfl⟩
theorem containsFunc_still (g : Nat) (lb : Array Value) (eg : ∀ args w, (callFunc g args).run Tryz.prog w = .ok (.enter g args) w) (p : ByteArray → Bool) (a : Option Addr) (n c : Nat) (l : List ByteArray) (w : World) (hS : StrsAt w a n l)
  (hp : ∀ x ∈ l, Calls Tryz.prog g (#[.string x] ++ lb) w fun e w' => e = .returned (.bool (p x)) ∧ w = w') :
  Calls Tryz.prog 187 #[.slice a n c, .func (.func g) #[] lb] w fun e w' => e = .returned (.bool (l.any p)) ∧ w = w' := by
 have c := indexFunc_still g lb eg p a n c l w hS hp
 rw [← idxP_any]
 obtain ⟨I, hI⟩ : ∃ I, idxP p l = I := ⟨_, rfl⟩
 rw [hI] at c ⊢
 have C := hid c; clear c hI hp
 go_enter Tryz.func187, Tryz.ntmps187
 go_wp2_with (go_at_call 224; refine C.out.mono ?_; rintro e w1 ⟨rfl, rfl⟩)
 go_ret
 exact ⟨rfl, rfl⟩

set_option maxHeartbeats 1000000 in
set_option maxRecDepth 100000 in
theorem check_still (a : Option Addr) (n c : Nat) (l : List ByteArray) (w : World) (hS : StrsAt w a n l) :
  Calls Tryz.prog 124 #[.slice a n c] w fun e w' => e = .returned (.int .i64 (checkE (ls l))) ∧ w = w' := by
 have hl := hS.1
 have cc := containsFunc_still 185 #[] (fun args w => rfl) (fun x => !goodL x.data.toList) a n c l w hS
  (fun x _ => checkClos_any x w)
 by_cases h0 : n = 0
 ·have HX : Hid (checkE (ls l) = 30) := by
   unfold Hid checkE; rw [if_pos (.inl (List.length_eq_zero_iff.1 (by rw [ls_length]; omega)))]
  have hb : ((n : Int) == 0) = true := by simp; omega
  clear cc
  go_enter Tryz.func124, Tryz.ntmps124
  go_wp2
  go_ret
  exact ⟨ret_int (by rw [HX.out]), rfl⟩
 ·have hb : ((n : Int) == 0) = false := by simp; omega
  by_cases hany : l.any (fun x => !goodL x.data.toList) = true
  ·have HX : Hid (checkE (ls l) = 30) := by unfold Hid checkE; rw [if_pos (.inr ((any_bad l).1 hany))]
   rw [hany] at cc
   have CC := hid cc; clear cc hany
   go_enter Tryz.func124, Tryz.ntmps124
   go_wp2_with (go_at_call 187; refine CC.out.mono ?_; rintro e w1 ⟨rfl, rfl⟩)
   go_ret
   exact ⟨ret_int (by rw [HX.out]), rfl⟩
  ·have hf : l.any (fun x => !goodL x.data.toList) = false := by simpa using hany
   have hno : ¬ (ls l = [] ∨ ∃ x ∈ ls l, goodL x = false) := by
    rintro (h | h)
    ·have := congrArg List.length h; rw [ls_length] at this; simp at this; rw [this] at hl; simp at hl; omega
    ·exact hany ((any_bad l).2 h)
   rw [hf] at cc
   have CC := hid cc; clear cc hany hf
   by_cases h64 : 64 < n
   ·have HX : Hid (checkE (ls l) = 33) := by unfold Hid checkE; rw [if_neg hno, if_pos (by rw [ls_length]; omega)]
    have hn : (64 : Int) < n := by omega
    clear hno
    go_enter Tryz.func124, Tryz.ntmps124
    go_wp2_with (go_at_call 187; refine CC.out.mono ?_; rintro e w1 ⟨rfl, rfl⟩)
    go_ret
    exact ⟨ret_int (by rw [HX.out]), rfl⟩
   ·have HX : Hid (checkE (ls l) = 0) := by unfold Hid checkE; rw [if_neg hno, if_neg (by rw [ls_length]; omega)]
    have hn : ¬ (64 : Int) < n := by omega
    clear hno
    go_enter Tryz.func124, Tryz.ntmps124
    go_wp2_with (go_at_call 187; refine CC.out.mono ?_; rintro e w1 ⟨rfl, rfl⟩)
    go_ret
    exact ⟨ret_int (by rw [HX.out]), rfl⟩


set_option maxHeartbeats 1000000 in
theorem splitX_any (s : ByteArray) (w : World) (hs : s.size < 4294967281) (hm : MaxAt w) :
  Calls Tryz.prog 70 #[.string s] w fun e w' => ∃ v, e = .returned (.tuple #[v, .int .i64 (splitE s.data.toList)]) ∧ SplitsC s v w' ∧ Lays w w' := by
 obtain ⟨m, hm⟩ := hm
 have cS := Tryz.strings_Split s slash m w hs hm (by decide)
 have hlen : (Lib.splitB slash 0 (Lib.countB s slash) s).length = Lib.countB s slash + 1 := Lib.splitB_all slash (by decide) 0 _ s rfl
 have hls := splitB_pieces s
 have hcl := Lib.countB_le slash (by decide) s.size s (Nat.le_refl _)
 obtain ⟨l, hl⟩ : ∃ l, Lib.splitB slash 0 (Lib.countB s slash) s = l := ⟨_, rfl⟩
 rw [hl] at cS hlen hls
 obtain ⟨k, hk⟩ : ∃ k, Lib.countB s slash = k := ⟨_, rfl⟩
 rw [hk] at cS hlen hcl
 have hlm : l.length ≤ 9223372036854775807 := by omega
 have hS := strs_alloc w l 9 hlm
 have hbel : Lays w (w.alloc (.cells (l.map Value.string).toArray 9)) := Lays.alloc (Lays.refl _) _
 rw [← hlen] at cS
 obtain ⟨w1, hw1⟩ : ∃ w1, w.alloc (.cells (l.map Value.string).toArray 9) = w1 := ⟨_, rfl⟩
 rw [hw1] at cS hS hbel
 obtain ⟨q, hq⟩ : ∃ q, w.heap.size = q := ⟨_, rfl⟩
 have hS' := hS
 rw [hq] at cS hS
 have cC := check_still (some ⟨q, 0, none⟩) l.length l.length l w1 hS
 have hE : checkE (ls l) = splitE s.data.toList := by unfold splitE ls; rw [hls]
 rw [hE] at cC
 have HL : Hid (ls l = pieces s.data.toList) := hls
 obtain ⟨E, hEE⟩ : ∃ E, splitE s.data.toList = E := ⟨_, rfl⟩
 rw [hEE] at cC
 have HEE := hid hEE
 have CS := hid cS; have CC := hid cC
 clear cS cC hlen hls hl hk hcl hE hEE hw1 hm hS' hq
 by_cases h0 : E = 0
 ·subst h0
  go_enter Tryz.func70, Tryz.ntmps70
  go_wp2_with (first
   | (go_at_call 123; refine CS.out.mono ?_; rintro e w2 ⟨rfl, hw⟩; obtain rfl := hw.symm)
   | (go_at_call 124; refine CC.out.mono ?_; rintro e w2 ⟨rfl, rfl⟩))
  go_ret2
  exact ⟨_, by rw [HEE.out]; rfl, ⟨_, l, rfl, hS, by unfold namesOf; rw [if_pos HEE.out]; exact HL.out, fun h => absurd HEE.out h⟩, hbel⟩
 ·have e1 : (E != 0) = true := by simpa using h0
  have e2 : (E == 0) = false := by simpa using h0
  have H0 := hid h0; clear h0
  go_enter Tryz.func70, Tryz.ntmps70
  go_wp2_with (first
   | (go_at_call 123; refine CS.out.mono ?_; rintro e w2 ⟨rfl, hw⟩; obtain rfl := hw.symm)
   | (go_at_call 124; refine CC.out.mono ?_; rintro e w2 ⟨rfl, rfl⟩))
  go_ret2
  exact ⟨_, by rw [HEE.out]; rfl, ⟨none, [], rfl, ⟨rfl, by simp, .inl rfl⟩, by unfold namesOf; rw [if_neg (by rw [HEE.out]; exact H0.out)]; rfl, fun _ => rfl⟩, hbel⟩

set_option maxHeartbeats 1000000 in
theorem compareX_any (a b : ByteArray) (w : World) (ha : a.size < 4294967281) (hb : b.size < 4294967281) (hm : MaxAt w) :
    Calls Tryz.prog 32 #[.string a, .string b] w fun e w' => e = .returned (.int .i64 (compareR a.data.toList b.data.toList)) ∧ Lays w w' := by
  have HM := hid hm
  have HB := Lays.refl w
  have HT : True := trivial
  clear hm
  by_cases h1 : splitE a.data.toList = 0
  · by_cases h2 : splitE b.data.toList = 0
    · have HR : Hid (compareR a.data.toList b.data.toList = cmpP (pieces a.data.toList) (pieces b.data.toList)) := by unfold Hid compareR; rw [if_pos ⟨h1, h2⟩]
      have H1 := hid h1
      have H2 := hid h2
      have f1 : (splitE a.data.toList != 0) = false := by simp [h1]
      have f2 : (splitE b.data.toList != 0) = false := by simp [h2]
      clear h1 h2
      go_enter Tryz.func32, Tryz.ntmps32
      go_wp2_with (first
        | (go_at_call 70; refine (splitX_any _ _ (by assumption) (HM.out.later HB.below)).mono ?_; rintro e w1 ⟨v, rfl, hv, hb1⟩; replace HB := Lays.trans HB hb1; replace HT := And.intro HT (And.intro (hid hv) (hid hb1)); clear hv hb1)
        | (go_at_call 76; obtain ⟨⟨-, K1, B1⟩, K2, B2⟩ := HT; obtain ⟨p1, l1, rfl, hs1, hn1, -⟩ := K1.out; obtain ⟨p2, l2, rfl, hs2, hn2, -⟩ := K2.out
           refine (slicesCompare_any _ _ _ _ _ _ _ _ _ (hs1.later B2.out.below) hs2).mono ?_; rintro e w3 ⟨rfl, rfl⟩))
      go_ret
      exact ⟨ret_int (by rw [HR.out]; unfold namesOf; rw [if_pos H1.out, if_pos H2.out]), HB⟩
    · have HR : Hid (compareR a.data.toList b.data.toList = 0) := by unfold Hid compareR; rw [if_neg (fun e => h2 e.2)]
      have f1 : (splitE a.data.toList != 0) = false := by simp [h1]
      have f2 : (splitE b.data.toList != 0) = true := by simp [h2]
      clear h1 h2
      go_enter Tryz.func32, Tryz.ntmps32
      go_wp2_with (go_at_call 70; refine (splitX_any _ _ (by assumption) (HM.out.later HB.below)).mono ?_; rintro e w1 ⟨v, rfl, hv, hb1⟩; replace HB := Lays.trans HB hb1; clear hv hb1)
      go_ret
      exact ⟨ret_int (by rw [HR.out]), HB⟩
  · have HR : Hid (compareR a.data.toList b.data.toList = 0) := by unfold Hid compareR; rw [if_neg (fun e => h1 e.1)]
    have f1 : (splitE a.data.toList != 0) = true := by simp [h1]
    clear h1
    go_enter Tryz.func32, Tryz.ntmps32
    go_wp2_with (go_at_call 70; refine (splitX_any _ _ (by assumption) (HM.out.later HB.below)).mono ?_; rintro e w1 ⟨v, rfl, hv, hb1⟩; replace HB := Lays.trans HB hb1; clear hv hb1)
    go_ret
    exact ⟨ret_int (by rw [HR.out]), HB⟩


end Go.Proofs.YtmpjdoiogbbcoaaGreatDoor
