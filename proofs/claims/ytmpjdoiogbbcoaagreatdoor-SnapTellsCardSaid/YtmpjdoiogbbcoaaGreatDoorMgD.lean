/- Texts in a row: SnA, SnN, SetO, SnH, PathPlainB, PathPlainC, SnX, ShaI, ShaW, ShaX, ShaM. -/
import Derived.Test.YtmpjdoiogbbcoaaGreatDoorMgC
import Derived.Carry
import Derived.Sort.KeysCollected
import Derived.Sort.OwnSorted
import Derived.Lib.OwnBridge
import Derived.Lib.Strings
import Derived.Laws.BitsAllLaws
import Derived.Laws.Tables
import Derived.StillTailTactics
import Derived.Outline
import Derived.Laws.CopyOwn
/- Folders in memory: newFolder, add. -/
namespace Go.Proofs.YtmpjdoiogbbcoaaGreatDoor
open Go.RowKit Book Pap Ojt Sn
set_option linter.unusedVariables false
set_option linter.unusedSimpArgs false

def datS (s : ByteArray) : DataW Unit := .lit (.string s.data.toList)
theorem datS_inj (x y : ByteArray) (h : datS x = datS y) : x = y := by
 unfold datS at h
 injection h with h; injection h with h
 exact ba_ext h
theorem valS_inj (x y : ByteArray) (h : Value.string x = Value.string y) : x = y := by injection h
def valP : Option Nat → Value
 | none => .pointer none
 | some b => .pointer (some ⟨b, 0, none⟩)
def datP : Option Nat → DataW Unit
 | none => .lit (.int .i64 (-1))
 | some b => .lit (.int .i64 b)
theorem valP_inj (x y : Option Nat) (h : valP x = valP y) : x = y := by
 cases x <;> cases y <;> simp [valP] at h ⊢
 all_goals omega
theorem datP_inj (x y : Option Nat) (h : datP x = datP y) : x = y := by
 cases x <;> cases y <;> simp [datP] at h ⊢
 all_goals omega
abbrev StrMap := MapFn (α := ByteArray) Tryz.prog 9 Value.string datS
abbrev PtrMap := MapFn (α := Option Nat) Tryz.prog 9 valP datP
theorem Tryz.infoPF : (Tryz.prog.info? 182).map (fun i => (i.zero, i.size, i.bytes)) = some (some (.pointer none), 1, 8) := by kernel_rfl
theorem zeroS (w : World) : (zeroValue 9).run Tryz.prog w = .ok (.string ⟨#[]⟩) w := by
 obtain ⟨i, hi, hz, -⟩ := info_parts Tryz.infoS
 simp [zeroValue, typeInfo, hi, hz]
theorem zeroPF (w : World) : (zeroValue 182).run Tryz.prog w = .ok (.pointer none) w := by
 obtain ⟨i, hi, hz, -⟩ := info_parts Tryz.infoPF
 simp [zeroValue, typeInfo, hi, hz]
theorem strMap_get1 {w : World} {m n : Nat} {f : ByteArray → Option ByteArray} (h : StrMap w m n f) (s : ByteArray) (hs : s.size ≤ maxLen) : (Instr.lookup 132 (.map (some m)) (.string s) false).run Tryz.prog w = .ok (.string ((f s).getD ⟨#[]⟩)) w :=
 MapFn.get1 Tryz.underlying9 Tryz.underlying132 valS_inj datS_inj (z0 := ⟨#[]⟩) zeroS h s hs
theorem strMap_get2 {w : World} {m n : Nat} {f : ByteArray → Option ByteArray} (h : StrMap w m n f) (s : ByteArray) (hs : s.size ≤ maxLen) : (Instr.lookup 132 (.map (some m)) (.string s) true).run Tryz.prog w = .ok (.tuple #[.string ((f s).getD ⟨#[]⟩), .bool (f s).isSome]) w :=
 MapFn.get2 Tryz.underlying9 Tryz.underlying132 valS_inj datS_inj (z0 := ⟨#[]⟩) zeroS h s hs
theorem ptrMap_get1 {w : World} {m n : Nat} {f : ByteArray → Option (Option Nat)} (h : PtrMap w m n f) (s : ByteArray) (hs : s.size ≤ maxLen) : (Instr.lookup 236 (.map (some m)) (.string s) false).run Tryz.prog w = .ok (valP ((f s).getD none)) w :=
 MapFn.get1 Tryz.underlying9 Tryz.underlying236 valP_inj datP_inj (z0 := none) zeroPF h s hs
/-- a folder in memory: the blocks that are its own, its files with their names -/
def FoAt : Nat → World → (Nat → Prop) → Nat → List Fl → Prop
 | 0, _, _, _, _ => False
 | d + 1, w, F, b, fs => ∃ (mf md N : Nat) (kid : ByteArray → Option Nat) (KF : ByteArray → Nat → Prop),
   Blk w b 238 #[.map (some mf), .map (some md)] ∧ StrMap w mf N (leafs fs) ∧ PtrMap w md N (fun n => (kid n).map some) ∧ mf ≠ md ∧ N ≤ fs.length ∧
   (F b ∧ F mf ∧ F md) ∧ (∀ k, F k → k < w.heap.size) ∧ (∀ n, kid n = none ↔ sub n fs = []) ∧
   (∀ n c, kid n = some c → FoAt d w (KF n) c (sub n fs) ∧ ∀ k, KF n k → F k ∧ k ≠ b ∧ k ≠ mf ∧ k ≠ md) ∧ ∀ n n', n ≠ n' → ∀ k, KF n k → ¬ KF n' k
theorem FoAt.lt : ∀ {d : Nat} {w : World} {F : Nat → Prop} {b : Nat} {fs : List Fl}, FoAt d w F b fs → ∀ k, F k → k < w.heap.size
 | 0, _, _, _, _, h => h.elim
 | d + 1, _, _, _, _, h => by obtain ⟨_, _, _, _, _, -, -, -, -, -, -, h1, -⟩ := h; exact h1
theorem FoAt.only {G : Nat → Prop} : ∀ {d : Nat} {w w' : World} {F : Nat → Prop} {b : Nat} {fs : List Fl}, FoAt d w F b fs → Only G w w' → (∀ k, F k → ¬ G k) → FoAt d w' F b fs
 | 0, _, _, _, _, _, h, _, _ => h.elim
 | d + 1, w, w', F, b, fs, h, ho, hd => by
  obtain ⟨mf, md, N, kid, KF, h1, h2, h3, h4, h5, ⟨hb, hf, hm⟩, h6, h7, h8, h9⟩ := h
  exact ⟨mf, md, N, kid, KF, h1.only ho (hd b hb), h2.only ho (hd mf hf), h3.only ho (hd md hm), h4, h5, ⟨hb, hf, hm⟩, fun k hk => Nat.lt_of_lt_of_le (h6 k hk) ho.size, h7,
   fun n c hc => ⟨(h8 n c hc).1.only ho (fun k hk => hd k ((h8 n c hc).2 k hk).1), (h8 n c hc).2⟩, h9⟩
theorem newFolder_any (d : Nat) (w : World) : Calls Tryz.prog 99 #[] w fun e w' => ∃ b F, e = .returned (.pointer (some ⟨b, 0, none⟩)) ∧ FoAt (d + 1) w' F b [] ∧ Below w.heap.size w w' ∧ ∀ k, F k → w.heap.size ≤ k := by
 have HF : Hid (FoAt (d + 1) (((w.alloc (.map #[] 0)).alloc (.map #[] 0)).alloc (.cells #[.map (some w.heap.size), .map (some (w.heap.size + 1))] 238)) (fun k => w.heap.size ≤ k ∧ k < w.heap.size + 3) (w.heap.size + 1 + 1) [] ∧ Below w.heap.size w (((w.alloc (.map #[] 0)).alloc (.map #[] 0)).alloc (.cells #[.map (some w.heap.size), .map (some (w.heap.size + 1))] 238))) := by
  have z1 : (w.alloc (.map #[] 0)).heap.size = w.heap.size + 1 := World.size_alloc _ _
  have z2 : ((w.alloc (.map #[] 0)).alloc (.map #[] 0)).heap.size = w.heap.size + 1 + 1 := by rw [World.size_alloc, z1]
  refine ⟨⟨w.heap.size, w.heap.size + 1, 0, fun _ => none, fun _ _ => False, ?_, ?_, ?_, by omega, Nat.le_refl _, ⟨⟨by omega, by omega⟩, ⟨by omega, by omega⟩, ⟨by omega, by omega⟩⟩, ?_, ?_, ?_, ?_⟩, ?_⟩
  ·have := Blk.new ((w.alloc (.map #[] 0)).alloc (.map #[] 0)) 238 #[.map (some w.heap.size), .map (some (w.heap.size + 1))]
   rw [z2] at this; exact this
  ·have h : StrMap (w.alloc (.map #[] 0)) w.heap.size 0 (fun _ => none) := MapFn.made w
   exact (h.later ((Below.refl _ _).alloc (Nat.le_refl _) _)).later ((Below.refl _ _).alloc (Nat.le_refl _) _)
  ·have h : PtrMap ((w.alloc (.map #[] 0)).alloc (.map #[] 0)) (w.alloc (.map #[] 0)).heap.size 0 (fun _ => none) := MapFn.made _
   rw [z1] at h
   exact h.later ((Below.refl _ _).alloc (Nat.le_refl _) _)
  ·rintro k ⟨_, h⟩; rw [World.size_alloc, z2]; omega
  ·intro n; exact ⟨fun _ => rfl, fun _ => rfl⟩
  ·intro n c h; cases h
  ·intro n n' _ k h; exact h.elim
  ·exact (((Below.refl _ _).alloc (Nat.le_refl _) _).alloc (by rw [z1]; omega) _).alloc (by rw [z2]; omega) _
 have hmk : ∀ (T : TypeId) (W : World), (Instr.makeMap T none).run Tryz.prog W = .ok (.map (some W.heap.size)) (W.alloc (.map #[] 0)) := fun T W => run_makeMap T W
 go_enter Tryz.func99, Tryz.ntmps99
 go_wp2_with fail
 go_ret
 exact ⟨_, _, rfl, HF.out.1, HF.out.2, fun k hk => hk.1⟩
theorem sub_one (n0 n : ByteArray) (fs : List Fl) (data : ByteArray) : sub n (fs ++ [([n0], data)]) = sub n fs := by
 rw [sub_snoc]; simp [subOf]
theorem sub_more (n0 n1 : ByteArray) (r : List ByteArray) (n : ByteArray) (fs : List Fl) (data : ByteArray) : sub n (fs ++ [(n0 :: n1 :: r, data)]) = if n0 = n then sub n fs ++ [(n1 :: r, data)] else sub n fs := by
 rw [sub_snoc]
 by_cases h : n0 = n
 ·simp [subOf, h]
 ·simp [subOf, h]
theorem leafs_one (n0 : ByteArray) (fs : List Fl) (data : ByteArray) : leafs (fs ++ [([n0], data)]) = fun q => if q = n0 then some data else leafs fs q := by
 funext q
 rw [leafs_snoc]
 by_cases h : q = n0
 ·subst h; simp
 ·rw [if_neg (by simp; exact fun e => h e.symm), if_neg h]
theorem leafs_more (n0 n1 : ByteArray) (r : List ByteArray) (fs : List Fl) (data : ByteArray) : leafs (fs ++ [(n0 :: n1 :: r, data)]) = leafs fs := by
 funext q
 rw [leafs_snoc, if_neg (by simp)]
theorem FoAt.grow {d : Nat} {wk w' : World} {F K0 K0' : Nat → Prop} {b mf md N c0 : Nat} {kid : ByteArray → Option Nat} {KF : ByteArray → Nat → Prop} {fs : List Fl} {n0 n1 : ByteArray} {r : List ByteArray} {data : ByteArray}
  (H1 : Blk wk b 238 #[.map (some mf), .map (some md)]) (H2 : StrMap wk mf N (leafs fs)) (H3 : PtrMap wk md N (fun n => (if n = n0 then some c0 else kid n).map some)) (H4 : mf ≠ md) (H5 : N ≤ fs.length + 1)
  (HF : F b ∧ F mf ∧ F md) (H6 : ∀ k, F k → k < wk.heap.size) (H7 : ∀ n, kid n = none ↔ sub n fs = [])
  (H8 : ∀ n c, n ≠ n0 → kid n = some c → FoAt d wk (KF n) c (sub n fs) ∧ ∀ k, KF n k → F k ∧ k ≠ b ∧ k ≠ mf ∧ k ≠ md) (H9 : ∀ n n', n ≠ n' → ∀ k, KF n k → ¬ KF n' k)
  (C : FoAt d w' K0' c0 (sub n0 fs ++ [(n1 :: r, data)])) (CO : Only K0 wk w') (CK : ∀ k, K0' k → K0 k ∨ wk.heap.size ≤ k)
  (S1 : ∀ k, K0 k → k ≠ b ∧ k ≠ mf ∧ k ≠ md) (S2 : ∀ n c, n ≠ n0 → kid n = some c → ∀ k, KF n k → ¬ K0 k) :
  FoAt (d + 1) w' (fun k => F k ∨ K0' k) b (fs ++ [(n0 :: n1 :: r, data)]) := by
 refine ⟨mf, md, N, fun n => if n = n0 then some c0 else kid n, fun n k => if n = n0 then K0' k else (KF n k ∧ kid n ≠ none), H1.only CO (fun e => (S1 b e).1 rfl), ?_, H3.only CO (fun e => (S1 md e).2.2 rfl), H4, by rw [List.length_append]; exact H5, ⟨.inl HF.1, .inl HF.2.1, .inl HF.2.2⟩, ?_, ?_, ?_, ?_⟩
 ·rw [leafs_more]; exact H2.only CO (fun e => (S1 mf e).2.1 rfl)
 ·rintro k (hk | hk)
  ·exact Nat.lt_of_lt_of_le (H6 k hk) CO.size
  ·exact C.lt k hk
 ·intro n
  rw [sub_more]
  by_cases h : n = n0
  ·subst h; simp
  ·show (if n = n0 then some c0 else kid n) = none ↔ _
   rw [if_neg h, if_neg (fun e => h e.symm)]; exact H7 n
 ·intro n c hc
  rw [sub_more]
  by_cases h : n = n0
  ·subst h
   simp only [if_true] at hc ⊢
   cases hc
   refine ⟨C, fun k hk => ⟨.inr hk, ?_⟩⟩
   rcases CK k hk with h | h
   ·exact S1 k h
   ·have h1 := H6 b HF.1; have h2 := H6 mf HF.2.1; have h3 := H6 md HF.2.2
    exact ⟨by omega, by omega, by omega⟩
  ·simp only [if_neg h] at hc ⊢
   rw [if_neg (fun e => h e.symm)]
   obtain ⟨g1, g2⟩ := H8 n c h hc
   have e : (fun k => KF n k ∧ kid n ≠ none) = KF n := by
    funext k; apply propext
    exact ⟨fun h => h.1, fun h => ⟨h, by rw [hc]; simp⟩⟩
   rw [e]
   exact ⟨g1.only CO (fun k hk => S2 n c h hc k hk), fun k hk => ⟨.inl (g2 k hk.1).1, (g2 k hk.1).2⟩⟩
 ·intro n n' hne k hk hk'
  by_cases h : n = n0
  ·subst h
   have h' : ¬ n' = n := fun e => hne e.symm
   simp only [if_true] at hk
   simp only [if_neg h'] at hk'
   obtain ⟨c', hc'⟩ := Option.ne_none_iff_exists'.1 hk'.2
   rcases CK k hk with g | g
   ·exact S2 n' c' h' hc' k hk'.1 g
   ·have := H6 k ((H8 n' c' h' hc').2 k hk'.1).1
    omega
  ·simp only [if_neg h] at hk
   by_cases h' : n' = n0
   ·subst h'
    simp only [if_true] at hk'
    obtain ⟨c', hc'⟩ := Option.ne_none_iff_exists'.1 hk.2
    rcases CK k hk' with g | g
    ·exact S2 n c' h hc' k hk.1 g
    ·have := H6 k ((H8 n c' h hc').2 k hk.1).1
     omega
   ·simp only [if_neg h'] at hk'
    exact H9 n n' hne k hk.1 hk'.1
/-- what add leaves -/
def AddOut (d : Nat) (w : World) (F : Nat → Prop) (b : Nat) (fs : List Fl) (e : Ending) (w' : World) : Prop :=
 e = .returned (.tuple #[]) ∧ ∃ F', FoAt d w' F' b fs ∧ Only F w w' ∧ ∀ k, F' k → F k ∨ w.heap.size ≤ k
set_option maxRecDepth 100000 in
set_option maxHeartbeats 8000000 in
theorem add_any : ∀ (d : Nat) (l : List ByteArray) (data : ByteArray) (ab aoff n c b : Nat) (fs : List Fl) (F : Nat → Prop) (w : World),
  FoAt d w F b fs → StrsAt w (some ⟨ab, aoff, none⟩) n l → n ≤ c → c ≤ 9223372036854775807 → 1 ≤ n → n ≤ d → (∀ x ∈ l, x.size ≤ 9223372036854775807) → fs.length ≤ 1000 → ¬ F ab →
  Calls Tryz.prog 100 #[.pointer (some ⟨b, 0, none⟩), .slice (some ⟨ab, aoff, none⟩) n c, .string data] w (AddOut d w F b (fs ++ [(l, data)])) := by
 intro d
 induction d with
 | zero => intro l data ab aoff n c b fs F w h; exact h.elim
 | succ d ih =>
  intro l data ab aoff n c b fs F w hF hA hnc hcm hn1 hnd hsz hfl hab
  have IH := hid ih
  clear ih
  have hF0 := hid hF
  obtain ⟨mf, md, N, kid, KF, h1, h2, h3, h4, h5, ⟨hFb, hFf, hFd⟩, h6, h7, h8, h9⟩ := hF
  have HA := hid hA
  have hal := hA.1
  obtain ⟨n0, r, rfl⟩ : ∃ n0 r, l = n0 :: r := by
   cases l with
   | nil => simp at hal; omega
   | cons x r => exact ⟨x, r, rfl⟩
  have hs0 : n0.size ≤ 9223372036854775807 := hsz n0 (List.mem_cons_self ..)
  have q0 : w.cell? ⟨ab, aoff, none⟩ = some (.string n0) := by
   obtain ⟨b', off', e, hc⟩ := hA.2.2.resolve_left (by omega)
   cases e
   exact hc 0 (by omega)
  have k0 : w.cell? ⟨b, 0, none⟩ = some (.map (some mf)) := Blk.cell h1 0
  have k1 : w.cell? ⟨b, 1, none⟩ = some (.map (some md)) := Blk.cell h1 1
  have hbl := Blk.lt h1
  have hmax : N < maxLen := by unfold maxLen; omega
  have hs0m : n0.size ≤ maxLen := hs0
  by_cases hone : n = 1
  ·subst hone
   have hr : r = [] := by cases r with | nil => rfl | cons x y => simp at hal
   subst hr
   have HFIN : Hid (∀ nq w', StrMap w' mf (N + 1) (fun q => if q = n0 then some data else leafs fs q) → (w.drewN nq).grownBy w' (some mf) → AddOut (d + 1) w F b (fs ++ [([n0], data)]) (.returned (.tuple #[])) w') := fun nq w' hm hg => by
    have hO : Only (· = mf) w w' := ⟨hg.os, hg.tape, hg.output, hg.size, fun k hk hne => hg.block k hk (fun e => hne (by cases e; rfl))⟩
    refine ⟨rfl, F, ?_, hO.mono (fun k e => by have e : k = mf := e; subst e; exact hFf), fun k hk => .inl hk⟩
    refine ⟨mf, md, N + 1, kid, KF, h1.only hO (fun e => ?_), by rw [leafs_one]; exact hm, (h3.only hO (fun e => h4 (by have e : md = mf := e; exact e.symm))).more (Nat.le_succ _), h4, by rw [List.length_append]; simp only [List.length_cons, List.length_nil]; omega, ⟨hFb, hFf, hFd⟩, fun k hk => Nat.lt_of_lt_of_le (h6 k hk) hO.size, fun n => by rw [sub_one]; exact h7 n, fun n c hc => ?_, h9⟩
    ·have e : b = mf := e
     obtain ⟨D, ⟨es, clock, hb, _⟩, _⟩ := h2
     rw [← e] at hb
     unfold Blk at h1
     rw [h1] at hb; cases hb
    ·rw [sub_one]
     exact ⟨(h8 n c hc).1.only hO (fun k hk e => by have e : k = mf := e; exact ((h8 n c hc).2 k hk).2.2.1 e), (h8 n c hc).2⟩
   have HM := hid h2
   have c01 : (0 : Int) < ((1 : Nat) : Int) := by decide
   have b1 : (((1 : Nat) : Int) == 1) = true := by decide
   clear hF0 h1 h2 h3 h5 h7 h8 h9 hA HA k1
   go_enter Tryz.func100, Tryz.ntmps100
   go_wp2_with fail
   refine wp_region_tail_drew 8 (by kernel_rfl) (by kernel_rfl) ?_
   simp only [List.take_succ_cons, List.take_zero, List.drop_succ_cons, List.drop_zero]
   repeat (first | go_big_quiet_step (fail) | quiet_step (fail))
   refine wpQuiet_nil ?_
   intro _ hw'
   obtain ⟨nq, hw''⟩ := hw'
   subst hw''
   have HMq : StrMap (w.drewN nq) mf N (leafs fs) := HM.out
   have HMQ := hid HMq
   clear HMq k0 q0
   refine wpList_mapFn_set rfl (.tmp 13) (.tmp 16) (.tmp 17) 132 rfl Tryz.underlying9 Tryz.underlying132 valS_inj HMQ.out hmax n0 hs0m data rfl rfl rfl ?_
   intro w' hm hg
   have HR := hid (HFIN.out nq w' hm hg)
   clear hm hg HFIN
   go_wp2_with fail
   exact bodyPost_ret (results_none rfl _ _ _) rfl HR.out
  ·obtain ⟨n1, r', hrr⟩ : ∃ n1 r', r = n1 :: r' := by
    cases r with
    | nil => simp at hal; omega
    | cons x r => exact ⟨x, r, rfl⟩
   subst hrr
   have b1 : ((n : Int) == 1) = false := by rw [beq_eq_false_iff_ne]; omega
   have hn2 : 2 ≤ n := by omega
   have c01 : (0 : Int) < (n : Int) := by omega
   have g1 : (1 : Int) ≤ (n : Int) := by omega
   have g2 : (n : Int) ≤ (c : Int) := by omega
   have g3 : ¬ c = 1 := by omega
   have g4 : ¬ 1 = c := by omega
   have HTL : Hid (∀ W, StrsAt W (some ⟨ab, aoff, none⟩) n (n0 :: n1 :: r') → StrsAt W (some ⟨ab, aoff + 1, none⟩) (n - 1) (n1 :: r')) := fun W hW => by
    obtain ⟨w1, w2, w3⟩ := hW
    refine ⟨by simp at w1 ⊢; omega, by omega, .inr ⟨ab, aoff + 1, rfl, fun j hj => ?_⟩⟩
    obtain ⟨b', off', e, hc⟩ := w3.resolve_left (by omega)
    cases e
    have h := hc (j + 1) (by omega)
    rw [show aoff + 1 + j = aoff + (j + 1) by omega]
    exact h
   have hab1 : ab < w.heap.size := World.block_lt_of_cell? w _ q0
   have hsubl : (sub n0 fs).length ≤ fs.length := List.length_filterMap_le _ _
   have HTS : Hid (∀ x ∈ n1 :: r', x.size ≤ 9223372036854775807) := fun x hx => hsz x (List.mem_cons_of_mem _ hx)
   have H1 := hid h1; have H2 := hid h2; have H3 := hid h3; have H6 := hid h6; have H7 := hid h7; have H8 := hid h8; have H9 := hid h9
   have hgv : ((kid n0).map some).getD none = kid n0 := by cases kid n0 <;> rfl
   have HGET : ∀ q, (Instr.lookup 236 (.map (some md)) (.string n0) false).run Tryz.prog (w.drewN q) = .ok (valP (kid n0)) (w.drewN q) := fun q => by
    have h : PtrMap (w.drewN q) md N (fun n => (kid n).map some) := h3
    have := ptrMap_get1 h n0 hs0m
    rw [this, hgv]
   clear h1 h2 h3 h6 h7 h8 h9 hgv hal hA hF0
   cases hk : kid n0 with
   | some c0 =>
    rw [hk] at HGET
    simp only [valP] at HGET
    have HREC : Hid (∀ q, Calls Tryz.prog 100 #[.pointer (some ⟨c0, 0, none⟩), .slice (some ⟨ab, aoff + 1, none⟩) (n - 1) (c - 1), .string data] (w.drewN q) (AddOut d (w.drewN q) (KF n0) c0 (sub n0 fs ++ [(n1 :: r', data)]))) := fun q => by
     obtain ⟨g8, g9⟩ := H8.out n0 c0 hk
     exact IH.out (n1 :: r') data ab (aoff + 1) (n - 1) (c - 1) c0 (sub n0 fs) (KF n0) (w.drewN q) (g8.only (Only.of_below (below_drewN (Below.refl _ _) q) NoF) (fun k _ e => e)) (HTL.out _ (HA.out.later (below_drewN (Below.refl _ _) q))) (by omega) (by omega) (by omega) (by omega) HTS.out (by omega) (fun e => hab (g9 ab e).1)
    have HFIN : Hid (∀ q e w', AddOut d (w.drewN q) (KF n0) c0 (sub n0 fs ++ [(n1 :: r', data)]) e w' → AddOut (d + 1) w F b (fs ++ [(n0 :: n1 :: r', data)]) e w') := fun q e w' ho => by
     obtain ⟨rfl, K', hC, hCO, hCK⟩ := ho
     obtain ⟨g8, g9⟩ := H8.out n0 c0 hk
     have hCO' : Only (KF n0) w w' := ⟨hCO.os, hCO.tape, hCO.output, hCO.size, hCO.block⟩
     have e1 : (fun n => (if n = n0 then some c0 else kid n).map some) = fun n => (kid n).map some := by
      funext n
      by_cases h : n = n0
      ·rw [if_pos h, h, hk]
      ·rw [if_neg h]
     refine ⟨rfl, _, FoAt.grow (kid := kid) (KF := KF) (K0 := KF n0) (c0 := c0) H1.out H2.out (by rw [e1]; exact H3.out) h4 (by omega) ⟨hFb, hFf, hFd⟩ H6.out H7.out (fun n c _ hc => H8.out n c hc) H9.out hC hCO' (fun k h => hCK k h) (fun k h => (g9 k h).2) (fun n c hn _ k h h' => H9.out n n0 hn k h h'), hCO'.mono (fun k h => (g9 k h).1), fun k h => ?_⟩
     rcases h with h | h
     ·exact .inl h
     ·exact (hCK k h).imp (fun e => (g9 k e).1) (fun e => e)
    clear hk
    go_enter Tryz.func100, Tryz.ntmps100
    go_wp2_with fail
    go_quiet (fail)
    go_wp2_with fail
    refine (HREC.out _).mono ?_; rintro e w' ho
    have HR := hid (HFIN.out _ _ _ ho)
    obtain rfl : e = .returned (.tuple #[]) := ho.1
    clear ho
    go_wp2_with fail
    go_end0
    exact HR.out
   | none =>
    rw [hk] at HGET
    simp only [valP] at HGET
    obtain ⟨d', rfl⟩ : ∃ d', d = d' + 1 := ⟨d - 1, by omega⟩
    have hsub : sub n0 fs = [] := (H7.out n0).1 hk
    have hmdl : md < w.heap.size := H6.out md hFd
    have hmfl : mf < w.heap.size := H6.out mf hFf
    -- behind the new folder and the store
    have HSTEP : Hid (∀ q w1 nq w2 g K0, FoAt (d' + 1) w1 K0 g [] → Below (w.drewN q).heap.size (w.drewN q) w1 → (∀ k, K0 k → (w.drewN q).heap.size ≤ k) → PtrMap w2 md (N + 1) (fun q => if q = n0 then some (some g) else (kid q).map some) → (w1.drewN nq).grownBy w2 (some md) →
      Calls Tryz.prog 100 #[.pointer (some ⟨g, 0, none⟩), .slice (some ⟨ab, aoff + 1, none⟩) (n - 1) (c - 1), .string data] w2 (AddOut (d' + 1 + 1) w F b (fs ++ [(n0 :: n1 :: r', data)]))) := fun q w1 nq w2 g K0 hfo hb hK hpm hg => by
     have hz1 : w.heap.size ≤ w1.heap.size := hb.size
     have hOw1 : Only NoF w w1 := ⟨hb.os, hb.tape, hb.output, hb.size, fun k hk _ => hb.block k hk⟩
     have hO2 : Only (· = md) w1 w2 := ⟨hg.os, hg.tape, hg.output, hg.size, fun k hk hne => hg.block k hk (fun e => hne (by cases e; rfl))⟩
     have hOw2 : Only (· = md) w w2 := (hOw1.mono (fun _ e => e.elim)).then hO2
     have hf2 : FoAt (d' + 1) w2 K0 g [] := hfo.only hO2 (fun k h e => by have := hK k h; have e : k = md := e; have : (w.drewN q).heap.size = w.heap.size := rfl; omega)
     have hst : StrsAt w2 (some ⟨ab, aoff, none⟩) n (n0 :: n1 :: r') := StrsAt.only (c := c) HA.out hOw2 (fun k hk hl e => by
      have e1 : ab = k := by simpa [Value.ownBlock] using hk
      have e2 : k = md := e
      exact hab (by rw [e1, e2]; exact hFd))
     have hcall := IH.out (n1 :: r') data ab (aoff + 1) (n - 1) (c - 1) g [] K0 w2 hf2 (HTL.out _ hst) (by omega) (by omega) (by omega) (by omega) HTS.out (by simp) (fun e => by have := hK ab e; have : (w.drewN q).heap.size = w.heap.size := rfl; omega)
     refine hcall.mono ?_
     rintro e w' ⟨rfl, K', hC, hCO, hCK⟩
     have hz2 : w1.heap.size ≤ w2.heap.size := hO2.size
     have e1 : (fun n => (if n = n0 then some g else kid n).map some) = fun q => if q = n0 then some (some g) else (kid q).map some := by
      funext n
      by_cases h : n = n0
      ·rw [if_pos h, if_pos h]; rfl
      ·rw [if_neg h, if_neg h]
     have hKw : ∀ k, K0 k → w.heap.size ≤ k := fun k h => hK k h
     have hgrow := FoAt.grow (kid := kid) (KF := KF) (K0 := K0) (K0' := K') (c0 := g) (wk := w2) (w' := w') (b := b) (mf := mf) (md := md) (N := N + 1) (F := F) (fs := fs) (n0 := n0) (n1 := n1) (r := r') (data := data) (d := d' + 1)
      (H1.out.only hOw2 (fun e => by
       have e : b = md := e
       obtain ⟨D, ⟨es, clock, hb', _⟩, _⟩ := H3.out
       rw [← e] at hb'
       have h1 := H1.out
       unfold Blk at h1
       rw [h1] at hb'; cases hb'))
      ((H2.out.only hOw2 (fun e => h4 e)).more (Nat.le_succ _)) (by rw [e1]; exact hpm) h4 (by omega) ⟨hFb, hFf, hFd⟩ (fun k h => Nat.lt_of_lt_of_le (H6.out k h) hOw2.size) H7.out
      (fun n c hn hc => by
       obtain ⟨g8, g9⟩ := H8.out n c hc
       exact ⟨g8.only hOw2 (fun k h e => (g9 k h).2.2.2 e), g9⟩) H9.out
      (by rw [hsub]; exact hC) hCO (fun k h => hCK k h)
      (fun k h => by have := hKw k h; have := H6.out b hFb; exact ⟨by omega, by omega, by omega⟩)
      (fun n c hn hc k h h' => by have := hKw k h'; have := H6.out k ((H8.out n c hc).2 k h).1; omega)
     refine ⟨rfl, _, hgrow, (hOw2.mono (fun k e => by have e : k = md := e; rw [e]; exact hFd)).trans hCO (fun k h => .inr (hKw k h)), fun k h => ?_⟩
     rcases h with h | h
     ·exact .inl h
     ·rcases hCK k h with h | h
      ·exact .inr (hKw k h)
      ·exact .inr (by omega)
    have HQ0 : Hid (∀ q w1, Below (w.drewN q).heap.size (w.drewN q) w1 → w1.cell? ⟨ab, aoff, none⟩ = some (.string n0) ∧ w1.cell? ⟨b, 1, none⟩ = some (.map (some md)) ∧ PtrMap w1 md N (fun n => (kid n).map some)) := fun q w1 hb => by
     have hO : Only NoF w w1 := ⟨hb.os, hb.tape, hb.output, hb.size, fun k hk _ => hb.block k hk⟩
     exact ⟨hO.cell (p := ⟨ab, aoff, none⟩) q0 (fun e => e), hO.cell (p := ⟨b, 1, none⟩) k1 (fun e => e), H3.out.only hO (fun e => e)⟩
    clear hk hsub hmdl hmfl
    go_enter Tryz.func100, Tryz.ntmps100
    go_wp2_with fail
    go_quiet (fail)
    go_wp2_with fail
    refine (newFolder_any d' _).mono ?_; rintro e w1 ⟨g, K0, rfl, hfo, hb, hK⟩
    have HFO := hid hfo; have HBB := hid hb; have HKK := hid hK
    obtain ⟨q1, q2, q3⟩ := HQ0.out _ _ hb
    have HPM := hid q3
    clear hfo hb hK q3 HQ0 q0 k0 k1
    go_wp2_with fail
    refine wp_region_tail_drew 8 (by kernel_rfl) (by kernel_rfl) ?_
    simp only [List.take_succ_cons, List.take_zero, List.drop_succ_cons, List.drop_zero]
    repeat (first | go_big_quiet_step (fail) | quiet_step (fail))
    refine wpQuiet_nil ?_
    intro _ hw'
    obtain ⟨nq, hw''⟩ := hw'
    subst hw''
    have HMQ : Hid (PtrMap (w1.drewN nq) md N (fun n => (kid n).map some)) := HPM.out
    clear q1 q2
    refine wpList_mapFn_set rfl (.tmp 32) (.tmp 35) (.tmp 36) 236 rfl Tryz.underlying9 Tryz.underlying236 valP_inj HMQ.out hmax n0 hs0m (some g) rfl rfl rfl ?_
    intro w2 hm hg
    have HR := hid (HSTEP.out _ w1 nq w2 g K0 HFO.out HBB.out HKK.out hm hg)
    clear hm hg HSTEP HFO HBB HKK HMQ HPM
    go_wp2_with fail
    refine HR.out.mono ?_; rintro e w' ho
    have HRR := hid ho
    obtain rfl : e = .returned (.tuple #[]) := ho.1
    clear ho
    go_wp2_with fail
    go_end0
    exact HRR.out
end Go.Proofs.YtmpjdoiogbbcoaaGreatDoor
/- Folders in memory: their names, rising. -/
namespace Go.Proofs.YtmpjdoiogbbcoaaGreatDoor
open Go.RowKit Go.Sort Book Pap Ojt Sn
set_option linter.unusedVariables false
set_option linter.unusedSimpArgs false

theorem leafs_iff (fs : List Fl) (n : ByteArray) : leafs fs n ≠ none ↔ ∃ f ∈ fs, f.1 = [n] := by
 have key : ∀ (l : List Fl) (g : Option ByteArray), l.foldl (fun g f => if f.1 = [n] then some f.2 else g) g ≠ none ↔ g ≠ none ∨ ∃ f ∈ l, f.1 = [n] := by
  intro l
  induction l with
  | nil => intro g; simp
  | cons y r ih =>
   intro g
   rw [List.foldl_cons, ih]
   by_cases h : y.1 = [n]
   ·rw [if_pos h]
    exact ⟨fun _ => .inr ⟨y, List.mem_cons_self .., h⟩, fun _ => .inl (by simp)⟩
   ·rw [if_neg h]
    constructor
    ·rintro (h1 | ⟨f, hf, h1⟩)
     ·exact .inl h1
     ·exact .inr ⟨f, List.mem_cons_of_mem _ hf, h1⟩
    ·rintro (h1 | ⟨f, hf, h1⟩)
     ·exact .inl h1
     ·rcases List.mem_cons.1 hf with e | hf
      ·subst e; exact absurd h1 h
      ·exact .inr ⟨f, hf, h1⟩
 unfold leafs
 rw [key]; simp
theorem sub_iff (fs : List Fl) (n : ByteArray) : sub n fs ≠ [] ↔ ∃ f ∈ fs, ∃ b r, f.1 = n :: b :: r := by
 unfold sub
 rw [ne_eq, List.filterMap_eq_nil_iff]
 constructor
 ·intro h
  refine Classical.byContradiction fun hn => h (fun f hf => ?_)
  unfold subOf
  split
  ·rename_i a b r he
   rw [if_neg]
   rintro rfl
   exact hn ⟨f, hf, b, r, he⟩
  ·rfl
 ·rintro ⟨f, hf, b, r, he⟩ h
  have := h f hf
  unfold subOf at this
  rw [he] at this
  simp at this
theorem head_iff (fs : List Fl) (n : ByteArray) : n ∈ fs.filterMap headOf ↔ leafs fs n ≠ none ∨ sub n fs ≠ [] := by
 rw [leafs_iff, sub_iff, List.mem_filterMap]
 constructor
 ·rintro ⟨f, hf, h⟩
  unfold headOf at h
  cases hc : f.1 with
  | nil => rw [hc] at h; cases h
  | cons a r =>
   rw [hc] at h
   cases h
   cases r with
   | nil => exact .inl ⟨f, hf, hc⟩
   | cons b r => exact .inr ⟨f, hf, b, r, hc⟩
 ·rintro (⟨f, hf, h⟩ | ⟨f, hf, b, r, h⟩)
  ·exact ⟨f, hf, by unfold headOf; rw [h]; rfl⟩
  ·exact ⟨f, hf, by unfold headOf; rw [h]; rfl⟩
theorem sorted_names (fs : List Fl) (T : List (List UInt8)) (hn : T.Nodup) (hm : ∀ x, x ∈ T ↔ leafs fs (bz x) ≠ none ∨ sub (bz x) fs ≠ []) : ((T.mergeSort fun x y => decide (x ≤ y)).map bz) = namesF fs := by
 refine Sw.rising_ext ?_ (Sw.setOf_rising _) (fun x => ?_)
 ·show ((T.mergeSort fun x y => decide (x ≤ y)).map bz).Pairwise (fun a b => lt' a b = true)
  rw [List.pairwise_map]
  have hp := List.pairwise_mergeSort (le := fun x y => decide (x ≤ y)) Sw.ble_trans Sw.ble_total T
  have hnd : (T.mergeSort fun x y => decide (x ≤ y)).Nodup := (List.mergeSort_perm T _).nodup_iff.2 hn
  refine (hp.and hnd).imp ?_
  rintro a b ⟨h, hne⟩
  rw [Sw.ble_eq, Bool.not_eq_true'] at h
  unfold lt'
  rw [ba_toList, ba_toList]
  cases hab : Op.bytesLess a b
  ·exact absurd (bl_tri a b hab h) hne
  ·simpa [bz] using hab
 ·show _ ↔ x ∈ Sw.setOf (fs.filterMap headOf)
  rw [Sw.setOf_mem, head_iff, List.mem_map]
  constructor
  ·rintro ⟨y, hy, rfl⟩
   rw [List.mem_mergeSort] at hy
   exact (hm y).1 hy
  ·intro hx
   exact ⟨Sw.bl x, by rw [List.mem_mergeSort]; exact (hm _).2 (by rw [Sw.bz_bl]; exact hx), Sw.bz_bl x⟩
theorem encStr_bz (l : List (List UInt8)) : l.map encStr = svals (l.map bz) := by
 unfold svals; rw [List.map_map]; rfl
/-- what names hands back -/
def NamesOut (w : World) (l : List ByteArray) (e : Ending) (w' : World) : Prop :=
 ∃ a n c, e = .returned (.slice a n c) ∧ StrsAt w' a n l ∧ Below w.heap.size w w' ∧ (∀ k, (Value.slice a n c).ownBlock = some k → w.heap.size ≤ k) ∧ n ≤ c
set_option maxRecDepth 100000 in
set_option maxHeartbeats 8000000 in
theorem names_any (d b : Nat) (fs : List Fl) (F : Nat → Prop) (w : World) (hF : FoAt (d + 1) w F b fs) (hfit : ∀ n, leafs fs n ≠ none → sub n fs = []) (hfl : fs.length ≤ 1000) :
  Calls Tryz.prog 163 #[.pointer (some ⟨b, 0, none⟩)] w (NamesOut w (namesF fs)) := by
 obtain ⟨i0, hi, hz0, hz1, hz2⟩ := info_parts Tryz.infoS
 have hFL := hid hF.lt
 obtain ⟨mf, md, N, kid, KF, h1, ⟨D0, ho0, hs0⟩, ⟨D1, ho1, hs1⟩, h4, h5, ⟨hFb, hFf, hFd⟩, h6, h7, h8, h9⟩ := hF
 have hN : N ≤ 1000 := by omega
 have k0 : w.cell? ⟨b, 0, none⟩ = some (.map (some mf)) := Blk.cell h1 0
 have hz0' : Maps.size D0 ≤ N := ho0.size_le
 have hz1' : Maps.size D1 ≤ N := ho1.size_le
 have H1 := hid h1; have HO0 := hid ho0; have HO1 := hid ho1
 have hmfl := ho0.lt; have hmdl := ho1.lt
 have HS0 : Hid (∀ x, Maps.has D0 (.string x) = true ↔ leafs fs (bz x) ≠ none) := fun x => by
  have := (hs0 (bz x)).1
  have e : kl (bz x) = .string x := by unfold kl; simp [bz]
  rw [e] at this
  rw [this]; cases leafs fs (bz x) <;> simp
 have HS1 : Hid (∀ x, Maps.has D1 (.string x) = true ↔ sub (bz x) fs ≠ []) := fun x => by
  have := (hs1 (bz x)).1
  have e : kl (bz x) = .string x := by unfold kl; simp [bz]
  rw [e] at this
  rw [this]
  show (Option.map some (kid (bz x))).isSome = true ↔ _
  rw [ne_eq, ← h7 (bz x)]
  cases kid (bz x) <;> simp
 have HFT := hid hfit
 clear ho0 ho1 hs0 hs1 h1 h5 h6 h7 h8 h9 hfit
 go_enter Tryz.func163, Tryz.ntmps163
 go_wp2_with (first
  | (at_range; refine wpList_range_own _ rfl _ 132 rfl 9 9 (Maps.string_keyed Tryz.underlying9) Tryz.underlying132 _ mf N _ rfl HO0.out ?_; intro w0 hrg0 hg0 hsz0; have HR0 := hid hrg0; have HG0 := hid hg0; clear hrg0 hg0 hsz0)
  | go_in)
 go_frame
 go_loopw [3] (fun v wr => ∃ (left : Lit → Bool) (cnt : Nat) (ss : List (List UInt8)), Hid (wr.ranges Tryz.prog 9 (elemR Value.string datS) mf w.heap.size N D0 left cnt) ∧ Hid (ss.length + cnt ≤ Maps.size D0) ∧
   Hid (wr.ownsRow w.heap.size 9 1 v ss.length (ss.map encStr)) ∧ Hid (Collected D0 left ss) ∧ Hid (Below w.heap.size w wr)) (fun _ wr => wr.rangeLeft mf w.heap.size)
 case atStart =>
  exact ⟨_, _, [], HR0, by show 0 + _ ≤ _; omega, World.ownsRow_nil _ _ _ _, Collected.start D0, (Below.refl _ _).grown HG0.out (Nat.le_refl _) (fun j hj => by cases hj)⟩
 case round =>
  obtain ⟨left, cnt, ss, HRG, HCS, HRW, HC, HB⟩ := hrel
  obtain ⟨va, vc, rfl, hvc⟩ := own_slice' HRW.out
  have hszr := HB.out.size
  go_wp2_with (first
   | (at_next; refine wpList_next_ranges _ rfl _ rfl 9 (Maps.string_keyed Tryz.underlying9) (elemR Value.string datS) encStr Value.string (fun key kl hk => by obtain ⟨x, hx, _⟩ := Maps.keyOf_str Tryz.underlying9 hk; exact ⟨x, hx⟩) (fun v y hv => by obtain ⟨c, rfl, _⟩ := elemR_inv hv; exact ⟨c, rfl⟩) mf w.heap.size N _ _ _ rfl HRG.out ?_ ?_)
   | go_in)
  ·intro hc0 hl0
   rename World => W1
   have HL0 := hid hl0
   clear hc0 hl0
   have k1 : W1.cell? ⟨b, 1, none⟩ = some (.map (some md)) := Blk.cell ((HB.out.block b (Blk.lt H1.out)).trans H1.out) 1
   have HO1r : Hid (W1.ownsMap Tryz.prog 9 (elemR valP datP) md N D1) := by
    obtain ⟨es, clock, hb, r⟩ := HO1.out
    exact ⟨es, clock, (HB.out.block md hmdl).trans hb, r⟩
   have hmdr : md < W1.heap.size := by omega
   go_wp2_with (first
    | (at_range; refine wpList_range_own _ rfl _ 236 rfl 9 182 (Maps.string_keyed Tryz.underlying9) Tryz.underlying236 _ md N _ rfl HO1r.out ?_; intro w0' hrg0 hg0 hsz0; have HR0' := hid hrg0; have HG0' := hid hg0; clear hrg0 hg0 hsz0)
    | go_in)
   go_frame
   go_loopw [3] (fun v wx => ∃ (left : Lit → Bool) (cnt : Nat) (tt : List (List UInt8)) (q : Nat), Hid ((ss ++ tt).length = q) ∧ Hid (wx.ranges Tryz.prog 9 (elemR valP datP) md W1.heap.size N D1 left cnt) ∧ Hid (tt.length + cnt ≤ Maps.size D1) ∧
     Hid (wx.ownsRow w.heap.size 9 1 v q ((ss ++ tt).map encStr)) ∧ Hid (Collected D1 left tt) ∧ Hid (Below w.heap.size w wx)) (fun _ wx => wx.rangeLeft md W1.heap.size)
   case atStart =>
    exact ⟨_, _, [], ss.length, by show _ = _; rw [List.append_nil], HR0', by show 0 + _ ≤ _; omega, by rw [List.append_nil]; exact HRW.out.kept HG0'.out (by cases h : (Value.slice va ss.length vc).ownBlock with | none => exact .inl rfl | some k => exact .inr (by simp)), Collected.start D1, HB.out.grown HG0'.out hszr (fun j hj => by cases hj)⟩
   case round =>
    obtain ⟨left', cnt', tt, q, HQ, HRG', HCS', HRW', HC', HB'⟩ := hrel
    obtain ⟨va', vc', rfl, hvc'⟩ := own_slice' HRW'.out
    have hszx := HB'.out.size
    have hcs0 := HCS.out
    go_wp2_with (first
     | (at_next; refine wpList_next_ranges _ rfl _ rfl 9 (Maps.string_keyed Tryz.underlying9) (elemR valP datP) encStr valP (fun key kl hk => by obtain ⟨x, hx, _⟩ := Maps.keyOf_str Tryz.underlying9 hk; exact ⟨x, hx⟩) (fun v y hv => by obtain ⟨c, rfl, _⟩ := elemR_inv hv; exact ⟨c, rfl⟩) md W1.heap.size N _ _ _ rfl HRG'.out ?_ ?_)
     | go_in)
    ·intro hc0 hl0
     have hlt2 : q ≤ 4000 := by have := HCS'.out; rw [← HQ.out, List.length_append]; omega
     have HM : Hid (∀ x, x ∈ ss ++ tt ↔ leafs fs (bz x) ≠ none ∨ sub (bz x) fs ≠ []) := fun x => by
      rw [List.mem_append, HC.out.2 x, HC'.out.2 x, HS0.out x, HS1.out x, HL0.out, hl0]
      simp
     have HND : Hid ((ss ++ tt).Nodup) := by
      refine List.nodup_append.2 ⟨HC.out.1, HC'.out.1, fun x hx y hy e => ?_⟩
      subst e
      have g1 := (HS0.out x).1 ((HC.out.2 x).1 hx).1
      have g2 := (HS1.out x).1 ((HC'.out.2 x).1 hy).1
      exact g2 (HFT.out _ g1)
     clear hc0 hl0 hcs0
     obtain ⟨T, hT⟩ : ∃ T, ss ++ tt = T := ⟨_, rfl⟩
     rw [hT] at HRW' HM HND HQ
     have HSN := hid (sorted_names fs T HND.out HM.out)
     have HQL := HQ.out
     have HSL : Hid ((T.mergeSort fun x y => decide (x ≤ y)).length = q) := by show _ = _; rw [List.length_mergeSort, HQL]
     have HFIN : Hid (∀ W a c, W.ownsRow w.heap.size 9 1 (.slice a q c) q ((T.mergeSort fun x y => decide (x ≤ y)).map encStr) → q ≤ c → Below w.heap.size w W → NamesOut w (namesF fs) (.returned (.slice a q c)) W) := fun W a c ho hc hb => by
      rw [encStr_bz, HSN.out] at ho
      have hnl : (namesF fs).length = q := by rw [← HSN.out, List.length_map, HSL.out]
      have ho' : W.ownsRow w.heap.size 9 1 (.slice a q c) (namesF fs).length (svals (namesF fs)) := by rw [hnl]; exact ho
      obtain ⟨a', c', e1, hst⟩ := own_strs ho' (by omega)
      injection e1 with e2 e3 e4
      rw [hnl, ← e2] at hst
      exact ⟨a, q, c, rfl, hst, hb, fun k hk => (ho.lt k hk).1, hc⟩
     rcases HRW'.out.2 with ⟨hnil, hq0⟩ | ⟨g, cap, cur, hv, hbase, hb, g1, g2, g3, g4⟩
     ·injection hnil with n1 n2 n3
      subst n1 n2 n3
      have hT0 : T = [] := List.length_eq_zero_iff.1 HQL
      have HSO := hid (Tryz.slices_Sort_string_none none 0 wr)
      have HR := hid (HFIN.out wr none 0 (by rw [hT0, List.mergeSort_nil]; exact World.ownsRow_nil _ _ _ _) (Nat.le_refl _) HB'.out)
      clear hT HQL hT0
      go_wp2_with fail
      refine HSO.out.mono ?_; rintro e wz ⟨rfl, rfl⟩
      go_wp2_with fail
      go_ret
      exact HR.out
     ·injection hv with n1 n2 n3
      subst n1 n3
      have hH : Holds encStr wr g 0 T.toArray := holds_of_block hb (by rw [HQL]; simpa using g4)
      have HSO := hid (Tryz.slices_Sort_string g 0 vc' T wr hH (Array.getElem?_eq_some_iff.1 hb).1 (by omega))
      rw [HQL] at HSO
      have HR : Hid (∀ n os, NamesOut w (namesF fs) (.returned (.slice (some ⟨g, 0, none⟩) q vc')) (grow (putRow encStr (Sort.ahead wr n) g 0 (T.mergeSort fun x y => decide (x ≤ y)).toArray) os)) := fun n os => by
       have ho := ownsRow_sorted (n := n) (os := os) (ss := T) (ts := T.mergeSort fun x y => decide (x ≤ y)) (by rw [List.length_mergeSort]) hbase hb (by rw [HQL]; exact g1) g2 g3
       rw [HQL] at ho
       exact HFIN.out _ _ _ ho g1 (HB'.out.grown (grownBy_sorted _) hszx (fun j hj => by cases hj; exact hbase))
      clear hT HQL hH hb g3 g4
      go_wp2_with fail
      refine HSO.out.mono ?_; rintro e wz ⟨rfl, n, os, rfl⟩
      have HRR := hid (HR.out n os)
      go_wp2_with fail
      go_ret
      exact HRR.out
    ·intro x c kl yd yp w2 cnt2 hkey hlk hv hat hrg2 hlt hg2 hs2 hen
     obtain ⟨x', ex, rfl, _⟩ := Maps.keyOf_str Tryz.underlying9 hkey
     obtain rfl : x = x' := encStr_inj ex
     have HRW2 : Hid (w2.ownsRow w.heap.size 9 1 (.slice va' q vc') q ((ss ++ tt).map encStr)) := HRW'.out.kept hg2 (Or.inr (row_ne_iter HRW'.out HRG'.out).symm)
     have HRG2 := hid hrg2; have HLT := hid hlt; have HG2 := hid hg2; have HC2 := hid (HC'.out.step hlk hat)
     have hw2 : w.heap.size ≤ w2.heap.size := Nat.le_trans hszx hg2.size
     have hcs := HCS'.out
     have hla : q ≤ 2000 := by rw [← HQ.out, List.length_append]; omega
     clear hs2 hrg2 hlt hg2 hlk hat hkey hv hcs0 HRW'
     go_wp2_with (first
      | (at_builtin; refine wpList_append_own _ rfl _ _ 40 rfl w.heap.size 9 i0 (.string ⟨#[]⟩) 1 16 Tryz.underlying40 hi hz0 hz1 hz2 rfl (by decide) (.slice va' q vc') _ _ rfl (HRW2.out.alloc _) ⟨w2.heap.size, 0, none⟩ 1 1 [encStr x] rfl rfl (cellNew1 _ _ _) (one_bytes rfl) (by unfold maxLen; omega) (by omega) (by rw [World.size_alloc]; omega) ?_; intro v' w3 hown' hg3 hnil3; have HOWN := hid hown'; have HG3 := hid hg3; clear hown' hg3 hnil3)
      | go_in)
     have hrg3 := (HRG2.out.alloc _).kept HG3.out (fun e => by have := (HRW2.out.lt md e.symm).1; omega) (row_ne_iter HRW2.out HRG2.out)
     have HB3 : Hid (Below w.heap.size w w3) := ((HB'.out.grown HG2.out hszx (fun j hj => by cases hj; exact hszr)).alloc hw2 _).grown HG3.out (by rw [World.size_alloc]; omega) (fun j hj => (HRW2.out.lt j hj).1)
     have HO3 : Hid (w3.ownsRow w.heap.size 9 1 v' (q + 1) ((ss ++ (tt ++ [x])).map encStr)) := by
      have h := HOWN.out
      rw [← List.append_assoc, List.map_append]; exact h
     have HQ3 : Hid ((ss ++ (tt ++ [x])).length = q + 1) := by show _ = _; rw [← List.append_assoc, List.length_append, HQ.out]; rfl
     have HRG3 := hid hrg3
     clear hrg3
     go_roundw
     case rel => first | exact ⟨_, cnt2, tt ++ [x], q + 1, HQ3, HRG3, by show _ ≤ _; have := HLT.out; rw [List.length_append]; simp only [List.length_cons, List.length_nil]; omega, HO3, HC2, HB3⟩ | ((repeat apply Exists.intro); exact ⟨⟨_, cnt2, tt ++ [x], q + 1, HQ3, HRG3, by show _ ≤ _; have := HLT.out; rw [List.length_append]; simp only [List.length_cons, List.length_nil]; omega, HO3, HC2, HB3⟩, rfl⟩)
     case measure => rw [HRG3.out.left_eq, HRG'.out.left_eq]; exact HLT.out
  ·intro x c kl yd yp w2 cnt2 hkey hlk hv hat hrg2 hlt hg2 hs2 hen
   obtain ⟨x', ex, rfl, _⟩ := Maps.keyOf_str Tryz.underlying9 hkey
   obtain rfl : x = x' := encStr_inj ex
   have HRW2 : Hid (w2.ownsRow w.heap.size 9 1 (.slice va ss.length vc) ss.length (ss.map encStr)) := HRW.out.kept hg2 (Or.inr (row_ne_iter HRW.out HRG.out).symm)
   have HRG2 := hid hrg2; have HLT := hid hlt; have HG2 := hid hg2; have HC2 := hid (HC.out.step hlk hat)
   have hw2 : w.heap.size ≤ w2.heap.size := Nat.le_trans hszr hg2.size
   have hcs := HCS.out
   clear hs2 hrg2 hlt hg2 hlk hat hkey hv
   go_wp2_with (first
    | (at_builtin; refine wpList_append_own _ rfl _ _ 40 rfl w.heap.size 9 i0 (.string ⟨#[]⟩) 1 16 Tryz.underlying40 hi hz0 hz1 hz2 rfl (by decide) (.slice va ss.length vc) _ _ rfl (HRW2.out.alloc _) ⟨w2.heap.size, 0, none⟩ 1 1 [encStr x] rfl rfl (cellNew1 _ _ _) (one_bytes rfl) (by unfold maxLen; omega) (by omega) (by rw [World.size_alloc]; omega) ?_; intro v' w3 hown' hg3 hnil3; have HOWN := hid hown'; have HG3 := hid hg3; clear hown' hg3 hnil3)
    | go_in)
   have hrg3 := (HRG2.out.alloc _).kept HG3.out (row_ne_low HRW2.out hmfl) (row_ne_iter HRW2.out HRG2.out)
   have HB3 : Hid (Below w.heap.size w w3) := ((HB.out.grown HG2.out hszr (fun j hj => by cases hj; exact Nat.le_refl _)).alloc hw2 _).grown HG3.out (by rw [World.size_alloc]; omega) (fun j hj => (HRW2.out.lt j hj).1)
   have HO3 : Hid (w3.ownsRow w.heap.size 9 1 v' (ss ++ [x]).length ((ss ++ [x]).map encStr)) := by
    have h := HOWN.out
    rw [List.length_append, List.map_append]; exact h
   have HRG3 := hid hrg3
   clear hrg3
   go_roundw
   case rel => first | exact ⟨_, cnt2, ss ++ [x], HRG3, by show _ ≤ _; have := HLT.out; rw [List.length_append]; simp only [List.length_cons, List.length_nil]; omega, HO3, HC2, HB3⟩ | ((repeat apply Exists.intro); exact ⟨⟨_, cnt2, ss ++ [x], HRG3, by show _ ≤ _; have := HLT.out; rw [List.length_append]; simp only [List.length_cons, List.length_nil]; omega, HO3, HC2, HB3⟩, rfl⟩)
   case measure => rw [HRG3.out.left_eq, HRG.out.left_eq]; exact HLT.out
end Go.Proofs.YtmpjdoiogbbcoaaGreatDoor
/- Sets of texts made of a list: shelf.Of; its length. Sorting own slices. -/
namespace Go.Proofs.YtmpjdoiogbbcoaaGreatDoor
open Go.RowKit Go.Sort Book Pap Ojt Sn
set_option linter.unusedVariables false
set_option linter.unusedSimpArgs false

/-- texts sorted -/
def sortB (l : List ByteArray) : List ByteArray := ((l.map Sw.bl).mergeSort fun x y => decide (x ≤ y)).map bz
def compB (l : List ByteArray) : List ByteArray := (Lib.compact (l.map Sw.bl)).map bz
theorem map_bl_bz (l : List (List UInt8)) : (l.map bz).map Sw.bl = l := by
 rw [List.map_map]
 conv => rhs; rw [← List.map_id l]
 exact List.map_congr_left (fun x _ => by simp [Sw.bl, bz])
theorem compB_sortB (l : List ByteArray) : compB (sortB l) = Sw.setOf l := by
 unfold compB sortB
 rw [map_bl_bz]; exact Sw.sort_compact l
theorem sortB_length (l : List ByteArray) : (sortB l).length = l.length := by unfold sortB; rw [List.length_map, List.length_mergeSort, List.length_map]
theorem svals_enc (l : List ByteArray) : svals l = (l.map Sw.bl).map encStr := by
 rw [encStr_bz]
 congr 1
 rw [List.map_map]
 conv => lhs; rw [← List.map_id l]
 exact List.map_congr_left (fun x _ => (Sw.bz_bl x).symm)
/-- what sorting leaves of an own slice -/
def SortOut (B : Nat) (w : World) (v : Value) (n : Nat) (l : List ByteArray) (e : Ending) (w' : World) : Prop :=
 e = .returned (.tuple #[]) ∧ w'.ownsRow B 9 1 v n (svals (sortB l)) ∧ w.grownBy w' v.ownBlock
theorem sort_own {B n : Nat} {v : Value} {l : List ByteArray} {w : World} (h : w.ownsRow B 9 1 v n (svals l)) (hn : n ≤ 1000000) :
  Calls Tryz.prog 48 #[v] w (SortOut B w v n l) := by
 have hl : l.length = n := by have := h.1; unfold svals at this; rw [List.length_map] at this; omega
 rcases h.2 with ⟨rfl, h0⟩ | ⟨g, cap, cur, rfl, hb, hg, hn1, hc, hs, ht⟩
 ·subst h0
  have hl0 : l = [] := List.length_eq_zero_iff.1 hl
  subst hl0
  refine (Tryz.slices_Sort_string_none none 0 w).mono ?_
  rintro e w' ⟨rfl, rfl⟩
  refine ⟨rfl, ?_, ⟨rfl, rfl, rfl, Nat.le_refl _, fun _ _ _ => rfl⟩⟩
  have : sortB [] = [] := by unfold sortB; simp
  rw [this]; exact World.ownsRow_nil _ _ _ _
 ·have hlen : (l.map Sw.bl).length = n := by rw [List.length_map, hl]
  have hH : Holds encStr w g 0 (l.map Sw.bl).toArray := holds_of_block hg (by rw [hlen, ← svals_enc]; simpa using ht)
  have hS := Tryz.slices_Sort_string g 0 cap (l.map Sw.bl) w hH (Array.getElem?_eq_some_iff.1 hg).1 (by omega)
  rw [hlen] at hS
  refine hS.mono ?_
  rintro e w' ⟨rfl, q, os, rfl⟩
  refine ⟨rfl, ?_, grownBy_sorted _⟩
  have ho := ownsRow_sorted (n := q) (os := os) (ss := l.map Sw.bl) (ts := (l.map Sw.bl).mergeSort fun x y => decide (x ≤ y)) (by rw [List.length_mergeSort]) hb hg (by rw [hlen]; exact hn1) hc hs
  rw [hlen, encStr_bz] at ho
  exact ho
def CompOut (B : Nat) (w : World) (v : Value) (l : List ByteArray) (e : Ending) (w' : World) : Prop :=
 ∃ v', e = .returned v' ∧ w'.ownsRow B 9 1 v' (compB l).length (svals (compB l)) ∧ w.grownBy w' v.ownBlock ∧ v'.ownBlock = v.ownBlock
theorem compact_own {B n : Nat} {v : Value} {l : List ByteArray} {w : World} (h : w.ownsRow B 9 1 v n (svals l)) (hn : n ≤ 1000000) :
  Calls Tryz.prog 49 #[v] w (CompOut B w v l) := by
 have hl : l.length = n := by have := h.1; unfold svals at this; rw [List.length_map] at this; omega
 rcases h.2 with ⟨rfl, h0⟩ | ⟨g, cap, cur, rfl, hb, hg, hn1, hc, hs, ht⟩
 ·subst h0
  have hl0 : l = [] := List.length_eq_zero_iff.1 hl
  subst hl0
  refine (Tryz.slices_Compact_string_empty none 0 w).mono ?_
  rintro e w' ⟨rfl, rfl⟩
  exact ⟨_, rfl, World.ownsRow_nil _ _ _ _, ⟨rfl, rfl, rfl, Nat.le_refl _, fun _ _ _ => rfl⟩, rfl⟩
 ·have hlen : (l.map Sw.bl).length = n := by rw [List.length_map, hl]
  have hH : Holds encStr w g 0 (l.map Sw.bl).toArray := holds_of_block hg (by rw [hlen, ← svals_enc]; simpa using ht)
  have hS := Tryz.slices_Compact_string g 0 cap (l.map Sw.bl) w hH (by omega) (by omega)
  rw [hlen] at hS
  refine hS.mono ?_
  rintro e w' ⟨rfl, q, rfl⟩
  have hcl : (Lib.compact (l.map Sw.bl)).length ≤ n := by rw [← hlen]; exact Lib.compact_length_le _
  have hrow := h
  rw [svals_enc] at hrow
  have ho := Lib.ownsRow_putRow (q := q) (k := (Lib.compact (l.map Sw.bl)).length) (ys := Lib.compact (l.map Sw.bl) ++ List.replicate (n - (Lib.compact (l.map Sw.bl)).length) []) hrow (by rw [List.length_append, List.length_replicate]; omega) hcl
  rw [List.take_left, encStr_bz] at ho
  have e1 : (compB l).length = (Lib.compact (l.map Sw.bl)).length := by unfold compB; rw [List.length_map]
  refine ⟨_, rfl, ?_, ?_, rfl⟩
  ·rw [e1]; exact ho
  ·refine ⟨rfl, rfl, rfl, by simp [putRow, mapBlock, Sort.ahead], fun k hk hne => ?_⟩
   have : g ≠ k := fun e => hne (by rw [e]; rfl)
   simp [putRow, mapBlock, Sort.ahead, Array.getElem?_modify, this]
theorem clone_strs (a : Option Addr) (n c : Nat) (l : List ByteArray) (w : World) (h : StrsAt w a n l) (hn : n ≤ 100000) :
  Calls Tryz.prog 47 #[.slice a n c] w fun e w' => ∃ v', e = .returned v' ∧ w'.ownsRow w.heap.size 9 1 v' n (svals l) ∧ Below w.heap.size w w' := by
 obtain ⟨h1, h2, h3⟩ := h
 by_cases h0 : n = 0
 ·subst h0
  have hl0 : l = [] := List.length_eq_zero_iff.1 h1
  subst hl0
  cases a with
  | none =>
   refine (Tryz.slices_Clone_string_nil 0 c w).mono ?_
   rintro e w' ⟨rfl, rfl⟩
   exact ⟨_, rfl, World.ownsRow_nil _ _ _ _, Below.refl _ _⟩
  | some ad =>
   refine (Tryz.slices_Clone_string_zero ad c w).mono ?_
   rintro e w' ⟨v', rfl, ho, -, hb⟩
   exact ⟨_, rfl, ho, hb⟩
 ·obtain ⟨b, off, rfl, hc⟩ := h3.resolve_left h0
  refine (Tryz.slices_Clone_string b off n c l w (by omega) (by omega) (fun j hj => hc j (by omega))).mono ?_
  rintro e w' ⟨v', rfl, ho, -, hb⟩
  refine ⟨_, rfl, ?_, hb⟩
  rw [List.take_of_length_le (by omega)] at ho
  exact ho
/-- a set of texts in memory: its row of texts, its row of nothings -/
def SetAt (B : Nat) (w : World) (b : Nat) (S : List ByteArray) : Prop :=
 ∃ kv ev, Blk w b 116 #[kv, ev] ∧ w.ownsRow B 9 1 kv S.length (svals S) ∧ w.ownsRow B 120 0 ev S.length [] ∧ B ≤ b
theorem Tryz.infoNo : (Tryz.prog.info? 120).map (fun i => (i.zero, i.size, i.bytes)) = some (some (.agg #[]), 0, 0) := by kernel_rfl
theorem setOf_length (l : List ByteArray) : (Sw.setOf l).length ≤ l.length := by
 rw [← compB_sortB]
 have h := Lib.compact_length_le ((sortB l).map Sw.bl)
 unfold compB
 rw [List.length_map] at *
 rw [sortB_length] at h
 exact h
set_option maxRecDepth 100000 in
set_option maxHeartbeats 4000000 in
theorem of_any (a : Option Addr) (n c : Nat) (l : List ByteArray) (w : World) (h : StrsAt w a n l) (hn : n ≤ 100000) :
  Calls Tryz.prog 16 #[.slice a n c] w fun e w' => ∃ b, e = .returned (.pointer (some ⟨b, 0, none⟩)) ∧ SetAt w.heap.size w' b (Sw.setOf l) ∧ Below w.heap.size w w' := by
 obtain ⟨i1, hi1, hz0, hz1, hz2⟩ := info_parts Tryz.infoNo
 have HC := hid (clone_strs a n c l w h hn)
 have HSL := hid (setOf_length l)
 have HLN := hid h.1
 clear h
 go_enter Tryz.func16, Tryz.ntmps16
 go_wp2_with fail
 refine HC.out.mono ?_; rintro e w1 ⟨v1, rfl, ho1, hb1⟩
 have HO1 := hid ho1
 have HB1 := hid hb1
 have HS := hid (sort_own ho1 (by omega))
 clear ho1 hb1 HC
 go_wp2_with fail
 refine HS.out.mono ?_; rintro e w2 ⟨rfl, ho2, hg2⟩
 have HB2 : Hid (Below w.heap.size w w2) := HB1.out.grown hg2 HB1.out.size (fun j hj => (HO1.out.lt j hj).1)
 have HO2 := hid ho2
 have HS := hid (compact_own ho2 (by omega))
 clear ho2 hg2 HB1 HO1
 go_wp2_with fail
 refine HS.out.mono ?_; rintro e w3 ⟨v3, rfl, ho3, hg3, hv3⟩
 rw [compB_sortB] at ho3
 have HB3 : Hid (Below w.heap.size w w3) := HB2.out.grown hg3 HB2.out.size (fun j hj => (HO2.out.lt j hj).1)
 have HO3 := hid ho3
 obtain ⟨va, vc, rfl, hvc⟩ := own_slice' ho3
 have hq : (Sw.setOf l).length ≤ 100000 := by have := HSL.out; have := HLN.out; omega
 have hs3 : w.heap.size ≤ w3.heap.size := HB3.out.size
 clear ho3 hg3 hv3 HB2 HO2 HS HSL
 obtain ⟨S, hS⟩ : ∃ S, Sw.setOf l = S := ⟨_, rfl⟩
 rw [hS] at HO3 hq hvc ⊢
 have HSS := hid hS
 clear hS
 go_wp2_with (first
  | (refine wpList_make_full _ rfl _ _ 112 rfl w.heap.size 120 i1 (.agg #[]) 0 Tryz.underlying112 hi1 hz0 hz1 _ _ _ _ S.length rfl rfl rfl rfl (by rw [hz2]; omega) (by unfold maxLen; omega) (by first | exact hs3 | (simp; omega)) ?_; intro w4 ho4 hg4; have HO4 := hid ho4; have HG4 := hid hg4; clear ho4 hg4))
 go_ret
 rw [HSS.out]
 have hb4 : Below w3.heap.size w3 w4 := (Below.refl _ _).grown HG4.out (Nat.le_refl _) (fun j hj => by cases hj)
 have hs4 : w.heap.size ≤ w4.heap.size := Nat.le_trans hs3 hb4.size
 have h2 : (w4.ownsRow w.heap.size 120 0 (.slice (some ⟨w3.heap.size, 0, none⟩) S.length S.length) S.length []) := by
  have h := HO4.out
  have e : (madeCells (Value.agg #[]).cells (S.length * 0)).toList = [] := by simp [madeCells]
  rw [e] at h; exact h
 exact ⟨_, rfl, ⟨_, _, Blk.new _ _ _, (own_below HO3.out hb4).alloc _, h2.alloc _, hs4⟩, (HB3.out.trans (hb4.mono hs3)).alloc hs4 _⟩
theorem slen_any {B b : Nat} {S : List ByteArray} (w : World) (h : SetAt B w b S) : Calls Tryz.prog 23 #[.pointer (some ⟨b, 0, none⟩)] w fun e w' => e = .returned (.int .i64 S.length) ∧ w = w' := by
 obtain ⟨kv, ev, h1, h2, -, -⟩ := h
 obtain ⟨va, vc, rfl, -⟩ := own_slice' h2
 have k0 : w.cell? ⟨b, 0, none⟩ = some (.slice va S.length vc) := Blk.cell h1 0
 have HA : Calls Tryz.prog 50 #[.pointer (some ⟨b, 0, none⟩)] w fun e w' => e = .returned (.pointer (some ⟨b, 0, none⟩)) ∧ w = w' := by
  clear k0 h1 h2
  go_enter Tryz.func50, Tryz.ntmps50
  go_wp2_with fail
  go_ret
  exact ⟨rfl, rfl⟩
 have HL : Calls Tryz.prog 66 #[.pointer (some ⟨b, 0, none⟩)] w fun e w' => e = .returned (.int .i64 S.length) ∧ w = w' := by
  clear HA h1 h2
  go_enter Tryz.func66, Tryz.ntmps66
  go_wp2_with fail
  go_ret
  exact ⟨rfl, rfl⟩
 have HA := hid HA
 have HL := hid HL
 clear k0 h1 h2
 go_enter Tryz.func23, Tryz.ntmps23
 go_wp2_with (first
  | (go_at_call 50; refine HA.out.mono ?_; rintro e w' ⟨rfl, rfl⟩)
  | (go_at_call 66; refine HL.out.mono ?_; rintro e w' ⟨rfl, rfl⟩))
 go_ret
 exact ⟨rfl, rfl⟩
/-- a slice of whole numbers in memory -/
def NumsAt (w : World) (a : Option Addr) (n : Nat) (zs : List Int) : Prop :=
 zs.length = n ∧ (n = 0 ∨ ∃ b off, a = some ⟨b, off, none⟩ ∧ ∀ j, j < n → w.cell? ⟨b, off + j, none⟩ = some (.int .i64 (zs.getD j 0)))
theorem heightL_eq : ∀ zs : List Int, zs ≠ [] → heightL zs = Lib.maxOf zs + 1
 | [], h => absurd rfl h
 | a :: l, _ => by
  show l.foldl max a + 1 = (a :: l).foldl max a + 1
  rw [List.foldl_cons, Int.max_self]
theorem maxOf_mem : ∀ zs : List Int, zs ≠ [] → Lib.maxOf zs ∈ zs := by
 have key : ∀ (l : List Int) (a : Int), l.foldl max a = a ∨ l.foldl max a ∈ l := by
  intro l
  induction l with
  | nil => intro a; exact .inl rfl
  | cons x r ih =>
   intro a
   rw [List.foldl_cons]
   rcases ih (max a x) with h | h
   ·rw [h]
    rcases Int.max_def a x ▸ (by by_cases h : a ≤ x <;> simp [h] : (if a ≤ x then x else a) = a ∨ (if a ≤ x then x else a) = x) with h | h
    ·exact .inl h
    ·exact .inr (by rw [h]; exact List.mem_cons_self ..)
   ·exact .inr (List.mem_cons_of_mem _ h)
 intro zs h
 cases zs with
 | nil => exact absurd rfl h
 | cons a l =>
  show (a :: l).foldl max a ∈ _
  rw [List.foldl_cons, Int.max_self]
  rcases key l a with e | e
  ·rw [e]; exact List.mem_cons_self ..
  ·exact List.mem_cons_of_mem _ e
set_option maxRecDepth 100000 in
theorem objheight_any (a : Option Addr) (n c : Nat) (zs : List Int) (w : World) (h : NumsAt w a n zs) (h2 : n ≤ 1000000) (hz : ∀ z ∈ zs, -9223372036854775808 ≤ z ∧ z ≤ 9223372036854775806) :
  Calls Tryz.prog 56 #[.slice a n c] w fun e w' => e = .returned (.int .i64 (heightL zs)) ∧ w = w' := by
 obtain ⟨h1, h3⟩ := h
 by_cases h0 : n = 0
 ·subst h0
  have hl0 : zs = [] := List.length_eq_zero_iff.1 h1
  subst hl0
  clear h3 h1
  go_enter Tryz.func56, Tryz.ntmps56
  go_wp2_with fail
  go_ret
  exact ⟨rfl, rfl⟩
 ·obtain ⟨b, off, rfl, hc⟩ := h3.resolve_left h0
  have hne : zs ≠ [] := fun e => by rw [e] at h1; simp at h1; omega
  have HM := Tryz.slices_Max_int b off n c zs w (by omega) (by omega) (by omega) (fun j hj => hc j (by omega))
  rw [List.take_of_length_le (by omega)] at HM
  have hm := hz _ (maxOf_mem zs hne)
  rw [heightL_eq zs hne]
  generalize Lib.maxOf zs = M at HM hm ⊢
  have HM := hid HM
  have ci : ¬ (n : Int) = 0 := by omega
  have ew : IntKind.i64.wrap (M + 1) = M + 1 := by rw [IntKind.wrap_i64]; omega
  clear hc h1 h3 hne hz
  go_enter Tryz.func56, Tryz.ntmps56
  go_wp2_with (go_at_call 104; refine HM.out.mono ?_; rintro e w' ⟨rfl, rfl⟩)
  go_ret
  exact ⟨rfl, rfl⟩
end Go.Proofs.YtmpjdoiogbbcoaaGreatDoor
/- Heights of parents: heights. -/
namespace Go.Proofs.YtmpjdoiogbbcoaaGreatDoor
open Go.RowKit Book Pap Ojt Sn
set_option linter.unusedVariables false
set_option linter.unusedSimpArgs false

def nvals (l : List Int) : List Value := l.map (Value.int .i64)
theorem nvals_append (a b : List Int) : nvals (a ++ b) = nvals a ++ nvals b := List.map_append
theorem own_nums {w : World} {B n : Nat} {a : Option Addr} {c : Nat} {l : List Int} (h : w.ownsRow B 3 1 (.slice a n c) n (nvals l)) : NumsAt w a n l := by
 have hl : l.length = n := by have := h.1; unfold nvals at this; rw [List.length_map] at this; omega
 refine ⟨hl, ?_⟩
 have h' := h
 rcases h.2 with ⟨h1, h0⟩ | ⟨g, cap, cur, h1, hb, hg, hn, hc, hsz, htk⟩
 ·exact .inl h0
 ·cases h1
  refine .inr ⟨g, 0, rfl, fun j hj => ?_⟩
  have c0 := h'.cellAt j (by omega)
  rw [Nat.zero_add]
  refine c0.trans ?_
  unfold nvals
  rw [List.getElem?_map, List.getD_eq_getElem?_getD, List.getElem?_eq_getElem (by omega)]; rfl
theorem Tryz.infoInt15 : (Tryz.prog.info? 3).map (fun i => (i.zero, i.size, i.bytes)) = some (some (.int .i64 0), 1, 8) := by kernel_rfl
theorem lookK_ok {G : Sw.Src} {id : ByteArray} {k lacks : Int} {x : Ob} (h : lookK G id k lacks = (x, 0)) (hl : lacks ≠ 0) : good x = true ∧ x.kind = k := by
 unfold lookK at h
 split at h
 ·injection h with _ h; exact absurd h hl
 ·split at h
  ·injection h with _ h; cases h
  ·rename_i t ht y hd
   split at h
   ·injection h with _ h; cases h
   ·rename_i hk
    injection h with h _
    subst h
    exact ⟨dec_good hd, Decidable.byContradiction hk⟩
/-- heights of parents -/
def highS (G : Sw.Src) (ps : List ByteArray) : List Int × Int := if 8 < ps.length then ([], 6) else if (Sw.setOf ps).length < ps.length then ([], 31) else heightsS G ps []
def HighOut (w : World) (r : List Int × Int) (e : Ending) (w' : World) : Prop :=
 ∃ a n c, e = .returned (.tuple #[.slice a n c, .int .i64 r.2]) ∧ NumsAt w' a n r.1 ∧ Below w.heap.size w w' ∧ n ≤ 8 ∧ ∀ z ∈ r.1, 0 ≤ z ∧ z ≤ 1073741824
set_option maxRecDepth 100000 in
set_option maxHeartbeats 8000000 in
theorem heights_any (t : TypeId) (rv : Value) (G : Sw.Src) (hz : SrcSz G) (a : Option Addr) (n c : Nat) (ps : List ByteArray) (w : World) (hs : SrcAt w t rv G) (hP : StrsAt w a n ps) :
  Calls Tryz.prog 53 #[.iface t rv, .slice a n c] w (HighOut w (highS G ps)) := by
 obtain ⟨i0, hi0, hz0, hz1, hz2⟩ := info_parts Tryz.infoInt15
 have HS := hid hs
 have HP := hid hP
 have HLP := hid hP.1
 have hn63 := hP.2.1
 clear hs hP
 by_cases h8 : 8 < n
 ·have HR : Hid (highS G ps = ([], 6)) := by
   show _ = _
   unfold highS; rw [if_pos (by rw [HLP.out]; exact h8)]
  have ci : (8 : Int) < n := by omega
  go_enter Tryz.func53, Tryz.ntmps53
  go_wp2_with fail
  go_ret2
  rw [HR.out]
  exact ⟨none, 0, 0, rfl, ⟨rfl, .inl rfl⟩, Below.refl _ _, by omega, fun z hz => by cases hz⟩
 have ci8 : ¬ (8 : Int) < n := by omega
 have HOF := hid (of_any a n c ps w HP.out (by omega))
 by_cases htw : (Sw.setOf ps).length < n
 ·have HR : Hid (highS G ps = ([], 31)) := by
   show _ = _
   unfold highS; rw [if_neg (by rw [HLP.out]; exact h8), if_pos (by rw [HLP.out]; exact htw)]
  have ci : ((Sw.setOf ps).length : Int) < n := by omega
  go_enter Tryz.func53, Tryz.ntmps53
  go_wp2_with (first
   | (go_at_call 16; refine HOF.out.mono ?_; rintro e w1 ⟨b1, rfl, hset, hb1⟩; have HB1 := hid hb1; have HSL := hid (slen_any w1 hset); clear hset hb1)
   | (go_at_call 23; refine HSL.out.mono ?_; rintro e w2 ⟨rfl, rfl⟩))
  go_ret2
  rw [HR.out]
  exact ⟨none, 0, 0, rfl, ⟨rfl, .inl rfl⟩, HB1.out, by omega, fun z hz => by cases hz⟩
 have HR : Hid (highS G ps = heightsS G ps []) := by
  show _ = _
  unfold highS; rw [if_neg (by rw [HLP.out]; exact h8), if_neg (by rw [HLP.out]; exact htw)]
 have ci : ¬ ((Sw.setOf ps).length : Int) < n := by omega
 go_enter Tryz.func53, Tryz.ntmps53
 go_wp2_with (first
  | (go_at_call 16; refine HOF.out.mono ?_; rintro e w1 ⟨b1, rfl, hset, hb1⟩; have HB1 := hid hb1; have HSL := hid (slen_any w1 hset); clear hset hb1)
  | (go_at_call 23; refine HSL.out.mono ?_; rintro e w2 ⟨rfl, rfl⟩))
 clear HSL HOF ci ci8 htw
 go_loopw [24, 6] (fun iv v wr => ∃ (i : Nat) (H : List Int), i ≤ n ∧ iv = .int .i64 i ∧ Hid (wr.ownsRow w.heap.size 3 1 v i (nvals H)) ∧ Hid (Below w.heap.size w wr) ∧ Hid (highS G ps = heightsS G (ps.drop i) H) ∧ Hid (∀ z ∈ H, 0 ≤ z ∧ z ≤ 1073741824)) (fun iv _ _ => n - (intOf iv).toNat)
 case atStart => exact ⟨0, [], Nat.zero_le _, rfl, World.ownsRow_nil _ _ _ _, HB1, HR.out, fun z hz => by cases hz⟩
 case round =>
  obtain ⟨i, H, hi, rfl, HO, HB, HE, HZ⟩ := hrel
  obtain ⟨va, vc, rfl, hvc⟩ := own_slice' HO.out
  have hsz := HB.out.size
  by_cases hlt : i < n
  ·have ci : (i : Int) < n := by omega
   have ci0 : (0 : Int) ≤ (i : Int) := by omega
   have h3 := (HP.out.later HB.out).2.2
   obtain ⟨pb, poff, rfl, hcell⟩ := h3.resolve_left (by omega)
   have q0 := hcell i hlt
   have hil : i < ps.length := by rw [HLP.out]; exact hlt
   have HT : Hid (ps.drop i = ps.getD i ByteArray.empty :: ps.drop (i + 1)) := by
    show _ = _
    rw [List.drop_eq_getElem_cons hil, List.getD_eq_getElem?_getD, List.getElem?_eq_getElem hil]; rfl
   obtain ⟨p, hp⟩ : ∃ z, ps.getD i ByteArray.empty = z := ⟨_, rfl⟩
   rw [hp] at q0 HT
   obtain ⟨x, er, hlk⟩ : ∃ x er, lookK G p 3 12 = (x, er) := ⟨_, _, rfl⟩
   have HE1 : Hid (highS G ps = if er ≠ 0 then ([], er) else heightsS G (ps.drop (i + 1)) (H ++ [x.height])) := by
    show _ = _
    rw [HE.out, HT.out]
    show (if (lookK G p 3 12).2 ≠ 0 then ([], (lookK G p 3 12).2) else heightsS G (ps.drop (i + 1)) (H ++ [(lookK G p 3 12).1.height])) = _
    rw [hlk]
   have HLK := hid (look_any t rv G p 3 12 wr (HS.out.later HB.out) hz)
   rw [hlk] at HLK
   have HLOK := hid hlk
   clear hlk hp HT hil hcell h3 HE
   go_wp2_with fail
   refine HLK.out.mono ?_; rintro e w3 ⟨ev, pv, rfl, hO3, hb3, hf3⟩
   simp only at hO3 ⊢
   obtain ⟨ea, en, ec, pa, pn, pc, rfl, -, rfl, -⟩ := hO3
   have HX4 : Hid (Blk (w3.alloc (.cells (obCs x (.slice ea en ec) (.slice pa pn pc)) 98)) w3.heap.size 98 (obCs x (.slice ea en ec) (.slice pa pn pc))) := Blk.new w3 _ _
   have HO4 : Hid ((w3.alloc (.cells (obCs x (.slice ea en ec) (.slice pa pn pc)) 98)).ownsRow w.heap.size 3 1 (.slice va i vc) i (nvals H)) := (own_below HO.out hb3).alloc _
   have HB4 : Hid (Below w.heap.size w (w3.alloc (.cells (obCs x (.slice ea en ec) (.slice pa pn pc)) 98))) := (below_then HB.out hb3).alloc (Nat.le_trans HB.out.size hb3.size) _
   unfold obCs at HX4 HO4 HB4
   simp only [obCs]
   clear hb3 hf3 HLK HO HB
   go_upto_region 10 with fail
   generalize (w3.alloc (.cells #[.int .i64 x.kind, .string x.data, .slice ea en ec, .string x.tree, .slice pa pn pc, .int .i64 x.height, .string x.note] 98)) = w4 at HX4 HO4 HB4 ⊢
   generalize w3.heap.size = g4 at HX4 ⊢
   by_cases he : er = 0
   ·subst he
    have HN : Hid (highS G ps = heightsS G (ps.drop (i + 1)) (H ++ [x.height])) := by
     show _ = _
     rw [HE1.out, if_neg (by simp)]
    have hgd := lookK_ok HLOK.out (by decide)
    have hgc := good_commit hgd.1 hgd.2
    have HZ1 : Hid (∀ z ∈ H ++ [x.height], 0 ≤ z ∧ z ≤ 1073741824) := fun z hz => by
     rcases List.mem_append.1 hz with hz | hz
     ·exact HZ.out z hz
     ·rw [List.mem_singleton.1 hz]; exact ⟨hgc.2.2.1, hgc.2.2.2.1⟩
    have k5 : w4.cell? ⟨g4, 5, none⟩ = some (.int .i64 x.height) := Blk.cell HX4.out 5
    have HS4 := hid HB4.out.size
    clear hgd hgc HLOK HE1
    go_wp2_with (first
     | (at_builtin; refine wpList_append_own _ rfl (.tmp 37) (.tmp 40) 52 rfl w.heap.size 3 i0 (.int .i64 0) 1 8 Tryz.underlying52 hi0 hz0 hz1 hz2 rfl (by decide) (.slice va i vc) _ _ rfl (HO4.out.alloc _) ⟨w4.heap.size, 0, none⟩ 1 1 [.int .i64 x.height] rfl rfl (cellNew1 _ _ _) (one_bytes rfl) (by unfold maxLen; omega) (by omega) (by rw [World.size_alloc]; have := HS4.out; omega) ?_; intro v' w9 hown' hgrow _; have HOWN := hid hown'; have HGR := hid hgrow; clear hown' hgrow))
    obtain ⟨va', vc', rfl, hvc'⟩ := own_slice' HOWN.out
    have HO9 : Hid (w9.ownsRow w.heap.size 3 1 (.slice va' (i + 1) vc') (i + 1) (nvals (H ++ [x.height]))) := by
     have h := HOWN.out
     rw [nvals_append]; exact h
    have HB9 : Hid (Below w.heap.size w w9) := below_grown1 HB4.out HO4.out _ HS4.out HGR.out
    go_roundw
    case rel => first | exact ⟨i + 1, _, by omega, by go_num, HO9, HB9, HN, HZ1⟩ | ((repeat apply Exists.intro); exact ⟨⟨i + 1, _, by omega, by go_num, HO9, HB9, HN, HZ1⟩, rfl⟩)
    case measure => simp [intOf]; omega
   ·have HN : Hid (highS G ps = ([], er)) := by
     show _ = _
     rw [HE1.out, if_pos he]
    clear HLOK HE1
    go_wp2_with fail
    go_ret2
    rw [HN.out]
    exact ⟨none, 0, 0, rfl, ⟨rfl, .inl rfl⟩, HB4.out, by omega, fun z hz => by cases hz⟩
  ·obtain rfl : i = n := by omega
   have ci : ¬ (i : Int) < i := by omega
   have HN : Hid (highS G ps = (H, 0)) := by
    show _ = _
    rw [HE.out, List.drop_of_length_le (by rw [HLP.out]; exact Nat.le_refl _)]; rfl
   go_wp2_with fail
   go_ret2
   rw [HN.out]
   exact ⟨_, _, _, rfl, own_nums HO.out, HB.out, by omega, HZ.out⟩
end Go.Proofs.YtmpjdoiogbbcoaaGreatDoor
/- More plain laws of layer 5: what lies in a folder begins with it and a slash; a list of paths, checked. -/
namespace Go.Proofs.YtmpjdoiogbbcoaaGreatDoor.Pap

theorem pieces_app : ∀ (f r : List UInt8), pieces (f ++ 47 :: r) = pieces f ++ pieces r
 | [], r => by rw [List.nil_append, pieces_slash]; rfl
 | c :: f, r => by
  by_cases hc : c = 47
  ·subst hc; rw [List.cons_append, pieces_slash, pieces_slash, pieces_app f r]; rfl
  ·obtain ⟨p, q, h1, h2⟩ := pieces_other (r := f ++ 47 :: r) hc
   obtain ⟨p', q', h3, h4⟩ := pieces_other (r := f) hc
   rw [List.cons_append, h2, h4]
   rw [pieces_app f r, h3] at h1
   cases h1; rfl
theorem joinL_app : ∀ (a b : List (List UInt8)), a ≠ [] → b ≠ [] → joinL (a ++ b) = joinL a ++ 47 :: joinL b
 | [], _, h, _ => absurd rfl h
 | [x], b, _, hb => by rw [List.singleton_append, joinL_cons x hb]; rfl
 | x :: y :: r, b, _, hb => by
  show x ++ 47 :: joinL (y :: r ++ b) = (x ++ 47 :: joinL (y :: r)) ++ 47 :: joinL b
  rw [joinL_app (y :: r) b (by simp) hb]; simp
theorem hasPrefix_pieces (f p : List UInt8) : Lib.hasPrefix p (f ++ [47]) = decide ((pieces f).length < (pieces p).length ∧ pieces f = (pieces p).take (pieces f).length) := by
 rw [Bool.eq_iff_iff, decide_eq_true_eq]
 unfold Lib.hasPrefix
 rw [List.isPrefixOf_iff_prefix]
 constructor
 ·rintro ⟨r, rfl⟩
  rw [List.append_assoc, List.singleton_append, pieces_app]
  have := List.length_pos_iff.2 (pieces_ne r)
  exact ⟨by rw [List.length_append]; omega, by rw [List.take_left]⟩
 ·rintro ⟨h1, h2⟩
  refine ⟨joinL ((pieces p).drop (pieces f).length), ?_⟩
  have h3 : (pieces p).drop (pieces f).length ≠ [] := by
   intro e; have := congrArg List.length e; simp at this; omega
  have h4 := joinL_app (pieces f) _ (pieces_ne f) h3
  rw [List.append_assoc, List.singleton_append]
  conv at h4 => rhs; rw [join_pieces]
  rw [← h4]
  conv => lhs; arg 1; lhs; rw [h2]
  rw [List.take_append_drop, join_pieces]
theorem within_eq {f p : List UInt8} (hf : splitE f = 0) (hp : splitE p = 0) : Lib.hasPrefix p (f ++ [47]) = withinR f p := by
 rw [hasPrefix_pieces]; unfold withinR; simp [hf, hp]
theorem within_no {f p : List UInt8} (h : splitE f ≠ 0 ∨ splitE p ≠ 0) : withinR f p = false := by
 unfold withinR; rw [decide_eq_false_iff_not]; rintro ⟨h1, h2, _⟩; rcases h with h | h <;> exact h ‹_›
/-! bytes that stand ahead -/
theorem bytesLess_cmp : ∀ a b : List UInt8, Op.bytesLess a b = decide (cmpL a b = -1)
 | [], [] => by simp [Op.bytesLess, cmpL]
 | _ :: _, [] => by simp [Op.bytesLess, cmpL]
 | [], _ :: _ => by simp [Op.bytesLess, cmpL]
 | a :: x, b :: y => by
  unfold Op.bytesLess cmpL
  rw [bytesLess_cmp x y]
  by_cases h1 : a.toNat < b.toNat
  ·rw [if_pos h1]; have : a < b := UInt8.lt_iff_toNat_lt.2 h1; simp [this]
  ·have hn : ¬ a < b := fun e => h1 (UInt8.lt_iff_toNat_lt.1 e)
   rw [if_neg h1]
   by_cases h2 : b.toNat < a.toNat
   ·have : ¬ a = b := fun e => by rw [e] at h2; omega
    rw [if_pos h2]; simp [hn, this]
   ·have : a = b := UInt8.toNat_inj.1 (by omega)
    rw [if_neg h2]; simp [this]

/-! a list, checked -/
def bad1 : Int → List (List UInt8) → Option (Int × Int)
 | _, [] => none
 | k, x :: r => if splitE x = 0 then bad1 (k + 1) r else some (k, splitE x)
def meets (p q : List UInt8) : Bool := withinR p q || withinR q p
def pass2 (ahead : List (List UInt8)) : Int → List (List UInt8) → Int × Int
 | _, [] => (0, 0)
 | k, x :: r => if x ∈ ahead then (k, 31) else if ahead.any (meets x) then (k, 32) else pass2 (ahead ++ [x]) (k + 1) r
def checkR (l : List (List UInt8)) : Int × Int := match bad1 0 l with
 | some r => r
 | none => pass2 [] 0 l
/-- no two are alike, none lies in another one -/
def apart (x y : List UInt8) : Prop := x ≠ y ∧ meets x y = false
theorem apart_symm {x y : List UInt8} (h : apart x y) : apart y x := ⟨fun e => h.1 e.symm, by have := h.2; unfold meets at this ⊢; rw [Bool.or_comm]; exact this⟩
theorem bad1_none : ∀ (k : Int) (l : List (List UInt8)), bad1 k l = none ↔ ∀ x ∈ l, splitE x = 0
 | _, [] => by simp [bad1]
 | k, x :: r => by
  unfold bad1
  by_cases h : splitE x = 0
  ·rw [if_pos h, bad1_none (k + 1) r]; simp [h]
  ·rw [if_neg h]; simp [h]
theorem bad1_some : ∀ (k : Int) (l : List (List UInt8)) (r : Int × Int), bad1 k l = some r → r.2 ≠ 0
 | _, [], _, h => by simp [bad1] at h
 | k, x :: l, r, h => by
  unfold bad1 at h
  by_cases hx : splitE x = 0
  ·rw [if_pos hx] at h; exact bad1_some _ l r h
  ·rw [if_neg hx] at h; cases h; exact hx
theorem pass2_ok : ∀ (l ahead : List (List UInt8)) (k : Int), (pass2 ahead k l).2 = 0 ↔ (l.Pairwise apart ∧ ∀ x ∈ l, ∀ y ∈ ahead, apart x y)
 | [], _, _ => by simp [pass2]
 | x :: l, ahead, k => by
  unfold pass2
  by_cases h1 : x ∈ ahead
  ·rw [if_pos h1]
   constructor
   ·intro h; cases h
   ·rintro ⟨_, h⟩; exact absurd rfl (h x (by simp) x h1).1
  ·rw [if_neg h1]
   by_cases h2 : ahead.any (meets x) = true
   ·rw [if_pos h2]
    constructor
    ·intro h; cases h
    ·rintro ⟨_, h⟩
     obtain ⟨y, hy, hm⟩ := List.any_eq_true.1 h2
     have := (h x (by simp) y hy).2
     rw [hm] at this; cases this
   ·rw [if_neg h2, pass2_ok l (ahead ++ [x]) (k + 1)]
    constructor
    ·rintro ⟨h3, h4⟩
     refine ⟨List.pairwise_cons.2 ⟨fun y hy => apart_symm (h4 y hy x (by simp)), h3⟩, ?_⟩
     intro y hy z hz
     rcases List.mem_cons.1 hy with rfl | hy
     ·refine ⟨fun e => h1 (e ▸ hz), ?_⟩
      cases hm : meets y z
      ·rfl
      ·exact absurd (List.any_eq_true.2 ⟨z, hz, hm⟩) h2
     ·exact h4 y hy z (by simp [hz])
    ·rintro ⟨h3, h4⟩
     obtain ⟨h5, h6⟩ := List.pairwise_cons.1 h3
     refine ⟨h6, fun y hy z hz => ?_⟩
     rcases List.mem_append.1 hz with hz | hz
     ·exact h4 y (by simp [hy]) z hz
     ·simp at hz; subst hz; exact apart_symm (h5 y hy)
theorem checkR_ok (l : List (List UInt8)) : (checkR l).2 = 0 ↔ (∀ x ∈ l, splitE x = 0) ∧ l.Pairwise apart := by
 unfold checkR
 cases h : bad1 0 l with
 | some r =>
  constructor
  ·intro e; exact absurd e (bad1_some 0 l r h)
  ·rintro ⟨e, _⟩; rw [(bad1_none 0 l).2 e] at h; cases h
 | none =>
  have := (bad1_none 0 l).1 h
  show (pass2 [] 0 l).2 = 0 ↔ _
  rw [pass2_ok]; exact ⟨fun h => ⟨this, h.1⟩, fun h => ⟨h.2, fun x _ y hy => absurd hy (by simp)⟩⟩
theorem bad1_step (l : List (List UInt8)) (k : Nat) (hk : k < l.length) : bad1 k (l.drop k) = if splitE l[k] = 0 then bad1 ((k + 1 : Nat) : Int) (l.drop (k + 1)) else some ((k : Int), splitE l[k]) := by
 rw [List.drop_eq_getElem_cons hk]; rfl
theorem pass2_step (l : List (List UInt8)) (k : Nat) (hk : k < l.length) : pass2 (l.take k) k (l.drop k) = if l[k] ∈ l.take k then ((k : Int), 31) else if (l.take k).any (meets l[k]) then ((k : Int), 32) else pass2 (l.take (k + 1)) ((k + 1 : Nat) : Int) (l.drop (k + 1)) := by
 rw [List.drop_eq_getElem_cons hk, List.take_add_one, List.getElem?_eq_getElem hk]; rfl
theorem cmpP_step (a b : List (List UInt8)) (k : Nat) (ha : k < a.length) (hb : k < b.length) : cmpP (a.drop k) (b.drop k) = if cmpL a[k] b[k] = 0 then cmpP (a.drop (k + 1)) (b.drop (k + 1)) else cmpL a[k] b[k] := by
 rw [List.drop_eq_getElem_cons ha, List.drop_eq_getElem_cons hb]; rfl
theorem cmpP_behind (a b : List (List UInt8)) (k : Nat) (ha : k < a.length) (hb : b.length ≤ k) : cmpP (a.drop k) (b.drop k) = 1 := by
 rw [List.drop_eq_getElem_cons ha, List.drop_eq_nil_of_le hb]; rfl
theorem cmpP_ends (a b : List (List UInt8)) (k : Nat) (ha : a.length ≤ k) : cmpP (a.drop k) (b.drop k) = if k < b.length then -1 else 0 := by
 rw [List.drop_eq_nil_of_le ha]
 split
 ·rename_i h; rw [List.drop_eq_getElem_cons h]; rfl
 ·rename_i h; rw [List.drop_eq_nil_of_le (by omega)]; rfl
end Go.Proofs.YtmpjdoiogbbcoaaGreatDoor.Pap
/- Plain laws of layer 5 without the reference: there and back, the order is one, what lies apart, folders. -/
namespace Go.Proofs.YtmpjdoiogbbcoaaGreatDoor.Pap

theorem check_pieces {s : List UInt8} (h : splitE s = 0) : pieces s ≠ [] ∧ (∀ x ∈ pieces s, goodL x = true) ∧ (pieces s).length ≤ 64 := checkE_ok.1 h
theorem split_join {l : List (List UInt8)} (h : checkE l = 0) : pieces (joinL l) = l ∧ splitE (joinL l) = 0 := by
 obtain ⟨h1, h2, h3⟩ := checkE_ok.1 h
 have e := pieces_join l h1 (fun x hx => good_free (h2 x hx))
 exact ⟨e, by unfold splitE; rw [e]; exact h⟩
/-! the order is one -/
theorem cmp_le_trans (a b c : List (List UInt8)) (h1 : cmpP a b ≤ 0) (h2 : cmpP b c ≤ 0) : cmpP a c ≤ 0 ∧ (cmpP a c = 0 → cmpP a b = 0 ∧ cmpP b c = 0) := by
 have r1 := cmpP_range a b
 have r2 := cmpP_range b c
 rcases r1 with e1 | e1 | e1
 ·rcases r2 with e2 | e2 | e2
  ·have := cmpP_trans a b c e1 e2; omega
  ·have := cmpP_zero b c e2; subst this; omega
  ·omega
 ·have := cmpP_zero a b e1; subst this
  constructor
  ·exact h2
  ·intro h; exact ⟨e1, h⟩
 ·omega
theorem withinR_ok {f p : List UInt8} (hf : splitE f = 0) (hp : splitE p = 0) : withinR f p = decide ((pieces f).length < (pieces p).length ∧ pieces f = (pieces p).take (pieces f).length) := by
 unfold withinR; simp [hf, hp]
/-! folders -/
/-! what lies apart -/
theorem apart_off {x y : List UInt8} (h : apart x y) : x ≠ y ∧ withinR x y = false ∧ withinR y x = false := by
 obtain ⟨h1, h2⟩ := h
 unfold meets at h2
 rw [Bool.or_eq_false_iff] at h2
 exact ⟨h1, h2.1, h2.2⟩
end Go.Proofs.YtmpjdoiogbbcoaaGreatDoor.Pap
/- What two commits differ in, plain; names of a commit's blobs are paths. -/
namespace Go.Proofs.YtmpjdoiogbbcoaaGreatDoor
open Go.RowKit Book Pap Ojt Sn
set_option linter.unusedVariables false
set_option linter.unusedSimpArgs false

/-- a blob's name is a path -/
def OkName (n : ByteArray) : Prop := splitE n.data.toList = 0 ∧ n.size ≤ 100000
def OkBlobs (l : List Ent) : Prop := ∀ y ∈ l, OkName y.name
theorem okName_of {l : List ByteArray} (h : checkE (l.map fun s => s.data.toList) = 0) : OkName (pathOf l) := by
 have h1 := split_join h
 have h2 := join_bound h
 unfold OkName pathOf
 refine ⟨by simpa [bz] using h1.2, ?_⟩
 have : (bz (joinL (l.map fun s => s.data.toList))).size = (joinL (l.map fun s => s.data.toList)).length := by unfold bz; simp [ByteArray.size]
 rw [this]; omega
theorem overE_names {rec : ByteArray → List ByteArray → Wk → Wk × Int} (hr : ∀ id above s, OkBlobs s.blobs → (∀ n ∈ above, goodL n.data.toList = true) → OkBlobs (rec id above s).1.blobs) (above : List ByteArray) (ha : ∀ n ∈ above, goodL n.data.toList = true) :
  ∀ (es : List Ent) (s : Wk), OkBlobs s.blobs → (∀ e ∈ es, goodL e.name.data.toList = true) → OkBlobs (overE rec above es s).1.blobs
 | [], s, h, _ => h
 | y :: r, s, h, he => by
  have hy := he y (List.mem_cons_self ..)
  have ha' : ∀ n ∈ above ++ [y.name], goodL n.data.toList = true := fun n hn => by
   rcases List.mem_append.1 hn with hn | hn
   ·exact ha n hn
   ·rw [List.mem_singleton.1 hn]; exact hy
  have ih := fun s hs => overE_names hr above ha r s hs (fun e h => he e (List.mem_cons_of_mem _ h))
  unfold overE
  split
  ·exact h
  ·split
   ·exact h
   ·rename_i h64
    split
    ·split
     ·exact hr _ _ _ h ha'
     ·exact ih _ (hr _ _ _ h ha')
    ·refine ih _ (fun z hz => ?_)
     rcases List.mem_append.1 hz with hz | hz
     ·exact h z hz
     ·rw [List.mem_singleton.1 hz]
      refine okName_of (checkE_ok.2 ⟨by simp, fun x hx => ?_, by rw [List.length_map, List.length_append]; simp only [List.length_cons, List.length_nil]; omega⟩)
      obtain ⟨n, hn, rfl⟩ := List.mem_map.1 hx
      exact ha' n hn
theorem overS_names (G : Sw.Src) : ∀ (d : Nat) (id : ByteArray) (above : List ByteArray) (s : Wk), OkBlobs s.blobs → (∀ n ∈ above, goodL n.data.toList = true) → OkBlobs (overS G d id above s).1.blobs
 | 0, id, above, s, h, _ => h
 | d + 1, id, above, s, h, ha => by
  unfold overS
  split
  ·exact h
  ·rename_i h0
   obtain ⟨x, er, hlk⟩ : ∃ x er, lookK G id 2 21 = (x, er) := ⟨_, _, rfl⟩
   rw [hlk] at h0 ⊢
   have h0 : er = 0 := by simpa using h0
   subst h0
   obtain ⟨hg, hk⟩ := lookK_ok hlk (by decide)
   obtain ⟨-, h2⟩ := good_tree hg hk
   exact overE_names (fun id above s h ha => overS_names G d id above s h ha) above ha _ s h (fun e he => (goodEnt_facts (h2 e he)).1)
theorem listS_names (G : Sw.Src) (id : ByteArray) : OkBlobs (listS G id).1 := by
 unfold listS
 split
 ·intro y hy; cases hy
 ·split
  ·intro y hy; cases hy
  ·exact overS_names G 66 _ [] ⟨0, []⟩ (fun y hy => by cases hy) (fun n hn => by cases hn)
/-- a change: path, was, is -/
structure Ch where
 path : ByteArray
 was : ByteArray
 is : ByteArray
def noCh : Ch := ⟨ByteArray.empty, ByteArray.empty, ByteArray.empty⟩
def putA (f : ByteArray → Option Ch) (y : Ent) : ByteArray → Option Ch := fun q => if q = y.name then some ⟨y.name, y.id, ByteArray.empty⟩ else f q
def putB (f : ByteArray → Option Ch) (y : Ent) : ByteArray → Option Ch := fun q => if q = y.name then some ⟨y.name, ((f y.name).getD noCh).was, y.id⟩ else f q
/-- the table of changes -/
def tabD (l m : List Ent) : ByteArray → Option Ch := m.foldl putB (l.foldl putA (fun _ => none))
def PathTab (f : ByteArray → Option Ch) : Prop := ∀ q c, f q = some c → c.path = q ∧ OkName q
theorem putA_tab {f : ByteArray → Option Ch} (h : PathTab f) (y : Ent) (hy : OkName y.name) : PathTab (putA f y) := by
 intro q c hc
 unfold putA at hc
 split at hc
 ·rename_i e; cases hc; exact ⟨e.symm, e ▸ hy⟩
 ·exact h q c hc
theorem putB_tab {f : ByteArray → Option Ch} (h : PathTab f) (y : Ent) (hy : OkName y.name) : PathTab (putB f y) := by
 intro q c hc
 unfold putB at hc
 split at hc
 ·rename_i e; cases hc; exact ⟨e.symm, e ▸ hy⟩
 ·exact h q c hc
theorem tabA_tab : ∀ (l : List Ent) (f : ByteArray → Option Ch), PathTab f → OkBlobs l → PathTab (l.foldl putA f)
 | [], f, h, _ => h
 | y :: r, f, h, ho => tabA_tab r _ (putA_tab h y (ho y (List.mem_cons_self ..))) (fun z hz => ho z (List.mem_cons_of_mem _ hz))
theorem tabB_tab : ∀ (l : List Ent) (f : ByteArray → Option Ch), PathTab f → OkBlobs l → PathTab (l.foldl putB f)
 | [], f, h, _ => h
 | y :: r, f, h, ho => tabB_tab r _ (putB_tab h y (ho y (List.mem_cons_self ..))) (fun z hz => ho z (List.mem_cons_of_mem _ hz))
theorem tabD_tab {l m : List Ent} (hl : OkBlobs l) (hm : OkBlobs m) : PathTab (tabD l m) := tabB_tab m _ (tabA_tab l _ (fun q c h => by cases h) hl) hm
/-- the differences in a list: in the order of paths, each once -/
def IsDiff (l m : List Ent) (D : List Ch) : Prop :=
 D.Pairwise (fun x y => cmpP (pieces x.path.data.toList) (pieces y.path.data.toList) = -1) ∧ ∀ c, c ∈ D ↔ tabD l m c.path = some c ∧ c.was ≠ c.is
theorem pw_ext {α : Type} {R : α → α → Prop} (hirr : ∀ a, ¬ R a a) (htr : ∀ a b c, R a b → R b c → R a c) : ∀ (l m : List α), l.Pairwise R → m.Pairwise R → (∀ x, x ∈ l ↔ x ∈ m) → l = m
 | [], [], _, _, _ => rfl
 | [], b :: m, _, _, h => by have := (h b).2 (List.mem_cons_self ..); cases this
 | a :: l, [], _, _, h => by have := (h a).1 (List.mem_cons_self ..); cases this
 | a :: l, b :: m, hl, hm, h => by
  obtain ⟨h1, h2⟩ := List.pairwise_cons.1 hl
  obtain ⟨h3, h4⟩ := List.pairwise_cons.1 hm
  have e : a = b := by
   rcases List.mem_cons.1 ((h a).1 (List.mem_cons_self ..)) with e | e
   ·exact e
   ·rcases List.mem_cons.1 ((h b).2 (List.mem_cons_self ..)) with e' | e'
    ·exact e'.symm
    ·exact absurd (htr _ _ _ (h1 b e') (h3 a e)) (hirr a)
  subst e
  refine congrArg (a :: ·) (pw_ext hirr htr l m h2 h4 (fun x => ⟨fun hx => ?_, fun hx => ?_⟩))
  ·rcases List.mem_cons.1 ((h x).1 (List.mem_cons_of_mem _ hx)) with e | e
   ·subst e; exact absurd (h1 _ hx) (hirr _)
   ·exact e
  ·rcases List.mem_cons.1 ((h x).2 (List.mem_cons_of_mem _ hx)) with e | e
   ·subst e; exact absurd (h3 _ hx) (hirr _)
   ·exact e
theorem IsDiff.one {l m : List Ent} {D E : List Ch} (h : IsDiff l m D) (k : IsDiff l m E) : D = E :=
 pw_ext (R := fun x y : Ch => cmpP (pieces x.path.data.toList) (pieces y.path.data.toList) = -1) (fun a h => by rw [cmpP_self] at h; cases h) (fun a b c h k => cmpP_trans _ _ _ h k) D E h.1 k.1 (fun x => (h.2 x).trans (k.2 x).symm)
end Go.Proofs.YtmpjdoiogbbcoaaGreatDoor
/- The digest's words: their bounds, and what the machine's operations make of them. No program. -/
namespace Go.Proofs.YtmpjdoiogbbcoaaGreatDoor.Sha
open Go.RowKit
set_option linter.unusedVariables false

theorem rotr_lt (n x : Nat) (hx : x < 4294967296) : rotr n x < 4294967296 := by
 unfold rotr m32
 refine Nat.or_lt_two_pow (n := 32) (Nat.mod_lt _ (by decide)) ?_
 exact Nat.lt_of_le_of_lt (Nat.div_le_self _ _) hx
theorem xor_lt (a b : Nat) (ha : a < 4294967296) (hb : b < 4294967296) : a ^^^ b < 4294967296 := Nat.xor_lt_two_pow (n := 32) ha hb
theorem and_lt (a b : Nat) (ha : a < 4294967296) : a &&& b < 4294967296 := Nat.lt_of_le_of_lt Nat.and_le_left ha
theorem turn3_lt (x i j k : Nat) (hx : x < 4294967296) : turn3 x i j k < 4294967296 := xor_lt _ _ (xor_lt _ _ (rotr_lt _ _ hx) (rotr_lt _ _ hx)) (rotr_lt _ _ hx)
theorem ss0_lt (x : Nat) (hx : x < 4294967296) : ss0 x < 4294967296 := xor_lt _ _ (xor_lt _ _ (rotr_lt _ _ hx) (rotr_lt _ _ hx)) (Nat.lt_of_le_of_lt (Nat.div_le_self _ _) hx)
theorem ss1_lt (x : Nat) (hx : x < 4294967296) : ss1 x < 4294967296 := xor_lt _ _ (xor_lt _ _ (rotr_lt _ _ hx) (rotr_lt _ _ hx)) (Nat.lt_of_le_of_lt (Nat.div_le_self _ _) hx)
structure S8.Lt (s : S8) : Prop where
 a : s.a < 4294967296
 b : s.b < 4294967296
 c : s.c < 4294967296
 d : s.d < 4294967296
 e : s.e < 4294967296
 f : s.f < 4294967296
 g : s.g < 4294967296
 h : s.h < 4294967296
theorem first_Lt : first.Lt := ⟨by decide, by decide, by decide, by decide, by decide, by decide, by decide, by decide⟩
theorem m_lt (n : Nat) : n % m32 < 4294967296 := Nat.mod_lt _ (by decide)
theorem rnd_Lt {s : S8} (h : s.Lt) (k w : Nat) : (rnd s k w).Lt := ⟨m_lt _, h.a, h.b, h.c, m_lt _, h.e, h.f, h.g⟩
theorem rounds_Lt {s : S8} (h : s.Lt) (W : List Nat) : ∀ n, (rounds W n s).Lt
 | 0 => h
 | n + 1 => rnd_Lt (rounds_Lt h W n) _ _
theorem addS_Lt (x y : S8) : (addS x y).Lt := ⟨m_lt _, m_lt _, m_lt _, m_lt _, m_lt _, m_lt _, m_lt _, m_lt _⟩
theorem mixL_Lt (s : S8) (b : List UInt8) : (mixL s b).Lt := addS_Lt _ _
theorem absorb_Lt : ∀ (f : Nat) (s : S8) (l : List UInt8), s.Lt → (absorb f s l).1.Lt
 | 0, _, _, h => h
 | f + 1, s, l, h => by
  unfold absorb
  split
  ·exact h
  ·exact absorb_Lt f _ _ (mixL_Lt _ _)
theorem kt_lt : ∀ n, kt.getD n 0 < 4294967296 := by
 intro n
 by_cases h : n < 64
 ·have : ∀ n : Fin 64, kt.getD n.1 0 < 4294967296 := by decide
  exact this ⟨n, h⟩
 ·rw [List.getD_eq_getElem?_getD, List.getElem?_eq_none (by show 64 ≤ n; omega)]; decide
theorem word_lt (b : List UInt8) (i : Nat) : word b i < 4294967296 := by
 unfold word
 have h0 := (b.getD (4 * i) 0).toNat_lt; have h1 := (b.getD (4 * i + 1) 0).toNat_lt; have h2 := (b.getD (4 * i + 2) 0).toNat_lt; have h3 := (b.getD (4 * i + 3) 0).toNat_lt
 omega
theorem w16_len (b : List UInt8) : (w16 b).length = 16 := by simp [w16]
theorem wext_len : ∀ (n : Nat) (l : List Nat), (wext n l).length = l.length + n
 | 0, l => rfl
 | n + 1, l => by unfold wext; rw [wext_len n]; simp; omega
/-- the words from the first on -/
def wpart (b : List UInt8) : Nat → List Nat
 | 0 => w16 b
 | n + 1 => wpart b n ++ [nextW (wpart b n)]
theorem wext_snoc : ∀ (n : Nat) (l : List Nat), wext (n + 1) l = wext n l ++ [nextW (wext n l)]
 | 0, l => rfl
 | n + 1, l => by
  show wext (n + 1) (l ++ [nextW l]) = _
  rw [wext_snoc n]; rfl
theorem wpart_eq (b : List UInt8) : ∀ n, wpart b n = wext n (w16 b)
 | 0 => rfl
 | n + 1 => by rw [wext_snoc, ← wpart_eq b n]; rfl
theorem wpart_len (b : List UInt8) (n : Nat) : (wpart b n).length = 16 + n := by rw [wpart_eq, wext_len, w16_len]
theorem wpart_lt (b : List UInt8) : ∀ n x, x ∈ wpart b n → x < 4294967296
 | 0, x, hx => by
  unfold wpart w16 at hx
  obtain ⟨i, -, rfl⟩ := List.mem_map.1 hx
  exact word_lt _ _
 | n + 1, x, hx => by
  rcases List.mem_append.1 hx with h | h
  ·exact wpart_lt b n x h
  ·rw [List.mem_singleton.1 h]; exact m_lt _
theorem spreadL_part (b : List UInt8) : spreadL b = wpart b 48 := (wpart_eq b 48).symm
theorem getD_lt (l : List Nat) (h : ∀ x ∈ l, x < 4294967296) (i : Nat) : l.getD i 0 < 4294967296 := by
 rw [List.getD_eq_getElem?_getD]
 cases hi : l[i]? with
 | none => decide
 | some x => exact h x (List.mem_of_getElem? hi)
theorem spreadL_lt (b : List UInt8) (i : Nat) : (spreadL b).getD i 0 < 4294967296 := by rw [spreadL_part]; exact getD_lt _ (wpart_lt b 48) i
/-! the machine's operations -/
theorem xor_go (a b : Nat) (ha : a < 4294967296) (hb : b < 4294967296) : bits .xor .u32 (a : Int) (b : Int) = ((a ^^^ b : Nat) : Int) := u32_xor_nat a b ha hb
theorem rotr_go (a x : Nat) (hx : x < 4294967296) : bits .or .u32 ((x : Int) * 2 ^ (32 - a) % 4294967296) ((x : Int) / 2 ^ a) = (rotr a x : Int) := by
 have h1 : (x : Int) * 2 ^ (32 - a) % 4294967296 = ((x * 2 ^ (32 - a) % 4294967296 : Nat) : Int) := by rw [Int.natCast_emod, Int.natCast_mul, Int.natCast_pow]; rfl
 have h2 : (x : Int) / 2 ^ a = ((x / 2 ^ a : Nat) : Int) := by rw [Int.natCast_ediv, Int.natCast_pow]; rfl
 rw [h1, h2, u32_or_nat _ _ (Nat.mod_lt _ (by decide)) (Nat.lt_of_le_of_lt (Nat.div_le_self _ _) hx)]
 rfl
end Go.Proofs.YtmpjdoiogbbcoaaGreatDoor.Sha
/- The digest's walks: words turned, the words of a block. -/
namespace Go.Proofs.YtmpjdoiogbbcoaaGreatDoor
open Go.RowKit Sha
set_option linter.unusedVariables false

def Turns (a : Nat) : Prop := a = 2 ∨ a = 6 ∨ a = 7 ∨ a = 11 ∨ a = 13 ∨ a = 17 ∨ a = 18 ∨ a = 19 ∨ a = 22 ∨ a = 25
set_option maxRecDepth 100000 in
set_option maxHeartbeats 1000000 in
theorem rot_any (a x : Nat) (k : Int) (hk : k = -(a : Int)) (ha : Turns a) (hx : x < 4294967296) (w : World) : Calls Tryz.prog 264 #[.int .u32 x, .int .i64 k] w fun e w' => e = .returned (.int .u32 (rotr a x)) ∧ w = w' := by
 have hx0 : (0 : Int) ≤ x := by omega
 have hx1 : (x : Int) < 4294967296 := by omega
 have k2 : bits .and .u64 (IntKind.u64.wrap (-2)) 31 = 30 := by decide +kernel
 have k6 : bits .and .u64 (IntKind.u64.wrap (-6)) 31 = 26 := by decide +kernel
 have k7 : bits .and .u64 (IntKind.u64.wrap (-7)) 31 = 25 := by decide +kernel
 have k11 : bits .and .u64 (IntKind.u64.wrap (-11)) 31 = 21 := by decide +kernel
 have k13 : bits .and .u64 (IntKind.u64.wrap (-13)) 31 = 19 := by decide +kernel
 have k17 : bits .and .u64 (IntKind.u64.wrap (-17)) 31 = 15 := by decide +kernel
 have k18 : bits .and .u64 (IntKind.u64.wrap (-18)) 31 = 14 := by decide +kernel
 have k19 : bits .and .u64 (IntKind.u64.wrap (-19)) 31 = 13 := by decide +kernel
 have k22 : bits .and .u64 (IntKind.u64.wrap (-22)) 31 = 10 := by decide +kernel
 have k25 : bits .and .u64 (IntKind.u64.wrap (-25)) 31 = 7 := by decide +kernel
 have r2 : Hid (bits .or .u32 ((x : Int) * 1073741824 % 4294967296) ((x : Int) / 4) = (rotr 2 x : Int)) := rotr_go 2 x hx
 have r6 : Hid (bits .or .u32 ((x : Int) * 67108864 % 4294967296) ((x : Int) / 64) = (rotr 6 x : Int)) := rotr_go 6 x hx
 have r7 : Hid (bits .or .u32 ((x : Int) * 33554432 % 4294967296) ((x : Int) / 128) = (rotr 7 x : Int)) := rotr_go 7 x hx
 have r11 : Hid (bits .or .u32 ((x : Int) * 2097152 % 4294967296) ((x : Int) / 2048) = (rotr 11 x : Int)) := rotr_go 11 x hx
 have r13 : Hid (bits .or .u32 ((x : Int) * 524288 % 4294967296) ((x : Int) / 8192) = (rotr 13 x : Int)) := rotr_go 13 x hx
 have r17 : Hid (bits .or .u32 ((x : Int) * 32768 % 4294967296) ((x : Int) / 131072) = (rotr 17 x : Int)) := rotr_go 17 x hx
 have r18 : Hid (bits .or .u32 ((x : Int) * 16384 % 4294967296) ((x : Int) / 262144) = (rotr 18 x : Int)) := rotr_go 18 x hx
 have r19 : Hid (bits .or .u32 ((x : Int) * 8192 % 4294967296) ((x : Int) / 524288) = (rotr 19 x : Int)) := rotr_go 19 x hx
 have r22 : Hid (bits .or .u32 ((x : Int) * 1024 % 4294967296) ((x : Int) / 4194304) = (rotr 22 x : Int)) := rotr_go 22 x hx
 have r25 : Hid (bits .or .u32 ((x : Int) * 128 % 4294967296) ((x : Int) / 33554432) = (rotr 25 x : Int)) := rotr_go 25 x hx
 rcases ha with rfl | rfl | rfl | rfl | rfl | rfl | rfl | rfl | rfl | rfl
 ·subst hk
  clear k6 k7 k11 k13 k17 k18 k19 k22 k25
  go_enter Tryz.func264, Tryz.ntmps264
  go_wp2
  go_ret
  exact ⟨ret_int r2.out, rfl⟩
 ·subst hk
  clear k2 k7 k11 k13 k17 k18 k19 k22 k25
  go_enter Tryz.func264, Tryz.ntmps264
  go_wp2
  go_ret
  exact ⟨ret_int r6.out, rfl⟩
 ·subst hk
  clear k2 k6 k11 k13 k17 k18 k19 k22 k25
  go_enter Tryz.func264, Tryz.ntmps264
  go_wp2
  go_ret
  exact ⟨ret_int r7.out, rfl⟩
 ·subst hk
  clear k2 k6 k7 k13 k17 k18 k19 k22 k25
  go_enter Tryz.func264, Tryz.ntmps264
  go_wp2
  go_ret
  exact ⟨ret_int r11.out, rfl⟩
 ·subst hk
  clear k2 k6 k7 k11 k17 k18 k19 k22 k25
  go_enter Tryz.func264, Tryz.ntmps264
  go_wp2
  go_ret
  exact ⟨ret_int r13.out, rfl⟩
 ·subst hk
  clear k2 k6 k7 k11 k13 k18 k19 k22 k25
  go_enter Tryz.func264, Tryz.ntmps264
  go_wp2
  go_ret
  exact ⟨ret_int r17.out, rfl⟩
 ·subst hk
  clear k2 k6 k7 k11 k13 k17 k19 k22 k25
  go_enter Tryz.func264, Tryz.ntmps264
  go_wp2
  go_ret
  exact ⟨ret_int r18.out, rfl⟩
 ·subst hk
  clear k2 k6 k7 k11 k13 k17 k18 k22 k25
  go_enter Tryz.func264, Tryz.ntmps264
  go_wp2
  go_ret
  exact ⟨ret_int r19.out, rfl⟩
 ·subst hk
  clear k2 k6 k7 k11 k13 k17 k18 k19 k25
  go_enter Tryz.func264, Tryz.ntmps264
  go_wp2
  go_ret
  exact ⟨ret_int r22.out, rfl⟩
 ·subst hk
  clear k2 k6 k7 k11 k13 k17 k18 k19 k22
  go_enter Tryz.func264, Tryz.ntmps264
  go_wp2
  go_ret
  exact ⟨ret_int r25.out, rfl⟩
theorem turned_any (x i j k : Nat) (hx : x < 4294967296) (hi : Turns i) (hj : Turns j) (hk : Turns k) (w : World) : Calls Tryz.prog 244 #[.int .u32 x, .int .i64 i, .int .i64 j, .int .i64 k] w fun e w' => e = .returned (.int .u32 (turn3 x i j k)) ∧ w = w' := by
 have r1 := rotr_lt i x hx
 have r2 := rotr_lt j x hx
 have r3 := rotr_lt k x hx
 have C1 := hid (fun w => rot_any i x _ rfl hi hx w)
 have C2 := hid (fun w => rot_any j x _ rfl hj hx w)
 have C3 := hid (fun w => rot_any k x _ rfl hk hx w)
 have bi : i ≤ 100 := by unfold Turns at hi; omega
 have bj : j ≤ 100 := by unfold Turns at hj; omega
 have bk : k ≤ 100 := by unfold Turns at hk; omega
 have HE : Hid (turn3 x i j k = rotr i x ^^^ rotr j x ^^^ rotr k x) := rfl
 rw [HE.out]; clear HE
 obtain ⟨a, ha⟩ : ∃ a, rotr i x = a := ⟨_, rfl⟩
 obtain ⟨b, hb⟩ : ∃ a, rotr j x = a := ⟨_, rfl⟩
 obtain ⟨c, hc⟩ : ∃ a, rotr k x = a := ⟨_, rfl⟩
 rw [ha] at r1 C1 ⊢
 rw [hb] at r2 C2 ⊢
 rw [hc] at r3 C3 ⊢
 clear ha hb hc hi hj hk
 have x1 := xor_go a b r1 r2
 have x2 := xor_go (a ^^^ b) c (xor_lt _ _ r1 r2) r3
 go_enter Tryz.func244, Tryz.ntmps244
 go_wp2_with fail
 refine (C1.out _).mono ?_; rintro e w' ⟨rfl, rfl⟩
 go_wp2_with fail
 refine (C2.out _).mono ?_; rintro e w' ⟨rfl, rfl⟩
 go_wp2_with fail
 refine (C3.out _).mono ?_; rintro e w' ⟨rfl, rfl⟩
 go_wp2_with fail
 go_ret
 exact ⟨rfl, rfl⟩
/-- 64 words as cells -/
def cellsF (f : Nat → Nat) : Array Value := ((List.range 64).map fun j => Value.int .u32 (f j : Int)).toArray
theorem cellsF_size (f : Nat → Nat) : (cellsF f).size = 64 := by simp [cellsF]
theorem cellsF_get (f : Nat → Nat) (j : Nat) (hj : j < 64) : (cellsF f)[j]? = some (.int .u32 (f j : Int)) := by
 unfold cellsF
 rw [List.getElem?_toArray, List.getElem?_map, List.getElem?_range hj]; rfl
theorem cellsF_ext {f g : Nat → Nat} (h : ∀ j, j < 64 → f j = g j) : cellsF f = cellsF g := by
 unfold cellsF
 congr 1
 refine List.map_congr_left fun j hj => ?_
 rw [h j (List.mem_range.1 hj)]
theorem cellsF_set (f : Nat → Nat) (k v : Nat) (hk : k < 64) : (cellsF f).setIfInBounds k (.int .u32 (v : Int)) = cellsF (fun j => if j = k then v else f j) := by
 apply Array.ext_getElem?
 intro j
 rw [Array.getElem?_setIfInBounds]
 by_cases hj : j < 64
 ·by_cases e : k = j
  ·subst e; rw [if_pos rfl, if_pos (by rw [cellsF_size]; exact hk), cellsF_get _ k hk, if_pos rfl]
  ·rw [if_neg e, cellsF_get _ j hj, cellsF_get _ j hj, if_neg (fun h => e h.symm)]
 ·rw [if_neg (by omega), Array.getElem?_eq_none (by rw [cellsF_size]; omega), Array.getElem?_eq_none (by rw [cellsF_size]; omega)]
theorem cellsF_one (f : Nat → Nat) : (cellsF f).all (·.oneCell') = true := by
 rw [Array.all_eq_true_iff_forall_mem]
 intro x hx
 unfold cellsF at hx
 simp only [List.mem_toArray, List.mem_map] at hx
 obtain ⟨j, -, rfl⟩ := hx
 rfl
/-- a word, so many bytes of it -/
def pw (b : List UInt8) (i : Nat) : Nat → Nat
 | 0 => 0
 | j + 1 => pw b i j * 256 + (b.getD (4 * i + j) 0).toNat
theorem pw_lt (b : List UInt8) (i : Nat) : ∀ j, j ≤ 4 → pw b i j < 256 ^ j
 | 0, _ => by show 0 < 1; omega
 | j + 1, h => by
  have := pw_lt b i j (by omega)
  have hb := (b.getD (4 * i + j) 0).toNat_lt
  unfold pw
  rw [Nat.pow_succ]; omega
theorem pw_word (b : List UInt8) (i : Nat) : pw b i 4 = word b i := by
 unfold word
 show (((0 * 256 + (b.getD (4 * i + 0) 0).toNat) * 256 + (b.getD (4 * i + 1) 0).toNat) * 256 + (b.getD (4 * i + 2) 0).toNat) * 256 + (b.getD (4 * i + 3) 0).toNat = _
 rw [Nat.add_zero]
 omega
theorem or_byte (P c : Nat) (hP : P < 16777216) (hc : c < 256) : bits .or .u32 ((P : Int) * 256) (c : Int) = ((P * 256 + c : Nat) : Int) := by
 have e : ((P : Int) * 256) = ((P * 256 : Nat) : Int) := (Int.natCast_mul _ _).symm
 rw [e, u32_or_nat _ _ (by omega) (by omega), show P * 256 = 2 ^ 8 * P by omega, ← Nat.two_pow_add_eq_or_of_lt (by omega)]
def fW1 (b : List UInt8) (i : Nat) : Nat → Nat := fun j => if j < i then word b j else 0
/-- 64 bytes that lie in a row -/
def BytesAt (w : World) (g off : Nat) (l : List UInt8) : Prop := ∀ j, j < l.length → w.cell? ⟨g, off + j, none⟩ = some (.int .u8 ((l.getD j 0).toNat : Int))
end Go.Proofs.YtmpjdoiogbbcoaaGreatDoor
/- The digest's walk: the words of a block. -/
namespace Go.Proofs.YtmpjdoiogbbcoaaGreatDoor
open Go.RowKit Sha
set_option linter.unusedVariables false

theorem getD_snoc (W : List Nat) (x : Nat) : (W ++ [x]).getD W.length 0 = x := by simp
theorem wrap_add (a b : Nat) : IntKind.u32.wrap ((a : Int) + (b : Int)) = (((a + b) % 4294967296 : Nat) : Int) := by rw [IntKind.wrap_u32]; omega
theorem add3_mod (a b c d v1 v2 v3 : Nat) (h1 : (a + b) % 4294967296 = v1) (h2 : (v1 + c) % 4294967296 = v2) (h3 : (v2 + d) % 4294967296 = v3) : v3 = (a + b + c + d) % 4294967296 := by omega
theorem sub_wrap (i k : Nat) (h : k ≤ i) (hi : i < 64) : IntKind.i64.wrap ((i : Int) - (k : Int)) = (i : Int) - (k : Int) := by rw [IntKind.wrap_i64]; omega
set_option maxRecDepth 100000 in
set_option maxHeartbeats 4000000 in
theorem spread_any (gb off c : Nat) (b : List UInt8) (w : World) (hb : BytesAt w gb off b) (hl : b.length = 64) (hc : 64 ≤ c) (hc2 : c ≤ 9223372036854775807) : Calls Tryz.prog 243 #[.slice (some ⟨gb, off, none⟩) 64 c] w fun e w' => e = .returned (.agg (cellsF fun j => (spreadL b).getD j 0)) ∧ Below w.heap.size w w' := by
 have hz : ∀ j : Nat, j < 64 → (cellsF (fun _ => 0))[j]? = some (.int .u32 0) := fun j hj => cellsF_get _ j hj
 obtain ⟨C, hC⟩ : ∃ C, (cellsF fun j => (spreadL b).getD j 0) = C := ⟨_, rfl⟩
 rw [hC]
 have HCC := hid hC
 clear hC
 obtain ⟨g, hg⟩ : ∃ g, w.heap.size = g := ⟨_, rfl⟩
 have HG := hid hg
 have HBY := hid hb
 have HL := hid hl
 have hgb : gb < g := by
  have := hb 0 (by omega)
  rw [← hg]; exact World.block_lt_of_cell? w _ this
 rw [hg]; clear hg hb hl hz
 go_enter Tryz.func243, Tryz.ntmps243
 go_wp2_with fail
 rw [HG.out]
 go_loopw [11] (fun iv wr => ∃ i : Nat, i ≤ 16 ∧ iv = .int .i64 i ∧ Hid (Blk wr g 304 (cellsF (fW1 b i))) ∧ Hid (Below g w wr)) (fun iv _ => 16 - (intOf iv).toNat)
 case atStart =>
  refine ⟨0, by omega, rfl, ?_, (Below.refl _ _).alloc (Nat.le_of_eq HG.out.symm) _⟩
  have := Blk.new w 304 (cellsF (fun _ => 0))
  rw [HG.out] at this
  show Blk _ _ _ (cellsF (fW1 b 0))
  rw [show cellsF (fW1 b 0) = cellsF (fun _ => 0) from cellsF_ext fun j hj => if_neg (by omega)]
  exact this
 case round =>
  obtain ⟨i, hi, rfl, HB, HBL⟩ := hrel
  by_cases hlt : i < 16
  ·have ci : (i : Int) < 16 := by omega
   have ci0 : (0 : Int) ≤ (i : Int) := by omega
   have e4 : (4 * (i : Int)).toNat = 4 * i := by omega
   have l0 : (0 : Int) ≤ 4 * (i : Int) := by omega
   have l1 : 4 * (i : Int) ≤ 4 * (i : Int) + 4 := by omega
   have l2 : 4 * (i : Int) + 4 ≤ (c : Int) := by omega
   have l3 : ¬ 4 * i = c := by omega
   have HBY2 : Hid (BytesAt wr gb (off + 4 * i) ((b.drop (4 * i)).take 4)) := by
    intro j hj
    have hj4 : j < 4 := by rw [List.length_take] at hj; omega
    have h1 := HBY.out (4 * i + j) (by have := HL.out; omega)
    have h2 := HBL.out.cell (p := ⟨gb, off + (4 * i + j), none⟩) hgb
    rw [Nat.add_assoc, h2, h1]
    congr 3
    rw [List.getD_eq_getElem?_getD, List.getD_eq_getElem?_getD, List.getElem?_take_of_lt hj4, List.getElem?_drop]
   have HZ : Hid (cellsF (fW1 b i) = cellsF (fun j => if j = i then pw b i 0 else fW1 b i j)) := cellsF_ext fun j hj => by
    by_cases e : j = i
    ·rw [if_pos e, e]; exact if_neg (by omega)
    ·rw [if_neg e]
   go_wp2_with fail
   obtain ⟨wo, rfl⟩ : ∃ wo : World, wo = wr := ⟨_, rfl⟩
   go_loopw [22] (fun jv wx => ∃ j : Nat, j ≤ 4 ∧ jv = .int .i64 j ∧ Hid (Blk wx g 304 (cellsF (fun q => if q = i then pw b i j else fW1 b i q))) ∧ Hid (Below g w wx)) (fun jv _ => 4 - (intOf jv).toNat)
   case atStart => exact ⟨0, by omega, rfl, by show Blk _ _ _ _; rw [← HZ.out]; exact HB.out, HBL⟩
   case round =>
    obtain ⟨j, hj, rfl, HB1, HBL1⟩ := hrel
    by_cases hj4 : j < 4
    ·as_aux_lemma =>
      have cj : (j : Int) < 4 := by omega
      have cj0 : (0 : Int) ≤ (j : Int) := by omega
      have fz : wr.frozen? ⟨g, i, none⟩ = false := Blk.frozen HB1.out i
      obtain ⟨P, hP⟩ : ∃ P, pw b i j = P := ⟨_, rfl⟩
      have hPlt : P < 256 ^ j := by rw [← hP]; exact pw_lt b i j hj
      have hP2 : P < 16777216 := by
       have : 256 ^ j ≤ 256 ^ 3 := Nat.pow_le_pow_right (by omega) (by omega)
       omega
      obtain ⟨y, hy⟩ : ∃ y, b.getD (4 * i + j) 0 = y := ⟨_, rfl⟩
      have hyl := y.toNat_lt
      have HE : Hid (pw b i (j + 1) = P * 256 + y.toNat) := by show pw b i j * 256 + (b.getD (4 * i + j) 0).toNat = _; rw [hP, hy]
      rw [hP] at HB1
      have cc : wr.cell? ⟨g, i, none⟩ = some (.int .u32 P) := by
       have := Blk.cell HB1.out i
       rw [cellsF_get _ i (by omega), if_pos rfl] at this; exact this
      have cb : wr.cell? ⟨gb, off + 4 * i + j, none⟩ = some (.int .u8 (y.toNat : Int)) := by
       have h1 := HBY.out (4 * i + j) (by have := HL.out; omega)
       have h2 := HBL1.out.cell (p := ⟨gb, off + (4 * i + j), none⟩) hgb
       rw [Nat.add_assoc, h2, h1, hy]
      have HO := hid (or_byte P y.toNat hP2 (by omega))
      have lj : j < 4 * i + 4 - 4 * i := by omega
      clear hP hy hPlt
      go_wp2_with fail
      go_roundw
      case rel =>
       refine ⟨j + 1, by omega, by go_num, ?_, HBL1.out.setCell (p := ⟨g, i, none⟩) (Nat.le_refl _) _⟩
       have := Blk.set HB1.out i (.int .u32 ((P * 256 + y.toNat : Nat) : Int))
       rw [cellsF_set _ _ _ (by omega)] at this
       rw [HO.out]
       show Blk _ _ _ _
       rw [HE.out]
       rw [cellsF_ext (g := fun q => if q = i then P * 256 + y.toNat else fW1 b i q)] at this
       ·exact this
       ·intro q hq
        by_cases e : q = i
        ·simp only [if_pos e]
        ·simp only [if_neg e]
      case measure => simp [intOf]; omega
    ·obtain rfl : j = 4 := by omega
     go_wp2_with fail
     go_roundw
     case rel =>
      refine ⟨i + 1, by omega, by go_num, ?_, HBL1⟩
      have := HB1.out
      show Blk _ _ _ _
      rw [cellsF_ext (g := fun q => if q = i then pw b i 4 else fW1 b i q)]
      ·exact this
      ·intro q hq
       by_cases e : q = i
       ·rw [if_pos e, e, pw_word]; exact if_pos (by omega)
       ·rw [if_neg e]; unfold fW1
        by_cases h : q < i
        ·rw [if_pos h, if_pos (by omega)]
        ·rw [if_neg h, if_neg (by omega)]
     case measure => simp [intOf]; omega
  ·obtain rfl : i = 16 := by omega
   have HB2 : Hid (Blk wr g 304 (cellsF fun j => (wpart b (16 - 16)).getD j 0)) := by
    have := HB.out
    rw [cellsF_ext (g := fun j => (wpart b (16 - 16)).getD j 0)] at this
    ·exact this
    ·intro j hj
     show (if j < 16 then word b j else 0) = (w16 b).getD j 0
     unfold w16
     rw [List.getD_eq_getElem?_getD, List.getElem?_map]
     by_cases h : j < 16
     ·rw [if_pos h, List.getElem?_range h]; rfl
     ·rw [if_neg h, List.getElem?_eq_none (by simp; omega)]; rfl
   clear HB HBY HL
   go_wp2_with fail
   obtain ⟨wo, rfl⟩ : ∃ wo : World, wo = wr := ⟨_, rfl⟩
   go_loopw [6] (fun iv wx => ∃ i : Nat, 16 ≤ i ∧ i ≤ 64 ∧ iv = .int .i64 i ∧ Hid (Blk wx g 304 (cellsF fun j => (wpart b (i - 16)).getD j 0)) ∧ Hid (Below g w wx)) (fun iv _ => 64 - (intOf iv).toNat)
   case atStart => exact ⟨16, by omega, by omega, rfl, HB2, HBL⟩
   case round =>
    obtain ⟨i, hi16, hi64, rfl, HB, HBL1⟩ := hrel
    clear HB2
    by_cases hlt : i < 64
    ·as_aux_lemma =>
      have ci : (i : Int) < 64 := by omega
      have ci0 : (0 : Int) ≤ (i : Int) - 16 := by omega
      have c15 : (0 : Int) ≤ (i : Int) - 15 := by omega
      have c2 : (0 : Int) ≤ (i : Int) - 2 := by omega
      have c7 : (0 : Int) ≤ (i : Int) - 7 := by omega
      have b16 : (16 : Int) ≤ (i : Int) := by omega
      have b7 : (7 : Int) ≤ (i : Int) := by omega
      have d15 : (i : Int) - 15 < 64 := by omega
      have d2 : (i : Int) - 2 < 64 := by omega
      have d7 : (i : Int) - 7 < 64 := by omega
      have d16 : (i : Int) - 16 < 64 := by omega
      have t15 : ((i : Int) - 15).toNat = i - 15 := by omega
      have t2 : ((i : Int) - 2).toNat = i - 2 := by omega
      have t7 : ((i : Int) - 7).toNat = i - 7 := by omega
      have t16 : ((i : Int) - 16).toNat = i - 16 := by omega
      have e0 : (0 : Int) ≤ (i : Int) := by omega
      have hlen := wpart_len b (i - 16)
      have hwl := wpart_lt b (i - 16)
      have HN : Hid (wpart b (i + 1 - 16) = wpart b (i - 16) ++ [nextW (wpart b (i - 16))]) := by
       show _ = _
       rw [show i + 1 - 16 = (i - 16) + 1 by omega]; rfl
      obtain ⟨W, hW⟩ : ∃ W, wpart b (i - 16) = W := ⟨_, rfl⟩
      rw [hW] at hlen hwl HN HB
      have hlen' : W.length = i := by omega
      have X15 := getD_lt W hwl (i - 15)
      have X2 := getD_lt W hwl (i - 2)
      have X7 := getD_lt W hwl (i - 7)
      have X16 := getD_lt W hwl (i - 16)
      have HNX : Hid (nextW W = (W.getD (i - 16) 0 + ss0 (W.getD (i - 15) 0) + W.getD (i - 7) 0 + ss1 (W.getD (i - 2) 0)) % 4294967296) := by
       show nextW W = _
       unfold nextW m32; rw [hlen']
      have q15 : wr.cell? ⟨g, i - 15, none⟩ = some (.int .u32 (W.getD (i - 15) 0 : Nat)) := (Blk.cell HB.out _).trans (cellsF_get _ _ (by omega))
      have q2 : wr.cell? ⟨g, i - 2, none⟩ = some (.int .u32 (W.getD (i - 2) 0 : Nat)) := (Blk.cell HB.out _).trans (cellsF_get _ _ (by omega))
      have q7 : wr.cell? ⟨g, i - 7, none⟩ = some (.int .u32 (W.getD (i - 7) 0 : Nat)) := (Blk.cell HB.out _).trans (cellsF_get _ _ (by omega))
      have q16 : wr.cell? ⟨g, i - 16, none⟩ = some (.int .u32 (W.getD (i - 16) 0 : Nat)) := (Blk.cell HB.out _).trans (cellsF_get _ _ (by omega))
      obtain ⟨x15, h15⟩ : ∃ x, W.getD (i - 15) 0 = x := ⟨_, rfl⟩
      obtain ⟨x2, h2⟩ : ∃ x, W.getD (i - 2) 0 = x := ⟨_, rfl⟩
      obtain ⟨x7, h7⟩ : ∃ x, W.getD (i - 7) 0 = x := ⟨_, rfl⟩
      obtain ⟨x16, h16⟩ : ∃ x, W.getD (i - 16) 0 = x := ⟨_, rfl⟩
      rw [h15] at q15 X15 HNX
      rw [h2] at q2 X2 HNX
      rw [h7] at q7 X7 HNX
      rw [h16] at q16 X16 HNX
      clear h15 h2 h7 h16 hW hlen hwl
      have fz : wr.frozen? ⟨g, i, none⟩ = false := Blk.frozen HB.out i
      have HQC : Hid (∃ u, wr.cell? ⟨g, i, none⟩ = some u) := ⟨_, (Blk.cell HB.out i).trans (cellsF_get _ _ hlt)⟩
      have R1 := hid (fun w => rot_any 7 x15 (-7) rfl (by unfold Turns; omega) X15 w)
      have R2 := hid (fun w => rot_any 18 x15 (-18) rfl (by unfold Turns; omega) X15 w)
      have R3 := hid (fun w => rot_any 17 x2 (-17) rfl (by unfold Turns; omega) X2 w)
      have R4 := hid (fun w => rot_any 19 x2 (-19) rfl (by unfold Turns; omega) X2 w)
      have r1 := rotr_lt 7 x15 X15
      have r2 := rotr_lt 18 x15 X15
      have r3 := rotr_lt 17 x2 X2
      have r4 := rotr_lt 19 x2 X2
      have s0l := ss0_lt x15 X15
      have s1l := ss1_lt x2 X2
      have HS0 : Hid (ss0 x15 = rotr 7 x15 ^^^ rotr 18 x15 ^^^ x15 / 8) := rfl
      have HS1 : Hid (ss1 x2 = rotr 17 x2 ^^^ rotr 19 x2 ^^^ x2 / 1024) := rfl
      obtain ⟨a1, h1⟩ : ∃ x, rotr 7 x15 = x := ⟨_, rfl⟩
      obtain ⟨a2, h2⟩ : ∃ x, rotr 18 x15 = x := ⟨_, rfl⟩
      obtain ⟨a3, h3⟩ : ∃ x, rotr 17 x2 = x := ⟨_, rfl⟩
      obtain ⟨a4, h4⟩ : ∃ x, rotr 19 x2 = x := ⟨_, rfl⟩
      rw [h1] at R1 r1 HS0
      rw [h2] at R2 r2 HS0
      rw [h3] at R3 r3 HS1
      rw [h4] at R4 r4 HS1
      obtain ⟨s0, hs0⟩ : ∃ x, ss0 x15 = x := ⟨_, rfl⟩
      obtain ⟨s1, hs1⟩ : ∃ x, ss1 x2 = x := ⟨_, rfl⟩
      rw [hs0] at HS0 HNX s0l
      rw [hs1] at HS1 HNX s1l
      have y1 := xor_go a1 a2 r1 r2
      have y2 : bits .xor .u32 ((a1 ^^^ a2 : Nat) : Int) ((x15 : Int) / 8) = (s0 : Int) := by
       rw [HS0.out]; exact xor_go (a1 ^^^ a2) (x15 / 8) (xor_lt _ _ r1 r2) (by omega)
      have y3 := xor_go a3 a4 r3 r4
      have y4 : bits .xor .u32 ((a3 ^^^ a4 : Nat) : Int) ((x2 : Int) / 1024) = (s1 : Int) := by
       rw [HS1.out]; exact xor_go (a3 ^^^ a4) (x2 / 1024) (xor_lt _ _ r3 r4) (by omega)
      obtain ⟨z1, hz1⟩ : ∃ x, a1 ^^^ a2 = x := ⟨_, rfl⟩
      obtain ⟨z3, hz3⟩ : ∃ x, a3 ^^^ a4 = x := ⟨_, rfl⟩
      rw [hz1] at y1 y2
      rw [hz3] at y3 y4
      clear h1 h2 h3 h4 hs0 hs1 hz1 hz3
      have g15 : ∀ n, (wr.drewN n).cell? ⟨g, i - 15, none⟩ = some (.int .u32 (x15 : Int)) := fun n => q15
      go_wp2_with fail
      go_quiet (fail)
      go_wp2_with fail
      refine (R1.out _).mono ?_; rintro e w' ⟨rfl, rfl⟩
      go_wp2_with fail
      refine (R2.out _).mono ?_; rintro e w' ⟨rfl, rfl⟩
      go_wp2_with fail
      refine (R3.out _).mono ?_; rintro e w' ⟨rfl, rfl⟩
      go_wp2_with fail
      refine (R4.out _).mono ?_; rintro e w' ⟨rfl, rfl⟩
      go_wp2_with fail
      have HBQ : Hid (Blk (wr.drewN nq) g 304 (cellsF fun j => W.getD j 0)) := Blk.drewN HB.out _
      have HBLQ : Hid (Below g w (wr.drewN nq)) := below_drewN HBL1.out _
      have q7' : (wr.drewN nq).cell? ⟨g, i - 7, none⟩ = some (.int .u32 (x7 : Int)) := q7
      have q16' : (wr.drewN nq).cell? ⟨g, i - 16, none⟩ = some (.int .u32 (x16 : Int)) := q16
      have fz' : (wr.drewN nq).frozen? ⟨g, i, none⟩ = false := fz
      obtain ⟨ui, hui⟩ := HQC.out
      have qi' : (wr.drewN nq).cell? ⟨g, i, none⟩ = some ui := hui
      clear hui
      have m1 : IntKind.u32.wrap ((x16 : Int) + (s0 : Int)) = (((x16 + s0) % 4294967296 : Nat) : Int) := wrap_add _ _
      obtain ⟨v1, hv1⟩ : ∃ v, (x16 + s0) % 4294967296 = v := ⟨_, rfl⟩
      rw [hv1] at m1
      have m2 : IntKind.u32.wrap ((v1 : Int) + (x7 : Int)) = (((v1 + x7) % 4294967296 : Nat) : Int) := wrap_add _ _
      obtain ⟨v2, hv2⟩ : ∃ v, (v1 + x7) % 4294967296 = v := ⟨_, rfl⟩
      rw [hv2] at m2
      have m3 : IntKind.u32.wrap ((v2 : Int) + (s1 : Int)) = (((v2 + s1) % 4294967296 : Nat) : Int) := wrap_add _ _
      obtain ⟨v3, hv3⟩ : ∃ v, (v2 + s1) % 4294967296 = v := ⟨_, rfl⟩
      rw [hv3] at m3
      have HV3 : Hid (v3 = nextW W) := by rw [HNX.out]; exact add3_mod _ _ _ _ _ _ _ hv1 hv2 hv3
      have HWL : Hid (W.length = i) := hlen'
      have n16 : IntKind.i64.wrap ((i : Int) - 16) = (i : Int) - 16 := sub_wrap i 16 hi16 hlt
      have n7 : IntKind.i64.wrap ((i : Int) - 7) = (i : Int) - 7 := sub_wrap i 7 (by omega) hlt
      clear q15 q2 q7 q16 fz HB HBL1 g15 hv1 hv2 hv3 hlen'
      generalize wr.drewN nq = w2 at HBQ HBLQ q7' q16' qi' fz' ⊢
      go_still_tail 15, (by kernel_rfl)
      change wpList _ _ _ _ _ w2.drew
      go_wp2_with fail
      clear m1 m2 m3 n16 n7
      go_roundw
      case rel =>
       repeat apply Exists.intro
       refine ⟨?_, rfl⟩
       refine ⟨i + 1, by omega, by omega, by go_num, ?_, (HBLQ.out.setCell (p := ⟨g, i, none⟩) (Nat.le_refl _) _).drew⟩
       have := (Blk.set HBQ.out i (.int .u32 (v3 : Int))).drew
       rw [cellsF_set _ _ _ hlt] at this
       show Blk _ _ _ _
       rw [HN.out]
       rw [cellsF_ext (g := fun j => (W ++ [nextW W]).getD j 0)] at this
       ·exact this
       ·intro q hq
        have hW := HWL.out
        by_cases e : q = i
        ·rw [if_pos e, e, HV3.out, ← hW, getD_snoc]
        ·rw [if_neg e, List.getD_eq_getElem?_getD, List.getD_eq_getElem?_getD]
         by_cases h : q < W.length
         ·rw [List.getElem?_append_left h]
         ·rw [List.getElem?_eq_none (by omega), List.getElem?_eq_none (by simp; omega)]
      case measure => simp [intOf]; omega
    ·obtain rfl : i = 64 := by omega
     have HB' : Hid (Blk wr g 304 C) := by rw [← HCC.out, spreadL_part]; exact HB.out
     clear HB
     have hC1 : C.all (·.oneCell') = true := by rw [← HCC.out]; exact cellsF_one _
     have hCs : C.size = 64 := by rw [← HCC.out]; exact cellsF_size _
     have hi0 : (Tryz.prog.info? 304).map (·.size) = some C.size := by rw [hCs]; kernel_rfl
     have hbl : wr.heap[g]? = some (.cells C 304 (0, 0)) := HB'.out
     have hself : wr.setRow g C = wr := setRow_self wr g _ _ _ hbl
     have HRES : Hid (∀ tmps : Array Value, tmps.getD 2 undef = .pointer (some ⟨g, 0, none⟩) → (results Tryz.f243 tmps).run Tryz.prog wr = .ok (.agg C) wr) := by
      intro tmps ht
      exact results_cell_row (by rfl) tmps wr g 304 C (0, 0) _ ht hbl Tryz.underlying304 rfl hi0
     have HI := hid hi0; have HBL := hid hbl; have HSF := hid hself; have HC1 := hid hC1
     clear hi0 hbl hself hC1 hCs
     go_wp2_with (first
      | (refine wpList_load_row rfl _ (.tmp 2) rfl g rfl _ _ _ _ HBL.out Tryz.underlying304 rfl HI.out ?_)
      | (refine wpList_store_row rfl _ (.tmp 2) (.tmp 80) rfl g C rfl rfl _ _ HBL.out HI.out rfl HC1.out ?_; rw [HSF.out]))
     exact bodyPost_ret (v := .agg C) (HRES.out _ rfl) rfl ⟨rfl, HBL1.out⟩
end Go.Proofs.YtmpjdoiogbbcoaaGreatDoor
/- The digest's walk: one block mixed in. -/
namespace Go.Proofs.YtmpjdoiogbbcoaaGreatDoor
open Go.RowKit Sha
set_option linter.unusedVariables false

theorem Tryz.infoW : (Tryz.prog.info? 195).map (fun i => (i.zero, i.size, i.bytes)) = some (some (.int .u32 0), 1, 4) := by kernel_rfl
theorem part_word (cs : Array Value) (i : Nat) (v : Value) (hv : cs[i]? = some v) (w : World) : (part 195 cs (i * 1)).run Tryz.prog w = .ok v w := by
 rw [Nat.mul_one]
 simp [part, hv, go_sem, isAgg, run_underlying Tryz.underlying195]
theorem index_words {T : TypeId} {n : Nat} (hT : Tryz.prog.underlying T = some (.array n 195)) (cs : Array Value) (i : Nat) (hi : i < n) (v : Value) (hv : cs[i]? = some v) (w : World) : (Instr.index T (.agg cs) (.int .i64 i)).run Tryz.prog w = .ok v w := by
 have h1 : (0 : Int) ≤ (i : Int) ∧ (i : Int) < (n : Int) := ⟨by omega, by omega⟩
 obtain ⟨inf, hi1, hz, hz1, hz2⟩ := info_parts Tryz.infoW
 have hs : (sizeOf 195).run Tryz.prog w = .ok 1 w := by simp [sizeOf, typeInfo, hi1, hz1]
 unfold Instr.index
 simp only [asIntOf, Sem.run_bind, Sem.run_pure, Result.andThen_ok, run_underlying hT, if_pos h1, Int.toNat_natCast, hs]
 exact part_word cs i v hv w
def s8v (s : S8) : Value := .agg #[.int .u32 s.a, .int .u32 s.b, .int .u32 s.c, .int .u32 s.d, .int .u32 s.e, .int .u32 s.f, .int .u32 s.g, .int .u32 s.h]
def s8c (s : S8) : Array Value := #[.int .u32 s.a, .int .u32 s.b, .int .u32 s.c, .int .u32 s.d, .int .u32 s.e, .int .u32 s.f, .int .u32 s.g, .int .u32 s.h]
def ktC : Array Value := #[.int .u32 1116352408, .int .u32 1899447441, .int .u32 3049323471, .int .u32 3921009573, .int .u32 961987163, .int .u32 1508970993, .int .u32 2453635748, .int .u32 2870763221, .int .u32 3624381080, .int .u32 310598401, .int .u32 607225278, .int .u32 1426881987, .int .u32 1925078388, .int .u32 2162078206, .int .u32 2614888103, .int .u32 3248222580, .int .u32 3835390401, .int .u32 4022224774, .int .u32 264347078, .int .u32 604807628, .int .u32 770255983, .int .u32 1249150122, .int .u32 1555081692, .int .u32 1996064986, .int .u32 2554220882, .int .u32 2821834349, .int .u32 2952996808, .int .u32 3210313671, .int .u32 3336571891, .int .u32 3584528711, .int .u32 113926993, .int .u32 338241895, .int .u32 666307205, .int .u32 773529912, .int .u32 1294757372, .int .u32 1396182291, .int .u32 1695183700, .int .u32 1986661051, .int .u32 2177026350, .int .u32 2456956037, .int .u32 2730485921, .int .u32 2820302411, .int .u32 3259730800, .int .u32 3345764771, .int .u32 3516065817, .int .u32 3600352804, .int .u32 4094571909, .int .u32 275423344, .int .u32 430227734, .int .u32 506948616, .int .u32 659060556, .int .u32 883997877, .int .u32 958139571, .int .u32 1322822218, .int .u32 1537002063, .int .u32 1747873779, .int .u32 1955562222, .int .u32 2024104815, .int .u32 2227730452, .int .u32 2361852424, .int .u32 2428436474, .int .u32 2756734187, .int .u32 3204031479, .int .u32 3329325298]
theorem ktC_eq : cellsF (fun j => kt.getD j 0) = ktC := by kernel_rfl
theorem wpList_build_to {P : Program} {ops : Array Oper} {rest : List Oper} {o : Oper} {a : Act} {w : World} {Q : Exit → Act → World → Prop} (hg : o.guard = none) (t : TypeId) (parts : Array (Nat × Operand)) (ho : o.op = .build t parts) (cells : Array Value)
  (hc : Hid (P.built t (parts.map fun (i, x) => (i, a.eval x)).toList = some cells))
  (h : wpList P ops Q rest (a.put o.dst (.agg cells)) w) : wpList P ops Q (o :: rest) a w :=
 wpList_build hg t parts ho (by rw [hc.out]; rfl) (by rw [hc.out]; exact h)
set_option maxRecDepth 100000 in
set_option maxHeartbeats 4000000 in
theorem table_any (w : World) : Calls Tryz.prog 242 #[] w fun e w' => e = .returned (.agg (cellsF fun j => kt.getD j 0)) ∧ Below w.heap.size w w' := by
 have hi0 : (Tryz.prog.info? 304).map (·.size) = some (cellsF fun j => kt.getD j 0).size := by rw [cellsF_size]; kernel_rfl
 have hone := cellsF_one (fun j => kt.getD j 0)
 have hsz := cellsF_size (fun j => kt.getD j 0)
 obtain ⟨C, hC⟩ : ∃ C, (cellsF fun j => kt.getD j 0) = C := ⟨_, rfl⟩
 have HC : Hid (C = ktC) := by rw [← hC]; exact ktC_eq
 rw [hC] at hi0 hone hsz
 rw [hC]
 have HI := hid hi0; have HO := hid hone; have HS := hid hsz
 clear hC hi0 hone hsz
 go_enter Tryz.func242, Tryz.ntmps242
 go_wp2_with (first
  | (refine wpList_build_to rfl _ _ rfl C ?hc ?_)
  | (refine wpList_store_row rfl _ (.tmp 0) (.tmp 1) rfl w.heap.size C rfl rfl _ _ (heap_alloc_new w _) HI.out HS.out.symm HO.out ?_))
 case hc => rw [HC.out]; exact hid (by kernel_rfl)
 exact bodyPost_ret (v := .agg C) (results_cell_row (by rfl) _ _ w.heap.size 304 C (0, 0) _ rfl (setRow_heap _ _ _ _ _ _ (heap_alloc_new w _)) Tryz.underlying304 rfl HI.out) rfl ⟨rfl, below_setRow ((Below.refl _ _).alloc (Nat.le_refl _) _) (Nat.le_refl _) _⟩
theorem and_go (a b : Nat) (ha : a < 4294967296) (hb : b < 4294967296) : bits .and .u32 (a : Int) (b : Int) = ((a &&& b : Nat) : Int) := u32_and_nat a b ha hb
theorem not_go (a : Nat) (ha : a < 4294967296) : bits .xor .u32 IntKind.u32.max (a : Int) = ((4294967295 ^^^ a : Nat) : Int) := u32_xor_nat 4294967295 a (by omega) ha
theorem Blk.below {B g : Nat} {w w' : World} {t : TypeId} {cs : Array Value} (h : Blk w g t cs) (hb : Below B w w') (hg : g < B) : Blk w' g t cs := (hb.block g hg).trans h
theorem BytesAt.below {B g off : Nat} {w w' : World} {l : List UInt8} (h : BytesAt w g off l) (hb : Below B w w') (hg : g < B) : BytesAt w' g off l := fun j hj => (hb.cell (p := ⟨g, off + j, none⟩) hg).trans (h j hj)
theorem mod_add (a b : Nat) : ((a : Int) + (b : Int)) % 4294967296 = (((a + b) % 4294967296 : Nat) : Int) := by omega
theorem all8 (a b c d e f g h : Int) : (#[Value.int .u32 a, .int .u32 b, .int .u32 c, .int .u32 d, .int .u32 e, .int .u32 f, .int .u32 g, .int .u32 h].all (·.oneCell')) = true := by simp [Value.oneCell']
theorem rnd_a (a b c d e f g : Nat) : (((a : Int) + b + c + d + e) % 4294967296 + ((f : Int) + g) % 4294967296) % 4294967296 = ((((a + b + c + d + e) % 4294967296 + (f + g) % 4294967296) % 4294967296 : Nat) : Int) := by omega
theorem rnd_e (a b c d e f : Nat) : ((f : Int) + ((a : Int) + b + c + d + e) % 4294967296) % 4294967296 = (((f + (a + b + c + d + e) % 4294967296) % 4294967296 : Nat) : Int) := by omega
set_option maxRecDepth 100000 in
set_option maxHeartbeats 4000000 in
theorem mix_any (s : S8) (hs : s.Lt) (gb off c : Nat) (b : List UInt8) (w : World) (hb : BytesAt w gb off b) (hl : b.length = 64) (hc : 64 ≤ c) (hc2 : c ≤ 9223372036854775807) : Calls Tryz.prog 211 #[s8v s, .slice (some ⟨gb, off, none⟩) 64 c] w fun e w' => e = .returned (s8v (mixL s b)) ∧ Below w.heap.size w w' := by
 have hi0 : (Tryz.prog.info? 304).map (·.size) = some (cellsF fun j => kt.getD j 0).size := by rw [cellsF_size]; kernel_rfl
 have hone := cellsF_one (fun j => kt.getD j 0)
 have hsz := cellsF_size (fun j => kt.getD j 0)
 have HK : Hid (∀ j, j < 64 → (cellsF fun j => kt.getD j 0)[j]? = some (.int .u32 (kt.getD j 0 : Nat))) := fun j hj => cellsF_get _ j hj
 obtain ⟨C, hC⟩ : ∃ C, (cellsF fun j => kt.getD j 0) = C := ⟨_, rfl⟩
 have CT := hid (fun w => table_any w)
 rw [hC] at hi0 hone hsz CT HK
 have HI := hid hi0; have HO := hid hone; have HS := hid hsz
 clear hC hi0 hone hsz
 have CS := hid (fun (w : World) (h : BytesAt w gb off b) => spread_any gb off c b w h hl hc hc2)
 have HX : Hid (∀ j, j < 64 → (cellsF fun j => (spreadL b).getD j 0)[j]? = some (.int .u32 ((spreadL b).getD j 0 : Nat))) := fun j hj => cellsF_get _ j hj
 obtain ⟨X, hX⟩ : ∃ X, (cellsF fun j => (spreadL b).getD j 0) = X := ⟨_, rfl⟩
 rw [hX] at CS HX
 clear hX
 have HB := hid hb; have HLT := hid hs; have HBL := hid hl
 have HM : Hid (mixL s b = addS s (rounds (spreadL b) 64 s)) := rfl
 clear hb hl
 obtain ⟨g, hg⟩ : ∃ g, w.heap.size = g := ⟨_, rfl⟩
 have HG := hid hg
 have hgb : gb < g := by
  have := HB.out 0 (by rw [HBL.out]; omega)
  rw [← hg]; exact World.block_lt_of_cell? w _ this
 rw [hg]; clear hg hs
 obtain ⟨R, hR⟩ : ∃ R, mixL s b = R := ⟨_, rfl⟩
 rw [hR] at HM ⊢
 clear hR
 obtain ⟨sa, sb, sc, sd, se, sf, sg, sh⟩ := s
 unfold s8v
 go_enter Tryz.func211, Tryz.ntmps211
 go_wp2_with fail
 have HW0 : Hid (Blk ((w.alloc (.cells #[.int .u32 sa, .int .u32 sb, .int .u32 sc, .int .u32 sd, .int .u32 se, .int .u32 sf, .int .u32 sg, .int .u32 sh] 278)).alloc (.cells #[.int .u32 0, .int .u32 0, .int .u32 0, .int .u32 0, .int .u32 0, .int .u32 0, .int .u32 0, .int .u32 0] 278)) g 278 #[.int .u32 sa, .int .u32 sb, .int .u32 sc, .int .u32 sd, .int .u32 se, .int .u32 sf, .int .u32 sg, .int .u32 sh]) := by
  have := (Blk.new w 278 #[.int .u32 sa, .int .u32 sb, .int .u32 sc, .int .u32 sd, .int .u32 se, .int .u32 sf, .int .u32 sg, .int .u32 sh]).alloc (.cells #[.int .u32 0, .int .u32 0, .int .u32 0, .int .u32 0, .int .u32 0, .int .u32 0, .int .u32 0, .int .u32 0] 278)
  rw [HG.out] at this; exact this
 have HZ0 : Hid (Blk ((w.alloc (.cells #[.int .u32 sa, .int .u32 sb, .int .u32 sc, .int .u32 sd, .int .u32 se, .int .u32 sf, .int .u32 sg, .int .u32 sh] 278)).alloc (.cells #[.int .u32 0, .int .u32 0, .int .u32 0, .int .u32 0, .int .u32 0, .int .u32 0, .int .u32 0, .int .u32 0] 278)) (g + 1) 278 #[.int .u32 0, .int .u32 0, .int .u32 0, .int .u32 0, .int .u32 0, .int .u32 0, .int .u32 0, .int .u32 0]) := by
  have := Blk.new (w.alloc (.cells #[.int .u32 sa, .int .u32 sb, .int .u32 sc, .int .u32 sd, .int .u32 se, .int .u32 sf, .int .u32 sg, .int .u32 sh] 278)) 278 #[.int .u32 0, .int .u32 0, .int .u32 0, .int .u32 0, .int .u32 0, .int .u32 0, .int .u32 0, .int .u32 0]
  simp only [World.size_alloc, HG.out] at this; exact this
 refine (CT.out _).mono ?_; rintro e w1 ⟨rfl, hb1⟩
 have HL1 := hid hb1
 clear hb1
 go_wp2_with (first
  | (refine wpList_store_row rfl _ (.tmp 5) (.tmp 18) rfl w1.heap.size C rfl rfl _ _ (heap_alloc_new w1 _) HI.out HS.out.symm HO.out ?_))
 rw [HG.out]
 generalize hW2 : World.setRow _ _ C = W2
 have HK2 : Hid (Blk W2 w1.heap.size 304 C) := by rw [← hW2]; exact setRow_heap _ _ _ _ _ _ (heap_alloc_new w1 _)
 have L2 : Hid (Below w1.heap.size w1 W2) := by rw [← hW2]; exact below_setRow ((Below.refl _ _).alloc (Nat.le_refl _) _) (Nat.le_refl _) _
 have hz1 : g + 2 ≤ w1.heap.size := by have := HL1.out.size; simp at this; have := HG.out; omega
 have HH2 : Hid (Blk W2 g 278 #[.int .u32 sa, .int .u32 sb, .int .u32 sc, .int .u32 sd, .int .u32 se, .int .u32 sf, .int .u32 sg, .int .u32 sh]) := (HW0.out.below HL1.out (by simp; have := HG.out; omega)).below L2.out (by omega)
 have HZ2 : Hid (Blk W2 (g + 1) 278 #[.int .u32 0, .int .u32 0, .int .u32 0, .int .u32 0, .int .u32 0, .int .u32 0, .int .u32 0, .int .u32 0]) := (HZ0.out.below HL1.out (by simp; have := HG.out; omega)).below L2.out (by omega)
 have HBEL : Hid (Below g w W2) := (((((Below.refl g w).alloc (Nat.le_of_eq HG.out.symm) _).alloc (by simp; have := HG.out; omega) _).trans (HL1.out.mono (by simp; have := HG.out; omega))).trans (L2.out.mono (by omega)))
 have HKG : Hid (g + 1 < w1.heap.size) := Nat.lt_of_lt_of_le (by omega) hz1
 have HKS : Hid (w1.heap.size < W2.heap.size) := Blk.lt HK2.out
 clear hW2 HW0 HZ0 HL1 L2 hz1
 generalize w1.heap.size = gk at HK2 HKG HKS ⊢
 have c0 := Blk.cell HH2.out 0
 have c1 := Blk.cell HH2.out 1
 have c2 := Blk.cell HH2.out 2
 have c3 := Blk.cell HH2.out 3
 have c4 := Blk.cell HH2.out 4
 have c5 := Blk.cell HH2.out 5
 have c6 := Blk.cell HH2.out 6
 have c7 := Blk.cell HH2.out 7
 simp at c0 c1 c2 c3 c4 c5 c6 c7
 go_quiet (fail)
 have HK3 : Hid (Blk (W2.drewN nq) gk 304 C) := HK2.out.drewN _
 have HH3 : Hid (Blk (W2.drewN nq) g 278 #[.int .u32 sa, .int .u32 sb, .int .u32 sc, .int .u32 sd, .int .u32 se, .int .u32 sf, .int .u32 sg, .int .u32 sh]) := HH2.out.drewN _
 have HZ3 : Hid (Blk (W2.drewN nq) (g + 1) 278 #[.int .u32 0, .int .u32 0, .int .u32 0, .int .u32 0, .int .u32 0, .int .u32 0, .int .u32 0, .int .u32 0]) := HZ2.out.drewN _
 have HBEL3 : Hid (Below g w (W2.drewN nq)) := below_drewN HBEL.out _
 have HKS3 : Hid (gk < (W2.drewN nq).heap.size) := HKS.out
 clear HK2 HH2 HZ2 HBEL HKS c0 c1 c2 c3 c4 c5 c6 c7
 generalize W2.drewN nq = W3 at HK3 HH3 HZ3 HBEL3 HKS3 ⊢
 go_wp2_with fail
 refine (CS.out _ (HB.out.below HBEL3.out hgb)).mono ?_; rintro e w4 ⟨rfl, hb4⟩
 have HK4 : Hid (Blk w4 gk 304 C) := HK3.out.below hb4 HKS3.out
 have HH4 : Hid (Blk w4 g 278 #[.int .u32 sa, .int .u32 sb, .int .u32 sc, .int .u32 sd, .int .u32 se, .int .u32 sf, .int .u32 sg, .int .u32 sh]) := HH3.out.below hb4 (by have := HKG.out; have := HKS3.out; omega)
 have HZ4 : Hid (Blk w4 (g + 1) 278 #[.int .u32 0, .int .u32 0, .int .u32 0, .int .u32 0, .int .u32 0, .int .u32 0, .int .u32 0, .int .u32 0]) := HZ3.out.below hb4 (by have := HKG.out; have := HKS3.out; omega)
 have HBEL4 : Hid (Below g w w4) := HBEL3.out.trans (hb4.mono (by have := HKG.out; have := HKS3.out; omega))
 clear hb4 HK3 HH3 HZ3 HBEL3 HKS3 CS CT
 go_wp2_with fail
 go_loopw [37, 6, 7, 8, 9, 10, 11, 12, 13] (fun tv va vb vc vd ve vf vg vh wr => ∃ (t : Nat) (r : S8), t ≤ 64 ∧ tv = .int .i64 t ∧ Hid (r = rounds (spreadL b) t ⟨sa, sb, sc, sd, se, sf, sg, sh⟩) ∧ va = .int .u32 r.a ∧ vb = .int .u32 r.b ∧ vc = .int .u32 r.c ∧ vd = .int .u32 r.d ∧ ve = .int .u32 r.e ∧ vf = .int .u32 r.f ∧ vg = .int .u32 r.g ∧ vh = .int .u32 r.h ∧ Hid (Blk wr gk 304 C) ∧ Hid (Blk wr g 278 #[.int .u32 sa, .int .u32 sb, .int .u32 sc, .int .u32 sd, .int .u32 se, .int .u32 sf, .int .u32 sg, .int .u32 sh]) ∧ Hid (Blk wr (g + 1) 278 #[.int .u32 0, .int .u32 0, .int .u32 0, .int .u32 0, .int .u32 0, .int .u32 0, .int .u32 0, .int .u32 0]) ∧ Hid (Below g w wr)) (fun tv _ _ _ _ _ _ _ _ _ => 64 - (intOf tv).toNat)
 case atStart => exact ⟨0, _, by omega, rfl, rfl, rfl, rfl, rfl, rfl, rfl, rfl, rfl, rfl, HK4, HH4, HZ4, HBEL4⟩
 case round =>
  obtain ⟨t, r, ht, rfl, HR, rfl, rfl, rfl, rfl, rfl, rfl, rfl, rfl, HKr, HHr, HZr, HBr⟩ := hrel
  have hlt : r.Lt := by rw [HR.out]; exact rounds_Lt HLT.out _ _
  clear HK4 HH4 HZ4 HBEL4
  have HRR := HR
  obtain ⟨ra, rb, rc, rd, re, rf, rg, rh⟩ := r
  obtain ⟨la, lb, lc, ld, le, lf, lg, lh⟩ := hlt
  simp only at la lb lc ld le lf lg lh
  by_cases htl : t < 64
  ·as_aux_lemma =>
    have ct : (t : Int) < 64 := by omega
    have ct0 : (0 : Int) ≤ (t : Int) := by omega
    have hix := fun w => index_words Tryz.underlying304 X t htl _ (HX.out t htl) w
    have hk : wr.cell? ⟨gk, t, none⟩ = some (.int .u32 (kt.getD t 0 : Nat)) := (Blk.cell HKr.out t).trans (HK.out t htl)
    have kl := kt_lt t
    have xl := spreadL_lt b t
    have HN : Hid (rounds (spreadL b) (t + 1) ⟨sa, sb, sc, sd, se, sf, sg, sh⟩ = rnd ⟨ra, rb, rc, rd, re, rf, rg, rh⟩ (kt.getD t 0) ((spreadL b).getD t 0)) := by
     show _ = _
     rw [HR.out]; rfl
    obtain ⟨K, hK⟩ : ∃ K, kt.getD t 0 = K := ⟨_, rfl⟩
    obtain ⟨Y, hY⟩ : ∃ Y, (spreadL b).getD t 0 = Y := ⟨_, rfl⟩
    rw [hK] at hk kl HN
    rw [hY] at hix xl HN
    clear hK hY
    have C1 := hid (fun w => turned_any re 6 11 25 le (by unfold Turns; omega) (by unfold Turns; omega) (by unfold Turns; omega) w)
    have C2 := hid (fun w => turned_any ra 2 13 22 la (by unfold Turns; omega) (by unfold Turns; omega) (by unfold Turns; omega) w)
    have HP : Hid (rnd ⟨ra, rb, rc, rd, re, rf, rg, rh⟩ K Y = ⟨((rh + turn3 re 6 11 25 + ch re rf rg + K + Y) % 4294967296 + (turn3 ra 2 13 22 + maj ra rb rc) % 4294967296) % 4294967296, ra, rb, rc, (rd + (rh + turn3 re 6 11 25 + ch re rf rg + K + Y) % 4294967296) % 4294967296, re, rf, rg⟩) := rfl
    have b1 := and_go re rf le lf
    have b2 := not_go re le
    have b3 := and_go (4294967295 ^^^ re) rg (xor_lt _ _ (by omega) le) lg
    have b4 : bits .xor .u32 ((re &&& rf : Nat) : Int) (((4294967295 ^^^ re) &&& rg : Nat) : Int) = ((ch re rf rg : Nat) : Int) := xor_go _ _ (and_lt _ _ le) (and_lt _ _ (xor_lt _ _ (by omega) le))
    have b5 := and_go ra rb la lb
    have b6 := and_go ra rc la lc
    have b7 := and_go rb rc lb lc
    have b8 := xor_go (ra &&& rb) (ra &&& rc) (and_lt _ _ la) (and_lt _ _ la)
    have b9 : bits .xor .u32 (((ra &&& rb) ^^^ (ra &&& rc) : Nat) : Int) ((rb &&& rc : Nat) : Int) = ((maj ra rb rc : Nat) : Int) := xor_go _ _ (xor_lt _ _ (and_lt _ _ la) (and_lt _ _ la)) (and_lt _ _ lb)
    have tl1 := turn3_lt re 6 11 25 le
    have tl2 := turn3_lt ra 2 13 22 la
    obtain ⟨T1, hT1⟩ : ∃ T, turn3 re 6 11 25 = T := ⟨_, rfl⟩
    obtain ⟨T2, hT2⟩ : ∃ T, turn3 ra 2 13 22 = T := ⟨_, rfl⟩
    obtain ⟨CH, hCH⟩ : ∃ T, ch re rf rg = T := ⟨_, rfl⟩
    obtain ⟨MJ, hMJ⟩ : ∃ T, maj ra rb rc = T := ⟨_, rfl⟩
    rw [hT1] at C1 HP tl1
    rw [hT2] at C2 HP tl2
    rw [hCH] at b4 HP
    rw [hMJ] at b9 HP
    generalize (re &&& rf : Nat) = z1 at b1 b4
    generalize ((4294967295 ^^^ re) &&& rg : Nat) = z2 at b3 b4
    generalize (4294967295 ^^^ re : Nat) = z3 at b2 b3
    generalize (ra &&& rb) ^^^ (ra &&& rc) = z4 at b8 b9
    generalize ra &&& rb = z5 at b5 b8
    generalize ra &&& rc = z6 at b6 b8
    generalize rb &&& rc = z7 at b7 b9
    clear hT1 hT2 hCH hMJ
    clear la lb lc ld le lf lg lh
    go_wp2_with fail
    go_quiet ((go_at_call 244; exact Calls.quiet_of_same ((C1.out _).mono fun _ _ h => ⟨h.1, h.2.symm⟩)))
    go_wp2_with fail
    refine (C2.out _).mono ?_; rintro e w' ⟨rfl, rfl⟩
    go_wp2_with fail
    go_roundw
    case rel =>
     exact ⟨t + 1, _, by omega, by go_num, (HN.out.trans HP.out).symm, congrArg (Value.int .u32) (rnd_a _ _ _ _ _ _ _), rfl, rfl, rfl, congrArg (Value.int .u32) (rnd_e _ _ _ _ _ _), rfl, rfl, rfl, HKr.out.drewN _, HHr.out.drewN _, HZr.out.drewN _, below_drewN HBr.out _⟩
    case measure => simp [intOf]; omega
  ·obtain rfl : t = 64 := by omega
   have HF : Hid (R = ⟨(sa + ra) % 4294967296, (sb + rb) % 4294967296, (sc + rc) % 4294967296, (sd + rd) % 4294967296, (se + re) % 4294967296, (sf + rf) % 4294967296, (sg + rg) % 4294967296, (sh + rh) % 4294967296⟩) := by
    show _ = _
    rw [HM.out, ← HR.out]; rfl
   clear HM HR HRR la lb lc ld le lf lg lh
   have c0 := Blk.cell HHr.out 0
   have c1 := Blk.cell HHr.out 1
   have c2 := Blk.cell HHr.out 2
   have c3 := Blk.cell HHr.out 3
   have c4 := Blk.cell HHr.out 4
   have c5 := Blk.cell HHr.out 5
   have c6 := Blk.cell HHr.out 6
   have c7 := Blk.cell HHr.out 7
   simp at c0 c1 c2 c3 c4 c5 c6 c7
   have HI8 : Hid (∀ cs : Array Value, cs.size = 8 → (Tryz.prog.info? 278).map (·.size) = some cs.size) := fun cs h => by rw [h]; kernel_rfl
   obtain ⟨V, hV⟩ : ∃ V : Array Value, #[.int .u32 (((sa : Int) + ra) % 4294967296), .int .u32 (((sb : Int) + rb) % 4294967296), .int .u32 (((sc : Int) + rc) % 4294967296), .int .u32 (((sd : Int) + rd) % 4294967296), .int .u32 (((se : Int) + re) % 4294967296), .int .u32 (((sf : Int) + rf) % 4294967296), .int .u32 (((sg : Int) + rg) % 4294967296), .int .u32 (((sh : Int) + rh) % 4294967296)] = V := ⟨_, rfl⟩
   have HV := hid hV
   have HIV : Hid ((Tryz.prog.info? 278).map (·.size) = some V.size) := HI8.out _ (by rw [← hV]; rfl)
   have HVS : Hid (8 = V.size) := by show _ = _; rw [← hV]; rfl
   have HVA : Hid (V.all (·.oneCell') = true) := by show _ = _; rw [← hV]; exact all8 _ _ _ _ _ _ _ _
   have HZB := setRow_heap wr (g + 1) #[.int .u32 0, .int .u32 0, .int .u32 0, .int .u32 0, .int .u32 0, .int .u32 0, .int .u32 0, .int .u32 0] V 278 (0, 0) HZr.out
   have HRES : Hid (∀ tmps : Array Value, tmps.getD 4 undef = .pointer (some ⟨g + 1, 0, none⟩) → (results Tryz.f211 tmps).run Tryz.prog (wr.setRow (g + 1) V) = .ok (.agg V) (wr.setRow (g + 1) V)) := fun tmps ht =>
    results_cell_row (by rfl) tmps _ (g + 1) 278 _ (0, 0) _ ht HZB Tryz.underlying278 rfl HIV.out
   have HEQ : Hid ((Ending.returned (.agg V)) = .returned (.agg #[.int .u32 (R.a : Int), .int .u32 (R.b : Int), .int .u32 (R.c : Int), .int .u32 (R.d : Int), .int .u32 (R.e : Int), .int .u32 (R.f : Int), .int .u32 (R.g : Int), .int .u32 (R.h : Int)])) := by
    show _ = _
    rw [HF.out, ← hV]; simp only [← mod_add]
   have HBZ : Hid (Below g w (wr.setRow (g + 1) V)) := below_setRow HBr.out (by omega) _
   obtain ⟨wz, hwz⟩ : ∃ wz, wr.setRow (g + 1) V = wz := ⟨_, rfl⟩
   have HWZ := hid hwz
   rw [hwz] at HRES HBZ
   clear hV HZB hwz
   go_wp2_with (first
    | (refine wpList_store_row rfl _ (.tmp 4) (.tmp 119) rfl (g + 1) V rfl (congrArg Value.agg HV.out) 278 #[.int .u32 0, .int .u32 0, .int .u32 0, .int .u32 0, .int .u32 0, .int .u32 0, .int .u32 0, .int .u32 0] HZr.out HIV.out HVS.out HVA.out ?_; clear c0 c1 c2 c3 c4 c5 c6 c7; rw [HWZ.out]))
   exact bodyPost_ret (v := .agg V) (HRES.out _ rfl) rfl ⟨HEQ.out, HBZ.out⟩
end Go.Proofs.YtmpjdoiogbbcoaaGreatDoor
