/- Texts in a row: SnA, SnN, SetO, SnH, PathPlainB, PathPlainC, SnX, ShaI, ShaW. -/
import Derived.Test.YtlenfiiocmchdaaGreatDoorMdD
import Derived.Carry
import Derived.Sort.KeysCollected
import Derived.Sort.OwnSorted
import Derived.Lib.OwnBridge
import Derived.Lib.Strings
import Derived.Laws.BitsAllLaws
import Derived.Laws.Tables
/- Folders in memory: newFolder, add. -/
namespace Go.Proofs.YtlenfiiocmchdaaGreatDoor
open Go.RowKit Book Pap Ojt Sn
set_option linter.unusedVariables false
set_option linter.unusedSimpArgs false

def datS (s : ByteArray) : DataW Unit := .lit (.string s.data.toList)
theorem datS_inj (x y : ByteArray) (h : datS x = datS y) : x = y := by
  unfold datS at h
  injection h with h; injection h with h
  exact ba_ext h
theorem valS_inj (x y : ByteArray) (h : Value.string x = Value.string y) : x = y := by injection h
def valP : Option Nat → Value
  | none => .pointer none
  | some b => .pointer (some ⟨b, 0, none⟩)
def datP : Option Nat → DataW Unit
  | none => .lit (.int .i64 (-1))
  | some b => .lit (.int .i64 b)
theorem valP_inj (x y : Option Nat) (h : valP x = valP y) : x = y := by
  cases x <;> cases y <;> simp [valP] at h ⊢
  all_goals omega
theorem datP_inj (x y : Option Nat) (h : datP x = datP y) : x = y := by
  cases x <;> cases y <;> simp [datP] at h ⊢
  all_goals omega
abbrev StrMap := MapFn (α := ByteArray) Tryz.prog 9 Value.string datS
abbrev PtrMap := MapFn (α := Option Nat) Tryz.prog 9 valP datP
theorem Tryz.infoPF : (Tryz.prog.info? 194).map (fun i => (i.zero, i.size, i.bytes)) = some (some (.pointer none), 1, 8) := by kernel_rfl
theorem zeroS (w : World) : (zeroValue 9).run Tryz.prog w = .ok (.string ⟨#[]⟩) w := by
  obtain ⟨i, hi, hz, -⟩ := info_parts Tryz.infoS
  simp [zeroValue, typeInfo, hi, hz]
theorem zeroPF (w : World) : (zeroValue 194).run Tryz.prog w = .ok (.pointer none) w := by
  obtain ⟨i, hi, hz, -⟩ := info_parts Tryz.infoPF
  simp [zeroValue, typeInfo, hi, hz]
theorem strMap_get1 {w : World} {m n : Nat} {f : ByteArray → Option ByteArray} (h : StrMap w m n f) (s : ByteArray) (hs : s.size ≤ maxLen) : (Instr.lookup 136 (.map (some m)) (.string s) false).run Tryz.prog w = .ok (.string ((f s).getD ⟨#[]⟩)) w :=
  MapFn.get1 Tryz.underlying9 Tryz.underlying136 valS_inj datS_inj (z0 := ⟨#[]⟩) zeroS h s hs
theorem strMap_get2 {w : World} {m n : Nat} {f : ByteArray → Option ByteArray} (h : StrMap w m n f) (s : ByteArray) (hs : s.size ≤ maxLen) : (Instr.lookup 136 (.map (some m)) (.string s) true).run Tryz.prog w = .ok (.tuple #[.string ((f s).getD ⟨#[]⟩), .bool (f s).isSome]) w :=
  MapFn.get2 Tryz.underlying9 Tryz.underlying136 valS_inj datS_inj (z0 := ⟨#[]⟩) zeroS h s hs
theorem ptrMap_get1 {w : World} {m n : Nat} {f : ByteArray → Option (Option Nat)} (h : PtrMap w m n f) (s : ByteArray) (hs : s.size ≤ maxLen) : (Instr.lookup 252 (.map (some m)) (.string s) false).run Tryz.prog w = .ok (valP ((f s).getD none)) w :=
  MapFn.get1 Tryz.underlying9 Tryz.underlying252 valP_inj datP_inj (z0 := none) zeroPF h s hs
/-- a folder in memory: the blocks that are its own, its files with their names -/
def FoAt : Nat → World → (Nat → Prop) → Nat → List Fl → Prop
  | 0, _, _, _, _ => False
  | d + 1, w, F, b, fs => ∃ (mf md N : Nat) (kid : ByteArray → Option Nat) (KF : ByteArray → Nat → Prop),
      Blk w b 254 #[.map (some mf), .map (some md)] ∧ StrMap w mf N (leafs fs) ∧ PtrMap w md N (fun n => (kid n).map some) ∧ mf ≠ md ∧ N ≤ fs.length ∧
      (F b ∧ F mf ∧ F md) ∧ (∀ k, F k → k < w.heap.size) ∧ (∀ n, kid n = none ↔ sub n fs = []) ∧
      (∀ n c, kid n = some c → FoAt d w (KF n) c (sub n fs) ∧ ∀ k, KF n k → F k ∧ k ≠ b ∧ k ≠ mf ∧ k ≠ md) ∧ ∀ n n', n ≠ n' → ∀ k, KF n k → ¬ KF n' k
theorem FoAt.lt : ∀ {d : Nat} {w : World} {F : Nat → Prop} {b : Nat} {fs : List Fl}, FoAt d w F b fs → ∀ k, F k → k < w.heap.size
  | 0, _, _, _, _, h => h.elim
  | d + 1, _, _, _, _, h => by obtain ⟨_, _, _, _, _, -, -, -, -, -, -, h1, -⟩ := h; exact h1
theorem FoAt.root : ∀ {d : Nat} {w : World} {F : Nat → Prop} {b : Nat} {fs : List Fl}, FoAt d w F b fs → F b
  | 0, _, _, _, _, h => h.elim
  | d + 1, _, _, _, _, h => by obtain ⟨_, _, _, _, _, -, -, -, -, -, h1, -⟩ := h; exact h1.1
theorem FoAt.only {G : Nat → Prop} : ∀ {d : Nat} {w w' : World} {F : Nat → Prop} {b : Nat} {fs : List Fl}, FoAt d w F b fs → Only G w w' → (∀ k, F k → ¬ G k) → FoAt d w' F b fs
  | 0, _, _, _, _, _, h, _, _ => h.elim
  | d + 1, w, w', F, b, fs, h, ho, hd => by
    obtain ⟨mf, md, N, kid, KF, h1, h2, h3, h4, h5, ⟨hb, hf, hm⟩, h6, h7, h8, h9⟩ := h
    exact ⟨mf, md, N, kid, KF, h1.only ho (hd b hb), h2.only ho (hd mf hf), h3.only ho (hd md hm), h4, h5, ⟨hb, hf, hm⟩, fun k hk => Nat.lt_of_lt_of_le (h6 k hk) ho.size, h7,
      fun n c hc => ⟨(h8 n c hc).1.only ho (fun k hk => hd k ((h8 n c hc).2 k hk).1), (h8 n c hc).2⟩, h9⟩
theorem newFolder_any (d : Nat) (w : World) : Calls Tryz.prog 118 #[] w fun e w' => ∃ b F, e = .returned (.pointer (some ⟨b, 0, none⟩)) ∧ FoAt (d + 1) w' F b [] ∧ Below w.heap.size w w' ∧ ∀ k, F k → w.heap.size ≤ k := by
  have HF : Hid (FoAt (d + 1) (((w.alloc (.map #[] 0)).alloc (.map #[] 0)).alloc (.cells #[.map (some w.heap.size), .map (some (w.heap.size + 1))] 254)) (fun k => w.heap.size ≤ k ∧ k < w.heap.size + 3) (w.heap.size + 1 + 1) [] ∧ Below w.heap.size w (((w.alloc (.map #[] 0)).alloc (.map #[] 0)).alloc (.cells #[.map (some w.heap.size), .map (some (w.heap.size + 1))] 254))) := by
    have z1 : (w.alloc (.map #[] 0)).heap.size = w.heap.size + 1 := World.size_alloc _ _
    have z2 : ((w.alloc (.map #[] 0)).alloc (.map #[] 0)).heap.size = w.heap.size + 1 + 1 := by rw [World.size_alloc, z1]
    refine ⟨⟨w.heap.size, w.heap.size + 1, 0, fun _ => none, fun _ _ => False, ?_, ?_, ?_, by omega, Nat.le_refl _, ⟨⟨by omega, by omega⟩, ⟨by omega, by omega⟩, ⟨by omega, by omega⟩⟩, ?_, ?_, ?_, ?_⟩, ?_⟩
    · have := Blk.new ((w.alloc (.map #[] 0)).alloc (.map #[] 0)) 254 #[.map (some w.heap.size), .map (some (w.heap.size + 1))]
      rw [z2] at this; exact this
    · have h : StrMap (w.alloc (.map #[] 0)) w.heap.size 0 (fun _ => none) := MapFn.made w
      exact (h.later ((Below.refl _ _).alloc (Nat.le_refl _) _)).later ((Below.refl _ _).alloc (Nat.le_refl _) _)
    · have h : PtrMap ((w.alloc (.map #[] 0)).alloc (.map #[] 0)) (w.alloc (.map #[] 0)).heap.size 0 (fun _ => none) := MapFn.made _
      rw [z1] at h
      exact h.later ((Below.refl _ _).alloc (Nat.le_refl _) _)
    · rintro k ⟨_, h⟩; rw [World.size_alloc, z2]; omega
    · intro n; exact ⟨fun _ => rfl, fun _ => rfl⟩
    · intro n c h; cases h
    · intro n n' _ k h; exact h.elim
    · exact (((Below.refl _ _).alloc (Nat.le_refl _) _).alloc (by rw [z1]; omega) _).alloc (by rw [z2]; omega) _
  have hmk : ∀ (T : TypeId) (W : World), (Instr.makeMap T none).run Tryz.prog W = .ok (.map (some W.heap.size)) (W.alloc (.map #[] 0)) := fun T W => run_makeMap T W
  go_enter Tryz.func118, Tryz.ntmps118
  go_wp2_with fail
  go_ret
  exact ⟨_, _, rfl, HF.out.1, HF.out.2, fun k hk => hk.1⟩
theorem sub_one (n0 n : ByteArray) (fs : List Fl) (data : ByteArray) : sub n (fs ++ [([n0], data)]) = sub n fs := by
  rw [sub_snoc]; simp [subOf]
theorem sub_more (n0 n1 : ByteArray) (r : List ByteArray) (n : ByteArray) (fs : List Fl) (data : ByteArray) : sub n (fs ++ [(n0 :: n1 :: r, data)]) = if n0 = n then sub n fs ++ [(n1 :: r, data)] else sub n fs := by
  rw [sub_snoc]
  by_cases h : n0 = n
  · simp [subOf, h]
  · simp [subOf, h]
theorem leafs_one (n0 : ByteArray) (fs : List Fl) (data : ByteArray) : leafs (fs ++ [([n0], data)]) = fun q => if q = n0 then some data else leafs fs q := by
  funext q
  rw [leafs_snoc]
  by_cases h : q = n0
  · subst h; simp
  · rw [if_neg (by simp; exact fun e => h e.symm), if_neg h]
theorem leafs_more (n0 n1 : ByteArray) (r : List ByteArray) (fs : List Fl) (data : ByteArray) : leafs (fs ++ [(n0 :: n1 :: r, data)]) = leafs fs := by
  funext q
  rw [leafs_snoc, if_neg (by simp)]
theorem FoAt.grow {d : Nat} {wk w' : World} {F K0 K0' : Nat → Prop} {b mf md N c0 : Nat} {kid : ByteArray → Option Nat} {KF : ByteArray → Nat → Prop} {fs : List Fl} {n0 n1 : ByteArray} {r : List ByteArray} {data : ByteArray}
    (H1 : Blk wk b 254 #[.map (some mf), .map (some md)]) (H2 : StrMap wk mf N (leafs fs)) (H3 : PtrMap wk md N (fun n => (if n = n0 then some c0 else kid n).map some)) (H4 : mf ≠ md) (H5 : N ≤ fs.length + 1)
    (HF : F b ∧ F mf ∧ F md) (H6 : ∀ k, F k → k < wk.heap.size) (H7 : ∀ n, kid n = none ↔ sub n fs = [])
    (H8 : ∀ n c, n ≠ n0 → kid n = some c → FoAt d wk (KF n) c (sub n fs) ∧ ∀ k, KF n k → F k ∧ k ≠ b ∧ k ≠ mf ∧ k ≠ md) (H9 : ∀ n n', n ≠ n' → ∀ k, KF n k → ¬ KF n' k)
    (C : FoAt d w' K0' c0 (sub n0 fs ++ [(n1 :: r, data)])) (CO : Only K0 wk w') (CK : ∀ k, K0' k → K0 k ∨ wk.heap.size ≤ k)
    (S1 : ∀ k, K0 k → k ≠ b ∧ k ≠ mf ∧ k ≠ md) (S2 : ∀ n c, n ≠ n0 → kid n = some c → ∀ k, KF n k → ¬ K0 k) :
    FoAt (d + 1) w' (fun k => F k ∨ K0' k) b (fs ++ [(n0 :: n1 :: r, data)]) := by
  refine ⟨mf, md, N, fun n => if n = n0 then some c0 else kid n, fun n k => if n = n0 then K0' k else (KF n k ∧ kid n ≠ none), H1.only CO (fun e => (S1 b e).1 rfl), ?_, H3.only CO (fun e => (S1 md e).2.2 rfl), H4, by rw [List.length_append]; exact H5, ⟨.inl HF.1, .inl HF.2.1, .inl HF.2.2⟩, ?_, ?_, ?_, ?_⟩
  · rw [leafs_more]; exact H2.only CO (fun e => (S1 mf e).2.1 rfl)
  · rintro k (hk | hk)
    · exact Nat.lt_of_lt_of_le (H6 k hk) CO.size
    · exact C.lt k hk
  · intro n
    rw [sub_more]
    by_cases h : n = n0
    · subst h; simp
    · show (if n = n0 then some c0 else kid n) = none ↔ _
      rw [if_neg h, if_neg (fun e => h e.symm)]; exact H7 n
  · intro n c hc
    rw [sub_more]
    by_cases h : n = n0
    · subst h
      simp only [if_true] at hc ⊢
      cases hc
      refine ⟨C, fun k hk => ⟨.inr hk, ?_⟩⟩
      rcases CK k hk with h | h
      · exact S1 k h
      · have h1 := H6 b HF.1; have h2 := H6 mf HF.2.1; have h3 := H6 md HF.2.2
        exact ⟨by omega, by omega, by omega⟩
    · simp only [if_neg h] at hc ⊢
      rw [if_neg (fun e => h e.symm)]
      obtain ⟨g1, g2⟩ := H8 n c h hc
      have e : (fun k => KF n k ∧ kid n ≠ none) = KF n := by
        funext k; apply propext
        exact ⟨fun h => h.1, fun h => ⟨h, by rw [hc]; simp⟩⟩
      rw [e]
      exact ⟨g1.only CO (fun k hk => S2 n c h hc k hk), fun k hk => ⟨.inl (g2 k hk.1).1, (g2 k hk.1).2⟩⟩
  · intro n n' hne k hk hk'
    by_cases h : n = n0
    · subst h
      have h' : ¬ n' = n := fun e => hne e.symm
      simp only [if_true] at hk
      simp only [if_neg h'] at hk'
      obtain ⟨c', hc'⟩ := Option.ne_none_iff_exists'.1 hk'.2
      rcases CK k hk with g | g
      · exact S2 n' c' h' hc' k hk'.1 g
      · have := H6 k ((H8 n' c' h' hc').2 k hk'.1).1
        omega
    · simp only [if_neg h] at hk
      by_cases h' : n' = n0
      · subst h'
        simp only [if_true] at hk'
        obtain ⟨c', hc'⟩ := Option.ne_none_iff_exists'.1 hk.2
        rcases CK k hk' with g | g
        · exact S2 n c' h hc' k hk.1 g
        · have := H6 k ((H8 n c' h hc').2 k hk.1).1
          omega
      · simp only [if_neg h'] at hk'
        exact H9 n n' hne k hk.1 hk'.1
/-- what add leaves -/
def AddOut (d : Nat) (w : World) (F : Nat → Prop) (b : Nat) (fs : List Fl) (e : Ending) (w' : World) : Prop :=
  e = .returned (.tuple #[]) ∧ ∃ F', FoAt d w' F' b fs ∧ Only F w w' ∧ ∀ k, F' k → F k ∨ w.heap.size ≤ k
set_option maxRecDepth 100000 in
set_option maxHeartbeats 8000000 in
theorem add_any : ∀ (d : Nat) (l : List ByteArray) (data : ByteArray) (ab aoff n c b : Nat) (fs : List Fl) (F : Nat → Prop) (w : World),
    FoAt d w F b fs → StrsAt w (some ⟨ab, aoff, none⟩) n l → n ≤ c → c ≤ 9223372036854775807 → 1 ≤ n → n ≤ d → (∀ x ∈ l, x.size ≤ 9223372036854775807) → fs.length ≤ 1000 → ¬ F ab →
    Calls Tryz.prog 119 #[.pointer (some ⟨b, 0, none⟩), .slice (some ⟨ab, aoff, none⟩) n c, .string data] w (AddOut d w F b (fs ++ [(l, data)])) := by
  intro d
  induction d with
  | zero => intro l data ab aoff n c b fs F w h; exact h.elim
  | succ d ih =>
    intro l data ab aoff n c b fs F w hF hA hnc hcm hn1 hnd hsz hfl hab
    have IH := hid ih
    clear ih
    have hF0 := hid hF
    obtain ⟨mf, md, N, kid, KF, h1, h2, h3, h4, h5, ⟨hFb, hFf, hFd⟩, h6, h7, h8, h9⟩ := hF
    have HA := hid hA
    have hal := hA.1
    obtain ⟨n0, r, rfl⟩ : ∃ n0 r, l = n0 :: r := by
      cases l with
      | nil => simp at hal; omega
      | cons x r => exact ⟨x, r, rfl⟩
    have hs0 : n0.size ≤ 9223372036854775807 := hsz n0 (List.mem_cons_self ..)
    have q0 : w.cell? ⟨ab, aoff, none⟩ = some (.string n0) := by
      obtain ⟨b', off', e, hc⟩ := hA.2.2.resolve_left (by omega)
      cases e
      exact hc 0 (by omega)
    have k0 : w.cell? ⟨b, 0, none⟩ = some (.map (some mf)) := Blk.cell h1 0
    have k1 : w.cell? ⟨b, 1, none⟩ = some (.map (some md)) := Blk.cell h1 1
    have hbl := Blk.lt h1
    have hmax : N < maxLen := by unfold maxLen; omega
    have hs0m : n0.size ≤ maxLen := hs0
    by_cases hone : n = 1
    · subst hone
      have hr : r = [] := by cases r with | nil => rfl | cons x y => simp at hal
      subst hr
      have HFIN : Hid (∀ nq w', StrMap w' mf (N + 1) (fun q => if q = n0 then some data else leafs fs q) → (w.drewN nq).grownBy w' (some mf) → AddOut (d + 1) w F b (fs ++ [([n0], data)]) (.returned (.tuple #[])) w') := fun nq w' hm hg => by
        have hO : Only (· = mf) w w' := ⟨hg.os, hg.tape, hg.output, hg.size, fun k hk hne => hg.block k hk (fun e => hne (by cases e; rfl))⟩
        refine ⟨rfl, F, ?_, hO.mono (fun k e => by have e : k = mf := e; subst e; exact hFf), fun k hk => .inl hk⟩
        refine ⟨mf, md, N + 1, kid, KF, h1.only hO (fun e => ?_), by rw [leafs_one]; exact hm, (h3.only hO (fun e => h4 (by have e : md = mf := e; exact e.symm))).more (Nat.le_succ _), h4, by rw [List.length_append]; simp only [List.length_cons, List.length_nil]; omega, ⟨hFb, hFf, hFd⟩, fun k hk => Nat.lt_of_lt_of_le (h6 k hk) hO.size, fun n => by rw [sub_one]; exact h7 n, fun n c hc => ?_, h9⟩
        · have e : b = mf := e
          obtain ⟨D, ⟨es, clock, hb, _⟩, _⟩ := h2
          rw [← e] at hb
          unfold Blk at h1
          rw [h1] at hb; cases hb
        · rw [sub_one]
          exact ⟨(h8 n c hc).1.only hO (fun k hk e => by have e : k = mf := e; exact ((h8 n c hc).2 k hk).2.2.1 e), (h8 n c hc).2⟩
      have HM := hid h2
      have c01 : (0 : Int) < ((1 : Nat) : Int) := by decide
      have b1 : (((1 : Nat) : Int) == 1) = true := by decide
      clear hF0 h1 h2 h3 h5 h7 h8 h9 hA HA k1
      go_enter Tryz.func119, Tryz.ntmps119
      go_wp2_with fail
      refine wp_region_tail_drew 8 (by kernel_rfl) (by kernel_rfl) ?_
      simp only [List.take_succ_cons, List.take_zero, List.drop_succ_cons, List.drop_zero]
      repeat (first | go_big_quiet_step (fail) | quiet_step (fail))
      refine wpQuiet_nil ?_
      intro _ hw'
      obtain ⟨nq, hw''⟩ := hw'
      subst hw''
      have HMq : StrMap (w.drewN nq) mf N (leafs fs) := HM.out
      have HMQ := hid HMq
      clear HMq k0 q0
      refine wpList_mapFn_set rfl (.tmp 13) (.tmp 16) (.tmp 17) 136 rfl Tryz.underlying9 Tryz.underlying136 valS_inj HMQ.out hmax n0 hs0m data rfl rfl rfl ?_
      intro w' hm hg
      have HR := hid (HFIN.out nq w' hm hg)
      clear hm hg HFIN
      go_wp2_with fail
      exact bodyPost_ret (results_none rfl _ _ _) rfl HR.out
    · obtain ⟨n1, r', hrr⟩ : ∃ n1 r', r = n1 :: r' := by
        cases r with
        | nil => simp at hal; omega
        | cons x r => exact ⟨x, r, rfl⟩
      subst hrr
      have b1 : ((n : Int) == 1) = false := by rw [beq_eq_false_iff_ne]; omega
      have hn2 : 2 ≤ n := by omega
      have c01 : (0 : Int) < (n : Int) := by omega
      have g1 : (1 : Int) ≤ (n : Int) := by omega
      have g2 : (n : Int) ≤ (c : Int) := by omega
      have g3 : ¬ c = 1 := by omega
      have g4 : ¬ 1 = c := by omega
      have HTL : Hid (∀ W, StrsAt W (some ⟨ab, aoff, none⟩) n (n0 :: n1 :: r') → StrsAt W (some ⟨ab, aoff + 1, none⟩) (n - 1) (n1 :: r')) := fun W hW => by
        obtain ⟨w1, w2, w3⟩ := hW
        refine ⟨by simp at w1 ⊢; omega, by omega, .inr ⟨ab, aoff + 1, rfl, fun j hj => ?_⟩⟩
        obtain ⟨b', off', e, hc⟩ := w3.resolve_left (by omega)
        cases e
        have h := hc (j + 1) (by omega)
        rw [show aoff + 1 + j = aoff + (j + 1) by omega]
        exact h
      have hab1 : ab < w.heap.size := World.block_lt_of_cell? w _ q0
      have hsubl : (sub n0 fs).length ≤ fs.length := List.length_filterMap_le _ _
      have HTS : Hid (∀ x ∈ n1 :: r', x.size ≤ 9223372036854775807) := fun x hx => hsz x (List.mem_cons_of_mem _ hx)
      have H1 := hid h1; have H2 := hid h2; have H3 := hid h3; have H6 := hid h6; have H7 := hid h7; have H8 := hid h8; have H9 := hid h9
      have hgv : ((kid n0).map some).getD none = kid n0 := by cases kid n0 <;> rfl
      have HGET : ∀ q, (Instr.lookup 252 (.map (some md)) (.string n0) false).run Tryz.prog (w.drewN q) = .ok (valP (kid n0)) (w.drewN q) := fun q => by
        have h : PtrMap (w.drewN q) md N (fun n => (kid n).map some) := h3
        have := ptrMap_get1 h n0 hs0m
        rw [this, hgv]
      clear h1 h2 h3 h6 h7 h8 h9 hgv hal hA hF0
      cases hk : kid n0 with
      | some c0 =>
        rw [hk] at HGET
        simp only [valP] at HGET
        have HREC : Hid (∀ q, Calls Tryz.prog 119 #[.pointer (some ⟨c0, 0, none⟩), .slice (some ⟨ab, aoff + 1, none⟩) (n - 1) (c - 1), .string data] (w.drewN q) (AddOut d (w.drewN q) (KF n0) c0 (sub n0 fs ++ [(n1 :: r', data)]))) := fun q => by
          obtain ⟨g8, g9⟩ := H8.out n0 c0 hk
          exact IH.out (n1 :: r') data ab (aoff + 1) (n - 1) (c - 1) c0 (sub n0 fs) (KF n0) (w.drewN q) (g8.only (Only.of_below (below_drewN (Below.refl _ _) q) NoF) (fun k _ e => e)) (HTL.out _ (HA.out.later (below_drewN (Below.refl _ _) q))) (by omega) (by omega) (by omega) (by omega) HTS.out (by omega) (fun e => hab (g9 ab e).1)
        have HFIN : Hid (∀ q e w', AddOut d (w.drewN q) (KF n0) c0 (sub n0 fs ++ [(n1 :: r', data)]) e w' → AddOut (d + 1) w F b (fs ++ [(n0 :: n1 :: r', data)]) e w') := fun q e w' ho => by
          obtain ⟨rfl, K', hC, hCO, hCK⟩ := ho
          obtain ⟨g8, g9⟩ := H8.out n0 c0 hk
          have hCO' : Only (KF n0) w w' := ⟨hCO.os, hCO.tape, hCO.output, hCO.size, hCO.block⟩
          have e1 : (fun n => (if n = n0 then some c0 else kid n).map some) = fun n => (kid n).map some := by
            funext n
            by_cases h : n = n0
            · rw [if_pos h, h, hk]
            · rw [if_neg h]
          refine ⟨rfl, _, FoAt.grow (kid := kid) (KF := KF) (K0 := KF n0) (c0 := c0) H1.out H2.out (by rw [e1]; exact H3.out) h4 (by omega) ⟨hFb, hFf, hFd⟩ H6.out H7.out (fun n c _ hc => H8.out n c hc) H9.out hC hCO' (fun k h => hCK k h) (fun k h => (g9 k h).2) (fun n c hn _ k h h' => H9.out n n0 hn k h h'), hCO'.mono (fun k h => (g9 k h).1), fun k h => ?_⟩
          rcases h with h | h
          · exact .inl h
          · exact (hCK k h).imp (fun e => (g9 k e).1) (fun e => e)
        clear hk
        go_enter Tryz.func119, Tryz.ntmps119
        go_wp2_with fail
        go_quiet (fail)
        go_wp2_with fail
        refine (HREC.out _).mono ?_; rintro e w' ho
        have HR := hid (HFIN.out _ _ _ ho)
        obtain rfl : e = .returned (.tuple #[]) := ho.1
        clear ho
        go_wp2_with fail
        go_end0
        exact HR.out
      | none =>
        rw [hk] at HGET
        simp only [valP] at HGET
        obtain ⟨d', rfl⟩ : ∃ d', d = d' + 1 := ⟨d - 1, by omega⟩
        have hsub : sub n0 fs = [] := (H7.out n0).1 hk
        have hmdl : md < w.heap.size := H6.out md hFd
        have hmfl : mf < w.heap.size := H6.out mf hFf
        -- behind the new folder and the store
        have HSTEP : Hid (∀ q w1 nq w2 g K0, FoAt (d' + 1) w1 K0 g [] → Below (w.drewN q).heap.size (w.drewN q) w1 → (∀ k, K0 k → (w.drewN q).heap.size ≤ k) → PtrMap w2 md (N + 1) (fun q => if q = n0 then some (some g) else (kid q).map some) → (w1.drewN nq).grownBy w2 (some md) →
            Calls Tryz.prog 119 #[.pointer (some ⟨g, 0, none⟩), .slice (some ⟨ab, aoff + 1, none⟩) (n - 1) (c - 1), .string data] w2 (AddOut (d' + 1 + 1) w F b (fs ++ [(n0 :: n1 :: r', data)]))) := fun q w1 nq w2 g K0 hfo hb hK hpm hg => by
          have hz1 : w.heap.size ≤ w1.heap.size := hb.size
          have hOw1 : Only NoF w w1 := ⟨hb.os, hb.tape, hb.output, hb.size, fun k hk _ => hb.block k hk⟩
          have hO2 : Only (· = md) w1 w2 := ⟨hg.os, hg.tape, hg.output, hg.size, fun k hk hne => hg.block k hk (fun e => hne (by cases e; rfl))⟩
          have hOw2 : Only (· = md) w w2 := (hOw1.mono (fun _ e => e.elim)).then hO2
          have hf2 : FoAt (d' + 1) w2 K0 g [] := hfo.only hO2 (fun k h e => by have := hK k h; have e : k = md := e; have : (w.drewN q).heap.size = w.heap.size := rfl; omega)
          have hst : StrsAt w2 (some ⟨ab, aoff, none⟩) n (n0 :: n1 :: r') := StrsAt.only (c := c) HA.out hOw2 (fun k hk hl e => by
            have e1 : ab = k := by simpa [Value.ownBlock] using hk
            have e2 : k = md := e
            exact hab (by rw [e1, e2]; exact hFd))
          have hcall := IH.out (n1 :: r') data ab (aoff + 1) (n - 1) (c - 1) g [] K0 w2 hf2 (HTL.out _ hst) (by omega) (by omega) (by omega) (by omega) HTS.out (by simp) (fun e => by have := hK ab e; have : (w.drewN q).heap.size = w.heap.size := rfl; omega)
          refine hcall.mono ?_
          rintro e w' ⟨rfl, K', hC, hCO, hCK⟩
          have hz2 : w1.heap.size ≤ w2.heap.size := hO2.size
          have e1 : (fun n => (if n = n0 then some g else kid n).map some) = fun q => if q = n0 then some (some g) else (kid q).map some := by
            funext n
            by_cases h : n = n0
            · rw [if_pos h, if_pos h]; rfl
            · rw [if_neg h, if_neg h]
          have hKw : ∀ k, K0 k → w.heap.size ≤ k := fun k h => hK k h
          have hgrow := FoAt.grow (kid := kid) (KF := KF) (K0 := K0) (K0' := K') (c0 := g) (wk := w2) (w' := w') (b := b) (mf := mf) (md := md) (N := N + 1) (F := F) (fs := fs) (n0 := n0) (n1 := n1) (r := r') (data := data) (d := d' + 1)
            (H1.out.only hOw2 (fun e => by
              have e : b = md := e
              obtain ⟨D, ⟨es, clock, hb', _⟩, _⟩ := H3.out
              rw [← e] at hb'
              have h1 := H1.out
              unfold Blk at h1
              rw [h1] at hb'; cases hb'))
            ((H2.out.only hOw2 (fun e => h4 e)).more (Nat.le_succ _)) (by rw [e1]; exact hpm) h4 (by omega) ⟨hFb, hFf, hFd⟩ (fun k h => Nat.lt_of_lt_of_le (H6.out k h) hOw2.size) H7.out
            (fun n c hn hc => by
              obtain ⟨g8, g9⟩ := H8.out n c hc
              exact ⟨g8.only hOw2 (fun k h e => (g9 k h).2.2.2 e), g9⟩) H9.out
            (by rw [hsub]; exact hC) hCO (fun k h => hCK k h)
            (fun k h => by have := hKw k h; have := H6.out b hFb; exact ⟨by omega, by omega, by omega⟩)
            (fun n c hn hc k h h' => by have := hKw k h'; have := H6.out k ((H8.out n c hc).2 k h).1; omega)
          refine ⟨rfl, _, hgrow, (hOw2.mono (fun k e => by have e : k = md := e; rw [e]; exact hFd)).trans hCO (fun k h => .inr (hKw k h)), fun k h => ?_⟩
          rcases h with h | h
          · exact .inl h
          · rcases hCK k h with h | h
            · exact .inr (hKw k h)
            · exact .inr (by omega)
        have HQ0 : Hid (∀ q w1, Below (w.drewN q).heap.size (w.drewN q) w1 → w1.cell? ⟨ab, aoff, none⟩ = some (.string n0) ∧ w1.cell? ⟨b, 1, none⟩ = some (.map (some md)) ∧ PtrMap w1 md N (fun n => (kid n).map some)) := fun q w1 hb => by
          have hO : Only NoF w w1 := ⟨hb.os, hb.tape, hb.output, hb.size, fun k hk _ => hb.block k hk⟩
          exact ⟨hO.cell (p := ⟨ab, aoff, none⟩) q0 (fun e => e), hO.cell (p := ⟨b, 1, none⟩) k1 (fun e => e), H3.out.only hO (fun e => e)⟩
        clear hk hsub hmdl hmfl
        go_enter Tryz.func119, Tryz.ntmps119
        go_wp2_with fail
        go_quiet (fail)
        go_wp2_with fail
        refine (newFolder_any d' _).mono ?_; rintro e w1 ⟨g, K0, rfl, hfo, hb, hK⟩
        have HFO := hid hfo; have HBB := hid hb; have HKK := hid hK
        obtain ⟨q1, q2, q3⟩ := HQ0.out _ _ hb
        have HPM := hid q3
        clear hfo hb hK q3 HQ0 q0 k0 k1
        go_wp2_with fail
        refine wp_region_tail_drew 8 (by kernel_rfl) (by kernel_rfl) ?_
        simp only [List.take_succ_cons, List.take_zero, List.drop_succ_cons, List.drop_zero]
        repeat (first | go_big_quiet_step (fail) | quiet_step (fail))
        refine wpQuiet_nil ?_
        intro _ hw'
        obtain ⟨nq, hw''⟩ := hw'
        subst hw''
        have HMQ : Hid (PtrMap (w1.drewN nq) md N (fun n => (kid n).map some)) := HPM.out
        clear q1 q2
        refine wpList_mapFn_set rfl (.tmp 32) (.tmp 35) (.tmp 36) 252 rfl Tryz.underlying9 Tryz.underlying252 valP_inj HMQ.out hmax n0 hs0m (some g) rfl rfl rfl ?_
        intro w2 hm hg
        have HR := hid (HSTEP.out _ w1 nq w2 g K0 HFO.out HBB.out HKK.out hm hg)
        clear hm hg HSTEP HFO HBB HKK HMQ HPM
        go_wp2_with fail
        refine HR.out.mono ?_; rintro e w' ho
        have HRR := hid ho
        obtain rfl : e = .returned (.tuple #[]) := ho.1
        clear ho
        go_wp2_with fail
        go_end0
        exact HRR.out
end Go.Proofs.YtlenfiiocmchdaaGreatDoor
/- Folders in memory: their names, rising. -/
namespace Go.Proofs.YtlenfiiocmchdaaGreatDoor
open Go.RowKit Go.Sort Book Pap Ojt Sn
set_option linter.unusedVariables false
set_option linter.unusedSimpArgs false

theorem leafs_iff (fs : List Fl) (n : ByteArray) : leafs fs n ≠ none ↔ ∃ f ∈ fs, f.1 = [n] := by
  have key : ∀ (l : List Fl) (g : Option ByteArray), l.foldl (fun g f => if f.1 = [n] then some f.2 else g) g ≠ none ↔ g ≠ none ∨ ∃ f ∈ l, f.1 = [n] := by
    intro l
    induction l with
    | nil => intro g; simp
    | cons y r ih =>
      intro g
      rw [List.foldl_cons, ih]
      by_cases h : y.1 = [n]
      · rw [if_pos h]
        exact ⟨fun _ => .inr ⟨y, List.mem_cons_self .., h⟩, fun _ => .inl (by simp)⟩
      · rw [if_neg h]
        constructor
        · rintro (h1 | ⟨f, hf, h1⟩)
          · exact .inl h1
          · exact .inr ⟨f, List.mem_cons_of_mem _ hf, h1⟩
        · rintro (h1 | ⟨f, hf, h1⟩)
          · exact .inl h1
          · rcases List.mem_cons.1 hf with e | hf
            · subst e; exact absurd h1 h
            · exact .inr ⟨f, hf, h1⟩
  unfold leafs
  rw [key]; simp
theorem sub_iff (fs : List Fl) (n : ByteArray) : sub n fs ≠ [] ↔ ∃ f ∈ fs, ∃ b r, f.1 = n :: b :: r := by
  unfold sub
  rw [ne_eq, List.filterMap_eq_nil_iff]
  constructor
  · intro h
    refine Classical.byContradiction fun hn => h (fun f hf => ?_)
    unfold subOf
    split
    · rename_i a b r he
      rw [if_neg]
      rintro rfl
      exact hn ⟨f, hf, b, r, he⟩
    · rfl
  · rintro ⟨f, hf, b, r, he⟩ h
    have := h f hf
    unfold subOf at this
    rw [he] at this
    simp at this
theorem head_iff (fs : List Fl) (n : ByteArray) : n ∈ fs.filterMap headOf ↔ leafs fs n ≠ none ∨ sub n fs ≠ [] := by
  rw [leafs_iff, sub_iff, List.mem_filterMap]
  constructor
  · rintro ⟨f, hf, h⟩
    unfold headOf at h
    cases hc : f.1 with
    | nil => rw [hc] at h; cases h
    | cons a r =>
      rw [hc] at h
      cases h
      cases r with
      | nil => exact .inl ⟨f, hf, hc⟩
      | cons b r => exact .inr ⟨f, hf, b, r, hc⟩
  · rintro (⟨f, hf, h⟩ | ⟨f, hf, b, r, h⟩)
    · exact ⟨f, hf, by unfold headOf; rw [h]; rfl⟩
    · exact ⟨f, hf, by unfold headOf; rw [h]; rfl⟩
theorem sorted_names (fs : List Fl) (T : List (List UInt8)) (hn : T.Nodup) (hm : ∀ x, x ∈ T ↔ leafs fs (bz x) ≠ none ∨ sub (bz x) fs ≠ []) : ((T.mergeSort fun x y => decide (x ≤ y)).map bz) = namesF fs := by
  refine Sw.rising_ext ?_ (Sw.setOf_rising _) (fun x => ?_)
  · show ((T.mergeSort fun x y => decide (x ≤ y)).map bz).Pairwise (fun a b => lt' a b = true)
    rw [List.pairwise_map]
    have hp := List.pairwise_mergeSort (le := fun x y => decide (x ≤ y)) Sw.ble_trans Sw.ble_total T
    have hnd : (T.mergeSort fun x y => decide (x ≤ y)).Nodup := (List.mergeSort_perm T _).nodup_iff.2 hn
    refine (hp.and hnd).imp ?_
    rintro a b ⟨h, hne⟩
    rw [Sw.ble_eq, Bool.not_eq_true'] at h
    unfold lt'
    rw [ba_toList, ba_toList]
    cases hab : Op.bytesLess a b
    · exact absurd (bl_tri a b hab h) hne
    · simpa [bz] using hab
  · show _ ↔ x ∈ Sw.setOf (fs.filterMap headOf)
    rw [Sw.setOf_mem, head_iff, List.mem_map]
    constructor
    · rintro ⟨y, hy, rfl⟩
      rw [List.mem_mergeSort] at hy
      exact (hm y).1 hy
    · intro hx
      exact ⟨Sw.bl x, by rw [List.mem_mergeSort]; exact (hm _).2 (by rw [Sw.bz_bl]; exact hx), Sw.bz_bl x⟩
theorem encStr_bz (l : List (List UInt8)) : l.map encStr = svals (l.map bz) := by
  unfold svals; rw [List.map_map]; rfl
/-- what names hands back -/
def NamesOut (w : World) (l : List ByteArray) (e : Ending) (w' : World) : Prop :=
  ∃ a n c, e = .returned (.slice a n c) ∧ StrsAt w' a n l ∧ Below w.heap.size w w' ∧ (∀ k, (Value.slice a n c).ownBlock = some k → w.heap.size ≤ k) ∧ n ≤ c
set_option maxRecDepth 100000 in
set_option maxHeartbeats 8000000 in
theorem names_any (d b : Nat) (fs : List Fl) (F : Nat → Prop) (w : World) (hF : FoAt (d + 1) w F b fs) (hfit : ∀ n, leafs fs n ≠ none → sub n fs = []) (hfl : fs.length ≤ 1000) :
    Calls Tryz.prog 179 #[.pointer (some ⟨b, 0, none⟩)] w (NamesOut w (namesF fs)) := by
  obtain ⟨i0, hi, hz0, hz1, hz2⟩ := info_parts Tryz.infoS
  have hFL := hid hF.lt
  obtain ⟨mf, md, N, kid, KF, h1, ⟨D0, ho0, hs0⟩, ⟨D1, ho1, hs1⟩, h4, h5, ⟨hFb, hFf, hFd⟩, h6, h7, h8, h9⟩ := hF
  have hN : N ≤ 1000 := by omega
  have k0 : w.cell? ⟨b, 0, none⟩ = some (.map (some mf)) := Blk.cell h1 0
  have hz0' : Maps.size D0 ≤ N := ho0.size_le
  have hz1' : Maps.size D1 ≤ N := ho1.size_le
  have H1 := hid h1; have HO0 := hid ho0; have HO1 := hid ho1
  have hmfl := ho0.lt; have hmdl := ho1.lt
  have HS0 : Hid (∀ x, Maps.has D0 (.string x) = true ↔ leafs fs (bz x) ≠ none) := fun x => by
    have := (hs0 (bz x)).1
    have e : kl (bz x) = .string x := by unfold kl; simp [bz]
    rw [e] at this
    rw [this]; cases leafs fs (bz x) <;> simp
  have HS1 : Hid (∀ x, Maps.has D1 (.string x) = true ↔ sub (bz x) fs ≠ []) := fun x => by
    have := (hs1 (bz x)).1
    have e : kl (bz x) = .string x := by unfold kl; simp [bz]
    rw [e] at this
    rw [this]
    show (Option.map some (kid (bz x))).isSome = true ↔ _
    rw [ne_eq, ← h7 (bz x)]
    cases kid (bz x) <;> simp
  have HFT := hid hfit
  clear ho0 ho1 hs0 hs1 h1 h5 h6 h7 h8 h9 hfit
  go_enter Tryz.func179, Tryz.ntmps179
  go_wp2_with (first
    | (at_range; refine wpList_range_own _ rfl _ 136 rfl 9 9 (Maps.string_keyed Tryz.underlying9) Tryz.underlying136 _ mf N _ rfl HO0.out ?_; intro w0 hrg0 hg0 hsz0; have HR0 := hid hrg0; have HG0 := hid hg0; clear hrg0 hg0 hsz0)
    | go_in)
  go_frame
  go_loopw [3] (fun v wr => ∃ (left : Lit → Bool) (cnt : Nat) (ss : List (List UInt8)), Hid (wr.ranges Tryz.prog 9 (elemR Value.string datS) mf w.heap.size N D0 left cnt) ∧ Hid (ss.length + cnt ≤ Maps.size D0) ∧
      Hid (wr.ownsRow w.heap.size 9 1 v ss.length (ss.map encStr)) ∧ Hid (Collected D0 left ss) ∧ Hid (Below w.heap.size w wr)) (fun _ wr => wr.rangeLeft mf w.heap.size)
  case atStart =>
    exact ⟨_, _, [], HR0, by show 0 + _ ≤ _; omega, World.ownsRow_nil _ _ _ _, Collected.start D0, (Below.refl _ _).grown HG0.out (Nat.le_refl _) (fun j hj => by cases hj)⟩
  case round =>
    obtain ⟨left, cnt, ss, HRG, HCS, HRW, HC, HB⟩ := hrel
    obtain ⟨va, vc, rfl, hvc⟩ := own_slice' HRW.out
    have hszr := HB.out.size
    go_wp2_with (first
      | (at_next; refine wpList_next_ranges _ rfl _ rfl 9 (Maps.string_keyed Tryz.underlying9) (elemR Value.string datS) encStr Value.string (fun key kl hk => by obtain ⟨x, hx, _⟩ := Maps.keyOf_str Tryz.underlying9 hk; exact ⟨x, hx⟩) (fun v y hv => by obtain ⟨c, rfl, _⟩ := elemR_inv hv; exact ⟨c, rfl⟩) mf w.heap.size N _ _ _ rfl HRG.out ?_ ?_)
      | go_in)
    · intro hc0 hl0
      rename World => W1
      have HL0 := hid hl0
      clear hc0 hl0
      have k1 : W1.cell? ⟨b, 1, none⟩ = some (.map (some md)) := Blk.cell ((HB.out.block b (Blk.lt H1.out)).trans H1.out) 1
      have HO1r : Hid (W1.ownsMap Tryz.prog 9 (elemR valP datP) md N D1) := by
        obtain ⟨es, clock, hb, r⟩ := HO1.out
        exact ⟨es, clock, (HB.out.block md hmdl).trans hb, r⟩
      have hmdr : md < W1.heap.size := by omega
      go_wp2_with (first
        | (at_range; refine wpList_range_own _ rfl _ 252 rfl 9 194 (Maps.string_keyed Tryz.underlying9) Tryz.underlying252 _ md N _ rfl HO1r.out ?_; intro w0' hrg0 hg0 hsz0; have HR0' := hid hrg0; have HG0' := hid hg0; clear hrg0 hg0 hsz0)
        | go_in)
      go_frame
      go_loopw [3] (fun v wx => ∃ (left : Lit → Bool) (cnt : Nat) (tt : List (List UInt8)) (q : Nat), Hid ((ss ++ tt).length = q) ∧ Hid (wx.ranges Tryz.prog 9 (elemR valP datP) md W1.heap.size N D1 left cnt) ∧ Hid (tt.length + cnt ≤ Maps.size D1) ∧
          Hid (wx.ownsRow w.heap.size 9 1 v q ((ss ++ tt).map encStr)) ∧ Hid (Collected D1 left tt) ∧ Hid (Below w.heap.size w wx)) (fun _ wx => wx.rangeLeft md W1.heap.size)
      case atStart =>
        exact ⟨_, _, [], ss.length, by show _ = _; rw [List.append_nil], HR0', by show 0 + _ ≤ _; omega, by rw [List.append_nil]; exact HRW.out.kept HG0'.out (by cases h : (Value.slice va ss.length vc).ownBlock with | none => exact .inl rfl | some k => exact .inr (by simp)), Collected.start D1, HB.out.grown HG0'.out hszr (fun j hj => by cases hj)⟩
      case round =>
        obtain ⟨left', cnt', tt, q, HQ, HRG', HCS', HRW', HC', HB'⟩ := hrel
        obtain ⟨va', vc', rfl, hvc'⟩ := own_slice' HRW'.out
        have hszx := HB'.out.size
        have hcs0 := HCS.out
        go_wp2_with (first
          | (at_next; refine wpList_next_ranges _ rfl _ rfl 9 (Maps.string_keyed Tryz.underlying9) (elemR valP datP) encStr valP (fun key kl hk => by obtain ⟨x, hx, _⟩ := Maps.keyOf_str Tryz.underlying9 hk; exact ⟨x, hx⟩) (fun v y hv => by obtain ⟨c, rfl, _⟩ := elemR_inv hv; exact ⟨c, rfl⟩) md W1.heap.size N _ _ _ rfl HRG'.out ?_ ?_)
          | go_in)
        · intro hc0 hl0
          have hlt2 : q ≤ 4000 := by have := HCS'.out; rw [← HQ.out, List.length_append]; omega
          have HM : Hid (∀ x, x ∈ ss ++ tt ↔ leafs fs (bz x) ≠ none ∨ sub (bz x) fs ≠ []) := fun x => by
            rw [List.mem_append, HC.out.2 x, HC'.out.2 x, HS0.out x, HS1.out x, HL0.out, hl0]
            simp
          have HND : Hid ((ss ++ tt).Nodup) := by
            refine List.nodup_append.2 ⟨HC.out.1, HC'.out.1, fun x hx y hy e => ?_⟩
            subst e
            have g1 := (HS0.out x).1 ((HC.out.2 x).1 hx).1
            have g2 := (HS1.out x).1 ((HC'.out.2 x).1 hy).1
            exact g2 (HFT.out _ g1)
          clear hc0 hl0 hcs0
          obtain ⟨T, hT⟩ : ∃ T, ss ++ tt = T := ⟨_, rfl⟩
          rw [hT] at HRW' HM HND HQ
          have HSN := hid (sorted_names fs T HND.out HM.out)
          have HQL := HQ.out
          have HSL : Hid ((T.mergeSort fun x y => decide (x ≤ y)).length = q) := by show _ = _; rw [List.length_mergeSort, HQL]
          have HFIN : Hid (∀ W a c, W.ownsRow w.heap.size 9 1 (.slice a q c) q ((T.mergeSort fun x y => decide (x ≤ y)).map encStr) → q ≤ c → Below w.heap.size w W → NamesOut w (namesF fs) (.returned (.slice a q c)) W) := fun W a c ho hc hb => by
            rw [encStr_bz, HSN.out] at ho
            have hnl : (namesF fs).length = q := by rw [← HSN.out, List.length_map, HSL.out]
            have ho' : W.ownsRow w.heap.size 9 1 (.slice a q c) (namesF fs).length (svals (namesF fs)) := by rw [hnl]; exact ho
            obtain ⟨a', c', e1, hst⟩ := own_strs ho' (by omega)
            injection e1 with e2 e3 e4
            rw [hnl, ← e2] at hst
            exact ⟨a, q, c, rfl, hst, hb, fun k hk => (ho.lt k hk).1, hc⟩
          rcases HRW'.out.2 with ⟨hnil, hq0⟩ | ⟨g, cap, cur, hv, hbase, hb, g1, g2, g3, g4⟩
          · injection hnil with n1 n2 n3
            subst n1 n2 n3
            have hT0 : T = [] := List.length_eq_zero_iff.1 HQL
            have HSO := hid (Tryz.slices_Sort_string_none none 0 wr)
            have HR := hid (HFIN.out wr none 0 (by rw [hT0, List.mergeSort_nil]; exact World.ownsRow_nil _ _ _ _) (Nat.le_refl _) HB'.out)
            clear hT HQL hT0
            go_wp2_with fail
            refine HSO.out.mono ?_; rintro e wz ⟨rfl, rfl⟩
            go_wp2_with fail
            go_ret
            exact HR.out
          · injection hv with n1 n2 n3
            subst n1 n3
            have hH : Holds encStr wr g 0 T.toArray := holds_of_block hb (by rw [HQL]; simpa using g4)
            have HSO := hid (Tryz.slices_Sort_string g 0 vc' T wr hH (Array.getElem?_eq_some_iff.1 hb).1 (by omega))
            rw [HQL] at HSO
            have HR : Hid (∀ n os, NamesOut w (namesF fs) (.returned (.slice (some ⟨g, 0, none⟩) q vc')) (grow (putRow encStr (Sort.ahead wr n) g 0 (T.mergeSort fun x y => decide (x ≤ y)).toArray) os)) := fun n os => by
              have ho := ownsRow_sorted (n := n) (os := os) (ss := T) (ts := T.mergeSort fun x y => decide (x ≤ y)) (by rw [List.length_mergeSort]) hbase hb (by rw [HQL]; exact g1) g2 g3
              rw [HQL] at ho
              exact HFIN.out _ _ _ ho g1 (HB'.out.grown (grownBy_sorted _) hszx (fun j hj => by cases hj; exact hbase))
            clear hT HQL hH hb g3 g4
            go_wp2_with fail
            refine HSO.out.mono ?_; rintro e wz ⟨rfl, n, os, rfl⟩
            have HRR := hid (HR.out n os)
            go_wp2_with fail
            go_ret
            exact HRR.out
        · intro x c kl yd yp w2 cnt2 hkey hlk hv hat hrg2 hlt hg2 hs2 hen
          obtain ⟨x', ex, rfl, _⟩ := Maps.keyOf_str Tryz.underlying9 hkey
          obtain rfl : x = x' := encStr_inj ex
          have HRW2 : Hid (w2.ownsRow w.heap.size 9 1 (.slice va' q vc') q ((ss ++ tt).map encStr)) := HRW'.out.kept hg2 (Or.inr (row_ne_iter HRW'.out HRG'.out).symm)
          have HRG2 := hid hrg2; have HLT := hid hlt; have HG2 := hid hg2; have HC2 := hid (HC'.out.step hlk hat)
          have hw2 : w.heap.size ≤ w2.heap.size := Nat.le_trans hszx hg2.size
          have hcs := HCS'.out
          have hla : q ≤ 2000 := by rw [← HQ.out, List.length_append]; omega
          clear hs2 hrg2 hlt hg2 hlk hat hkey hv hcs0 HRW'
          go_wp2_with (first
            | (at_builtin; refine wpList_append_own _ rfl _ _ 56 rfl w.heap.size 9 i0 (.string ⟨#[]⟩) 1 16 Tryz.underlying56 hi hz0 hz1 hz2 rfl (by decide) (.slice va' q vc') _ _ rfl (HRW2.out.alloc _) ⟨w2.heap.size, 0, none⟩ 1 1 [encStr x] rfl rfl (cellNew1 _ _ _) (one_bytes rfl) (by unfold maxLen; omega) (by omega) (by rw [World.size_alloc]; omega) ?_; intro v' w3 hown' hg3 hnil3; have HOWN := hid hown'; have HG3 := hid hg3; clear hown' hg3 hnil3)
            | go_in)
          have hrg3 := (HRG2.out.alloc _).kept HG3.out (fun e => by have := (HRW2.out.lt md e.symm).1; omega) (row_ne_iter HRW2.out HRG2.out)
          have HB3 : Hid (Below w.heap.size w w3) := ((HB'.out.grown HG2.out hszx (fun j hj => by cases hj; exact hszr)).alloc hw2 _).grown HG3.out (by rw [World.size_alloc]; omega) (fun j hj => (HRW2.out.lt j hj).1)
          have HO3 : Hid (w3.ownsRow w.heap.size 9 1 v' (q + 1) ((ss ++ (tt ++ [x])).map encStr)) := by
            have h := HOWN.out
            rw [← List.append_assoc, List.map_append]; exact h
          have HQ3 : Hid ((ss ++ (tt ++ [x])).length = q + 1) := by show _ = _; rw [← List.append_assoc, List.length_append, HQ.out]; rfl
          have HRG3 := hid hrg3
          clear hrg3
          go_roundw
          case rel => first | exact ⟨_, cnt2, tt ++ [x], q + 1, HQ3, HRG3, by show _ ≤ _; have := HLT.out; rw [List.length_append]; simp only [List.length_cons, List.length_nil]; omega, HO3, HC2, HB3⟩ | ((repeat apply Exists.intro); exact ⟨⟨_, cnt2, tt ++ [x], q + 1, HQ3, HRG3, by show _ ≤ _; have := HLT.out; rw [List.length_append]; simp only [List.length_cons, List.length_nil]; omega, HO3, HC2, HB3⟩, rfl⟩)
          case measure => rw [HRG3.out.left_eq, HRG'.out.left_eq]; exact HLT.out
    · intro x c kl yd yp w2 cnt2 hkey hlk hv hat hrg2 hlt hg2 hs2 hen
      obtain ⟨x', ex, rfl, _⟩ := Maps.keyOf_str Tryz.underlying9 hkey
      obtain rfl : x = x' := encStr_inj ex
      have HRW2 : Hid (w2.ownsRow w.heap.size 9 1 (.slice va ss.length vc) ss.length (ss.map encStr)) := HRW.out.kept hg2 (Or.inr (row_ne_iter HRW.out HRG.out).symm)
      have HRG2 := hid hrg2; have HLT := hid hlt; have HG2 := hid hg2; have HC2 := hid (HC.out.step hlk hat)
      have hw2 : w.heap.size ≤ w2.heap.size := Nat.le_trans hszr hg2.size
      have hcs := HCS.out
      clear hs2 hrg2 hlt hg2 hlk hat hkey hv
      go_wp2_with (first
        | (at_builtin; refine wpList_append_own _ rfl _ _ 56 rfl w.heap.size 9 i0 (.string ⟨#[]⟩) 1 16 Tryz.underlying56 hi hz0 hz1 hz2 rfl (by decide) (.slice va ss.length vc) _ _ rfl (HRW2.out.alloc _) ⟨w2.heap.size, 0, none⟩ 1 1 [encStr x] rfl rfl (cellNew1 _ _ _) (one_bytes rfl) (by unfold maxLen; omega) (by omega) (by rw [World.size_alloc]; omega) ?_; intro v' w3 hown' hg3 hnil3; have HOWN := hid hown'; have HG3 := hid hg3; clear hown' hg3 hnil3)
        | go_in)
      have hrg3 := (HRG2.out.alloc _).kept HG3.out (row_ne_low HRW2.out hmfl) (row_ne_iter HRW2.out HRG2.out)
      have HB3 : Hid (Below w.heap.size w w3) := ((HB.out.grown HG2.out hszr (fun j hj => by cases hj; exact Nat.le_refl _)).alloc hw2 _).grown HG3.out (by rw [World.size_alloc]; omega) (fun j hj => (HRW2.out.lt j hj).1)
      have HO3 : Hid (w3.ownsRow w.heap.size 9 1 v' (ss ++ [x]).length ((ss ++ [x]).map encStr)) := by
        have h := HOWN.out
        rw [List.length_append, List.map_append]; exact h
      have HRG3 := hid hrg3
      clear hrg3
      go_roundw
      case rel => first | exact ⟨_, cnt2, ss ++ [x], HRG3, by show _ ≤ _; have := HLT.out; rw [List.length_append]; simp only [List.length_cons, List.length_nil]; omega, HO3, HC2, HB3⟩ | ((repeat apply Exists.intro); exact ⟨⟨_, cnt2, ss ++ [x], HRG3, by show _ ≤ _; have := HLT.out; rw [List.length_append]; simp only [List.length_cons, List.length_nil]; omega, HO3, HC2, HB3⟩, rfl⟩)
      case measure => rw [HRG3.out.left_eq, HRG.out.left_eq]; exact HLT.out
end Go.Proofs.YtlenfiiocmchdaaGreatDoor
/- Sets of texts made of a list: shelf.Of; its length. Sorting own slices. -/
namespace Go.Proofs.YtlenfiiocmchdaaGreatDoor
open Go.RowKit Go.Sort Book Pap Ojt Sn
set_option linter.unusedVariables false
set_option linter.unusedSimpArgs false

/-- texts sorted -/
def sortB (l : List ByteArray) : List ByteArray := ((l.map Sw.bl).mergeSort fun x y => decide (x ≤ y)).map bz
def compB (l : List ByteArray) : List ByteArray := (Lib.compact (l.map Sw.bl)).map bz
theorem map_bl_bz (l : List (List UInt8)) : (l.map bz).map Sw.bl = l := by
  rw [List.map_map]
  conv => rhs; rw [← List.map_id l]
  exact List.map_congr_left (fun x _ => by simp [Sw.bl, bz])
theorem compB_sortB (l : List ByteArray) : compB (sortB l) = Sw.setOf l := by
  unfold compB sortB
  rw [map_bl_bz]; exact Sw.sort_compact l
theorem sortB_length (l : List ByteArray) : (sortB l).length = l.length := by unfold sortB; rw [List.length_map, List.length_mergeSort, List.length_map]
theorem svals_enc (l : List ByteArray) : svals l = (l.map Sw.bl).map encStr := by
  rw [encStr_bz]
  congr 1
  rw [List.map_map]
  conv => lhs; rw [← List.map_id l]
  exact List.map_congr_left (fun x _ => (Sw.bz_bl x).symm)
/-- what sorting leaves of an own slice -/
def SortOut (B : Nat) (w : World) (v : Value) (n : Nat) (l : List ByteArray) (e : Ending) (w' : World) : Prop :=
  e = .returned (.tuple #[]) ∧ w'.ownsRow B 9 1 v n (svals (sortB l)) ∧ w.grownBy w' v.ownBlock
theorem sort_own {B n : Nat} {v : Value} {l : List ByteArray} {w : World} (h : w.ownsRow B 9 1 v n (svals l)) (hn : n ≤ 1000000) :
    Calls Tryz.prog 87 #[v] w (SortOut B w v n l) := by
  have hl : l.length = n := by have := h.1; unfold svals at this; rw [List.length_map] at this; omega
  rcases h.2 with ⟨rfl, h0⟩ | ⟨g, cap, cur, rfl, hb, hg, hn1, hc, hs, ht⟩
  · subst h0
    have hl0 : l = [] := List.length_eq_zero_iff.1 hl
    subst hl0
    refine (Tryz.slices_Sort_string_none none 0 w).mono ?_
    rintro e w' ⟨rfl, rfl⟩
    refine ⟨rfl, ?_, ⟨rfl, rfl, rfl, Nat.le_refl _, fun _ _ _ => rfl⟩⟩
    have : sortB [] = [] := by unfold sortB; simp
    rw [this]; exact World.ownsRow_nil _ _ _ _
  · have hlen : (l.map Sw.bl).length = n := by rw [List.length_map, hl]
    have hH : Holds encStr w g 0 (l.map Sw.bl).toArray := holds_of_block hg (by rw [hlen, ← svals_enc]; simpa using ht)
    have hS := Tryz.slices_Sort_string g 0 cap (l.map Sw.bl) w hH (Array.getElem?_eq_some_iff.1 hg).1 (by omega)
    rw [hlen] at hS
    refine hS.mono ?_
    rintro e w' ⟨rfl, q, os, rfl⟩
    refine ⟨rfl, ?_, grownBy_sorted _⟩
    have ho := ownsRow_sorted (n := q) (os := os) (ss := l.map Sw.bl) (ts := (l.map Sw.bl).mergeSort fun x y => decide (x ≤ y)) (by rw [List.length_mergeSort]) hb hg (by rw [hlen]; exact hn1) hc hs
    rw [hlen, encStr_bz] at ho
    exact ho
def CompOut (B : Nat) (w : World) (v : Value) (l : List ByteArray) (e : Ending) (w' : World) : Prop :=
  ∃ v', e = .returned v' ∧ w'.ownsRow B 9 1 v' (compB l).length (svals (compB l)) ∧ w.grownBy w' v.ownBlock ∧ v'.ownBlock = v.ownBlock
theorem compact_own {B n : Nat} {v : Value} {l : List ByteArray} {w : World} (h : w.ownsRow B 9 1 v n (svals l)) (hn : n ≤ 1000000) :
    Calls Tryz.prog 88 #[v] w (CompOut B w v l) := by
  have hl : l.length = n := by have := h.1; unfold svals at this; rw [List.length_map] at this; omega
  rcases h.2 with ⟨rfl, h0⟩ | ⟨g, cap, cur, rfl, hb, hg, hn1, hc, hs, ht⟩
  · subst h0
    have hl0 : l = [] := List.length_eq_zero_iff.1 hl
    subst hl0
    refine (Tryz.slices_Compact_string_empty none 0 w).mono ?_
    rintro e w' ⟨rfl, rfl⟩
    exact ⟨_, rfl, World.ownsRow_nil _ _ _ _, ⟨rfl, rfl, rfl, Nat.le_refl _, fun _ _ _ => rfl⟩, rfl⟩
  · have hlen : (l.map Sw.bl).length = n := by rw [List.length_map, hl]
    have hH : Holds encStr w g 0 (l.map Sw.bl).toArray := holds_of_block hg (by rw [hlen, ← svals_enc]; simpa using ht)
    have hS := Tryz.slices_Compact_string g 0 cap (l.map Sw.bl) w hH (by omega) (by omega)
    rw [hlen] at hS
    refine hS.mono ?_
    rintro e w' ⟨rfl, q, rfl⟩
    have hcl : (Lib.compact (l.map Sw.bl)).length ≤ n := by rw [← hlen]; exact Lib.compact_length_le _
    have hrow := h
    rw [svals_enc] at hrow
    have ho := Lib.ownsRow_putRow (q := q) (k := (Lib.compact (l.map Sw.bl)).length) (ys := Lib.compact (l.map Sw.bl) ++ List.replicate (n - (Lib.compact (l.map Sw.bl)).length) []) hrow (by rw [List.length_append, List.length_replicate]; omega) hcl
    rw [List.take_left, encStr_bz] at ho
    have e1 : (compB l).length = (Lib.compact (l.map Sw.bl)).length := by unfold compB; rw [List.length_map]
    refine ⟨_, rfl, ?_, ?_, rfl⟩
    · rw [e1]; exact ho
    · refine ⟨rfl, rfl, rfl, by simp [putRow, mapBlock, Sort.ahead], fun k hk hne => ?_⟩
      have : g ≠ k := fun e => hne (by rw [e]; rfl)
      simp [putRow, mapBlock, Sort.ahead, Array.getElem?_modify, this]
theorem clone_strs (a : Option Addr) (n c : Nat) (l : List ByteArray) (w : World) (h : StrsAt w a n l) (hn : n ≤ 100000) :
    Calls Tryz.prog 86 #[.slice a n c] w fun e w' => ∃ v', e = .returned v' ∧ w'.ownsRow w.heap.size 9 1 v' n (svals l) ∧ Below w.heap.size w w' := by
  obtain ⟨h1, h2, h3⟩ := h
  by_cases h0 : n = 0
  · subst h0
    have hl0 : l = [] := List.length_eq_zero_iff.1 h1
    subst hl0
    cases a with
    | none =>
      refine (Tryz.slices_Clone_string_nil 0 c w).mono ?_
      rintro e w' ⟨rfl, rfl⟩
      exact ⟨_, rfl, World.ownsRow_nil _ _ _ _, Below.refl _ _⟩
    | some ad =>
      refine (Tryz.slices_Clone_string_zero ad c w).mono ?_
      rintro e w' ⟨v', rfl, ho, -, hb⟩
      exact ⟨_, rfl, ho, hb⟩
  · obtain ⟨b, off, rfl, hc⟩ := h3.resolve_left h0
    refine (Tryz.slices_Clone_string b off n c l w (by omega) (by omega) (fun j hj => hc j (by omega))).mono ?_
    rintro e w' ⟨v', rfl, ho, -, hb⟩
    refine ⟨_, rfl, ?_, hb⟩
    rw [List.take_of_length_le (by omega)] at ho
    exact ho
/-- a set of texts in memory: its row of texts, its row of nothings -/
def SetAt (B : Nat) (w : World) (b : Nat) (S : List ByteArray) : Prop :=
  ∃ kv ev, Blk w b 164 #[kv, ev] ∧ w.ownsRow B 9 1 kv S.length (svals S) ∧ w.ownsRow B 168 0 ev S.length [] ∧ B ≤ b
theorem Tryz.infoNo : (Tryz.prog.info? 168).map (fun i => (i.zero, i.size, i.bytes)) = some (some (.agg #[]), 0, 0) := by kernel_rfl
theorem setOf_length (l : List ByteArray) : (Sw.setOf l).length ≤ l.length := by
  rw [← compB_sortB]
  have h := Lib.compact_length_le ((sortB l).map Sw.bl)
  unfold compB
  rw [List.length_map] at *
  rw [sortB_length] at h
  exact h
set_option maxRecDepth 100000 in
set_option maxHeartbeats 4000000 in
theorem of_any (a : Option Addr) (n c : Nat) (l : List ByteArray) (w : World) (h : StrsAt w a n l) (hn : n ≤ 100000) :
    Calls Tryz.prog 43 #[.slice a n c] w fun e w' => ∃ b, e = .returned (.pointer (some ⟨b, 0, none⟩)) ∧ SetAt w.heap.size w' b (Sw.setOf l) ∧ Below w.heap.size w w' := by
  obtain ⟨i1, hi1, hz0, hz1, hz2⟩ := info_parts Tryz.infoNo
  have HC := hid (clone_strs a n c l w h hn)
  have HSL := hid (setOf_length l)
  have HLN := hid h.1
  clear h
  go_enter Tryz.func43, Tryz.ntmps43
  go_wp2_with fail
  refine HC.out.mono ?_; rintro e w1 ⟨v1, rfl, ho1, hb1⟩
  have HO1 := hid ho1
  have HB1 := hid hb1
  have HS := hid (sort_own ho1 (by omega))
  clear ho1 hb1 HC
  go_wp2_with fail
  refine HS.out.mono ?_; rintro e w2 ⟨rfl, ho2, hg2⟩
  have HB2 : Hid (Below w.heap.size w w2) := HB1.out.grown hg2 HB1.out.size (fun j hj => (HO1.out.lt j hj).1)
  have HO2 := hid ho2
  have HS := hid (compact_own ho2 (by omega))
  clear ho2 hg2 HB1 HO1
  go_wp2_with fail
  refine HS.out.mono ?_; rintro e w3 ⟨v3, rfl, ho3, hg3, hv3⟩
  rw [compB_sortB] at ho3
  have HB3 : Hid (Below w.heap.size w w3) := HB2.out.grown hg3 HB2.out.size (fun j hj => (HO2.out.lt j hj).1)
  have HO3 := hid ho3
  obtain ⟨va, vc, rfl, hvc⟩ := own_slice' ho3
  have hq : (Sw.setOf l).length ≤ 100000 := by have := HSL.out; have := HLN.out; omega
  have hs3 : w.heap.size ≤ w3.heap.size := HB3.out.size
  clear ho3 hg3 hv3 HB2 HO2 HS HSL
  obtain ⟨S, hS⟩ : ∃ S, Sw.setOf l = S := ⟨_, rfl⟩
  rw [hS] at HO3 hq hvc ⊢
  have HSS := hid hS
  clear hS
  go_wp2_with (first
    | (refine wpList_make_full _ rfl _ _ 160 rfl w.heap.size 168 i1 (.agg #[]) 0 Tryz.underlying160 hi1 hz0 hz1 _ _ _ _ S.length rfl rfl rfl rfl (by rw [hz2]; omega) (by unfold maxLen; omega) (by first | exact hs3 | (simp; omega)) ?_; intro w4 ho4 hg4; have HO4 := hid ho4; have HG4 := hid hg4; clear ho4 hg4))
  go_ret
  rw [HSS.out]
  have hb4 : Below w3.heap.size w3 w4 := (Below.refl _ _).grown HG4.out (Nat.le_refl _) (fun j hj => by cases hj)
  have hs4 : w.heap.size ≤ w4.heap.size := Nat.le_trans hs3 hb4.size
  have h2 : (w4.ownsRow w.heap.size 168 0 (.slice (some ⟨w3.heap.size, 0, none⟩) S.length S.length) S.length []) := by
    have h := HO4.out
    have e : (madeCells (Value.agg #[]).cells (S.length * 0)).toList = [] := by simp [madeCells]
    rw [e] at h; exact h
  exact ⟨_, rfl, ⟨_, _, Blk.new _ _ _, (own_below HO3.out hb4).alloc _, h2.alloc _, hs4⟩, (HB3.out.trans (hb4.mono hs3)).alloc hs4 _⟩
theorem slen_any {B b : Nat} {S : List ByteArray} (w : World) (h : SetAt B w b S) : Calls Tryz.prog 47 #[.pointer (some ⟨b, 0, none⟩)] w fun e w' => e = .returned (.int .i64 S.length) ∧ w = w' := by
  obtain ⟨kv, ev, h1, h2, -, -⟩ := h
  obtain ⟨va, vc, rfl, -⟩ := own_slice' h2
  have k0 : w.cell? ⟨b, 0, none⟩ = some (.slice va S.length vc) := Blk.cell h1 0
  have HA : Calls Tryz.prog 89 #[.pointer (some ⟨b, 0, none⟩)] w fun e w' => e = .returned (.pointer (some ⟨b, 0, none⟩)) ∧ w = w' := by
    clear k0 h1 h2
    go_enter Tryz.func89, Tryz.ntmps89
    go_wp2_with fail
    go_ret
    exact ⟨rfl, rfl⟩
  have HL : Calls Tryz.prog 92 #[.pointer (some ⟨b, 0, none⟩)] w fun e w' => e = .returned (.int .i64 S.length) ∧ w = w' := by
    clear HA h1 h2
    go_enter Tryz.func92, Tryz.ntmps92
    go_wp2_with fail
    go_ret
    exact ⟨rfl, rfl⟩
  have HA := hid HA
  have HL := hid HL
  clear k0 h1 h2
  go_enter Tryz.func47, Tryz.ntmps47
  go_wp2_with (first
    | (go_at_call 89; refine HA.out.mono ?_; rintro e w' ⟨rfl, rfl⟩)
    | (go_at_call 92; refine HL.out.mono ?_; rintro e w' ⟨rfl, rfl⟩))
  go_ret
  exact ⟨rfl, rfl⟩
/-- a slice of whole numbers in memory -/
def NumsAt (w : World) (a : Option Addr) (n : Nat) (zs : List Int) : Prop :=
  zs.length = n ∧ (n = 0 ∨ ∃ b off, a = some ⟨b, off, none⟩ ∧ ∀ j, j < n → w.cell? ⟨b, off + j, none⟩ = some (.int .i64 (zs.getD j 0)))
theorem heightL_eq : ∀ zs : List Int, zs ≠ [] → heightL zs = Lib.maxOf zs + 1
  | [], h => absurd rfl h
  | a :: l, _ => by
    show l.foldl max a + 1 = (a :: l).foldl max a + 1
    rw [List.foldl_cons, Int.max_self]
theorem maxOf_mem : ∀ zs : List Int, zs ≠ [] → Lib.maxOf zs ∈ zs := by
  have key : ∀ (l : List Int) (a : Int), l.foldl max a = a ∨ l.foldl max a ∈ l := by
    intro l
    induction l with
    | nil => intro a; exact .inl rfl
    | cons x r ih =>
      intro a
      rw [List.foldl_cons]
      rcases ih (max a x) with h | h
      · rw [h]
        rcases Int.max_def a x ▸ (by by_cases h : a ≤ x <;> simp [h] : (if a ≤ x then x else a) = a ∨ (if a ≤ x then x else a) = x) with h | h
        · exact .inl h
        · exact .inr (by rw [h]; exact List.mem_cons_self ..)
      · exact .inr (List.mem_cons_of_mem _ h)
  intro zs h
  cases zs with
  | nil => exact absurd rfl h
  | cons a l =>
    show (a :: l).foldl max a ∈ _
    rw [List.foldl_cons, Int.max_self]
    rcases key l a with e | e
    · rw [e]; exact List.mem_cons_self ..
    · exact List.mem_cons_of_mem _ e
set_option maxRecDepth 100000 in
theorem objheight_any (a : Option Addr) (n c : Nat) (zs : List Int) (w : World) (h : NumsAt w a n zs) (h2 : n ≤ 1000000) (hz : ∀ z ∈ zs, -9223372036854775808 ≤ z ∧ z ≤ 9223372036854775806) :
    Calls Tryz.prog 75 #[.slice a n c] w fun e w' => e = .returned (.int .i64 (heightL zs)) ∧ w = w' := by
  obtain ⟨h1, h3⟩ := h
  by_cases h0 : n = 0
  · subst h0
    have hl0 : zs = [] := List.length_eq_zero_iff.1 h1
    subst hl0
    clear h3 h1
    go_enter Tryz.func75, Tryz.ntmps75
    go_wp2_with fail
    go_ret
    exact ⟨rfl, rfl⟩
  · obtain ⟨b, off, rfl, hc⟩ := h3.resolve_left h0
    have hne : zs ≠ [] := fun e => by rw [e] at h1; simp at h1; omega
    have HM := Tryz.slices_Max_int b off n c zs w (by omega) (by omega) (by omega) (fun j hj => hc j (by omega))
    rw [List.take_of_length_le (by omega)] at HM
    have hm := hz _ (maxOf_mem zs hne)
    rw [heightL_eq zs hne]
    generalize Lib.maxOf zs = M at HM hm ⊢
    have HM := hid HM
    have ci : ¬ (n : Int) = 0 := by omega
    have ew : IntKind.i64.wrap (M + 1) = M + 1 := by rw [IntKind.wrap_i64]; omega
    clear hc h1 h3 hne hz
    go_enter Tryz.func75, Tryz.ntmps75
    go_wp2_with (go_at_call 123; refine HM.out.mono ?_; rintro e w' ⟨rfl, rfl⟩)
    go_ret
    exact ⟨rfl, rfl⟩
end Go.Proofs.YtlenfiiocmchdaaGreatDoor
/- Heights of parents: heights. -/
namespace Go.Proofs.YtlenfiiocmchdaaGreatDoor
open Go.RowKit Book Pap Ojt Sn
set_option linter.unusedVariables false
set_option linter.unusedSimpArgs false

def nvals (l : List Int) : List Value := l.map (Value.int .i64)
theorem nvals_append (a b : List Int) : nvals (a ++ b) = nvals a ++ nvals b := List.map_append
theorem own_nums {w : World} {B n : Nat} {a : Option Addr} {c : Nat} {l : List Int} (h : w.ownsRow B 3 1 (.slice a n c) n (nvals l)) : NumsAt w a n l := by
  have hl : l.length = n := by have := h.1; unfold nvals at this; rw [List.length_map] at this; omega
  refine ⟨hl, ?_⟩
  have h' := h
  rcases h.2 with ⟨h1, h0⟩ | ⟨g, cap, cur, h1, hb, hg, hn, hc, hsz, htk⟩
  · exact .inl h0
  · cases h1
    refine .inr ⟨g, 0, rfl, fun j hj => ?_⟩
    have c0 := h'.cellAt j (by omega)
    rw [Nat.zero_add]
    refine c0.trans ?_
    unfold nvals
    rw [List.getElem?_map, List.getD_eq_getElem?_getD, List.getElem?_eq_getElem (by omega)]; rfl
theorem Tryz.infoInt15 : (Tryz.prog.info? 3).map (fun i => (i.zero, i.size, i.bytes)) = some (some (.int .i64 0), 1, 8) := by kernel_rfl
theorem lookK_ok {G : Sw.Src} {id : ByteArray} {k lacks : Int} {x : Ob} (h : lookK G id k lacks = (x, 0)) (hl : lacks ≠ 0) : good x = true ∧ x.kind = k := by
  unfold lookK at h
  split at h
  · injection h with _ h; exact absurd h hl
  · split at h
    · injection h with _ h; cases h
    · rename_i t ht y hd
      split at h
      · injection h with _ h; cases h
      · rename_i hk
        injection h with h _
        subst h
        exact ⟨dec_good hd, Decidable.byContradiction hk⟩
/-- heights of parents -/
def highS (G : Sw.Src) (ps : List ByteArray) : List Int × Int := if 8 < ps.length then ([], 6) else if (Sw.setOf ps).length < ps.length then ([], 31) else heightsS G ps []
def HighOut (w : World) (r : List Int × Int) (e : Ending) (w' : World) : Prop :=
  ∃ a n c, e = .returned (.tuple #[.slice a n c, .int .i64 r.2]) ∧ NumsAt w' a n r.1 ∧ Below w.heap.size w w' ∧ n ≤ 8 ∧ ∀ z ∈ r.1, 0 ≤ z ∧ z ≤ 1073741824
set_option maxRecDepth 100000 in
set_option maxHeartbeats 8000000 in
theorem heights_any (t : TypeId) (rv : Value) (G : Sw.Src) (hz : SrcSz G) (a : Option Addr) (n c : Nat) (ps : List ByteArray) (w : World) (hs : SrcAt w t rv G) (hP : StrsAt w a n ps) :
    Calls Tryz.prog 72 #[.iface t rv, .slice a n c] w (HighOut w (highS G ps)) := by
  obtain ⟨i0, hi0, hz0, hz1, hz2⟩ := info_parts Tryz.infoInt15
  have HS := hid hs
  have HP := hid hP
  have HLP := hid hP.1
  have hn63 := hP.2.1
  clear hs hP
  by_cases h8 : 8 < n
  · have HR : Hid (highS G ps = ([], 6)) := by
      show _ = _
      unfold highS; rw [if_pos (by rw [HLP.out]; exact h8)]
    have ci : (8 : Int) < n := by omega
    go_enter Tryz.func72, Tryz.ntmps72
    go_wp2_with fail
    go_ret2
    rw [HR.out]
    exact ⟨none, 0, 0, rfl, ⟨rfl, .inl rfl⟩, Below.refl _ _, by omega, fun z hz => by cases hz⟩
  have ci8 : ¬ (8 : Int) < n := by omega
  have HOF := hid (of_any a n c ps w HP.out (by omega))
  by_cases htw : (Sw.setOf ps).length < n
  · have HR : Hid (highS G ps = ([], 31)) := by
      show _ = _
      unfold highS; rw [if_neg (by rw [HLP.out]; exact h8), if_pos (by rw [HLP.out]; exact htw)]
    have ci : ((Sw.setOf ps).length : Int) < n := by omega
    go_enter Tryz.func72, Tryz.ntmps72
    go_wp2_with (first
      | (go_at_call 43; refine HOF.out.mono ?_; rintro e w1 ⟨b1, rfl, hset, hb1⟩; have HB1 := hid hb1; have HSL := hid (slen_any w1 hset); clear hset hb1)
      | (go_at_call 47; refine HSL.out.mono ?_; rintro e w2 ⟨rfl, rfl⟩))
    go_ret2
    rw [HR.out]
    exact ⟨none, 0, 0, rfl, ⟨rfl, .inl rfl⟩, HB1.out, by omega, fun z hz => by cases hz⟩
  have HR : Hid (highS G ps = heightsS G ps []) := by
    show _ = _
    unfold highS; rw [if_neg (by rw [HLP.out]; exact h8), if_neg (by rw [HLP.out]; exact htw)]
  have ci : ¬ ((Sw.setOf ps).length : Int) < n := by omega
  go_enter Tryz.func72, Tryz.ntmps72
  go_wp2_with (first
    | (go_at_call 43; refine HOF.out.mono ?_; rintro e w1 ⟨b1, rfl, hset, hb1⟩; have HB1 := hid hb1; have HSL := hid (slen_any w1 hset); clear hset hb1)
    | (go_at_call 47; refine HSL.out.mono ?_; rintro e w2 ⟨rfl, rfl⟩))
  clear HSL HOF ci ci8 htw
  go_loopw [24, 6] (fun iv v wr => ∃ (i : Nat) (H : List Int), i ≤ n ∧ iv = .int .i64 i ∧ Hid (wr.ownsRow w.heap.size 3 1 v i (nvals H)) ∧ Hid (Below w.heap.size w wr) ∧ Hid (highS G ps = heightsS G (ps.drop i) H) ∧ Hid (∀ z ∈ H, 0 ≤ z ∧ z ≤ 1073741824)) (fun iv _ _ => n - (intOf iv).toNat)
  case atStart => exact ⟨0, [], Nat.zero_le _, rfl, World.ownsRow_nil _ _ _ _, HB1, HR.out, fun z hz => by cases hz⟩
  case round =>
    obtain ⟨i, H, hi, rfl, HO, HB, HE, HZ⟩ := hrel
    obtain ⟨va, vc, rfl, hvc⟩ := own_slice' HO.out
    have hsz := HB.out.size
    by_cases hlt : i < n
    · have ci : (i : Int) < n := by omega
      have ci0 : (0 : Int) ≤ (i : Int) := by omega
      have h3 := (HP.out.later HB.out).2.2
      obtain ⟨pb, poff, rfl, hcell⟩ := h3.resolve_left (by omega)
      have q0 := hcell i hlt
      have hil : i < ps.length := by rw [HLP.out]; exact hlt
      have HT : Hid (ps.drop i = ps.getD i ByteArray.empty :: ps.drop (i + 1)) := by
        show _ = _
        rw [List.drop_eq_getElem_cons hil, List.getD_eq_getElem?_getD, List.getElem?_eq_getElem hil]; rfl
      obtain ⟨p, hp⟩ : ∃ z, ps.getD i ByteArray.empty = z := ⟨_, rfl⟩
      rw [hp] at q0 HT
      obtain ⟨x, er, hlk⟩ : ∃ x er, lookK G p 3 12 = (x, er) := ⟨_, _, rfl⟩
      have HE1 : Hid (highS G ps = if er ≠ 0 then ([], er) else heightsS G (ps.drop (i + 1)) (H ++ [x.height])) := by
        show _ = _
        rw [HE.out, HT.out]
        show (if (lookK G p 3 12).2 ≠ 0 then ([], (lookK G p 3 12).2) else heightsS G (ps.drop (i + 1)) (H ++ [(lookK G p 3 12).1.height])) = _
        rw [hlk]
      have HLK := hid (look_any t rv G p 3 12 wr (HS.out.later HB.out) hz)
      rw [hlk] at HLK
      have HLOK := hid hlk
      clear hlk hp HT hil hcell h3 HE
      go_wp2_with fail
      refine HLK.out.mono ?_; rintro e w3 ⟨ev, pv, rfl, hO3, hb3, hf3⟩
      simp only at hO3 ⊢
      obtain ⟨ea, en, ec, pa, pn, pc, rfl, -, rfl, -⟩ := hO3
      have HX4 : Hid (Blk (w3.alloc (.cells (obCs x (.slice ea en ec) (.slice pa pn pc)) 103)) w3.heap.size 103 (obCs x (.slice ea en ec) (.slice pa pn pc))) := Blk.new w3 _ _
      have HO4 : Hid ((w3.alloc (.cells (obCs x (.slice ea en ec) (.slice pa pn pc)) 103)).ownsRow w.heap.size 3 1 (.slice va i vc) i (nvals H)) := (own_below HO.out hb3).alloc _
      have HB4 : Hid (Below w.heap.size w (w3.alloc (.cells (obCs x (.slice ea en ec) (.slice pa pn pc)) 103))) := (below_then HB.out hb3).alloc (Nat.le_trans HB.out.size hb3.size) _
      unfold obCs at HX4 HO4 HB4
      simp only [obCs]
      clear hb3 hf3 HLK HO HB
      go_upto_region 10 with fail
      generalize (w3.alloc (.cells #[.int .i64 x.kind, .string x.data, .slice ea en ec, .string x.tree, .slice pa pn pc, .int .i64 x.height, .string x.note] 103)) = w4 at HX4 HO4 HB4 ⊢
      generalize w3.heap.size = g4 at HX4 ⊢
      by_cases he : er = 0
      · subst he
        have HN : Hid (highS G ps = heightsS G (ps.drop (i + 1)) (H ++ [x.height])) := by
          show _ = _
          rw [HE1.out, if_neg (by simp)]
        have hgd := lookK_ok HLOK.out (by decide)
        have hgc := good_commit hgd.1 hgd.2
        have HZ1 : Hid (∀ z ∈ H ++ [x.height], 0 ≤ z ∧ z ≤ 1073741824) := fun z hz => by
          rcases List.mem_append.1 hz with hz | hz
          · exact HZ.out z hz
          · rw [List.mem_singleton.1 hz]; exact ⟨hgc.2.2.1, hgc.2.2.2.1⟩
        have k5 : w4.cell? ⟨g4, 5, none⟩ = some (.int .i64 x.height) := Blk.cell HX4.out 5
        have HS4 := hid HB4.out.size
        clear hgd hgc HLOK HE1
        go_wp2_with (first
          | (at_builtin; refine wpList_append_own _ rfl (.tmp 37) (.tmp 40) 88 rfl w.heap.size 3 i0 (.int .i64 0) 1 8 Tryz.underlying88 hi0 hz0 hz1 hz2 rfl (by decide) (.slice va i vc) _ _ rfl (HO4.out.alloc _) ⟨w4.heap.size, 0, none⟩ 1 1 [.int .i64 x.height] rfl rfl (cellNew1 _ _ _) (one_bytes rfl) (by unfold maxLen; omega) (by omega) (by rw [World.size_alloc]; have := HS4.out; omega) ?_; intro v' w9 hown' hgrow _; have HOWN := hid hown'; have HGR := hid hgrow; clear hown' hgrow))
        obtain ⟨va', vc', rfl, hvc'⟩ := own_slice' HOWN.out
        have HO9 : Hid (w9.ownsRow w.heap.size 3 1 (.slice va' (i + 1) vc') (i + 1) (nvals (H ++ [x.height]))) := by
          have h := HOWN.out
          rw [nvals_append]; exact h
        have HB9 : Hid (Below w.heap.size w w9) := below_grown1 HB4.out HO4.out _ HS4.out HGR.out
        go_roundw
        case rel => first | exact ⟨i + 1, _, by omega, by go_num, HO9, HB9, HN, HZ1⟩ | ((repeat apply Exists.intro); exact ⟨⟨i + 1, _, by omega, by go_num, HO9, HB9, HN, HZ1⟩, rfl⟩)
        case measure => simp [intOf]; omega
      · have HN : Hid (highS G ps = ([], er)) := by
          show _ = _
          rw [HE1.out, if_pos he]
        clear HLOK HE1
        go_wp2_with fail
        go_ret2
        rw [HN.out]
        exact ⟨none, 0, 0, rfl, ⟨rfl, .inl rfl⟩, HB4.out, by omega, fun z hz => by cases hz⟩
    · obtain rfl : i = n := by omega
      have ci : ¬ (i : Int) < i := by omega
      have HN : Hid (highS G ps = (H, 0)) := by
        show _ = _
        rw [HE.out, List.drop_of_length_le (by rw [HLP.out]; exact Nat.le_refl _)]; rfl
      go_wp2_with fail
      go_ret2
      rw [HN.out]
      exact ⟨_, _, _, rfl, own_nums HO.out, HB.out, by omega, HZ.out⟩
end Go.Proofs.YtlenfiiocmchdaaGreatDoor
/- More plain laws of layer 5: what lies in a folder begins with it and a slash; a list of paths, checked. -/
namespace Go.Proofs.YtlenfiiocmchdaaGreatDoor.Pap

theorem pieces_app : ∀ (f r : List UInt8), pieces (f ++ 47 :: r) = pieces f ++ pieces r
  | [], r => by rw [List.nil_append, pieces_slash]; rfl
  | c :: f, r => by
    by_cases hc : c = 47
    · subst hc; rw [List.cons_append, pieces_slash, pieces_slash, pieces_app f r]; rfl
    · obtain ⟨p, q, h1, h2⟩ := pieces_other (r := f ++ 47 :: r) hc
      obtain ⟨p', q', h3, h4⟩ := pieces_other (r := f) hc
      rw [List.cons_append, h2, h4]
      rw [pieces_app f r, h3] at h1
      cases h1; rfl
theorem joinL_app : ∀ (a b : List (List UInt8)), a ≠ [] → b ≠ [] → joinL (a ++ b) = joinL a ++ 47 :: joinL b
  | [], _, h, _ => absurd rfl h
  | [x], b, _, hb => by rw [List.singleton_append, joinL_cons x hb]; rfl
  | x :: y :: r, b, _, hb => by
    show x ++ 47 :: joinL (y :: r ++ b) = (x ++ 47 :: joinL (y :: r)) ++ 47 :: joinL b
    rw [joinL_app (y :: r) b (by simp) hb]; simp
theorem hasPrefix_pieces (f p : List UInt8) : Lib.hasPrefix p (f ++ [47]) = decide ((pieces f).length < (pieces p).length ∧ pieces f = (pieces p).take (pieces f).length) := by
  rw [Bool.eq_iff_iff, decide_eq_true_eq]
  unfold Lib.hasPrefix
  rw [List.isPrefixOf_iff_prefix]
  constructor
  · rintro ⟨r, rfl⟩
    rw [List.append_assoc, List.singleton_append, pieces_app]
    have := List.length_pos_iff.2 (pieces_ne r)
    exact ⟨by rw [List.length_append]; omega, by rw [List.take_left]⟩
  · rintro ⟨h1, h2⟩
    refine ⟨joinL ((pieces p).drop (pieces f).length), ?_⟩
    have h3 : (pieces p).drop (pieces f).length ≠ [] := by
      intro e; have := congrArg List.length e; simp at this; omega
    have h4 := joinL_app (pieces f) _ (pieces_ne f) h3
    rw [List.append_assoc, List.singleton_append]
    conv at h4 => rhs; rw [join_pieces]
    rw [← h4]
    conv => lhs; arg 1; lhs; rw [h2]
    rw [List.take_append_drop, join_pieces]
theorem within_eq {f p : List UInt8} (hf : splitE f = 0) (hp : splitE p = 0) : Lib.hasPrefix p (f ++ [47]) = withinR f p := by
  rw [hasPrefix_pieces]; unfold withinR; simp [hf, hp]
theorem within_no {f p : List UInt8} (h : splitE f ≠ 0 ∨ splitE p ≠ 0) : withinR f p = false := by
  unfold withinR; rw [decide_eq_false_iff_not]; rintro ⟨h1, h2, _⟩; rcases h with h | h <;> exact h ‹_›
/-! bytes that stand ahead -/
theorem bytesLess_cmp : ∀ a b : List UInt8, Op.bytesLess a b = decide (cmpL a b = -1)
  | [], [] => by simp [Op.bytesLess, cmpL]
  | _ :: _, [] => by simp [Op.bytesLess, cmpL]
  | [], _ :: _ => by simp [Op.bytesLess, cmpL]
  | a :: x, b :: y => by
    unfold Op.bytesLess cmpL
    rw [bytesLess_cmp x y]
    by_cases h1 : a.toNat < b.toNat
    · rw [if_pos h1]; have : a < b := UInt8.lt_iff_toNat_lt.2 h1; simp [this]
    · have hn : ¬ a < b := fun e => h1 (UInt8.lt_iff_toNat_lt.1 e)
      rw [if_neg h1]
      by_cases h2 : b.toNat < a.toNat
      · have : ¬ a = b := fun e => by rw [e] at h2; omega
        rw [if_pos h2]; simp [hn, this]
      · have : a = b := UInt8.toNat_inj.1 (by omega)
        rw [if_neg h2]; simp [this]

/-! a list, checked -/
def bad1 : Int → List (List UInt8) → Option (Int × Int)
  | _, [] => none
  | k, x :: r => if splitE x = 0 then bad1 (k + 1) r else some (k, splitE x)
def meets (p q : List UInt8) : Bool := withinR p q || withinR q p
def pass2 (ahead : List (List UInt8)) : Int → List (List UInt8) → Int × Int
  | _, [] => (0, 0)
  | k, x :: r => if x ∈ ahead then (k, 31) else if ahead.any (meets x) then (k, 32) else pass2 (ahead ++ [x]) (k + 1) r
def checkR (l : List (List UInt8)) : Int × Int := match bad1 0 l with
  | some r => r
  | none => pass2 [] 0 l
/-- no two are alike, none lies in another one -/
def apart (x y : List UInt8) : Prop := x ≠ y ∧ meets x y = false
theorem apart_symm {x y : List UInt8} (h : apart x y) : apart y x := ⟨fun e => h.1 e.symm, by have := h.2; unfold meets at this ⊢; rw [Bool.or_comm]; exact this⟩
theorem bad1_none : ∀ (k : Int) (l : List (List UInt8)), bad1 k l = none ↔ ∀ x ∈ l, splitE x = 0
  | _, [] => by simp [bad1]
  | k, x :: r => by
    unfold bad1
    by_cases h : splitE x = 0
    · rw [if_pos h, bad1_none (k + 1) r]; simp [h]
    · rw [if_neg h]; simp [h]
theorem bad1_some : ∀ (k : Int) (l : List (List UInt8)) (r : Int × Int), bad1 k l = some r → r.2 ≠ 0
  | _, [], _, h => by simp [bad1] at h
  | k, x :: l, r, h => by
    unfold bad1 at h
    by_cases hx : splitE x = 0
    · rw [if_pos hx] at h; exact bad1_some _ l r h
    · rw [if_neg hx] at h; cases h; exact hx
theorem pass2_ok : ∀ (l ahead : List (List UInt8)) (k : Int), (pass2 ahead k l).2 = 0 ↔ (l.Pairwise apart ∧ ∀ x ∈ l, ∀ y ∈ ahead, apart x y)
  | [], _, _ => by simp [pass2]
  | x :: l, ahead, k => by
    unfold pass2
    by_cases h1 : x ∈ ahead
    · rw [if_pos h1]
      constructor
      · intro h; cases h
      · rintro ⟨_, h⟩; exact absurd rfl (h x (by simp) x h1).1
    · rw [if_neg h1]
      by_cases h2 : ahead.any (meets x) = true
      · rw [if_pos h2]
        constructor
        · intro h; cases h
        · rintro ⟨_, h⟩
          obtain ⟨y, hy, hm⟩ := List.any_eq_true.1 h2
          have := (h x (by simp) y hy).2
          rw [hm] at this; cases this
      · rw [if_neg h2, pass2_ok l (ahead ++ [x]) (k + 1)]
        constructor
        · rintro ⟨h3, h4⟩
          refine ⟨List.pairwise_cons.2 ⟨fun y hy => apart_symm (h4 y hy x (by simp)), h3⟩, ?_⟩
          intro y hy z hz
          rcases List.mem_cons.1 hy with rfl | hy
          · refine ⟨fun e => h1 (e ▸ hz), ?_⟩
            cases hm : meets y z
            · rfl
            · exact absurd (List.any_eq_true.2 ⟨z, hz, hm⟩) h2
          · exact h4 y hy z (by simp [hz])
        · rintro ⟨h3, h4⟩
          obtain ⟨h5, h6⟩ := List.pairwise_cons.1 h3
          refine ⟨h6, fun y hy z hz => ?_⟩
          rcases List.mem_append.1 hz with hz | hz
          · exact h4 y (by simp [hy]) z hz
          · simp at hz; subst hz; exact apart_symm (h5 y hy)
theorem checkR_ok (l : List (List UInt8)) : (checkR l).2 = 0 ↔ (∀ x ∈ l, splitE x = 0) ∧ l.Pairwise apart := by
  unfold checkR
  cases h : bad1 0 l with
  | some r =>
    constructor
    · intro e; exact absurd e (bad1_some 0 l r h)
    · rintro ⟨e, _⟩; rw [(bad1_none 0 l).2 e] at h; cases h
  | none =>
    have := (bad1_none 0 l).1 h
    show (pass2 [] 0 l).2 = 0 ↔ _
    rw [pass2_ok]; exact ⟨fun h => ⟨this, h.1⟩, fun h => ⟨h.2, fun x _ y hy => absurd hy (by simp)⟩⟩
theorem bad1_step (l : List (List UInt8)) (k : Nat) (hk : k < l.length) : bad1 k (l.drop k) = if splitE l[k] = 0 then bad1 ((k + 1 : Nat) : Int) (l.drop (k + 1)) else some ((k : Int), splitE l[k]) := by
  rw [List.drop_eq_getElem_cons hk]; rfl
theorem pass2_step (l : List (List UInt8)) (k : Nat) (hk : k < l.length) : pass2 (l.take k) k (l.drop k) = if l[k] ∈ l.take k then ((k : Int), 31) else if (l.take k).any (meets l[k]) then ((k : Int), 32) else pass2 (l.take (k + 1)) ((k + 1 : Nat) : Int) (l.drop (k + 1)) := by
  rw [List.drop_eq_getElem_cons hk, List.take_add_one, List.getElem?_eq_getElem hk]; rfl
theorem cmpP_step (a b : List (List UInt8)) (k : Nat) (ha : k < a.length) (hb : k < b.length) : cmpP (a.drop k) (b.drop k) = if cmpL a[k] b[k] = 0 then cmpP (a.drop (k + 1)) (b.drop (k + 1)) else cmpL a[k] b[k] := by
  rw [List.drop_eq_getElem_cons ha, List.drop_eq_getElem_cons hb]; rfl
theorem cmpP_behind (a b : List (List UInt8)) (k : Nat) (ha : k < a.length) (hb : b.length ≤ k) : cmpP (a.drop k) (b.drop k) = 1 := by
  rw [List.drop_eq_getElem_cons ha, List.drop_eq_nil_of_le hb]; rfl
theorem cmpP_ends (a b : List (List UInt8)) (k : Nat) (ha : a.length ≤ k) : cmpP (a.drop k) (b.drop k) = if k < b.length then -1 else 0 := by
  rw [List.drop_eq_nil_of_le ha]
  split
  · rename_i h; rw [List.drop_eq_getElem_cons h]; rfl
  · rename_i h; rw [List.drop_eq_nil_of_le (by omega)]; rfl
end Go.Proofs.YtlenfiiocmchdaaGreatDoor.Pap
/- Plain laws of layer 5 without the reference: there and back, the order is one, what lies apart, folders. -/
namespace Go.Proofs.YtlenfiiocmchdaaGreatDoor.Pap

theorem check_pieces {s : List UInt8} (h : splitE s = 0) : pieces s ≠ [] ∧ (∀ x ∈ pieces s, goodL x = true) ∧ (pieces s).length ≤ 64 := checkE_ok.1 h
theorem split_join {l : List (List UInt8)} (h : checkE l = 0) : pieces (joinL l) = l ∧ splitE (joinL l) = 0 := by
  obtain ⟨h1, h2, h3⟩ := checkE_ok.1 h
  have e := pieces_join l h1 (fun x hx => good_free (h2 x hx))
  exact ⟨e, by unfold splitE; rw [e]; exact h⟩
/-! the order is one -/
theorem cmp_le_trans (a b c : List (List UInt8)) (h1 : cmpP a b ≤ 0) (h2 : cmpP b c ≤ 0) : cmpP a c ≤ 0 ∧ (cmpP a c = 0 → cmpP a b = 0 ∧ cmpP b c = 0) := by
  have r1 := cmpP_range a b
  have r2 := cmpP_range b c
  rcases r1 with e1 | e1 | e1
  · rcases r2 with e2 | e2 | e2
    · have := cmpP_trans a b c e1 e2; omega
    · have := cmpP_zero b c e2; subst this; omega
    · omega
  · have := cmpP_zero a b e1; subst this
    constructor
    · exact h2
    · intro h; exact ⟨e1, h⟩
  · omega
theorem withinR_ok {f p : List UInt8} (hf : splitE f = 0) (hp : splitE p = 0) : withinR f p = decide ((pieces f).length < (pieces p).length ∧ pieces f = (pieces p).take (pieces f).length) := by
  unfold withinR; simp [hf, hp]
/-! folders -/
/-! what lies apart -/
theorem apart_off {x y : List UInt8} (h : apart x y) : x ≠ y ∧ withinR x y = false ∧ withinR y x = false := by
  obtain ⟨h1, h2⟩ := h
  unfold meets at h2
  rw [Bool.or_eq_false_iff] at h2
  exact ⟨h1, h2.1, h2.2⟩
end Go.Proofs.YtlenfiiocmchdaaGreatDoor.Pap
/- What two commits differ in, plain; names of a commit's blobs are paths. -/
namespace Go.Proofs.YtlenfiiocmchdaaGreatDoor
open Go.RowKit Book Pap Ojt Sn
set_option linter.unusedVariables false
set_option linter.unusedSimpArgs false

/-- a blob's name is a path -/
def OkName (n : ByteArray) : Prop := splitE n.data.toList = 0 ∧ n.size ≤ 100000
def OkBlobs (l : List Ent) : Prop := ∀ y ∈ l, OkName y.name
theorem okName_of {l : List ByteArray} (h : checkE (l.map fun s => s.data.toList) = 0) : OkName (pathOf l) := by
  have h1 := split_join h
  have h2 := join_bound h
  unfold OkName pathOf
  refine ⟨by simpa [bz] using h1.2, ?_⟩
  have : (bz (joinL (l.map fun s => s.data.toList))).size = (joinL (l.map fun s => s.data.toList)).length := by unfold bz; simp [ByteArray.size]
  rw [this]; omega
theorem overE_names {rec : ByteArray → List ByteArray → Wk → Wk × Int} (hr : ∀ id above s, OkBlobs s.blobs → (∀ n ∈ above, goodL n.data.toList = true) → OkBlobs (rec id above s).1.blobs) (above : List ByteArray) (ha : ∀ n ∈ above, goodL n.data.toList = true) :
    ∀ (es : List Ent) (s : Wk), OkBlobs s.blobs → (∀ e ∈ es, goodL e.name.data.toList = true) → OkBlobs (overE rec above es s).1.blobs
  | [], s, h, _ => h
  | y :: r, s, h, he => by
    have hy := he y (List.mem_cons_self ..)
    have ha' : ∀ n ∈ above ++ [y.name], goodL n.data.toList = true := fun n hn => by
      rcases List.mem_append.1 hn with hn | hn
      · exact ha n hn
      · rw [List.mem_singleton.1 hn]; exact hy
    have ih := fun s hs => overE_names hr above ha r s hs (fun e h => he e (List.mem_cons_of_mem _ h))
    unfold overE
    split
    · exact h
    · split
      · exact h
      · rename_i h64
        split
        · split
          · exact hr _ _ _ h ha'
          · exact ih _ (hr _ _ _ h ha')
        · refine ih _ (fun z hz => ?_)
          rcases List.mem_append.1 hz with hz | hz
          · exact h z hz
          · rw [List.mem_singleton.1 hz]
            refine okName_of (checkE_ok.2 ⟨by simp, fun x hx => ?_, by rw [List.length_map, List.length_append]; simp only [List.length_cons, List.length_nil]; omega⟩)
            obtain ⟨n, hn, rfl⟩ := List.mem_map.1 hx
            exact ha' n hn
theorem overS_names (G : Sw.Src) : ∀ (d : Nat) (id : ByteArray) (above : List ByteArray) (s : Wk), OkBlobs s.blobs → (∀ n ∈ above, goodL n.data.toList = true) → OkBlobs (overS G d id above s).1.blobs
  | 0, id, above, s, h, _ => h
  | d + 1, id, above, s, h, ha => by
    unfold overS
    split
    · exact h
    · rename_i h0
      obtain ⟨x, er, hlk⟩ : ∃ x er, lookK G id 2 21 = (x, er) := ⟨_, _, rfl⟩
      rw [hlk] at h0 ⊢
      have h0 : er = 0 := by simpa using h0
      subst h0
      obtain ⟨hg, hk⟩ := lookK_ok hlk (by decide)
      obtain ⟨-, h2⟩ := good_tree hg hk
      exact overE_names (fun id above s h ha => overS_names G d id above s h ha) above ha _ s h (fun e he => (goodEnt_facts (h2 e he)).1)
theorem listS_names (G : Sw.Src) (id : ByteArray) : OkBlobs (listS G id).1 := by
  unfold listS
  split
  · intro y hy; cases hy
  · split
    · intro y hy; cases hy
    · exact overS_names G 66 _ [] ⟨0, []⟩ (fun y hy => by cases hy) (fun n hn => by cases hn)
/-- a change: path, was, is -/
structure Ch where
  path : ByteArray
  was : ByteArray
  is : ByteArray
def noCh : Ch := ⟨ByteArray.empty, ByteArray.empty, ByteArray.empty⟩
def putA (f : ByteArray → Option Ch) (y : Ent) : ByteArray → Option Ch := fun q => if q = y.name then some ⟨y.name, y.id, ByteArray.empty⟩ else f q
def putB (f : ByteArray → Option Ch) (y : Ent) : ByteArray → Option Ch := fun q => if q = y.name then some ⟨y.name, ((f y.name).getD noCh).was, y.id⟩ else f q
/-- the table of changes -/
def tabD (l m : List Ent) : ByteArray → Option Ch := m.foldl putB (l.foldl putA (fun _ => none))
def PathTab (f : ByteArray → Option Ch) : Prop := ∀ q c, f q = some c → c.path = q ∧ OkName q
theorem putA_tab {f : ByteArray → Option Ch} (h : PathTab f) (y : Ent) (hy : OkName y.name) : PathTab (putA f y) := by
  intro q c hc
  unfold putA at hc
  split at hc
  · rename_i e; cases hc; exact ⟨e.symm, e ▸ hy⟩
  · exact h q c hc
theorem putB_tab {f : ByteArray → Option Ch} (h : PathTab f) (y : Ent) (hy : OkName y.name) : PathTab (putB f y) := by
  intro q c hc
  unfold putB at hc
  split at hc
  · rename_i e; cases hc; exact ⟨e.symm, e ▸ hy⟩
  · exact h q c hc
theorem tabA_tab : ∀ (l : List Ent) (f : ByteArray → Option Ch), PathTab f → OkBlobs l → PathTab (l.foldl putA f)
  | [], f, h, _ => h
  | y :: r, f, h, ho => tabA_tab r _ (putA_tab h y (ho y (List.mem_cons_self ..))) (fun z hz => ho z (List.mem_cons_of_mem _ hz))
theorem tabB_tab : ∀ (l : List Ent) (f : ByteArray → Option Ch), PathTab f → OkBlobs l → PathTab (l.foldl putB f)
  | [], f, h, _ => h
  | y :: r, f, h, ho => tabB_tab r _ (putB_tab h y (ho y (List.mem_cons_self ..))) (fun z hz => ho z (List.mem_cons_of_mem _ hz))
theorem tabD_tab {l m : List Ent} (hl : OkBlobs l) (hm : OkBlobs m) : PathTab (tabD l m) := tabB_tab m _ (tabA_tab l _ (fun q c h => by cases h) hl) hm
/-- the differences in a list: in the order of paths, each once -/
def IsDiff (l m : List Ent) (D : List Ch) : Prop :=
  D.Pairwise (fun x y => cmpP (pieces x.path.data.toList) (pieces y.path.data.toList) = -1) ∧ ∀ c, c ∈ D ↔ tabD l m c.path = some c ∧ c.was ≠ c.is
theorem pw_ext {α : Type} {R : α → α → Prop} (hirr : ∀ a, ¬ R a a) (htr : ∀ a b c, R a b → R b c → R a c) : ∀ (l m : List α), l.Pairwise R → m.Pairwise R → (∀ x, x ∈ l ↔ x ∈ m) → l = m
  | [], [], _, _, _ => rfl
  | [], b :: m, _, _, h => by have := (h b).2 (List.mem_cons_self ..); cases this
  | a :: l, [], _, _, h => by have := (h a).1 (List.mem_cons_self ..); cases this
  | a :: l, b :: m, hl, hm, h => by
    obtain ⟨h1, h2⟩ := List.pairwise_cons.1 hl
    obtain ⟨h3, h4⟩ := List.pairwise_cons.1 hm
    have e : a = b := by
      rcases List.mem_cons.1 ((h a).1 (List.mem_cons_self ..)) with e | e
      · exact e
      · rcases List.mem_cons.1 ((h b).2 (List.mem_cons_self ..)) with e' | e'
        · exact e'.symm
        · exact absurd (htr _ _ _ (h1 b e') (h3 a e)) (hirr a)
    subst e
    refine congrArg (a :: ·) (pw_ext hirr htr l m h2 h4 (fun x => ⟨fun hx => ?_, fun hx => ?_⟩))
    · rcases List.mem_cons.1 ((h x).1 (List.mem_cons_of_mem _ hx)) with e | e
      · subst e; exact absurd (h1 _ hx) (hirr _)
      · exact e
    · rcases List.mem_cons.1 ((h x).2 (List.mem_cons_of_mem _ hx)) with e | e
      · subst e; exact absurd (h3 _ hx) (hirr _)
      · exact e
theorem IsDiff.one {l m : List Ent} {D E : List Ch} (h : IsDiff l m D) (k : IsDiff l m E) : D = E :=
  pw_ext (R := fun x y : Ch => cmpP (pieces x.path.data.toList) (pieces y.path.data.toList) = -1) (fun a h => by rw [cmpP_self] at h; cases h) (fun a b c h k => cmpP_trans _ _ _ h k) D E h.1 k.1 (fun x => (h.2 x).trans (k.2 x).symm)
end Go.Proofs.YtlenfiiocmchdaaGreatDoor
/- The digest's words: their bounds, and what the machine's operations make of them. No program. -/
namespace Go.Proofs.YtlenfiiocmchdaaGreatDoor.Sha
open Go.RowKit
set_option linter.unusedVariables false

theorem rotr_lt (n x : Nat) (hx : x < 4294967296) : rotr n x < 4294967296 := by
  unfold rotr m32
  refine Nat.or_lt_two_pow (n := 32) (Nat.mod_lt _ (by decide)) ?_
  exact Nat.lt_of_le_of_lt (Nat.div_le_self _ _) hx
theorem xor_lt (a b : Nat) (ha : a < 4294967296) (hb : b < 4294967296) : a ^^^ b < 4294967296 := Nat.xor_lt_two_pow (n := 32) ha hb
theorem and_lt (a b : Nat) (ha : a < 4294967296) : a &&& b < 4294967296 := Nat.lt_of_le_of_lt Nat.and_le_left ha
theorem turn3_lt (x i j k : Nat) (hx : x < 4294967296) : turn3 x i j k < 4294967296 := xor_lt _ _ (xor_lt _ _ (rotr_lt _ _ hx) (rotr_lt _ _ hx)) (rotr_lt _ _ hx)
theorem ss0_lt (x : Nat) (hx : x < 4294967296) : ss0 x < 4294967296 := xor_lt _ _ (xor_lt _ _ (rotr_lt _ _ hx) (rotr_lt _ _ hx)) (Nat.lt_of_le_of_lt (Nat.div_le_self _ _) hx)
theorem ss1_lt (x : Nat) (hx : x < 4294967296) : ss1 x < 4294967296 := xor_lt _ _ (xor_lt _ _ (rotr_lt _ _ hx) (rotr_lt _ _ hx)) (Nat.lt_of_le_of_lt (Nat.div_le_self _ _) hx)
structure S8.Lt (s : S8) : Prop where
  a : s.a < 4294967296
  b : s.b < 4294967296
  c : s.c < 4294967296
  d : s.d < 4294967296
  e : s.e < 4294967296
  f : s.f < 4294967296
  g : s.g < 4294967296
  h : s.h < 4294967296
theorem first_Lt : first.Lt := ⟨by decide, by decide, by decide, by decide, by decide, by decide, by decide, by decide⟩
theorem m_lt (n : Nat) : n % m32 < 4294967296 := Nat.mod_lt _ (by decide)
theorem rnd_Lt {s : S8} (h : s.Lt) (k w : Nat) : (rnd s k w).Lt := ⟨m_lt _, h.a, h.b, h.c, m_lt _, h.e, h.f, h.g⟩
theorem rounds_Lt {s : S8} (h : s.Lt) (W : List Nat) : ∀ n, (rounds W n s).Lt
  | 0 => h
  | n + 1 => rnd_Lt (rounds_Lt h W n) _ _
theorem addS_Lt (x y : S8) : (addS x y).Lt := ⟨m_lt _, m_lt _, m_lt _, m_lt _, m_lt _, m_lt _, m_lt _, m_lt _⟩
theorem mixL_Lt (s : S8) (b : List UInt8) : (mixL s b).Lt := addS_Lt _ _
theorem absorb_Lt : ∀ (f : Nat) (s : S8) (l : List UInt8), s.Lt → (absorb f s l).1.Lt
  | 0, _, _, h => h
  | f + 1, s, l, h => by
    unfold absorb
    split
    · exact h
    · exact absorb_Lt f _ _ (mixL_Lt _ _)
theorem kt_lt : ∀ n, kt.getD n 0 < 4294967296 := by
  intro n
  by_cases h : n < 64
  · have : ∀ n : Fin 64, kt.getD n.1 0 < 4294967296 := by decide
    exact this ⟨n, h⟩
  · rw [List.getD_eq_getElem?_getD, List.getElem?_eq_none (by show 64 ≤ n; omega)]; decide
theorem word_lt (b : List UInt8) (i : Nat) : word b i < 4294967296 := by
  unfold word
  have h0 := (b.getD (4 * i) 0).toNat_lt; have h1 := (b.getD (4 * i + 1) 0).toNat_lt; have h2 := (b.getD (4 * i + 2) 0).toNat_lt; have h3 := (b.getD (4 * i + 3) 0).toNat_lt
  omega
theorem w16_len (b : List UInt8) : (w16 b).length = 16 := by simp [w16]
theorem wext_len : ∀ (n : Nat) (l : List Nat), (wext n l).length = l.length + n
  | 0, l => rfl
  | n + 1, l => by unfold wext; rw [wext_len n]; simp; omega
/-- the words from the first on -/
def wpart (b : List UInt8) : Nat → List Nat
  | 0 => w16 b
  | n + 1 => wpart b n ++ [nextW (wpart b n)]
theorem wext_snoc : ∀ (n : Nat) (l : List Nat), wext (n + 1) l = wext n l ++ [nextW (wext n l)]
  | 0, l => rfl
  | n + 1, l => by
    show wext (n + 1) (l ++ [nextW l]) = _
    rw [wext_snoc n]; rfl
theorem wpart_eq (b : List UInt8) : ∀ n, wpart b n = wext n (w16 b)
  | 0 => rfl
  | n + 1 => by rw [wext_snoc, ← wpart_eq b n]; rfl
theorem wpart_len (b : List UInt8) (n : Nat) : (wpart b n).length = 16 + n := by rw [wpart_eq, wext_len, w16_len]
theorem wpart_lt (b : List UInt8) : ∀ n x, x ∈ wpart b n → x < 4294967296
  | 0, x, hx => by
    unfold wpart w16 at hx
    obtain ⟨i, -, rfl⟩ := List.mem_map.1 hx
    exact word_lt _ _
  | n + 1, x, hx => by
    rcases List.mem_append.1 hx with h | h
    · exact wpart_lt b n x h
    · rw [List.mem_singleton.1 h]; exact m_lt _
theorem spreadL_part (b : List UInt8) : spreadL b = wpart b 48 := (wpart_eq b 48).symm
theorem getD_lt (l : List Nat) (h : ∀ x ∈ l, x < 4294967296) (i : Nat) : l.getD i 0 < 4294967296 := by
  rw [List.getD_eq_getElem?_getD]
  cases hi : l[i]? with
  | none => decide
  | some x => exact h x (List.mem_of_getElem? hi)
theorem spreadL_lt (b : List UInt8) (i : Nat) : (spreadL b).getD i 0 < 4294967296 := by rw [spreadL_part]; exact getD_lt _ (wpart_lt b 48) i
/-! the machine's operations -/
theorem xor_go (a b : Nat) (ha : a < 4294967296) (hb : b < 4294967296) : bits .xor .u32 (a : Int) (b : Int) = ((a ^^^ b : Nat) : Int) := u32_xor_nat a b ha hb
theorem rotr_go (a x : Nat) (hx : x < 4294967296) : bits .or .u32 ((x : Int) * 2 ^ (32 - a) % 4294967296) ((x : Int) / 2 ^ a) = (rotr a x : Int) := by
  have h1 : (x : Int) * 2 ^ (32 - a) % 4294967296 = ((x * 2 ^ (32 - a) % 4294967296 : Nat) : Int) := by rw [Int.natCast_emod, Int.natCast_mul, Int.natCast_pow]; rfl
  have h2 : (x : Int) / 2 ^ a = ((x / 2 ^ a : Nat) : Int) := by rw [Int.natCast_ediv, Int.natCast_pow]; rfl
  rw [h1, h2, u32_or_nat _ _ (Nat.mod_lt _ (by decide)) (Nat.lt_of_le_of_lt (Nat.div_le_self _ _) hx)]
  rfl
end Go.Proofs.YtlenfiiocmchdaaGreatDoor.Sha
/- The digest's walks: words turned, the words of a block. -/
namespace Go.Proofs.YtlenfiiocmchdaaGreatDoor
open Go.RowKit Sha
set_option linter.unusedVariables false

def Turns (a : Nat) : Prop := a = 2 ∨ a = 6 ∨ a = 7 ∨ a = 11 ∨ a = 13 ∨ a = 17 ∨ a = 18 ∨ a = 19 ∨ a = 22 ∨ a = 25
set_option maxRecDepth 100000 in
set_option maxHeartbeats 1000000 in
theorem rot_any (a x : Nat) (k : Int) (hk : k = -(a : Int)) (ha : Turns a) (hx : x < 4294967296) (w : World) : Calls Tryz.prog 271 #[.int .u32 x, .int .i64 k] w fun e w' => e = .returned (.int .u32 (rotr a x)) ∧ w = w' := by
  have hx0 : (0 : Int) ≤ x := by omega
  have hx1 : (x : Int) < 4294967296 := by omega
  have k2 : bits .and .u64 (IntKind.u64.wrap (-2)) 31 = 30 := by decide +kernel
  have k6 : bits .and .u64 (IntKind.u64.wrap (-6)) 31 = 26 := by decide +kernel
  have k7 : bits .and .u64 (IntKind.u64.wrap (-7)) 31 = 25 := by decide +kernel
  have k11 : bits .and .u64 (IntKind.u64.wrap (-11)) 31 = 21 := by decide +kernel
  have k13 : bits .and .u64 (IntKind.u64.wrap (-13)) 31 = 19 := by decide +kernel
  have k17 : bits .and .u64 (IntKind.u64.wrap (-17)) 31 = 15 := by decide +kernel
  have k18 : bits .and .u64 (IntKind.u64.wrap (-18)) 31 = 14 := by decide +kernel
  have k19 : bits .and .u64 (IntKind.u64.wrap (-19)) 31 = 13 := by decide +kernel
  have k22 : bits .and .u64 (IntKind.u64.wrap (-22)) 31 = 10 := by decide +kernel
  have k25 : bits .and .u64 (IntKind.u64.wrap (-25)) 31 = 7 := by decide +kernel
  have r2 : Hid (bits .or .u32 ((x : Int) * 1073741824 % 4294967296) ((x : Int) / 4) = (rotr 2 x : Int)) := rotr_go 2 x hx
  have r6 : Hid (bits .or .u32 ((x : Int) * 67108864 % 4294967296) ((x : Int) / 64) = (rotr 6 x : Int)) := rotr_go 6 x hx
  have r7 : Hid (bits .or .u32 ((x : Int) * 33554432 % 4294967296) ((x : Int) / 128) = (rotr 7 x : Int)) := rotr_go 7 x hx
  have r11 : Hid (bits .or .u32 ((x : Int) * 2097152 % 4294967296) ((x : Int) / 2048) = (rotr 11 x : Int)) := rotr_go 11 x hx
  have r13 : Hid (bits .or .u32 ((x : Int) * 524288 % 4294967296) ((x : Int) / 8192) = (rotr 13 x : Int)) := rotr_go 13 x hx
  have r17 : Hid (bits .or .u32 ((x : Int) * 32768 % 4294967296) ((x : Int) / 131072) = (rotr 17 x : Int)) := rotr_go 17 x hx
  have r18 : Hid (bits .or .u32 ((x : Int) * 16384 % 4294967296) ((x : Int) / 262144) = (rotr 18 x : Int)) := rotr_go 18 x hx
  have r19 : Hid (bits .or .u32 ((x : Int) * 8192 % 4294967296) ((x : Int) / 524288) = (rotr 19 x : Int)) := rotr_go 19 x hx
  have r22 : Hid (bits .or .u32 ((x : Int) * 1024 % 4294967296) ((x : Int) / 4194304) = (rotr 22 x : Int)) := rotr_go 22 x hx
  have r25 : Hid (bits .or .u32 ((x : Int) * 128 % 4294967296) ((x : Int) / 33554432) = (rotr 25 x : Int)) := rotr_go 25 x hx
  rcases ha with rfl | rfl | rfl | rfl | rfl | rfl | rfl | rfl | rfl | rfl
  · subst hk
    clear k6 k7 k11 k13 k17 k18 k19 k22 k25
    go_enter Tryz.func271, Tryz.ntmps271
    go_wp2
    go_ret
    exact ⟨ret_int r2.out, rfl⟩
  · subst hk
    clear k2 k7 k11 k13 k17 k18 k19 k22 k25
    go_enter Tryz.func271, Tryz.ntmps271
    go_wp2
    go_ret
    exact ⟨ret_int r6.out, rfl⟩
  · subst hk
    clear k2 k6 k11 k13 k17 k18 k19 k22 k25
    go_enter Tryz.func271, Tryz.ntmps271
    go_wp2
    go_ret
    exact ⟨ret_int r7.out, rfl⟩
  · subst hk
    clear k2 k6 k7 k13 k17 k18 k19 k22 k25
    go_enter Tryz.func271, Tryz.ntmps271
    go_wp2
    go_ret
    exact ⟨ret_int r11.out, rfl⟩
  · subst hk
    clear k2 k6 k7 k11 k17 k18 k19 k22 k25
    go_enter Tryz.func271, Tryz.ntmps271
    go_wp2
    go_ret
    exact ⟨ret_int r13.out, rfl⟩
  · subst hk
    clear k2 k6 k7 k11 k13 k18 k19 k22 k25
    go_enter Tryz.func271, Tryz.ntmps271
    go_wp2
    go_ret
    exact ⟨ret_int r17.out, rfl⟩
  · subst hk
    clear k2 k6 k7 k11 k13 k17 k19 k22 k25
    go_enter Tryz.func271, Tryz.ntmps271
    go_wp2
    go_ret
    exact ⟨ret_int r18.out, rfl⟩
  · subst hk
    clear k2 k6 k7 k11 k13 k17 k18 k22 k25
    go_enter Tryz.func271, Tryz.ntmps271
    go_wp2
    go_ret
    exact ⟨ret_int r19.out, rfl⟩
  · subst hk
    clear k2 k6 k7 k11 k13 k17 k18 k19 k25
    go_enter Tryz.func271, Tryz.ntmps271
    go_wp2
    go_ret
    exact ⟨ret_int r22.out, rfl⟩
  · subst hk
    clear k2 k6 k7 k11 k13 k17 k18 k19 k22
    go_enter Tryz.func271, Tryz.ntmps271
    go_wp2
    go_ret
    exact ⟨ret_int r25.out, rfl⟩
theorem turned_any (x i j k : Nat) (hx : x < 4294967296) (hi : Turns i) (hj : Turns j) (hk : Turns k) (w : World) : Calls Tryz.prog 238 #[.int .u32 x, .int .i64 i, .int .i64 j, .int .i64 k] w fun e w' => e = .returned (.int .u32 (turn3 x i j k)) ∧ w = w' := by
  have r1 := rotr_lt i x hx
  have r2 := rotr_lt j x hx
  have r3 := rotr_lt k x hx
  have C1 := hid (fun w => rot_any i x _ rfl hi hx w)
  have C2 := hid (fun w => rot_any j x _ rfl hj hx w)
  have C3 := hid (fun w => rot_any k x _ rfl hk hx w)
  have bi : i ≤ 100 := by unfold Turns at hi; omega
  have bj : j ≤ 100 := by unfold Turns at hj; omega
  have bk : k ≤ 100 := by unfold Turns at hk; omega
  have HE : Hid (turn3 x i j k = rotr i x ^^^ rotr j x ^^^ rotr k x) := rfl
  rw [HE.out]; clear HE
  obtain ⟨a, ha⟩ : ∃ a, rotr i x = a := ⟨_, rfl⟩
  obtain ⟨b, hb⟩ : ∃ a, rotr j x = a := ⟨_, rfl⟩
  obtain ⟨c, hc⟩ : ∃ a, rotr k x = a := ⟨_, rfl⟩
  rw [ha] at r1 C1 ⊢
  rw [hb] at r2 C2 ⊢
  rw [hc] at r3 C3 ⊢
  clear ha hb hc hi hj hk
  have x1 := xor_go a b r1 r2
  have x2 := xor_go (a ^^^ b) c (xor_lt _ _ r1 r2) r3
  go_enter Tryz.func238, Tryz.ntmps238
  go_wp2_with fail
  refine (C1.out _).mono ?_; rintro e w' ⟨rfl, rfl⟩
  go_wp2_with fail
  refine (C2.out _).mono ?_; rintro e w' ⟨rfl, rfl⟩
  go_wp2_with fail
  refine (C3.out _).mono ?_; rintro e w' ⟨rfl, rfl⟩
  go_wp2_with fail
  go_ret
  exact ⟨rfl, rfl⟩
/-- 64 words as cells -/
def cellsF (f : Nat → Nat) : Array Value := ((List.range 64).map fun j => Value.int .u32 (f j : Int)).toArray
theorem cellsF_size (f : Nat → Nat) : (cellsF f).size = 64 := by simp [cellsF]
theorem cellsF_get (f : Nat → Nat) (j : Nat) (hj : j < 64) : (cellsF f)[j]? = some (.int .u32 (f j : Int)) := by
  unfold cellsF
  rw [List.getElem?_toArray, List.getElem?_map, List.getElem?_range hj]; rfl
theorem cellsF_ext {f g : Nat → Nat} (h : ∀ j, j < 64 → f j = g j) : cellsF f = cellsF g := by
  unfold cellsF
  congr 1
  refine List.map_congr_left fun j hj => ?_
  rw [h j (List.mem_range.1 hj)]
theorem cellsF_set (f : Nat → Nat) (k v : Nat) (hk : k < 64) : (cellsF f).setIfInBounds k (.int .u32 (v : Int)) = cellsF (fun j => if j = k then v else f j) := by
  apply Array.ext_getElem?
  intro j
  rw [Array.getElem?_setIfInBounds]
  by_cases hj : j < 64
  · by_cases e : k = j
    · subst e; rw [if_pos rfl, if_pos (by rw [cellsF_size]; exact hk), cellsF_get _ k hk, if_pos rfl]
    · rw [if_neg e, cellsF_get _ j hj, cellsF_get _ j hj, if_neg (fun h => e h.symm)]
  · rw [if_neg (by omega), Array.getElem?_eq_none (by rw [cellsF_size]; omega), Array.getElem?_eq_none (by rw [cellsF_size]; omega)]
theorem cellsF_one (f : Nat → Nat) : (cellsF f).all (·.oneCell') = true := by
  rw [Array.all_eq_true_iff_forall_mem]
  intro x hx
  unfold cellsF at hx
  simp only [List.mem_toArray, List.mem_map] at hx
  obtain ⟨j, -, rfl⟩ := hx
  rfl
/-- a word, so many bytes of it -/
def pw (b : List UInt8) (i : Nat) : Nat → Nat
  | 0 => 0
  | j + 1 => pw b i j * 256 + (b.getD (4 * i + j) 0).toNat
theorem pw_lt (b : List UInt8) (i : Nat) : ∀ j, j ≤ 4 → pw b i j < 256 ^ j
  | 0, _ => by show 0 < 1; omega
  | j + 1, h => by
    have := pw_lt b i j (by omega)
    have hb := (b.getD (4 * i + j) 0).toNat_lt
    unfold pw
    rw [Nat.pow_succ]; omega
theorem pw_word (b : List UInt8) (i : Nat) : pw b i 4 = word b i := by
  unfold word
  show (((0 * 256 + (b.getD (4 * i + 0) 0).toNat) * 256 + (b.getD (4 * i + 1) 0).toNat) * 256 + (b.getD (4 * i + 2) 0).toNat) * 256 + (b.getD (4 * i + 3) 0).toNat = _
  rw [Nat.add_zero]
  omega
theorem or_byte (P c : Nat) (hP : P < 16777216) (hc : c < 256) : bits .or .u32 ((P : Int) * 256) (c : Int) = ((P * 256 + c : Nat) : Int) := by
  have e : ((P : Int) * 256) = ((P * 256 : Nat) : Int) := (Int.natCast_mul _ _).symm
  rw [e, u32_or_nat _ _ (by omega) (by omega), show P * 256 = 2 ^ 8 * P by omega, ← Nat.two_pow_add_eq_or_of_lt (by omega)]
def fW1 (b : List UInt8) (i : Nat) : Nat → Nat := fun j => if j < i then word b j else 0
/-- 64 bytes that lie in a row -/
def BytesAt (w : World) (g off : Nat) (l : List UInt8) : Prop := ∀ j, j < l.length → w.cell? ⟨g, off + j, none⟩ = some (.int .u8 ((l.getD j 0).toNat : Int))
end Go.Proofs.YtlenfiiocmchdaaGreatDoor
