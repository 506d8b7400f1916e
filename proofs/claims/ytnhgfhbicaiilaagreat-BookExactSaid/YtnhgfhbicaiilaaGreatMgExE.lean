/- Texts in a row: BkOpen, BkReady, BkActs, BkDo, BkAdd, BkLawA, BkAwakeP, BkAwake, BkSees, BkCalm, BkFits, OpenActsG, OpenDeeds. -/
import Derived.Test.YtnhgfhbicaiilaaGreatMgExD
import Derived.Deep.RegionHeld3
import Derived.Deep.Slices
import Derived.Deep.Fields
import Derived.ChangeSame
import Derived.ChangeSlices
import Derived.WalkKit
import Derived.ProofKit
import Derived.OpenShut
import Derived.ShutString
import Derived.ChangeOld
import Derived.SliceStrings
import Derived.DataShut
import Derived.SizedLaws
/- The book is opened. -/
namespace Go.Proofs.YtnhgfhbicaiilaaGreat
open Go.RowKit Book Reel
set_option linter.unusedVariables false

def tilde (x : ByteArray) : ByteArray := x ++ ⟨#[126]⟩
theorem tilde_size (x : ByteArray) : (tilde x).size = x.size + 1 := by unfold tilde; rw [ByteArray.size_append]; rfl
/-- behind the spare -/
def openA (S : St) (x : ByteArray) : St × Int := if 0 ≤ sizeS S (tilde x) then dropS S (tilde x) else (S, 0)
def openR (S : St) (x : ByteArray) : List (List (List UInt8)) × Nat := readR crcP (readS S x).1
def openB (S : St) (x : ByteArray) : St × Int := if (openR S x).2 < (readS S x).1.length then cutS S x (openR S x).2 else (S, 0)
def openS (S : St) (x : ByteArray) : St × Int × List (List (List UInt8)) :=
  if S.down = true then (S, 10, []) else if x.size = 0 ∨ 31 < x.size then (S, 1, [])
  else if (openA S x).2 ≠ 0 then ((openA S x).1, (openA S x).2, [])
  else if (openB (openA S x).1 x).2 ≠ 0 then ((openB (openA S x).1 x).1, (openB (openA S x).1 x).2, [])
  else ((openB (openA S x).1 x).1, 0, (openR (openA S x).1 x).1)
/-- a book in memory -/
def BookAt (w : World) (b p : Nat) (x : ByteArray) (life : Nat) (dead : Bool) : Prop := Blk w b 66 #[.pointer (some ⟨p, 0, none⟩), .string x, .int .i64 life, .bool dead]
theorem readS_len {S : St} (h : S.Ok) (x : ByteArray) : (readS S x).1.length ≤ 4194304 := by
  unfold readS
  split
  · exact Nat.zero_le _
  split
  · exact Nat.zero_le _
  · rename_i t e
    exact (h.each t (at_mem e)).1
theorem readR_le (crc : List UInt8 → Nat) (s : List UInt8) : (readR crc s).2 ≤ s.length ∧ 8 * (readR crc s).1.length ≤ s.length := by
  have key : ∀ (f : Nat) (s : List UInt8), (readF crc f s).2 ≤ s.length ∧ 8 * (readF crc f s).1.length ≤ s.length := by
    intro f
    induction f with
    | zero => intro s; exact ⟨Nat.zero_le _, Nat.zero_le _⟩
    | succ f ih =>
      intro s
      cases hst : stepR crc s with
      | none => rw [readF_none _ _ hst]; exact ⟨Nat.zero_le _, Nat.zero_le _⟩
      | some z =>
        obtain ⟨rs, n⟩ := z
        rw [readF_some _ hst]
        have h1 := stepR_fits hst
        obtain ⟨h2, h3⟩ := ih (s.drop (8 + n))
        rw [List.length_drop] at h2 h3
        simp only [List.length_cons]
        omega
  exact key s.length s
theorem recordsR_few {s : List UInt8} {rs : List (List UInt8)} (h : recordsR s = some rs) : rs.length ≤ 64 := by
  unfold recordsR at h
  split at h
  · cases h
  rename_i hc
  simp only [not_or] at hc
  split at h
  · injection h with h
    subst h
    rw [textsR_len]; omega
  · cases h
theorem readR_few (crc : List UInt8 → Nat) (s : List UInt8) : ∀ rs ∈ (readR crc s).1, rs.length ≤ 64 := by
  have key : ∀ (f : Nat) (s : List UInt8), ∀ rs ∈ (readF crc f s).1, rs.length ≤ 64 := by
    intro f
    induction f with
    | zero => intro s rs h; cases h
    | succ f ih =>
      intro s
      cases hst : stepR crc s with
      | none => rw [readF_none _ _ hst]; intro rs h; cases h
      | some z =>
        obtain ⟨rs, n⟩ := z
        rw [readF_some _ hst]
        intro r hr
        rcases List.mem_cons.1 hr with rfl | hr
        · unfold stepR at hst
          simp only at hst
          split at hst
          · cases hst
          · rw [Option.map_eq_some_iff] at hst
            obtain ⟨a, ha, e⟩ := hst
            injection e with e1 e2
            subst e1
            exact recordsR_few ha
        · exact ih _ r hr
  exact key s.length s
theorem dropS_up {S : St} {x : ByteArray} (h : (dropS S x).2 = 0) : (dropS S x).1.down = false := by
  unfold dropS at h ⊢
  split at h
  · cases h
  rename_i hd
  rw [if_neg hd]
  have hdf : S.down = false := by cases e : S.down <;> simp_all
  split at h
  · cases h
  rename_i t ht
  simp only
  split at h
  · rename_i ha
    rw [if_pos ha]
    show (actS S).1.down = false
    unfold actS at ha ⊢
    split at ha
    · rename_i h0; rw [if_pos h0]; exact hdf
    · split at ha
      · cases ha
      · rename_i h0 h1; rw [if_neg h0, if_neg h1]; exact hdf
  · rename_i ha; exact absurd h ha
theorem openA_up {S : St} {x : ByteArray} (hd : S.down = false) (h : (openA S x).2 = 0) : (openA S x).1.down = false := by
  unfold openA at h ⊢
  split at h
  · rename_i hc; rw [if_pos hc]; exact dropS_up h
  · rename_i hc; rw [if_neg hc]; exact hd
theorem readS_err {S : St} (hd : S.down = false) (x : ByteArray) : (readS S x).2 = 0 ∨ (readS S x).2 = 12 := by
  unfold readS
  rw [if_neg (by rw [hd]; simp)]
  split
  · exact .inr rfl
  · exact .inl rfl
theorem openA_near (S : St) (x : ByteArray) : Near S (openA S x).1 := by unfold openA; split; exact drop_near _ _; exact Near.refl S
theorem openB_near (S : St) (x : ByteArray) : Near S (openB S x).1 := by unfold openB; split; exact cut_near _ _ _; exact Near.refl S
/-- what Open answers -/
def OpenPost (K : Nat → Prop) (w : World) (p : Nat) (S : St) (x : ByteArray) (e : Ending) (w' : World) : Prop :=
  ((openS S x).2.1 = 0 ∧ ∃ b a c G, e = .returned (.tuple #[.pointer (some ⟨b, 0, none⟩), .slice a (openS S x).2.2.length c, .int .i64 0]) ∧ DK (fun k => K k ∨ G k) w' p (openS S x).1 ∧ BookAt w' b p x (openS S x).1.life false ∧ G b
      ∧ GridIn G w' a (openS S x).2.2.length (grid (openS S x).2.2) ∧ (∀ k, G k → w.heap.size ≤ k ∧ k < w'.heap.size))
  ∨ ((openS S x).2.1 ≠ 0 ∧ e = .returned (.tuple #[.pointer none, .slice none 0 0, .int .i64 (openS S x).2.1]) ∧ DK K w' p (openS S x).1)
theorem open_nil (x : ByteArray) (w : World) : Calls Tryz.prog 7 #[.pointer none, .string x] w fun e w' => e = .returned (.tuple #[.pointer none, .slice none 0 0, .int .i64 2]) ∧ w = w' := by
  go_enter Tryz.func7, Tryz.ntmps7
  go_wp2
  go_ret3
  exact ⟨rfl, rfl⟩
theorem open_fin {K : Nat → Prop} {p : Nat} {A C : St} {x : ByteArray} {a : Option Addr} {c : Nat} {R : List (List (List UInt8))} {w w1 w2 w3 : World} (h1 : DK K w1 p A) (L1 : Only (fun k => ¬ K k) w w1) (hb2 : Below w1.heap.size w1 w2) (hrow : DeedRow w2 w1.heap.size (.slice a R.length c) R)
    (hm : R.length ≤ 9223372036854775807) (hm2 : ∀ rs ∈ R, rs.length ≤ 9223372036854775807) (h3 : DK (fun k => K k ∨ (w1.heap.size ≤ k ∧ k < w2.heap.size)) w3 p C) (L3 : Only (fun k => ¬ (K k ∨ (w1.heap.size ≤ k ∧ k < w2.heap.size))) w2 w3) :
    (∃ G, DK (fun k => K k ∨ G k) (w3.alloc (.cells #[.pointer (some ⟨p, 0, none⟩), .string x, .int .i64 C.life, .bool false] 66)) p C ∧ BookAt (w3.alloc (.cells #[.pointer (some ⟨p, 0, none⟩), .string x, .int .i64 C.life, .bool false] 66)) w3.heap.size p x C.life false ∧ G w3.heap.size
      ∧ GridIn G (w3.alloc (.cells #[.pointer (some ⟨p, 0, none⟩), .string x, .int .i64 C.life, .bool false] 66)) a R.length (grid R) ∧ (∀ k, G k → w.heap.size ≤ k ∧ k < (w3.alloc (.cells #[.pointer (some ⟨p, 0, none⟩), .string x, .int .i64 C.life, .bool false] 66)).heap.size)) ∧ Only (fun k => ¬ K k) w (w3.alloc (.cells #[.pointer (some ⟨p, 0, none⟩), .string x, .int .i64 C.life, .bool false] 66)) := by
  have hs1 := L1.size
  have hs2 := hb2.size
  have hs3 := L3.size
  have hal : ∀ o, (w3.alloc o).heap.size = w3.heap.size + 1 := fun o => by simp
  have hba : ∀ o, Below w3.heap.size w3 (w3.alloc o) := fun o => (Below.refl _ _).alloc (Nat.le_refl _) _
  refine ⟨⟨fun k => (w1.heap.size ≤ k ∧ k < w2.heap.size) ∨ k = w3.heap.size, ?_, Blk.new _ _ _, .inr rfl, ?_, fun k hk => ?_⟩, ?_⟩
  · refine (h3.more (G := fun k => k = w3.heap.size) (hba _) (fun k e => ⟨Nat.le_of_eq e.symm, by rw [hal, e]; omega⟩)).less (fun k hk => ?_)
    rcases hk with hk | hk | hk
    · exact .inl (.inl hk)
    · exact .inl (.inr hk)
    · exact .inr hk
  · refine (((gridIn_of_row hrow hm hm2).only L3 (fun k hk hn => hn (.inr hk))).only (Only.of_below (hba _) NoF) (fun _ _ e => e)).mono (fun k hk => .inl hk)
  · rw [hal]
    rcases hk with hk | hk <;> omega
  · refine (L1.trans (Only.of_below hb2 NoF) (fun _ e => e.elim)).trans ((L3.alloc _).mono (fun k hk e => hk (.inl e))) (fun k hk => .inl hk)
set_option maxRecDepth 100000 in
set_option maxHeartbeats 8000000 in
theorem open_K (K : Nat → Prop) (p : Nat) (S : St) (x : ByteArray) (w : World) (n : Nat) (hf : S.Fits n) (hn : n + 2 < big) (h : DK K w p S) (hx : x.size ≤ 1000) :
    Calls Tryz.prog 7 #[.pointer (some ⟨p, 0, none⟩), .string x] w fun e w' => OpenPost K w p S x e w' ∧ Only (fun k => ¬ K k) w w' := by
  have hok := h.ok
  have HDOWN := hid (down_K h)
  have HH := hid h
  by_cases hd : S.down = true
  · have e : openS S x = (S, 10, []) := by unfold openS; rw [if_pos hd]
    unfold OpenPost
    rw [e]
    rw [hd] at HDOWN
    clear h hd e
    go_enter Tryz.func7, Tryz.ntmps7
    go_wp2_with (go_at_call 33; refine HDOWN.out.mono ?_; rintro e w' ⟨rfl, rfl⟩)
    go_ret3
    exact ⟨.inr ⟨by decide, rfl, HH.out⟩, Only.refl _ _⟩
  have hdf : S.down = false := by cases e : S.down <;> simp_all
  rw [hdf] at HDOWN
  by_cases hname : x.size = 0 ∨ 31 < x.size
  · have e : openS S x = (S, 1, []) := by unfold openS; rw [if_neg hd, if_pos hname]
    unfold OpenPost
    rw [e]
    by_cases h0 : x.size = 0
    · have hx0 : x = ⟨#[]⟩ := ByteArray.ext (Array.eq_empty_of_size_eq_zero h0)
      subst hx0
      clear h hd hdf e hname hok h0
      go_enter Tryz.func7, Tryz.ntmps7
      go_wp2_with (go_at_call 33; refine HDOWN.out.mono ?_; rintro e w' ⟨rfl, rfl⟩)
      go_ret3
      exact ⟨.inr ⟨by decide, rfl, HH.out⟩, Only.refl _ _⟩
    · have g := bstr_isEmpty h0
      have g2 : (31 : Int) < x.size := by omega
      clear h hd hdf e hname hok h0
      go_enter Tryz.func7, Tryz.ntmps7
      go_wp2_with (go_at_call 33; refine HDOWN.out.mono ?_; rintro e w' ⟨rfl, rfl⟩)
      go_ret3
      exact ⟨.inr ⟨by decide, rfl, HH.out⟩, Only.refl _ _⟩
  have g1 : x.toList.isEmpty = false := bstr_isEmpty (by omega)
  have g2 : ¬ (31 : Int) < x.size := by omega
  have HSP : Hid (∀ w, Calls Tryz.prog 35 #[.string x] w fun e w' => e = .returned (.string (tilde x)) ∧ w = w') := fun w => spare_any x w hx
  have HSIZE := hid (size_K (tilde x) h)
  have HDROP := hid (drop_K n (tilde x) h hf (by omega))
  obtain ⟨A, hA⟩ : ∃ A, openA S x = A := ⟨_, rfl⟩
  have hup : A.2 = 0 → A.1.down = false := fun e => by rw [← hA] at e ⊢; exact openA_up hdf e
  have hfA : A.1.Fits (n + 1) := by rw [← hA]; exact (openA_near S x).fits hf
  have HPOST : Hid (openS S x = if A.2 ≠ 0 then (A.1, A.2, []) else if (openB A.1 x).2 ≠ 0 then ((openB A.1 x).1, (openB A.1 x).2, []) else ((openB A.1 x).1, 0, (openR A.1 x).1)) := by
    show openS S x = _
    unfold openS
    rw [if_neg hd, if_neg hname, hA]
  unfold OpenPost
  obtain ⟨O, hO⟩ : ∃ O, openS S x = O := ⟨_, rfl⟩
  rw [hO] at HPOST ⊢
  have hAdef : A = if 0 ≤ sizeS S (tilde x) then dropS S (tilde x) else (S, 0) := by rw [← hA]; rfl
  obtain ⟨z, hz⟩ : ∃ z, sizeS S (tilde x) = z := ⟨_, rfl⟩
  rw [hz] at HSIZE hAdef
  obtain ⟨y, hy⟩ : ∃ y, tilde x = y := ⟨_, rfl⟩
  rw [hy] at HSP HSIZE HDROP hAdef
  clear hA hO hz hy hname hd hdf HH
  by_cases hz0 : 0 ≤ z
  · rw [if_pos hz0] at hAdef
    rw [← hAdef] at HDROP
    clear hAdef
    obtain ⟨A1, A2⟩ := A
    by_cases hA2 : A2 = 0
    · subst hA2
      simp only at HDROP hfA HPOST hup
      have hpo : O = if (openB A1 x).2 ≠ 0 then ((openB A1 x).1, (openB A1 x).2, []) else ((openB A1 x).1, 0, (openR A1 x).1) := by rw [HPOST.out]; simp
      have hre := readS_err (hup (by first | rfl | trivial)) x
      have HREAD : Hid (∀ w', DK K w' p A1 → Calls Tryz.prog 29 #[.pointer (some ⟨p, 0, none⟩), .string x] w' fun e w'' => e = .returned (.tuple #[.string (bx (readS A1 x).1), .int .i64 (readS A1 x).2]) ∧ w' = w'') := fun w' h => read_K x h
      obtain ⟨re, hred⟩ : ∃ re, (readS A1 x).2 = re := ⟨_, rfl⟩
      rw [hred] at hre HREAD
      obtain ⟨R, hR⟩ : ∃ R, openR A1 x = R := ⟨_, rfl⟩
      have hRr : readR crcP (readS A1 x).1 = R := hR
      obtain ⟨hRle, hRl⟩ := readR_le crcP (readS A1 x).1
      have hRf := readR_few crcP (readS A1 x).1
      rw [hRr] at hRle hRl hRf
      have hlen : ∀ w', DK K w' p A1 → (readS A1 x).1.length ≤ 4194304 := fun w' h => readS_len h.ok x
      have hB : openB A1 x = if R.2 < (readS A1 x).1.length then cutS A1 x R.2 else (A1, 0) := by unfold openB; rw [hR]
      rw [hR] at hpo
      obtain ⟨s, hs⟩ : ∃ s, (readS A1 x).1 = s := ⟨_, rfl⟩
      rw [hs] at HREAD hRr hRle hRl hlen hB
      have HRB : Hid (∀ w', DK K w' p A1 → Calls Tryz.prog 37 #[.string (bx s)] w' fun e w'' => (∃ a c, e = .returned (.tuple #[.slice a R.1.length c, .int .i64 R.2]) ∧ DeedRow w'' w'.heap.size (.slice a R.1.length c) R.1) ∧ Below w'.heap.size w' w'') := fun w' h => by
        have := read_book s w' (by have := hlen w' h; omega); rwa [hRr] at this
      have HB1 : Hid (∀ w', DK K w' p A1 → R.1.length ≤ 9223372036854775807) := fun w' h => by have := hlen w' h; omega
      have HB2 : Hid (∀ rs ∈ R.1, rs.length ≤ 9223372036854775807) := fun rs h => by have := hRf rs h; omega
      have HCUT : Hid (∀ w1 w2, DK K w1 p A1 → Below w1.heap.size w1 w2 → Calls Tryz.prog 38 #[.pointer (some ⟨p, 0, none⟩), .string x, .int .i64 R.2] w2 fun e w' => e = .returned (.int .i64 (cutS A1 x R.2).2) ∧ DK (fun k => K k ∨ (w1.heap.size ≤ k ∧ k < w2.heap.size)) w' p (cutS A1 x R.2).1 ∧ Only (fun k => ¬ (K k ∨ (w1.heap.size ≤ k ∧ k < w2.heap.size))) w2 w') := fun w1 w2 h hb =>
        cut_K (n + 1) x R.2 (h.more hb (fun k e => e)) hfA (by omega) (by omega) (by have := hlen w1 h; omega)
      obtain ⟨y2, hy2⟩ : ∃ y2, bx s = y2 := ⟨_, rfl⟩
      have hys2 : y2.size = s.length := by rw [← hy2, bx_size]
      rw [hy2] at HREAD HRB
      clear hR hRr hs hred hy2 hlen hRl hRf hok hf hfA hup HPOST
      clear h
      by_cases hc : R.2 < s.length
      · rw [if_pos hc] at hB
        have g3 : (R.2 : Int) < y2.size := by omega
        rw [hB] at hpo
        clear hB hc hRle hys2
        obtain ⟨C, hC⟩ : ∃ C, cutS A1 x R.2 = C := ⟨_, rfl⟩
        rw [hC] at HCUT hpo
        clear hC
        obtain ⟨C1, C2⟩ := C
        obtain ⟨R1, R2⟩ := R
        simp only at HCUT hpo g3 HRB HB1 HB2
        by_cases hC2 : C2 = 0
        · subst hC2
          rw [if_neg (by simp)] at hpo
          subst hpo
          rcases hre with rfl | rfl <;> (
            go_enter Tryz.func7, Tryz.ntmps7
            go_wp2_with (first
                    | (go_at_call 33; refine HDOWN.out.mono ?_; rintro e w' ⟨rfl, rfl⟩)
                    | (go_at_call 35; refine (HSP.out _).mono ?_; rintro e w' ⟨rfl, rfl⟩)
                    | (go_at_call 34; refine HSIZE.out.mono ?_; rintro e w' ⟨rfl, rfl⟩)
                    | (go_at_call 36; refine HDROP.out.mono ?_; rintro e w1 ⟨rfl, hs1, hs2⟩; have H1 : Hid (DK K w1 p A1) := hs1; have L1 := hid hs2; clear hs1 hs2)
                    | (go_at_call 29; refine (HREAD.out _ H1.out).mono ?_; rintro e w' ⟨rfl, rfl⟩)
                    | (go_at_call 37; refine (HRB.out _ H1.out).mono ?_; rintro e w2 ⟨⟨a, c, rfl, hs1⟩, hs2⟩; have HD2 := hid hs1; have L2 := hid hs2; clear hs1 hs2)
                    | (go_at_call 38; refine (HCUT.out _ _ H1.out L2.out).mono ?_; rintro e w3 ⟨rfl, hs1, hs2⟩; have H3 : Hid (DK _ w3 p C1) := hs1; have L3 := hid hs2; clear hs1 hs2)
                    | (go_at_call 39; refine (life_K H3.out).mono ?_; rintro e w' ⟨rfl, rfl⟩))
            go_ret3
            obtain ⟨⟨G, hG1, hG2, hG3, hG4, hG5⟩, hGo⟩ := open_fin (x := x) H1.out L1.out L2.out HD2.out (HB1.out _ H1.out) HB2.out H3.out L3.out
            exact ⟨.inl ⟨by first | rfl | trivial, _, a, c, G, rfl, hG1, hG2, hG3, hG4, hG5⟩, hGo⟩)
        · rw [if_pos hC2] at hpo
          subst hpo
          have HNE : Hid (C2 ≠ 0) := hC2
          have g4 : (C2 == 0) = false := by rw [beq_eq_false_iff_ne]; exact hC2
          have g5 : ¬ C2 = 0 := hC2
          rcases hre with rfl | rfl <;> (
            go_enter Tryz.func7, Tryz.ntmps7
            go_wp2_with (first
                    | (go_at_call 33; refine HDOWN.out.mono ?_; rintro e w' ⟨rfl, rfl⟩)
                    | (go_at_call 35; refine (HSP.out _).mono ?_; rintro e w' ⟨rfl, rfl⟩)
                    | (go_at_call 34; refine HSIZE.out.mono ?_; rintro e w' ⟨rfl, rfl⟩)
                    | (go_at_call 36; refine HDROP.out.mono ?_; rintro e w1 ⟨rfl, hs1, hs2⟩; have H1 : Hid (DK K w1 p A1) := hs1; have L1 := hid hs2; clear hs1 hs2)
                    | (go_at_call 29; refine (HREAD.out _ H1.out).mono ?_; rintro e w' ⟨rfl, rfl⟩)
                    | (go_at_call 37; refine (HRB.out _ H1.out).mono ?_; rintro e w2 ⟨⟨a, c, rfl, hs1⟩, hs2⟩; have HD2 := hid hs1; have L2 := hid hs2; clear hs1 hs2)
                    | (go_at_call 38; refine (HCUT.out _ _ H1.out L2.out).mono ?_; rintro e w3 ⟨rfl, hs1, hs2⟩; have H3 : Hid (DK _ w3 p C1) := hs1; have L3 := hid hs2; clear hs1 hs2))
            go_ret3
            exact ⟨.inr ⟨HNE.out, rfl, H3.out.less (fun k hk => .inl hk)⟩, (L1.out.trans (Only.of_below L2.out NoF) (fun _ e => e.elim)).trans (L3.out.mono (fun k hk e => hk (.inl e))) (fun k hk => .inl hk)⟩)
      · rw [if_neg hc] at hB
        rw [hB, if_neg (by simp)] at hpo
        have g3 : ¬ (R.2 : Int) < y2.size := by omega
        subst hpo
        clear hB hc hRle hys2
        obtain ⟨R1, R2⟩ := R
        simp only at g3 HRB HB1 HB2
        rcases hre with rfl | rfl <;> (
          go_enter Tryz.func7, Tryz.ntmps7
          go_wp2_with (first
                  | (go_at_call 33; refine HDOWN.out.mono ?_; rintro e w' ⟨rfl, rfl⟩)
                  | (go_at_call 35; refine (HSP.out _).mono ?_; rintro e w' ⟨rfl, rfl⟩)
                  | (go_at_call 34; refine HSIZE.out.mono ?_; rintro e w' ⟨rfl, rfl⟩)
                  | (go_at_call 36; refine HDROP.out.mono ?_; rintro e w1 ⟨rfl, hs1, hs2⟩; have H1 : Hid (DK K w1 p A1) := hs1; have L1 := hid hs2; clear hs1 hs2)
                  | (go_at_call 29; refine (HREAD.out _ H1.out).mono ?_; rintro e w' ⟨rfl, rfl⟩)
                  | (go_at_call 37; refine (HRB.out _ H1.out).mono ?_; rintro e w2 ⟨⟨a, c, rfl, hs1⟩, hs2⟩; have HD2 := hid hs1; have L2 := hid hs2; clear hs1 hs2)
                  | (go_at_call 39; refine (life_K (H1.out.below L2.out)).mono ?_; rintro e w' ⟨rfl, rfl⟩))
          go_ret3
          obtain ⟨⟨G, hG1, hG2, hG3, hG4, hG5⟩, hGo⟩ := open_fin (x := x) H1.out L1.out L2.out HD2.out (HB1.out _ H1.out) HB2.out (H1.out.more L2.out (fun k e => e)) (Only.refl _ _)
          exact ⟨.inl ⟨by first | rfl | trivial, _, a, c, G, rfl, hG1, hG2, hG3, hG4, hG5⟩, hGo⟩)
    · have hO : O = (A1, A2, []) := by rw [HPOST.out, if_pos hA2]
      subst hO
      have HNE : Hid (A2 ≠ 0) := hA2
      simp only at HDROP hA2 ⊢
      have g3 : (A2 == 0) = false := by rw [beq_eq_false_iff_ne]; exact hA2
      have g4 : ¬ A2 = 0 := hA2
      clear h hf hup hfA HPOST hok hA2
      go_enter Tryz.func7, Tryz.ntmps7
      go_wp2_with (first
              | (go_at_call 33; refine HDOWN.out.mono ?_; rintro e w' ⟨rfl, rfl⟩)
              | (go_at_call 35; refine (HSP.out _).mono ?_; rintro e w' ⟨rfl, rfl⟩)
              | (go_at_call 34; refine HSIZE.out.mono ?_; rintro e w' ⟨rfl, rfl⟩)
              | (go_at_call 36; refine HDROP.out.mono ?_; rintro e w1 ⟨rfl, hs1, hs2⟩; have H1 : Hid (DK K w1 p A1) := hs1; have L1 := hid hs2; clear hs1 hs2))
      go_ret3
      exact ⟨.inr ⟨HNE.out, rfl, H1.out⟩, L1.out⟩
  · rw [if_neg hz0] at hAdef
    subst hAdef
    have H1 := hid h
    have L1 : Hid (Only (fun k => ¬ K k) w w) := Only.refl _ _
    simp only at hfA HPOST hup
    have hpo : O = if (openB S x).2 ≠ 0 then ((openB S x).1, (openB S x).2, []) else ((openB S x).1, 0, (openR S x).1) := by rw [HPOST.out]; simp
    have hre := readS_err (hup (by first | rfl | trivial)) x
    have HREAD : Hid (∀ w', DK K w' p S → Calls Tryz.prog 29 #[.pointer (some ⟨p, 0, none⟩), .string x] w' fun e w'' => e = .returned (.tuple #[.string (bx (readS S x).1), .int .i64 (readS S x).2]) ∧ w' = w'') := fun w' h => read_K x h
    obtain ⟨re, hred⟩ : ∃ re, (readS S x).2 = re := ⟨_, rfl⟩
    rw [hred] at hre HREAD
    obtain ⟨R, hR⟩ : ∃ R, openR S x = R := ⟨_, rfl⟩
    have hRr : readR crcP (readS S x).1 = R := hR
    obtain ⟨hRle, hRl⟩ := readR_le crcP (readS S x).1
    have hRf := readR_few crcP (readS S x).1
    rw [hRr] at hRle hRl hRf
    have hlen : ∀ w', DK K w' p S → (readS S x).1.length ≤ 4194304 := fun w' h => readS_len h.ok x
    have hB : openB S x = if R.2 < (readS S x).1.length then cutS S x R.2 else (S, 0) := by unfold openB; rw [hR]
    rw [hR] at hpo
    obtain ⟨s, hs⟩ : ∃ s, (readS S x).1 = s := ⟨_, rfl⟩
    rw [hs] at HREAD hRr hRle hRl hlen hB
    have HRB : Hid (∀ w', DK K w' p S → Calls Tryz.prog 37 #[.string (bx s)] w' fun e w'' => (∃ a c, e = .returned (.tuple #[.slice a R.1.length c, .int .i64 R.2]) ∧ DeedRow w'' w'.heap.size (.slice a R.1.length c) R.1) ∧ Below w'.heap.size w' w'') := fun w' h => by
      have := read_book s w' (by have := hlen w' h; omega); rwa [hRr] at this
    have HB1 : Hid (∀ w', DK K w' p S → R.1.length ≤ 9223372036854775807) := fun w' h => by have := hlen w' h; omega
    have HB2 : Hid (∀ rs ∈ R.1, rs.length ≤ 9223372036854775807) := fun rs h => by have := hRf rs h; omega
    have HCUT : Hid (∀ w1 w2, DK K w1 p S → Below w1.heap.size w1 w2 → Calls Tryz.prog 38 #[.pointer (some ⟨p, 0, none⟩), .string x, .int .i64 R.2] w2 fun e w' => e = .returned (.int .i64 (cutS S x R.2).2) ∧ DK (fun k => K k ∨ (w1.heap.size ≤ k ∧ k < w2.heap.size)) w' p (cutS S x R.2).1 ∧ Only (fun k => ¬ (K k ∨ (w1.heap.size ≤ k ∧ k < w2.heap.size))) w2 w') := fun w1 w2 h hb =>
      cut_K (n + 1) x R.2 (h.more hb (fun k e => e)) hfA (by omega) (by omega) (by have := hlen w1 h; omega)
    obtain ⟨y2, hy2⟩ : ∃ y2, bx s = y2 := ⟨_, rfl⟩
    have hys2 : y2.size = s.length := by rw [← hy2, bx_size]
    rw [hy2] at HREAD HRB
    clear hR hRr hs hred hy2 hlen hRl hRf hok hf hfA hup HPOST
    clear h
    by_cases hc : R.2 < s.length
    · rw [if_pos hc] at hB
      have g3 : (R.2 : Int) < y2.size := by omega
      rw [hB] at hpo
      clear hB hc hRle hys2
      obtain ⟨C, hC⟩ : ∃ C, cutS S x R.2 = C := ⟨_, rfl⟩
      rw [hC] at HCUT hpo
      clear hC
      obtain ⟨C1, C2⟩ := C
      obtain ⟨R1, R2⟩ := R
      simp only at HCUT hpo g3 HRB HB1 HB2
      by_cases hC2 : C2 = 0
      · subst hC2
        rw [if_neg (by simp)] at hpo
        subst hpo
        rcases hre with rfl | rfl <;> (
          go_enter Tryz.func7, Tryz.ntmps7
          go_wp2_with (first
                  | (go_at_call 33; refine HDOWN.out.mono ?_; rintro e w' ⟨rfl, rfl⟩)
                  | (go_at_call 35; refine (HSP.out _).mono ?_; rintro e w' ⟨rfl, rfl⟩)
                  | (go_at_call 34; refine HSIZE.out.mono ?_; rintro e w' ⟨rfl, rfl⟩)
                  | (go_at_call 29; refine (HREAD.out _ H1.out).mono ?_; rintro e w' ⟨rfl, rfl⟩)
                  | (go_at_call 37; refine (HRB.out _ H1.out).mono ?_; rintro e w2 ⟨⟨a, c, rfl, hs1⟩, hs2⟩; have HD2 := hid hs1; have L2 := hid hs2; clear hs1 hs2)
                  | (go_at_call 38; refine (HCUT.out _ _ H1.out L2.out).mono ?_; rintro e w3 ⟨rfl, hs1, hs2⟩; have H3 : Hid (DK _ w3 p C1) := hs1; have L3 := hid hs2; clear hs1 hs2)
                  | (go_at_call 39; refine (life_K H3.out).mono ?_; rintro e w' ⟨rfl, rfl⟩))
          go_ret3
          obtain ⟨⟨G, hG1, hG2, hG3, hG4, hG5⟩, hGo⟩ := open_fin (x := x) H1.out L1.out L2.out HD2.out (HB1.out _ H1.out) HB2.out H3.out L3.out
          exact ⟨.inl ⟨by first | rfl | trivial, _, a, c, G, rfl, hG1, hG2, hG3, hG4, hG5⟩, hGo⟩)
      · rw [if_pos hC2] at hpo
        subst hpo
        have HNE : Hid (C2 ≠ 0) := hC2
        have g4 : (C2 == 0) = false := by rw [beq_eq_false_iff_ne]; exact hC2
        have g5 : ¬ C2 = 0 := hC2
        rcases hre with rfl | rfl <;> (
          go_enter Tryz.func7, Tryz.ntmps7
          go_wp2_with (first
                  | (go_at_call 33; refine HDOWN.out.mono ?_; rintro e w' ⟨rfl, rfl⟩)
                  | (go_at_call 35; refine (HSP.out _).mono ?_; rintro e w' ⟨rfl, rfl⟩)
                  | (go_at_call 34; refine HSIZE.out.mono ?_; rintro e w' ⟨rfl, rfl⟩)
                  | (go_at_call 29; refine (HREAD.out _ H1.out).mono ?_; rintro e w' ⟨rfl, rfl⟩)
                  | (go_at_call 37; refine (HRB.out _ H1.out).mono ?_; rintro e w2 ⟨⟨a, c, rfl, hs1⟩, hs2⟩; have HD2 := hid hs1; have L2 := hid hs2; clear hs1 hs2)
                  | (go_at_call 38; refine (HCUT.out _ _ H1.out L2.out).mono ?_; rintro e w3 ⟨rfl, hs1, hs2⟩; have H3 : Hid (DK _ w3 p C1) := hs1; have L3 := hid hs2; clear hs1 hs2))
          go_ret3
          exact ⟨.inr ⟨HNE.out, rfl, H3.out.less (fun k hk => .inl hk)⟩, (L1.out.trans (Only.of_below L2.out NoF) (fun _ e => e.elim)).trans (L3.out.mono (fun k hk e => hk (.inl e))) (fun k hk => .inl hk)⟩)
    · rw [if_neg hc] at hB
      rw [hB, if_neg (by simp)] at hpo
      have g3 : ¬ (R.2 : Int) < y2.size := by omega
      subst hpo
      clear hB hc hRle hys2
      obtain ⟨R1, R2⟩ := R
      simp only at g3 HRB HB1 HB2
      rcases hre with rfl | rfl <;> (
        go_enter Tryz.func7, Tryz.ntmps7
        go_wp2_with (first
                | (go_at_call 33; refine HDOWN.out.mono ?_; rintro e w' ⟨rfl, rfl⟩)
                | (go_at_call 35; refine (HSP.out _).mono ?_; rintro e w' ⟨rfl, rfl⟩)
                | (go_at_call 34; refine HSIZE.out.mono ?_; rintro e w' ⟨rfl, rfl⟩)
                | (go_at_call 29; refine (HREAD.out _ H1.out).mono ?_; rintro e w' ⟨rfl, rfl⟩)
                | (go_at_call 37; refine (HRB.out _ H1.out).mono ?_; rintro e w2 ⟨⟨a, c, rfl, hs1⟩, hs2⟩; have HD2 := hid hs1; have L2 := hid hs2; clear hs1 hs2)
                | (go_at_call 39; refine (life_K (H1.out.below L2.out)).mono ?_; rintro e w' ⟨rfl, rfl⟩))
        go_ret3
        obtain ⟨⟨G, hG1, hG2, hG3, hG4, hG5⟩, hGo⟩ := open_fin (x := x) H1.out L1.out L2.out HD2.out (HB1.out _ H1.out) HB2.out (H1.out.more L2.out (fun k e => e)) (Only.refl _ _)
        exact ⟨.inl ⟨by first | rfl | trivial, _, a, c, G, rfl, hG1, hG2, hG3, hG4, hG5⟩, hGo⟩)
end Go.Proofs.YtnhgfhbicaiilaaGreat
/- The bytes of a transaction, if it can be laid down. -/
namespace Go.Proofs.YtnhgfhbicaiilaaGreat
open Go.RowKit Book Reel
set_option linter.unusedVariables false

def readyS (S : St) (life : Nat) (dead : Bool) (rs : List (List UInt8)) : List UInt8 × Int :=
  (frameL crcP (bodyE rs).1, if (bodyE rs).2 = 0 ∧ (dead = true ∨ S.down = true ∨ S.life ≠ life) then 10 else (bodyE rs).2)
theorem BookAt.cells {w : World} {b p : Nat} {x : ByteArray} {life : Nat} {dead : Bool} (h : BookAt w b p x life dead) : w.cell? ⟨b, 0, none⟩ = some (.pointer (some ⟨p, 0, none⟩)) ∧ w.cell? ⟨b, 1, none⟩ = some (.string x) ∧ w.cell? ⟨b, 2, none⟩ = some (.int .i64 life) ∧ w.cell? ⟨b, 3, none⟩ = some (.bool dead) :=
  ⟨Blk.cell h 0, Blk.cell h 1, Blk.cell h 2, Blk.cell h 3⟩
theorem bodyE_len (rs : List (List UInt8)) : (bodyE rs).1.length ≤ 1048576 := by
  unfold bodyE
  split
  · simp
  split
  · simp
  split
  · simp
  split
  · simp
  · simp only; omega
theorem bready_nil (v : Value) (w : World) : Calls Tryz.prog 45 #[.pointer none, v] w fun e w' => e = .returned (.tuple #[.string ⟨#[]⟩, .int .i64 2]) ∧ w = w' := by
  go_enter Tryz.func45, Tryz.ntmps45
  go_wp2
  go_ret2
  exact ⟨rfl, rfl⟩
set_option maxRecDepth 100000 in
set_option maxHeartbeats 4000000 in
theorem bready_K (K : Nat → Prop) (b p : Nat) (S : St) (x : ByteArray) (life : Nat) (dead : Bool) (a : Option Addr) (n c : Nat) (rs : List ByteArray) (w : World) (hl : S.life ≤ 9223372036854775807) (hl2 : life ≤ 9223372036854775807) (h : DK K w p S) (hb : BookAt w b p x life dead) (hS : StrsAt w a n rs) (hsz : ∀ x ∈ rs, x.size ≤ 9223372036854775807) :
    Calls Tryz.prog 45 #[.pointer (some ⟨b, 0, none⟩), .slice a n c] w fun e w' => e = .returned (.tuple #[.string (bx (readyS S life dead (lists rs)).1), .int .i64 (readyS S life dead (lists rs)).2]) ∧ Below w.heap.size w w' := by
  have HBODY := hid (body_any a n c rs w hS hsz)
  obtain ⟨E, hE⟩ : ∃ E, bodyE (lists rs) = E := ⟨_, rfl⟩
  have hEl : E.1.length ≤ 1048576 := by rw [← hE]; exact bodyE_len _
  have HR : Hid (readyS S life dead (lists rs) = (frameL crcP E.1, if E.2 = 0 ∧ (dead = true ∨ S.down = true ∨ S.life ≠ life) then 10 else E.2)) := by show _ = _; unfold readyS; rw [hE]
  obtain ⟨R, hR⟩ : ∃ R, readyS S life dead (lists rs) = R := ⟨_, rfl⟩
  rw [hR] at HR ⊢
  rw [hE] at HBODY
  obtain ⟨E1, E2⟩ := E
  obtain ⟨y, hy⟩ : ∃ y, bx E1 = y := ⟨_, rfl⟩
  obtain ⟨f, hf⟩ : ∃ f, bx (frameL crcP E1) = f := ⟨_, rfl⟩
  have HFR : Hid (∀ w', Calls Tryz.prog 91 #[.string y] w' fun e w'' => e = .returned (.string f) ∧ Below w'.heap.size w' w'') := fun w' => by
    have h1 := framed_any E1 w' (Nat.le_trans hEl (by omega)); rwa [hy, hf] at h1
  simp only at HBODY HR
  rw [hy] at HBODY
  have HD : Hid (∀ w', Below w.heap.size w w' → Calls Tryz.prog 33 #[.pointer (some ⟨p, 0, none⟩)] w' fun e w'' => e = .returned (.bool S.down) ∧ w' = w'') := fun w' hb => down_K (h.below hb)
  have HL : Hid (∀ w', Below w.heap.size w w' → Calls Tryz.prog 39 #[.pointer (some ⟨p, 0, none⟩)] w' fun e w'' => e = .returned (.int .i64 S.life) ∧ w' = w'') := fun w' hb => life_K (h.below hb)
  have HC : Hid (∀ w', Below w.heap.size w w' → w'.cell? ⟨b, 0, none⟩ = some (.pointer (some ⟨p, 0, none⟩)) ∧ w'.cell? ⟨b, 2, none⟩ = some (.int .i64 life) ∧ w'.cell? ⟨b, 3, none⟩ = some (.bool dead)) := fun w' hbl => by
    obtain ⟨c0, c1, c2, c3⟩ := hb.cells
    have up : ∀ {q : Addr} {v : Value}, w.cell? q = some v → w'.cell? q = some v := fun hq => (World.cell?_of_block (hbl.block _ (World.block_lt_of_cell? _ _ hq))).trans hq
    exact ⟨up c0, up c2, up c3⟩
  obtain ⟨dn, hdn⟩ : ∃ dn, S.down = dn := ⟨_, rfl⟩
  obtain ⟨lf, hlf⟩ : ∃ lf, S.life = lf := ⟨_, rfl⟩
  rw [hdn] at HD HR; rw [hlf] at HL HR
  have HY := hid hf
  clear h hb hS hsz hE hEl hR hy hf hdn hlf hl
  have fin : ∀ (q : Int), R.2 = q → Hid (R = (frameL crcP E1, q)) := fun q hq => by show R = _; rw [HR.out] at hq ⊢; exact congrArg (Prod.mk _) hq
  by_cases hE0 : E2 = 0
  · subst hE0
    by_cases hbad : dead = true ∨ dn = true ∨ lf ≠ life
    · have HQ := fin 10 (by rw [HR.out]; exact if_pos ⟨rfl, hbad⟩)
      have g : dead = true ∨ dead = false ∧ dn = true ∨ dead = false ∧ dn = false ∧ ((lf : Int) == (life : Int)) = false ∧ ¬ (lf : Int) = life := by
        cases dead
        · cases dn
          · right; right
            have : lf ≠ life := by rcases hbad with h | h | h; cases h; cases h; exact h
            refine ⟨rfl, rfl, ?_, by omega⟩
            rw [beq_eq_false_iff_ne]; omega
          · exact .inr (.inl ⟨rfl, rfl⟩)
        · exact .inl rfl
      clear hbad fin HR
      rcases g with rfl | ⟨rfl, rfl⟩ | ⟨rfl, rfl, g1, g2⟩ <;> (
        go_enter Tryz.func45, Tryz.ntmps45
        go_wp2_with (first
          | (go_at_call 90; refine HBODY.out.mono ?_; rintro e w1 ⟨rfl, hs⟩; obtain ⟨c0, c2, c3⟩ := HC.out _ hs; have L1 := hid hs; clear hs)
          )
        go_quiet (first
          | (go_at_call 33; exact Calls.quiet_of_same ((HD.out _ (below_drewN L1.out _)).mono fun _ _ h => ⟨h.1, h.2.symm⟩))
          | (go_at_call 39; exact Calls.quiet_of_same ((HL.out _ (below_drewN L1.out _)).mono fun _ _ h => ⟨h.1, h.2.symm⟩)))
        go_wp2_with (first
          | (go_at_call 91; refine (HFR.out _).mono ?_; rintro e w2 ⟨rfl, hs⟩; have L2 := hid (below_then (below_drewN L1.out _) hs); clear hs))
        go_ret2
        exact ⟨by rw [HQ.out, HY.out]; rfl, L2.out⟩)
    · have HQ := fin 0 (by rw [HR.out]; exact if_neg (fun h => hbad h.2))
      have hd0 : dead = false := by cases dead; rfl; exact absurd (.inl rfl) hbad
      have hn0 : dn = false := by cases dn; rfl; exact absurd (.inr (.inl rfl)) hbad
      have hl0 : lf = life := Decidable.by_contra fun h => hbad (.inr (.inr h))
      subst hd0 hn0 hl0
      clear hbad fin HR
      go_enter Tryz.func45, Tryz.ntmps45
      go_wp2_with (first
        | (go_at_call 90; refine HBODY.out.mono ?_; rintro e w1 ⟨rfl, hs⟩; obtain ⟨c0, c2, c3⟩ := HC.out _ hs; have L1 := hid hs; clear hs)
        )
      go_quiet (first
        | (go_at_call 33; exact Calls.quiet_of_same ((HD.out _ (below_drewN L1.out _)).mono fun _ _ h => ⟨h.1, h.2.symm⟩))
        | (go_at_call 39; exact Calls.quiet_of_same ((HL.out _ (below_drewN L1.out _)).mono fun _ _ h => ⟨h.1, h.2.symm⟩)))
      go_wp2_with (first
        | (go_at_call 91; refine (HFR.out _).mono ?_; rintro e w2 ⟨rfl, hs⟩; have L2 := hid (below_then (below_drewN L1.out _) hs); clear hs))
      go_ret2
      exact ⟨by rw [HQ.out, HY.out]; rfl, L2.out⟩
  · have HQ := fin E2 (by rw [HR.out]; exact if_neg (fun h => hE0 h.1))
    have g : (E2 == 0) = false := by rw [beq_eq_false_iff_ne]; exact hE0
    clear fin HR
    go_enter Tryz.func45, Tryz.ntmps45
    go_wp2_with (first
      | (go_at_call 90; refine HBODY.out.mono ?_; rintro e w1 ⟨rfl, hs⟩; obtain ⟨c0, c2, c3⟩ := HC.out _ hs; have L1 := hid hs; clear hs)
      )
    go_quiet (first
      | (go_at_call 33; exact Calls.quiet_of_same ((HD.out _ (below_drewN L1.out _)).mono fun _ _ h => ⟨h.1, h.2.symm⟩))
      | (go_at_call 39; exact Calls.quiet_of_same ((HL.out _ (below_drewN L1.out _)).mono fun _ _ h => ⟨h.1, h.2.symm⟩)))
    go_wp2_with (first
      | (go_at_call 91; refine (HFR.out _).mono ?_; rintro e w2 ⟨rfl, hs⟩; have L2 := hid (below_then (below_drewN L1.out _) hs); clear hs))
    go_ret2
    exact ⟨by rw [HQ.out, HY.out]; rfl, L2.out⟩
end Go.Proofs.YtnhgfhbicaiilaaGreat
/- The acts of Add and Renew: what their closures do. -/
namespace Go.Proofs.YtnhgfhbicaiilaaGreat
open Go.RowKit Book Reel
set_option linter.unusedVariables false

/-- a book that a closure holds -/
structure Caught (K : Nat → Prop) (w : World) (g b p : Nat) (x : ByteArray) (life : Nat) (dead : Bool) : Prop where
  at_ : w.cell? ⟨g, 0, none⟩ = some (.pointer (some ⟨b, 0, none⟩))
  book : BookAt w b p x life dead
  kg : K g
  kb : K b
section
variable {K : Nat → Prop} {w w' : World} {g h f b p : Nat} {x s t : ByteArray} {life : Nat} {dead : Bool} {S : St} {n : Nat}
theorem Caught.only (c : Caught K w g b p x life dead) (ho : Only (fun k => ¬ K k) w w') : Caught K w' g b p x life dead := ⟨ho.cell c.at_ (fun e => e c.kg), Blk.only c.book ho (fun e => e c.kb), c.kg, c.kb⟩
/-- a text that a closure holds -/
def Text1 (K : Nat → Prop) (w : World) (h : Nat) (s : ByteArray) : Prop := w.cell? ⟨h, 0, none⟩ = some (.string s) ∧ K h
theorem Text1.only (c : Text1 K w h s) (ho : Only (fun k => ¬ K k) w w') : Text1 K w' h s := ⟨ho.cell c.1 (fun e => e c.2), c.2⟩
set_option maxHeartbeats 1000000 in
theorem add1_any (hd : DK K w p S) (hf : S.Fits n) (hn : n < big) (c : Caught K w g b p x life dead) (hs : Text1 K w h s) (hx : x.size ≤ 9223372036854775807) (hss : s.size ≤ 140737488355328) :
    Calls Tryz.prog 47 #[.pointer (some ⟨g, 0, none⟩), .pointer (some ⟨h, 0, none⟩)] w fun e w' => e = .returned (.int .i64 (appendS S x s).2) ∧ DK K w' p (appendS S x s).1 ∧ Only (fun k => ¬ K k) w w' := by
  have HA : Hid (Calls Tryz.prog 23 #[.pointer (some ⟨p, 0, none⟩), .string x, .string s] w.drew fun e w' => e = .returned (.int .i64 (appendS S x s).2) ∧ Hid (DK K w' p (appendS S x s).1) ∧ Only (fun k => ¬ K k) w w') :=
    (append_K n x s (hd.only ((Only.refl NoF w).drew) (fun _ e => e.elim)) hf hn hx hss).mono fun e w' h => ⟨h.1, h.2.1, (Only.refl _ w).drew.then h.2.2⟩
  have HCELL : Hid (∀ w', Only (fun k => ¬ K k) w w' → w'.cell? ⟨g, 0, none⟩ = some (.pointer (some ⟨b, 0, none⟩)) ∧ w'.cell? ⟨b, 0, none⟩ = some (.pointer (some ⟨p, 0, none⟩)) ∧ w'.cell? ⟨b, 1, none⟩ = some (.string x) ∧ w'.cell? ⟨h, 0, none⟩ = some (.string s)) := fun w' ho => ⟨(c.only ho).at_, (c.only ho).book.cells.1, (c.only ho).book.cells.2.1, (hs.only ho).1⟩
  have hs0 := HCELL.out w (Only.refl _ _)
  clear hd hf hn c hs hx hss
  go_enter Tryz.func47, Tryz.ntmps47
  go_wp2_with fail
  go_region_held3 (fun v => v.cell? ⟨g, 0, none⟩ = some (.pointer (some ⟨b, 0, none⟩)) ∧ v.cell? ⟨b, 0, none⟩ = some (.pointer (some ⟨p, 0, none⟩)) ∧ v.cell? ⟨b, 1, none⟩ = some (.string x) ∧ v.cell? ⟨h, 0, none⟩ = some (.string s)) ((first | exact hs0 | exact hs1 | go_keep)) ((first
    | (go_at_call 23; refine HA.out.mono ?_; rintro e w' ⟨rfl, d1, o1⟩; have hs1 := HCELL.out _ o1)))
  go_wp2_with fail
  go_ret
  exact ⟨rfl, d1.out, o1⟩
set_option maxHeartbeats 1000000 in
theorem add2_any (hd : DK K w p S) (hf : S.Fits n) (hn : n < big) (c : Caught K w g b p x life dead) :
    Calls Tryz.prog 48 #[.pointer (some ⟨g, 0, none⟩)] w fun e w' => e = .returned (.int .i64 (syncS S x).2) ∧ DK K w' p (syncS S x).1 ∧ Only (fun k => ¬ K k) w w' := by
  have HA : Hid (Calls Tryz.prog 49 #[.pointer (some ⟨p, 0, none⟩), .string x] w.drew fun e w' => e = .returned (.int .i64 (syncS S x).2) ∧ Hid (DK K w' p (syncS S x).1) ∧ Only (fun k => ¬ K k) w w') :=
    (sync_K n x (hd.only ((Only.refl NoF w).drew) (fun _ e => e.elim)) hf hn).mono fun e w' h => ⟨h.1, h.2.1, (Only.refl _ w).drew.then h.2.2⟩
  have HCELL : Hid (∀ w', Only (fun k => ¬ K k) w w' → w'.cell? ⟨g, 0, none⟩ = some (.pointer (some ⟨b, 0, none⟩)) ∧ w'.cell? ⟨b, 0, none⟩ = some (.pointer (some ⟨p, 0, none⟩)) ∧ w'.cell? ⟨b, 1, none⟩ = some (.string x)) := fun w' ho => ⟨(c.only ho).at_, (c.only ho).book.cells.1, (c.only ho).book.cells.2.1⟩
  have hs0 := HCELL.out w (Only.refl _ _)
  clear hd hf hn c  
  go_enter Tryz.func48, Tryz.ntmps48
  go_wp2_with fail
  go_region_held3 (fun v => v.cell? ⟨g, 0, none⟩ = some (.pointer (some ⟨b, 0, none⟩)) ∧ v.cell? ⟨b, 0, none⟩ = some (.pointer (some ⟨p, 0, none⟩)) ∧ v.cell? ⟨b, 1, none⟩ = some (.string x)) ((first | exact hs0 | exact hs1 | go_keep)) ((first
    | (go_at_call 49; refine HA.out.mono ?_; rintro e w' ⟨rfl, d1, o1⟩; have hs1 := HCELL.out _ o1)))
  go_wp2_with fail
  go_ret
  exact ⟨rfl, d1.out, o1⟩
set_option maxHeartbeats 1000000 in
theorem renew2_any (hd : DK K w p S) (hf : S.Fits n) (hn : n < big) (c : Caught K w g b p x life dead) (ht : Text1 K w f t) (hs : Text1 K w h s) (htt : t.size ≤ 9223372036854775807) (hss : s.size ≤ 140737488355328) :
    Calls Tryz.prog 55 #[.pointer (some ⟨g, 0, none⟩), .pointer (some ⟨f, 0, none⟩), .pointer (some ⟨h, 0, none⟩)] w fun e w' => e = .returned (.int .i64 (appendS S t s).2) ∧ DK K w' p (appendS S t s).1 ∧ Only (fun k => ¬ K k) w w' := by
  have HA : Hid (Calls Tryz.prog 23 #[.pointer (some ⟨p, 0, none⟩), .string t, .string s] w.drew fun e w' => e = .returned (.int .i64 (appendS S t s).2) ∧ Hid (DK K w' p (appendS S t s).1) ∧ Only (fun k => ¬ K k) w w') :=
    (append_K n t s (hd.only ((Only.refl NoF w).drew) (fun _ e => e.elim)) hf hn htt hss).mono fun e w' h => ⟨h.1, h.2.1, (Only.refl _ w).drew.then h.2.2⟩
  have HCELL : Hid (∀ w', Only (fun k => ¬ K k) w w' → w'.cell? ⟨g, 0, none⟩ = some (.pointer (some ⟨b, 0, none⟩)) ∧ w'.cell? ⟨b, 0, none⟩ = some (.pointer (some ⟨p, 0, none⟩)) ∧ w'.cell? ⟨h, 0, none⟩ = some (.string s) ∧ w'.cell? ⟨f, 0, none⟩ = some (.string t)) := fun w' ho => ⟨(c.only ho).at_, (c.only ho).book.cells.1, (hs.only ho).1, (ht.only ho).1⟩
  have hs0 := HCELL.out w (Only.refl _ _)
  clear hd hf hn c ht hs htt hss
  go_enter Tryz.func55, Tryz.ntmps55
  go_wp2_with fail
  go_region_held3 (fun v => v.cell? ⟨g, 0, none⟩ = some (.pointer (some ⟨b, 0, none⟩)) ∧ v.cell? ⟨b, 0, none⟩ = some (.pointer (some ⟨p, 0, none⟩)) ∧ v.cell? ⟨h, 0, none⟩ = some (.string s) ∧ v.cell? ⟨f, 0, none⟩ = some (.string t)) ((first | exact hs0 | exact hs1 | go_keep)) ((first
    | (go_at_call 23; refine HA.out.mono ?_; rintro e w' ⟨rfl, d1, o1⟩; have hs1 := HCELL.out _ o1)))
  go_wp2_with fail
  go_ret
  exact ⟨rfl, d1.out, o1⟩
set_option maxHeartbeats 1000000 in
theorem renew3_any (hd : DK K w p S) (hf : S.Fits n) (hn : n < big) (c : Caught K w g b p x life dead) (ht : Text1 K w f t) :
    Calls Tryz.prog 56 #[.pointer (some ⟨g, 0, none⟩), .pointer (some ⟨f, 0, none⟩)] w fun e w' => e = .returned (.int .i64 (syncS S t).2) ∧ DK K w' p (syncS S t).1 ∧ Only (fun k => ¬ K k) w w' := by
  have HA : Hid (Calls Tryz.prog 49 #[.pointer (some ⟨p, 0, none⟩), .string t] w.drew fun e w' => e = .returned (.int .i64 (syncS S t).2) ∧ Hid (DK K w' p (syncS S t).1) ∧ Only (fun k => ¬ K k) w w') :=
    (sync_K n t (hd.only ((Only.refl NoF w).drew) (fun _ e => e.elim)) hf hn).mono fun e w' h => ⟨h.1, h.2.1, (Only.refl _ w).drew.then h.2.2⟩
  have HCELL : Hid (∀ w', Only (fun k => ¬ K k) w w' → w'.cell? ⟨g, 0, none⟩ = some (.pointer (some ⟨b, 0, none⟩)) ∧ w'.cell? ⟨b, 0, none⟩ = some (.pointer (some ⟨p, 0, none⟩)) ∧ w'.cell? ⟨f, 0, none⟩ = some (.string t)) := fun w' ho => ⟨(c.only ho).at_, (c.only ho).book.cells.1, (ht.only ho).1⟩
  have hs0 := HCELL.out w (Only.refl _ _)
  clear hd hf hn c ht 
  go_enter Tryz.func56, Tryz.ntmps56
  go_wp2_with fail
  go_region_held3 (fun v => v.cell? ⟨g, 0, none⟩ = some (.pointer (some ⟨b, 0, none⟩)) ∧ v.cell? ⟨b, 0, none⟩ = some (.pointer (some ⟨p, 0, none⟩)) ∧ v.cell? ⟨f, 0, none⟩ = some (.string t)) ((first | exact hs0 | exact hs1 | go_keep)) ((first
    | (go_at_call 49; refine HA.out.mono ?_; rintro e w' ⟨rfl, d1, o1⟩; have hs1 := HCELL.out _ o1)))
  go_wp2_with fail
  go_ret
  exact ⟨rfl, d1.out, o1⟩
set_option maxHeartbeats 1000000 in
theorem renew4_any (hd : DK K w p S) (hf : S.Fits n) (hn : n < big) (c : Caught K w g b p x life dead) (ht : Text1 K w f t) (hx : x.size ≤ 9223372036854775807) :
    Calls Tryz.prog 57 #[.pointer (some ⟨g, 0, none⟩), .pointer (some ⟨f, 0, none⟩)] w fun e w' => e = .returned (.int .i64 (swapS S t x).2) ∧ DK K w' p (swapS S t x).1 ∧ Only (fun k => ¬ K k) w w' := by
  have HA : Hid (Calls Tryz.prog 58 #[.pointer (some ⟨p, 0, none⟩), .string t, .string x] w.drew fun e w' => e = .returned (.int .i64 (swapS S t x).2) ∧ Hid (DK K w' p (swapS S t x).1) ∧ Only (fun k => ¬ K k) w w') :=
    (swap_K n t x (hd.only ((Only.refl NoF w).drew) (fun _ e => e.elim)) hf hn hx).mono fun e w' h => ⟨h.1, h.2.1, (Only.refl _ w).drew.then h.2.2⟩
  have HCELL : Hid (∀ w', Only (fun k => ¬ K k) w w' → w'.cell? ⟨g, 0, none⟩ = some (.pointer (some ⟨b, 0, none⟩)) ∧ w'.cell? ⟨b, 0, none⟩ = some (.pointer (some ⟨p, 0, none⟩)) ∧ w'.cell? ⟨b, 1, none⟩ = some (.string x) ∧ w'.cell? ⟨f, 0, none⟩ = some (.string t)) := fun w' ho => ⟨(c.only ho).at_, (c.only ho).book.cells.1, (c.only ho).book.cells.2.1, (ht.only ho).1⟩
  have hs0 := HCELL.out w (Only.refl _ _)
  clear hd hf hn c ht hx
  go_enter Tryz.func57, Tryz.ntmps57
  go_wp2_with fail
  go_region_held3 (fun v => v.cell? ⟨g, 0, none⟩ = some (.pointer (some ⟨b, 0, none⟩)) ∧ v.cell? ⟨b, 0, none⟩ = some (.pointer (some ⟨p, 0, none⟩)) ∧ v.cell? ⟨b, 1, none⟩ = some (.string x) ∧ v.cell? ⟨f, 0, none⟩ = some (.string t)) ((first | exact hs0 | exact hs1 | go_keep)) ((first
    | (go_at_call 58; refine HA.out.mono ?_; rintro e w' ⟨rfl, d1, o1⟩; have hs1 := HCELL.out _ o1)))
  go_wp2_with fail
  go_ret
  exact ⟨rfl, d1.out, o1⟩
def drop1 (S : St) (t : ByteArray) : St × Int := if sizeS S t < 0 then (S, 0) else dropS S t
set_option maxHeartbeats 1000000 in
theorem renew1_any (hd : DK K w p S) (hf : S.Fits n) (hn : n < big) (c : Caught K w g b p x life dead) (ht : Text1 K w f t) :
    Calls Tryz.prog 54 #[.pointer (some ⟨g, 0, none⟩), .pointer (some ⟨f, 0, none⟩)] w fun e w' => e = .returned (.int .i64 (drop1 S t).2) ∧ DK K w' p (drop1 S t).1 ∧ Only (fun k => ¬ K k) w w' := by
  have HZ : Hid (∀ q, Calls Tryz.prog 34 #[.pointer (some ⟨p, 0, none⟩), .string t] (w.drewN q) fun e w' => e = .returned (.int .i64 (sizeS S t)) ∧ w.drewN q = w') := fun q => size_K t (hd.only ((Only.refl NoF w).drewN q) (fun _ e => e.elim))
  have HDR : Hid (∀ q, DK K (w.drewN q) p S ∧ Only (fun k => ¬ K k) w (w.drewN q)) := fun q => ⟨hd.only ((Only.refl NoF w).drewN q) (fun _ e => e.elim), (Only.refl _ w).drewN q⟩
  have HA : Hid (∀ w1, DK K w1 p S ∧ Only (fun k => ¬ K k) w w1 → Calls Tryz.prog 36 #[.pointer (some ⟨p, 0, none⟩), .string t] w1.drew fun e w' => e = .returned (.int .i64 (dropS S t).2) ∧ Hid (DK K w' p (dropS S t).1) ∧ Only (fun k => ¬ K k) w w') := fun w1 h1 =>
    (drop_K n t (h1.1.only ((Only.refl NoF w1).drew) (fun _ e => e.elim)) hf hn).mono fun e w' h => ⟨h.1, h.2.1, h1.2.drew.then h.2.2⟩
  have HCELL : Hid (∀ w', Only (fun k => ¬ K k) w w' → w'.cell? ⟨g, 0, none⟩ = some (.pointer (some ⟨b, 0, none⟩)) ∧ w'.cell? ⟨b, 0, none⟩ = some (.pointer (some ⟨p, 0, none⟩)) ∧ w'.cell? ⟨f, 0, none⟩ = some (.string t)) := fun w' ho => ⟨(c.only ho).at_, (c.only ho).book.cells.1, (ht.only ho).1⟩
  have hs0 := HCELL.out w (Only.refl _ _)
  obtain ⟨c0, c1, c2⟩ := hs0
  have HDEF : Hid (drop1 S t = if sizeS S t < 0 then (S, 0) else dropS S t) := rfl
  obtain ⟨R, hR⟩ : ∃ R, drop1 S t = R := ⟨_, rfl⟩
  rw [hR] at HDEF ⊢
  obtain ⟨z, hz⟩ : ∃ z, sizeS S t = z := ⟨_, rfl⟩
  rw [hz] at HDEF HZ
  clear hd hf hn c ht hR hz
  by_cases hz0 : z < 0
  · have HR : Hid (R = (S, 0)) := by show R = _; rw [HDEF.out, if_pos hz0]
    clear HDEF HA
    go_enter Tryz.func54, Tryz.ntmps54
    go_wp2_with fail
    go_quiet (first | (go_at_call 34; exact Calls.quiet_of_same ((HZ.out _).mono fun _ _ h => ⟨h.1, h.2.symm⟩)))
    go_wp2_with fail
    go_ret
    exact ⟨by rw [HR.out]; rfl, by rw [HR.out]; exact (HDR.out _).1, (HDR.out _).2⟩
  · have HR : Hid (dropS S t = R) := by show _ = R; rw [HDEF.out, if_neg hz0]
    rw [HR.out] at HA
    clear HDEF
    go_enter Tryz.func54, Tryz.ntmps54
    go_wp2_with fail
    go_quiet (first | (go_at_call 34; exact Calls.quiet_of_same ((HZ.out _).mono fun _ _ h => ⟨h.1, h.2.symm⟩)))
    go_wp2_with fail
    have hs0 := HCELL.out _ (HDR.out nq).2
    go_region_held3 (fun v => v.cell? ⟨g, 0, none⟩ = some (.pointer (some ⟨b, 0, none⟩)) ∧ v.cell? ⟨b, 0, none⟩ = some (.pointer (some ⟨p, 0, none⟩)) ∧ v.cell? ⟨f, 0, none⟩ = some (.string t)) ((first | exact hs0 | exact hs1 | go_keep)) ((first
      | (go_at_call 36; refine (HA.out _ (HDR.out _)).mono ?_; rintro e w' ⟨rfl, d1, o1⟩; have hs1 := HCELL.out _ o1)))
    go_wp2_with fail
    go_ret
    exact ⟨rfl, d1.out, o1⟩
end
end Go.Proofs.YtnhgfhbicaiilaaGreat
/- Acts up to an error: do. -/
namespace Go.Proofs.YtnhgfhbicaiilaaGreat
open Go.RowKit Book Reel
set_option linter.unusedVariables false

def seqS : List (St → St × Int) → St → Bool → St × Int × Bool
  | [], S, dead => (S, 0, dead)
  | f :: r, S, dead => if (f S).2 = 0 then seqS r (f S).1 dead else ((f S).1, (f S).2, dead || decide ((f S).2 = 10))
def addL (x s : ByteArray) : List (St → St × Int) := [fun S => appendS S x s, fun S => syncS S x]
def renewL (x t s : ByteArray) : List (St → St × Int) := [fun S => drop1 S t, fun S => appendS S t s, fun S => syncS S t, fun S => swapS S t x]
theorem drop1_near (S : St) (t : ByteArray) : Near S (drop1 S t).1 := by unfold drop1; split; exact Near.refl S; exact drop_near _ _
theorem BookAt.kill {w : World} {b p : Nat} {x : ByteArray} {life : Nat} {dead : Bool} (h : BookAt w b p x life dead) (d : Bool) : BookAt (w.setCell ⟨b, 3, none⟩ (.bool d)) b p x life d := by
  have := Blk.set h 3 (.bool d)
  show Blk _ _ _ _; simpa using this
section
variable {K : Nat → Prop} {w w' : World} {g h f b p : Nat} {x s t : ByteArray} {life : Nat} {dead : Bool} {S : St} {n : Nat}
set_option maxRecDepth 100000 in
set_option maxHeartbeats 4000000 in
theorem do_add (fa : Nat) (hd : DK K w p S) (hf : S.Fits n) (hn : n + 2 < big) (c : Caught K w g b p x life dead) (hs : Text1 K w h s) (hc : w.cell? ⟨fa, 0, none⟩ = some (.func (Fn.func 47) #[] #[.pointer (some ⟨g, 0, none⟩), .pointer (some ⟨h, 0, none⟩)]) ∧ w.cell? ⟨fa, 1, none⟩ = some (.func (Fn.func 48) #[] #[.pointer (some ⟨g, 0, none⟩)])) (kf : K fa) (hx : x.size ≤ 9223372036854775807) (hss : s.size ≤ 140737488355328) :
    Calls Tryz.prog 46 #[.pointer (some ⟨b, 0, none⟩), .slice (some ⟨fa, 0, none⟩) 2 2] w fun e w' => e = .returned (.int .i64 (seqS (addL x s) S dead).2.1) ∧ (DK K w' p (seqS (addL x s) S dead).1 ∧ BookAt w' b p x life (seqS (addL x s) S dead).2.2 ∧ Only (fun k => ¬ K k ∨ k = b) w w') := by
  obtain ⟨R, hR⟩ : ∃ R, seqS (addL x s) S dead = R := ⟨_, rfl⟩
  have HR0 : Hid (seqS (addL x s) S dead = R) := hR
  rw [hR]
  have HSTEP : Hid (∀ (F : St → St × Int) (r : List (St → St × Int)) (S : St), seqS (F :: r) S dead = if (F S).2 = 0 then seqS r (F S).1 dead else ((F S).1, (F S).2, dead || decide ((F S).2 = 10))) := fun F r S => rfl
  have HC : Hid (∀ w', Only (fun k => ¬ K k) w w' → w'.cell? ⟨fa, 0, none⟩ = some (.func (Fn.func 47) #[] #[.pointer (some ⟨g, 0, none⟩), .pointer (some ⟨h, 0, none⟩)]) ∧ w'.cell? ⟨fa, 1, none⟩ = some (.func (Fn.func 48) #[] #[.pointer (some ⟨g, 0, none⟩)])) := fun w' ho => by
    obtain ⟨e0, e1⟩ := hc
    exact ⟨ho.cell e0 (fun e => e kf), ho.cell e1 (fun e => e kf)⟩
  have HKB : Hid (K b) := c.kb
  have HFIN : Hid (∀ w1 w2, Only (fun k => ¬ K k) w w1 → Only (fun k => k = b) w1 w2 → Only (fun k => ¬ K k ∨ k = b) w w2) := fun w1 w2 h1 h2 => (h1.mono (fun _ e => .inl e)).then (h2.mono (fun _ e => .inr e))
  have D0 := hid hd; have C0 := hid c; have F0 := hid hf
  have Ts0 := hid hs
  clear hd hf c hs hc hR
  go_enter Tryz.func46, Tryz.ntmps46
  go_wp2
  go_loopw [10] (fun iv wr => ∃ (k : Nat) (Sk : St), k ≤ 2 ∧ iv = .int .i64 k ∧ Hid (seqS ((addL x s).drop k) Sk dead = R) ∧ Hid (DK K wr p Sk) ∧ Hid (Sk.Fits (n + k)) ∧ Hid (Caught K wr g b p x life dead) ∧ Hid (Text1 K wr h s) ∧ Hid (Only (fun k => ¬ K k) w wr)) (fun iv _ => 2 - (intOf iv).toNat)
  case atStart => exact ⟨0, S, by omega, rfl, HR0, D0, F0, C0, Ts0, Only.refl _ _⟩
  case round =>
    clear D0 C0 F0 Ts0 HR0
    obtain ⟨k, Sk, hk, rfl, HRK, DX, FX, CX, Ts, OX⟩ := hrel
    have hcells := HC.out _ OX.out
    obtain ⟨f0, f1⟩ := hcells
    obtain ⟨b0, b1, b2, b3⟩ := CX.out.book.cells
    have bf := Blk.frozen CX.out.book 3
    clear b0 b1 b2
    obtain rfl | rfl | rfl : k = 0 ∨ k = 1 ∨ k = 2 := by omega
    · have hst := HSTEP.out (fun S => appendS S x s) ((addL x s).drop 1) Sk
      have hRK : seqS ((fun S => appendS S x s) :: (addL x s).drop 1) Sk dead = R := HRK.out
      rw [hst] at hRK
      have HCALL := hid (add1_any DX.out FX.out (by omega) CX.out Ts.out hx hss)
      obtain ⟨Z, hZ⟩ : ∃ Z, appendS Sk x s = Z := ⟨_, rfl⟩
      have hfz : Z.1.Fits (n + 1) := by rw [← hZ]; exact (append_near Sk x s).fits FX.out
      simp only [hZ] at hRK HCALL
      obtain ⟨Z1, Z2⟩ := Z
      simp only at hRK HCALL hfz
      have HFZ := hid hfz
      clear hst HRK hZ hfz
      by_cases hz : Z2 = 0
      · subst hz
        have HRN : Hid (seqS ((addL x s).drop 1) Z1 dead = R) := by rw [if_pos rfl] at hRK; exact hRK
        clear hRK
        go_wp2_with (first
          | (go_at_call 47; refine HCALL.out.mono ?_; rintro e w1 ⟨rfl, hs1, hs2⟩; have H1 := hid hs1; have L1 := hid hs2; clear hs1 hs2))
        go_roundw
        case rel => exact ⟨1, Z1, by omega, rfl, HRN, H1, HFZ, CX.out.only L1.out, Ts.out.only L1.out, OX.out.then L1.out⟩
        case measure => simp [intOf]
      · have HRN : Hid (R = (Z1, Z2, dead || decide (Z2 = 10))) := by rw [if_neg hz] at hRK; exact hRK.symm
        have gz : (Z2 == 0) = false := by rw [beq_eq_false_iff_ne]; exact hz
        clear hRK hz
        have hdd : dead = true ∨ dead = false := by cases dead; exact .inr rfl; exact .inl rfl
        rcases hdd with rfl | rfl <;> (
          go_wp2_with (first
            | (go_at_call 47; refine HCALL.out.mono ?_; rintro e w1 ⟨rfl, hs1, hs2⟩; have H1 := hid hs1; have L1 := hid hs2; have C1 := hid (CX.out.only hs2); have b3 := C1.out.book.cells.2.2.2; have bf := Blk.frozen C1.out.book 3; clear hs1 hs2))
          go_ret
          refine ⟨by rw [HRN.out]; rfl, ?_, ?_, HFIN.out _ _ (OX.out.then L1.out) ((Only.refl (fun k => k = b) w1).setCell (p := ⟨b, 3, none⟩) (.inl rfl) _)⟩
          · rw [HRN.out]; exact H1.out.only ((Only.refl (fun k => k = b) w1).setCell (p := ⟨b, 3, none⟩) (.inl rfl) _) (fun k e => by rw [e]; exact HKB.out)
          · rw [HRN.out]; first | exact C1.out.book.kill true | exact C1.out.book.kill (Z2 == 10))
    · have hst := HSTEP.out (fun S => syncS S x) ((addL x s).drop 2) Sk
      have hRK : seqS ((fun S => syncS S x) :: (addL x s).drop 2) Sk dead = R := HRK.out
      rw [hst] at hRK
      have HCALL := hid (add2_any DX.out FX.out (by omega) CX.out)
      obtain ⟨Z, hZ⟩ : ∃ Z, syncS Sk x = Z := ⟨_, rfl⟩
      have hfz : Z.1.Fits (n + 2) := by rw [← hZ]; exact (sync_near Sk x).fits FX.out
      simp only [hZ] at hRK HCALL
      obtain ⟨Z1, Z2⟩ := Z
      simp only at hRK HCALL hfz
      have HFZ := hid hfz
      clear hst HRK hZ hfz
      by_cases hz : Z2 = 0
      · subst hz
        have HRN : Hid (seqS ((addL x s).drop 2) Z1 dead = R) := by rw [if_pos rfl] at hRK; exact hRK
        clear hRK
        go_wp2_with (first
          | (go_at_call 48; refine HCALL.out.mono ?_; rintro e w1 ⟨rfl, hs1, hs2⟩; have H1 := hid hs1; have L1 := hid hs2; clear hs1 hs2))
        go_roundw
        case rel => exact ⟨2, Z1, by omega, rfl, HRN, H1, HFZ, CX.out.only L1.out, Ts.out.only L1.out, OX.out.then L1.out⟩
        case measure => simp [intOf]
      · have HRN : Hid (R = (Z1, Z2, dead || decide (Z2 = 10))) := by rw [if_neg hz] at hRK; exact hRK.symm
        have gz : (Z2 == 0) = false := by rw [beq_eq_false_iff_ne]; exact hz
        clear hRK hz
        have hdd : dead = true ∨ dead = false := by cases dead; exact .inr rfl; exact .inl rfl
        rcases hdd with rfl | rfl <;> (
          go_wp2_with (first
            | (go_at_call 48; refine HCALL.out.mono ?_; rintro e w1 ⟨rfl, hs1, hs2⟩; have H1 := hid hs1; have L1 := hid hs2; have C1 := hid (CX.out.only hs2); have b3 := C1.out.book.cells.2.2.2; have bf := Blk.frozen C1.out.book 3; clear hs1 hs2))
          go_ret
          refine ⟨by rw [HRN.out]; rfl, ?_, ?_, HFIN.out _ _ (OX.out.then L1.out) ((Only.refl (fun k => k = b) w1).setCell (p := ⟨b, 3, none⟩) (.inl rfl) _)⟩
          · rw [HRN.out]; exact H1.out.only ((Only.refl (fun k => k = b) w1).setCell (p := ⟨b, 3, none⟩) (.inl rfl) _) (fun k e => by rw [e]; exact HKB.out)
          · rw [HRN.out]; first | exact C1.out.book.kill true | exact C1.out.book.kill (Z2 == 10))
    · have hRK : (Sk, 0, dead) = R := HRK.out
      subst hRK
      clear HRK
      go_wp2_with fail
      go_ret
      exact ⟨rfl, DX.out, CX.out.book, HFIN.out _ _ OX.out (Only.refl _ _)⟩
set_option maxRecDepth 100000 in
set_option maxHeartbeats 4000000 in
theorem do_renew (fa : Nat) (hd : DK K w p S) (hf : S.Fits n) (hn : n + 4 < big) (c : Caught K w g b p x life dead) (hs : Text1 K w h s) (ht : Text1 K w f t) (hc : w.cell? ⟨fa, 0, none⟩ = some (.func (Fn.func 54) #[] #[.pointer (some ⟨g, 0, none⟩), .pointer (some ⟨f, 0, none⟩)]) ∧ w.cell? ⟨fa, 1, none⟩ = some (.func (Fn.func 55) #[] #[.pointer (some ⟨g, 0, none⟩), .pointer (some ⟨f, 0, none⟩), .pointer (some ⟨h, 0, none⟩)]) ∧ w.cell? ⟨fa, 2, none⟩ = some (.func (Fn.func 56) #[] #[.pointer (some ⟨g, 0, none⟩), .pointer (some ⟨f, 0, none⟩)]) ∧ w.cell? ⟨fa, 3, none⟩ = some (.func (Fn.func 57) #[] #[.pointer (some ⟨g, 0, none⟩), .pointer (some ⟨f, 0, none⟩)])) (kf : K fa) (hx : x.size ≤ 9223372036854775807) (htt : t.size ≤ 9223372036854775807) (hss : s.size ≤ 140737488355328) :
    Calls Tryz.prog 46 #[.pointer (some ⟨b, 0, none⟩), .slice (some ⟨fa, 0, none⟩) 4 4] w fun e w' => e = .returned (.int .i64 (seqS (renewL x t s) S dead).2.1) ∧ (DK K w' p (seqS (renewL x t s) S dead).1 ∧ BookAt w' b p x life (seqS (renewL x t s) S dead).2.2 ∧ Only (fun k => ¬ K k ∨ k = b) w w') := by
  obtain ⟨R, hR⟩ : ∃ R, seqS (renewL x t s) S dead = R := ⟨_, rfl⟩
  have HR0 : Hid (seqS (renewL x t s) S dead = R) := hR
  rw [hR]
  have HSTEP : Hid (∀ (F : St → St × Int) (r : List (St → St × Int)) (S : St), seqS (F :: r) S dead = if (F S).2 = 0 then seqS r (F S).1 dead else ((F S).1, (F S).2, dead || decide ((F S).2 = 10))) := fun F r S => rfl
  have HC : Hid (∀ w', Only (fun k => ¬ K k) w w' → w'.cell? ⟨fa, 0, none⟩ = some (.func (Fn.func 54) #[] #[.pointer (some ⟨g, 0, none⟩), .pointer (some ⟨f, 0, none⟩)]) ∧ w'.cell? ⟨fa, 1, none⟩ = some (.func (Fn.func 55) #[] #[.pointer (some ⟨g, 0, none⟩), .pointer (some ⟨f, 0, none⟩), .pointer (some ⟨h, 0, none⟩)]) ∧ w'.cell? ⟨fa, 2, none⟩ = some (.func (Fn.func 56) #[] #[.pointer (some ⟨g, 0, none⟩), .pointer (some ⟨f, 0, none⟩)]) ∧ w'.cell? ⟨fa, 3, none⟩ = some (.func (Fn.func 57) #[] #[.pointer (some ⟨g, 0, none⟩), .pointer (some ⟨f, 0, none⟩)])) := fun w' ho => by
    obtain ⟨e0, e1, e2, e3⟩ := hc
    exact ⟨ho.cell e0 (fun e => e kf), ho.cell e1 (fun e => e kf), ho.cell e2 (fun e => e kf), ho.cell e3 (fun e => e kf)⟩
  have HKB : Hid (K b) := c.kb
  have HFIN : Hid (∀ w1 w2, Only (fun k => ¬ K k) w w1 → Only (fun k => k = b) w1 w2 → Only (fun k => ¬ K k ∨ k = b) w w2) := fun w1 w2 h1 h2 => (h1.mono (fun _ e => .inl e)).then (h2.mono (fun _ e => .inr e))
  have D0 := hid hd; have C0 := hid c; have F0 := hid hf
  have Ts0 := hid hs
  have Tt0 := hid ht
  clear hd hf c hs ht hc hR
  go_enter Tryz.func46, Tryz.ntmps46
  go_wp2
  go_loopw [10] (fun iv wr => ∃ (k : Nat) (Sk : St), k ≤ 4 ∧ iv = .int .i64 k ∧ Hid (seqS ((renewL x t s).drop k) Sk dead = R) ∧ Hid (DK K wr p Sk) ∧ Hid (Sk.Fits (n + k)) ∧ Hid (Caught K wr g b p x life dead) ∧ Hid (Text1 K wr h s) ∧ Hid (Text1 K wr f t) ∧ Hid (Only (fun k => ¬ K k) w wr)) (fun iv _ => 4 - (intOf iv).toNat)
  case atStart => exact ⟨0, S, by omega, rfl, HR0, D0, F0, C0, Ts0, Tt0, Only.refl _ _⟩
  case round =>
    clear D0 C0 F0 Ts0 Tt0 HR0
    obtain ⟨k, Sk, hk, rfl, HRK, DX, FX, CX, Ts, Tt, OX⟩ := hrel
    have hcells := HC.out _ OX.out
    obtain ⟨f0, f1, f2, f3⟩ := hcells
    obtain ⟨b0, b1, b2, b3⟩ := CX.out.book.cells
    have bf := Blk.frozen CX.out.book 3
    clear b0 b1 b2
    obtain rfl | rfl | rfl | rfl | rfl : k = 0 ∨ k = 1 ∨ k = 2 ∨ k = 3 ∨ k = 4 := by omega
    · have hst := HSTEP.out (fun S => drop1 S t) ((renewL x t s).drop 1) Sk
      have hRK : seqS ((fun S => drop1 S t) :: (renewL x t s).drop 1) Sk dead = R := HRK.out
      rw [hst] at hRK
      have HCALL := hid (renew1_any DX.out FX.out (by omega) CX.out Tt.out)
      obtain ⟨Z, hZ⟩ : ∃ Z, drop1 Sk t = Z := ⟨_, rfl⟩
      have hfz : Z.1.Fits (n + 1) := by rw [← hZ]; exact (drop1_near Sk t).fits FX.out
      simp only [hZ] at hRK HCALL
      obtain ⟨Z1, Z2⟩ := Z
      simp only at hRK HCALL hfz
      have HFZ := hid hfz
      clear hst HRK hZ hfz
      by_cases hz : Z2 = 0
      · subst hz
        have HRN : Hid (seqS ((renewL x t s).drop 1) Z1 dead = R) := by rw [if_pos rfl] at hRK; exact hRK
        clear hRK
        go_wp2_with (first
          | (go_at_call 54; refine HCALL.out.mono ?_; rintro e w1 ⟨rfl, hs1, hs2⟩; have H1 := hid hs1; have L1 := hid hs2; clear hs1 hs2))
        go_roundw
        case rel => exact ⟨1, Z1, by omega, rfl, HRN, H1, HFZ, CX.out.only L1.out, Ts.out.only L1.out, Tt.out.only L1.out, OX.out.then L1.out⟩
        case measure => simp [intOf]
      · have HRN : Hid (R = (Z1, Z2, dead || decide (Z2 = 10))) := by rw [if_neg hz] at hRK; exact hRK.symm
        have gz : (Z2 == 0) = false := by rw [beq_eq_false_iff_ne]; exact hz
        clear hRK hz
        have hdd : dead = true ∨ dead = false := by cases dead; exact .inr rfl; exact .inl rfl
        rcases hdd with rfl | rfl <;> (
          go_wp2_with (first
            | (go_at_call 54; refine HCALL.out.mono ?_; rintro e w1 ⟨rfl, hs1, hs2⟩; have H1 := hid hs1; have L1 := hid hs2; have C1 := hid (CX.out.only hs2); have b3 := C1.out.book.cells.2.2.2; have bf := Blk.frozen C1.out.book 3; clear hs1 hs2))
          go_ret
          refine ⟨by rw [HRN.out]; rfl, ?_, ?_, HFIN.out _ _ (OX.out.then L1.out) ((Only.refl (fun k => k = b) w1).setCell (p := ⟨b, 3, none⟩) (.inl rfl) _)⟩
          · rw [HRN.out]; exact H1.out.only ((Only.refl (fun k => k = b) w1).setCell (p := ⟨b, 3, none⟩) (.inl rfl) _) (fun k e => by rw [e]; exact HKB.out)
          · rw [HRN.out]; first | exact C1.out.book.kill true | exact C1.out.book.kill (Z2 == 10))
    · have hst := HSTEP.out (fun S => appendS S t s) ((renewL x t s).drop 2) Sk
      have hRK : seqS ((fun S => appendS S t s) :: (renewL x t s).drop 2) Sk dead = R := HRK.out
      rw [hst] at hRK
      have HCALL := hid (renew2_any DX.out FX.out (by omega) CX.out Tt.out Ts.out htt hss)
      obtain ⟨Z, hZ⟩ : ∃ Z, appendS Sk t s = Z := ⟨_, rfl⟩
      have hfz : Z.1.Fits (n + 2) := by rw [← hZ]; exact (append_near Sk t s).fits FX.out
      simp only [hZ] at hRK HCALL
      obtain ⟨Z1, Z2⟩ := Z
      simp only at hRK HCALL hfz
      have HFZ := hid hfz
      clear hst HRK hZ hfz
      by_cases hz : Z2 = 0
      · subst hz
        have HRN : Hid (seqS ((renewL x t s).drop 2) Z1 dead = R) := by rw [if_pos rfl] at hRK; exact hRK
        clear hRK
        go_wp2_with (first
          | (go_at_call 55; refine HCALL.out.mono ?_; rintro e w1 ⟨rfl, hs1, hs2⟩; have H1 := hid hs1; have L1 := hid hs2; clear hs1 hs2))
        go_roundw
        case rel => exact ⟨2, Z1, by omega, rfl, HRN, H1, HFZ, CX.out.only L1.out, Ts.out.only L1.out, Tt.out.only L1.out, OX.out.then L1.out⟩
        case measure => simp [intOf]
      · have HRN : Hid (R = (Z1, Z2, dead || decide (Z2 = 10))) := by rw [if_neg hz] at hRK; exact hRK.symm
        have gz : (Z2 == 0) = false := by rw [beq_eq_false_iff_ne]; exact hz
        clear hRK hz
        have hdd : dead = true ∨ dead = false := by cases dead; exact .inr rfl; exact .inl rfl
        rcases hdd with rfl | rfl <;> (
          go_wp2_with (first
            | (go_at_call 55; refine HCALL.out.mono ?_; rintro e w1 ⟨rfl, hs1, hs2⟩; have H1 := hid hs1; have L1 := hid hs2; have C1 := hid (CX.out.only hs2); have b3 := C1.out.book.cells.2.2.2; have bf := Blk.frozen C1.out.book 3; clear hs1 hs2))
          go_ret
          refine ⟨by rw [HRN.out]; rfl, ?_, ?_, HFIN.out _ _ (OX.out.then L1.out) ((Only.refl (fun k => k = b) w1).setCell (p := ⟨b, 3, none⟩) (.inl rfl) _)⟩
          · rw [HRN.out]; exact H1.out.only ((Only.refl (fun k => k = b) w1).setCell (p := ⟨b, 3, none⟩) (.inl rfl) _) (fun k e => by rw [e]; exact HKB.out)
          · rw [HRN.out]; first | exact C1.out.book.kill true | exact C1.out.book.kill (Z2 == 10))
    · have hst := HSTEP.out (fun S => syncS S t) ((renewL x t s).drop 3) Sk
      have hRK : seqS ((fun S => syncS S t) :: (renewL x t s).drop 3) Sk dead = R := HRK.out
      rw [hst] at hRK
      have HCALL := hid (renew3_any DX.out FX.out (by omega) CX.out Tt.out)
      obtain ⟨Z, hZ⟩ : ∃ Z, syncS Sk t = Z := ⟨_, rfl⟩
      have hfz : Z.1.Fits (n + 3) := by rw [← hZ]; exact (sync_near Sk t).fits FX.out
      simp only [hZ] at hRK HCALL
      obtain ⟨Z1, Z2⟩ := Z
      simp only at hRK HCALL hfz
      have HFZ := hid hfz
      clear hst HRK hZ hfz
      by_cases hz : Z2 = 0
      · subst hz
        have HRN : Hid (seqS ((renewL x t s).drop 3) Z1 dead = R) := by rw [if_pos rfl] at hRK; exact hRK
        clear hRK
        go_wp2_with (first
          | (go_at_call 56; refine HCALL.out.mono ?_; rintro e w1 ⟨rfl, hs1, hs2⟩; have H1 := hid hs1; have L1 := hid hs2; clear hs1 hs2))
        go_roundw
        case rel => exact ⟨3, Z1, by omega, rfl, HRN, H1, HFZ, CX.out.only L1.out, Ts.out.only L1.out, Tt.out.only L1.out, OX.out.then L1.out⟩
        case measure => simp [intOf]
      · have HRN : Hid (R = (Z1, Z2, dead || decide (Z2 = 10))) := by rw [if_neg hz] at hRK; exact hRK.symm
        have gz : (Z2 == 0) = false := by rw [beq_eq_false_iff_ne]; exact hz
        clear hRK hz
        have hdd : dead = true ∨ dead = false := by cases dead; exact .inr rfl; exact .inl rfl
        rcases hdd with rfl | rfl <;> (
          go_wp2_with (first
            | (go_at_call 56; refine HCALL.out.mono ?_; rintro e w1 ⟨rfl, hs1, hs2⟩; have H1 := hid hs1; have L1 := hid hs2; have C1 := hid (CX.out.only hs2); have b3 := C1.out.book.cells.2.2.2; have bf := Blk.frozen C1.out.book 3; clear hs1 hs2))
          go_ret
          refine ⟨by rw [HRN.out]; rfl, ?_, ?_, HFIN.out _ _ (OX.out.then L1.out) ((Only.refl (fun k => k = b) w1).setCell (p := ⟨b, 3, none⟩) (.inl rfl) _)⟩
          · rw [HRN.out]; exact H1.out.only ((Only.refl (fun k => k = b) w1).setCell (p := ⟨b, 3, none⟩) (.inl rfl) _) (fun k e => by rw [e]; exact HKB.out)
          · rw [HRN.out]; first | exact C1.out.book.kill true | exact C1.out.book.kill (Z2 == 10))
    · have hst := HSTEP.out (fun S => swapS S t x) ((renewL x t s).drop 4) Sk
      have hRK : seqS ((fun S => swapS S t x) :: (renewL x t s).drop 4) Sk dead = R := HRK.out
      rw [hst] at hRK
      have HCALL := hid (renew4_any DX.out FX.out (by omega) CX.out Tt.out hx)
      obtain ⟨Z, hZ⟩ : ∃ Z, swapS Sk t x = Z := ⟨_, rfl⟩
      have hfz : Z.1.Fits (n + 4) := by rw [← hZ]; exact (swap_near Sk t x).fits FX.out
      simp only [hZ] at hRK HCALL
      obtain ⟨Z1, Z2⟩ := Z
      simp only at hRK HCALL hfz
      have HFZ := hid hfz
      clear hst HRK hZ hfz
      by_cases hz : Z2 = 0
      · subst hz
        have HRN : Hid (seqS ((renewL x t s).drop 4) Z1 dead = R) := by rw [if_pos rfl] at hRK; exact hRK
        clear hRK
        go_wp2_with (first
          | (go_at_call 57; refine HCALL.out.mono ?_; rintro e w1 ⟨rfl, hs1, hs2⟩; have H1 := hid hs1; have L1 := hid hs2; clear hs1 hs2))
        go_roundw
        case rel => exact ⟨4, Z1, by omega, rfl, HRN, H1, HFZ, CX.out.only L1.out, Ts.out.only L1.out, Tt.out.only L1.out, OX.out.then L1.out⟩
        case measure => simp [intOf]
      · have HRN : Hid (R = (Z1, Z2, dead || decide (Z2 = 10))) := by rw [if_neg hz] at hRK; exact hRK.symm
        have gz : (Z2 == 0) = false := by rw [beq_eq_false_iff_ne]; exact hz
        clear hRK hz
        have hdd : dead = true ∨ dead = false := by cases dead; exact .inr rfl; exact .inl rfl
        rcases hdd with rfl | rfl <;> (
          go_wp2_with (first
            | (go_at_call 57; refine HCALL.out.mono ?_; rintro e w1 ⟨rfl, hs1, hs2⟩; have H1 := hid hs1; have L1 := hid hs2; have C1 := hid (CX.out.only hs2); have b3 := C1.out.book.cells.2.2.2; have bf := Blk.frozen C1.out.book 3; clear hs1 hs2))
          go_ret
          refine ⟨by rw [HRN.out]; rfl, ?_, ?_, HFIN.out _ _ (OX.out.then L1.out) ((Only.refl (fun k => k = b) w1).setCell (p := ⟨b, 3, none⟩) (.inl rfl) _)⟩
          · rw [HRN.out]; exact H1.out.only ((Only.refl (fun k => k = b) w1).setCell (p := ⟨b, 3, none⟩) (.inl rfl) _) (fun k e => by rw [e]; exact HKB.out)
          · rw [HRN.out]; first | exact C1.out.book.kill true | exact C1.out.book.kill (Z2 == 10))
    · have hRK : (Sk, 0, dead) = R := HRK.out
      subst hRK
      clear HRK
      go_wp2_with fail
      go_ret
      exact ⟨rfl, DX.out, CX.out.book, HFIN.out _ _ OX.out (Only.refl _ _)⟩
end
end Go.Proofs.YtnhgfhbicaiilaaGreat
/- Add and Renew. -/
namespace Go.Proofs.YtnhgfhbicaiilaaGreat
open Go.RowKit Book Reel
set_option linter.unusedVariables false

def addB (S : St) (x : ByteArray) (life : Nat) (dead : Bool) (rs : List (List UInt8)) : St × Int × Bool :=
  if (readyS S life dead rs).2 = 0 then seqS (addL x (bx (readyS S life dead rs).1)) S dead else (S, (readyS S life dead rs).2, dead)
def renewB (S : St) (x : ByteArray) (life : Nat) (dead : Bool) (rs : List (List UInt8)) : St × Int × Bool :=
  if (readyS S life dead rs).2 = 0 then seqS (renewL x (tilde x) (bx (readyS S life dead rs).1)) S dead else (S, (readyS S life dead rs).2, dead)
theorem add_nil (v : Value) (w : World) : Calls Tryz.prog 10 #[.pointer none, v] w fun e w' => e = .returned (.int .i64 2) ∧ Below w.heap.size w w' := by
  have HR : Hid (∀ w', Calls Tryz.prog 45 #[.pointer none, v] w' fun e w'' => e = .returned (.tuple #[.string ⟨#[]⟩, .int .i64 2]) ∧ w' = w'') := fun w' => bready_nil v w'
  go_enter Tryz.func10, Tryz.ntmps10
  go_wp2_with (go_at_call 45; refine (HR.out _).mono ?_; rintro e w' ⟨rfl, rfl⟩)
  go_ret
  exact ⟨rfl, ((Below.refl _ _).alloc (Nat.le_refl _) _).alloc (by simp) _⟩
theorem far_cell {w w1 : World} {v : Value} {t : TypeId} (h : Below (w.alloc (.cells #[v] t)).heap.size (w.alloc (.cells #[v] t)) w1) : ∀ o, (w1.alloc o).cell? ⟨w.heap.size, 0, none⟩ = some v := fun o => by
  have h1 := (Blk.new w t #[v]).only (Only.of_below h NoF) (fun e => e)
  exact (h1.alloc o).cell 0
theorem far_cell2 {w w1 : World} {v : Value} {t : TypeId} (h : Below (w.alloc (.cells #[v] t)).heap.size (w.alloc (.cells #[v] t)) w1) : ∀ o o', ((w1.alloc o).alloc o').cell? ⟨w.heap.size, 0, none⟩ = some v := fun o o' => by
  have h1 := (Blk.new w t #[v]).only (Only.of_below h NoF) (fun e => e)
  exact ((h1.alloc o).alloc o').cell 0
theorem far_name {w w1 : World} {b p : Nat} {x : ByteArray} {life : Nat} {dead : Bool} {o0 : Obj} (hb : BookAt w b p x life dead) (h : Below (w.alloc o0).heap.size (w.alloc o0) w1) : ∀ o, (w1.alloc o).cell? ⟨b, 1, none⟩ = some (.string x) := fun o => by
  have h0 : Below w.heap.size w (w.alloc o0) := (Below.refl _ _).alloc (Nat.le_refl _) _
  have h1 : BookAt w1 b p x life dead := Blk.only hb (Only.of_below (below_then h0 h) NoF) (fun e => e)
  exact (Blk.alloc h1 o).cell 1
theorem far_env {K : Nat → Prop} {w w1 W : World} {b p : Nat} {x : ByteArray} {life : Nat} {dead : Bool} {S : St} (hd : DK K w p S) (hb : BookAt w b p x life dead) (kb : K b) (L1 : Below (w.alloc (.cells #[.pointer (some ⟨b, 0, none⟩)] 28)).heap.size (w.alloc (.cells #[.pointer (some ⟨b, 0, none⟩)] 28)) w1) (L2 : Below w1.heap.size w1 W) :
    DK (fun k => K k ∨ (k = w.heap.size ∨ (w1.heap.size ≤ k ∧ k < W.heap.size))) W p S ∧ Caught (fun k => K k ∨ (k = w.heap.size ∨ (w1.heap.size ≤ k ∧ k < W.heap.size))) W w.heap.size b p x life dead
    ∧ ∀ w', Only (fun k => ¬ (K k ∨ (k = w.heap.size ∨ (w1.heap.size ≤ k ∧ k < W.heap.size))) ∨ k = b) W w' → Only (fun k => ¬ K k ∨ k = b) w w' := by
  have h0 : Below w.heap.size w (w.alloc (.cells #[.pointer (some ⟨b, 0, none⟩)] 28)) := (Below.refl _ _).alloc (Nat.le_refl _) _
  have h1 := below_then h0 L1
  have hW := below_then h1 L2
  have s1 : w.heap.size + 1 ≤ w1.heap.size := by have := L1.size; simpa using this
  have s2 := L2.size
  refine ⟨hd.more hW (fun k hk => by omega), ⟨?_, Blk.only hb (Only.of_below hW NoF) (fun e => e), .inr (.inl rfl), .inl kb⟩, fun w' ho => ?_⟩
  · have h2 := ((Blk.new w 28 #[.pointer (some ⟨b, 0, none⟩)]).only (Only.of_below L1 NoF) (fun e => e)).only (Only.of_below L2 NoF) (fun e => e)
    exact h2.cell 0
  · refine (Only.of_below hW (fun k => ¬ K k ∨ k = b)).trans ho (fun k hk => .inl ?_)
    rcases hk with hk | hk
    · exact .inl (fun e => hk (.inl e))
    · exact .inr hk
section
variable {K : Nat → Prop} {w : World} {b p : Nat} {x : ByteArray} {life : Nat} {dead : Bool} {S : St} {n : Nat}
set_option maxRecDepth 100000 in
set_option maxHeartbeats 4000000 in
theorem add_K (a : Option Addr) (m c : Nat) (rs : List ByteArray) (hd : DK K w p S) (hf : S.Fits n) (hn : n + 3 < big) (hb : BookAt w b p x life dead) (kb : K b) (hl : life ≤ 9223372036854775807) (hx : x.size ≤ 1000) (hS : StrsAt w a m rs) (hsz : ∀ x ∈ rs, x.size ≤ 9223372036854775807) :
    Calls Tryz.prog 10 #[.pointer (some ⟨b, 0, none⟩), .slice a m c] w fun e w' => e = .returned (.int .i64 (addB S x life dead (lists rs)).2.1) ∧ (DK K w' p (addB S x life dead (lists rs)).1 ∧ BookAt w' b p x life (addB S x life dead (lists rs)).2.2 ∧ Only (fun k => ¬ K k ∨ k = b) w w') := by
  have hlife : S.life ≤ 9223372036854775807 := by have h1 := hf.2.1; unfold big at hn; omega
  obtain ⟨R, hR⟩ : ∃ R, readyS S life dead (lists rs) = R := ⟨_, rfl⟩
  have hRl : (bx R.1).size ≤ 140737488355328 := by rw [← hR, bx_size]; unfold readyS; rw [frame_len]; have := bodyE_len (lists rs); omega
  have HRD : Hid (∀ w', Below w.heap.size w w' → Calls Tryz.prog 45 #[.pointer (some ⟨b, 0, none⟩), .slice a m c] w' fun e w'' => e = .returned (.tuple #[.string (bx R.1), .int .i64 R.2]) ∧ Below w'.heap.size w' w'') := fun w' hbl => by
    have := bready_K K b p S x life dead a m c rs w' hlife hl (hd.below hbl) (Blk.only hb (Only.of_below hbl NoF) (fun e => e)) (hS.later hbl) hsz
    rwa [hR] at this
  unfold addB
  rw [hR]
  have hmf : ∀ (fn : Fn) (first cap : Array Value) (w : World), (Instr.makeFunc fn first cap).run Tryz.prog w = .ok (.func fn first cap) w := fun _ _ _ _ => rfl
  have HENV : Hid (∀ w1 W, Below (w.alloc (.cells #[.pointer (some ⟨b, 0, none⟩)] 28)).heap.size (w.alloc (.cells #[.pointer (some ⟨b, 0, none⟩)] 28)) w1 → Below w1.heap.size w1 W → _) := fun w1 W h1 h2 => far_env hd hb kb h1 h2
  obtain ⟨R1, R2⟩ := R
  simp only at hRl HRD ⊢
  by_cases hR2 : R2 = 0
  · subst hR2
    rw [if_pos rfl]
    obtain ⟨y, hy⟩ : ∃ y, bx R1 = y := ⟨_, rfl⟩
    rw [hy] at hRl HRD ⊢
    clear hy hd hb hS hsz hR hlife
    go_enter Tryz.func10, Tryz.ntmps10
    go_wp2_with (first
      | (go_at_call 45; refine (HRD.out _ ((Below.refl _ _).alloc (Nat.le_refl _) _)).mono ?_; rintro e w1 ⟨rfl, hs⟩; have L1 := hid hs; have cg := far_cell hs; clear hs))
    have L2 : Below w1.heap.size w1 ((w1.alloc (.cells #[.string y] 9)).alloc (.cells #[.func (Fn.func 47) #[] #[.pointer (some ⟨w.heap.size, 0, none⟩), .pointer (some ⟨w1.heap.size, 0, none⟩)], .func (Fn.func 48) #[] #[.pointer (some ⟨w.heap.size, 0, none⟩)]] 71)) := ((Below.refl _ _).alloc (Nat.le_refl _) _).alloc (by simp) _
    obtain ⟨hd2, hc2, hfin⟩ := HENV.out _ _ L1.out L2
    go_at_call 46
    refine (do_add (w1.heap.size + 1) hd2 hf (by omega) hc2 ⟨(Blk.new w1 9 #[.string y]).alloc _ |>.cell 0, .inr (.inr ⟨Nat.le_refl _, by simp <;> omega⟩)⟩ ?_ (.inr (.inr ⟨by omega, by simp⟩)) (by omega) hRl).mono ?_
    · have h9 : ((w1.alloc (.cells #[.string y] 9)).heap.size) = w1.heap.size + 1 := by simp
      have h8 := Blk.new (w1.alloc (.cells #[.string y] 9)) 71 #[.func (Fn.func 47) #[] #[.pointer (some ⟨w.heap.size, 0, none⟩), .pointer (some ⟨w1.heap.size, 0, none⟩)], .func (Fn.func 48) #[] #[.pointer (some ⟨w.heap.size, 0, none⟩)]]
      rw [h9] at h8
      exact ⟨h8.cell 0, h8.cell 1⟩
    rintro e w5 ⟨rfl, hs1, hs2, hs3⟩
    have H1 : Hid (DK K w5 p _) := hid (hs1.less (fun k hk => .inl hk)); have H2 := hid hs2; have H3 := hid (hfin _ hs3)
    clear hs1 hs2 hs3 hd2 hc2 hfin L2
    go_wp2_with fail
    go_ret
    exact ⟨rfl, H1.out, H2.out, H3.out⟩
  · have gz : (R2 == 0) = false := by rw [beq_eq_false_iff_ne]; exact hR2
    rw [if_neg hR2]
    have HFIN : Hid (∀ w', Below w.heap.size w w' → DK K w' p S ∧ BookAt w' b p x life dead ∧ Only (fun k => ¬ K k ∨ k = b) w w') := fun w' hbl => ⟨hd.below hbl, Blk.only hb (Only.of_below hbl NoF) (fun e => e), Only.of_below hbl _⟩
    clear hd hb hS hsz hR hlife HENV hR2
    go_enter Tryz.func10, Tryz.ntmps10
    go_wp2_with (first
      | (go_at_call 45; refine (HRD.out _ ((Below.refl _ _).alloc (Nat.le_refl _) _)).mono ?_; rintro e w1 ⟨rfl, hs⟩; have L1 := hid hs; clear hs))
    go_ret
    exact ⟨rfl, HFIN.out _ (below_then (below_then ((Below.refl _ _).alloc (Nat.le_refl _) _) L1.out) ((Below.refl _ _).alloc (Nat.le_refl _) _))⟩
set_option maxRecDepth 100000 in
set_option maxHeartbeats 4000000 in
theorem renew_K (a : Option Addr) (m c : Nat) (rs : List ByteArray) (hd : DK K w p S) (hf : S.Fits n) (hn : n + 5 < big) (hb : BookAt w b p x life dead) (kb : K b) (hl : life ≤ 9223372036854775807) (hx : x.size ≤ 1000) (hS : StrsAt w a m rs) (hsz : ∀ x ∈ rs, x.size ≤ 9223372036854775807) :
    Calls Tryz.prog 12 #[.pointer (some ⟨b, 0, none⟩), .slice a m c] w fun e w' => e = .returned (.int .i64 (renewB S x life dead (lists rs)).2.1) ∧ (DK K w' p (renewB S x life dead (lists rs)).1 ∧ BookAt w' b p x life (renewB S x life dead (lists rs)).2.2 ∧ Only (fun k => ¬ K k ∨ k = b) w w') := by
  have hlife : S.life ≤ 9223372036854775807 := by have h1 := hf.2.1; unfold big at hn; omega
  obtain ⟨R, hR⟩ : ∃ R, readyS S life dead (lists rs) = R := ⟨_, rfl⟩
  have hRl : (bx R.1).size ≤ 140737488355328 := by rw [← hR, bx_size]; unfold readyS; rw [frame_len]; have := bodyE_len (lists rs); omega
  have HRD : Hid (∀ w', Below w.heap.size w w' → Calls Tryz.prog 45 #[.pointer (some ⟨b, 0, none⟩), .slice a m c] w' fun e w'' => e = .returned (.tuple #[.string (bx R.1), .int .i64 R.2]) ∧ Below w'.heap.size w' w'') := fun w' hbl => by
    have := bready_K K b p S x life dead a m c rs w' hlife hl (hd.below hbl) (Blk.only hb (Only.of_below hbl NoF) (fun e => e)) (hS.later hbl) hsz
    rwa [hR] at this
  unfold renewB
  rw [hR]
  have hmf : ∀ (fn : Fn) (first cap : Array Value) (w : World), (Instr.makeFunc fn first cap).run Tryz.prog w = .ok (.func fn first cap) w := fun _ _ _ _ => rfl
  have HENV : Hid (∀ w1 W, Below (w.alloc (.cells #[.pointer (some ⟨b, 0, none⟩)] 28)).heap.size (w.alloc (.cells #[.pointer (some ⟨b, 0, none⟩)] 28)) w1 → Below w1.heap.size w1 W → _) := fun w1 W h1 h2 => far_env hd hb kb h1 h2
  obtain ⟨R1, R2⟩ := R
  simp only at hRl HRD ⊢
  have HNM : Hid (∀ w1, Below (w.alloc (.cells #[.pointer (some ⟨b, 0, none⟩)] 28)).heap.size (w.alloc (.cells #[.pointer (some ⟨b, 0, none⟩)] 28)) w1 → _) := fun w1 h1 => far_name hb h1
  have HSP : Hid (∀ w, Calls Tryz.prog 35 #[.string x] w fun e w' => e = .returned (.string (tilde x)) ∧ w = w') := fun w => spare_any x w hx
  have hzz : (tilde x).size ≤ 9223372036854775807 := by rw [tilde_size]; omega
  obtain ⟨z, hz⟩ : ∃ z, tilde x = z := ⟨_, rfl⟩
  rw [hz] at HSP hzz ⊢
  clear hz
  by_cases hR2 : R2 = 0
  · subst hR2
    rw [if_pos rfl]
    obtain ⟨y, hy⟩ : ∃ y, bx R1 = y := ⟨_, rfl⟩
    rw [hy] at hRl HRD ⊢
    clear hy hd hb hS hsz hR hlife
    go_enter Tryz.func12, Tryz.ntmps12
    go_wp2_with (first
      | (go_at_call 45; refine (HRD.out _ ((Below.refl _ _).alloc (Nat.le_refl _) _)).mono ?_; rintro e w1 ⟨rfl, hs⟩; have L1 := hid hs; have cg := far_cell hs; have cg2 := far_cell2 hs; have cn := HNM.out w1 hs; clear hs)
      | (go_at_call 35; refine (HSP.out _).mono ?_; rintro e w' ⟨rfl, rfl⟩))
    have L2 : Below w1.heap.size w1 (((w1.alloc (.cells #[.string y] 9)).alloc (.cells #[.string z] 9)).alloc (.cells #[.func (Fn.func 54) #[] #[.pointer (some ⟨w.heap.size, 0, none⟩), .pointer (some ⟨w1.heap.size + 1, 0, none⟩)], .func (Fn.func 55) #[] #[.pointer (some ⟨w.heap.size, 0, none⟩), .pointer (some ⟨w1.heap.size + 1, 0, none⟩), .pointer (some ⟨w1.heap.size, 0, none⟩)], .func (Fn.func 56) #[] #[.pointer (some ⟨w.heap.size, 0, none⟩), .pointer (some ⟨w1.heap.size + 1, 0, none⟩)], .func (Fn.func 57) #[] #[.pointer (some ⟨w.heap.size, 0, none⟩), .pointer (some ⟨w1.heap.size + 1, 0, none⟩)]] 71)) := (((Below.refl _ _).alloc (Nat.le_refl _) _).alloc (by simp) _).alloc (by simp <;> omega) _
    obtain ⟨hd2, hc2, hfin⟩ := HENV.out _ _ L1.out L2
    have HTZ : Text1 (fun k => K k ∨ (k = w.heap.size ∨ (w1.heap.size ≤ k ∧ k < (((w1.alloc (.cells #[.string y] 9)).alloc (.cells #[.string z] 9)).alloc (.cells #[.func (Fn.func 54) #[] #[.pointer (some ⟨w.heap.size, 0, none⟩), .pointer (some ⟨w1.heap.size + 1, 0, none⟩)], .func (Fn.func 55) #[] #[.pointer (some ⟨w.heap.size, 0, none⟩), .pointer (some ⟨w1.heap.size + 1, 0, none⟩), .pointer (some ⟨w1.heap.size, 0, none⟩)], .func (Fn.func 56) #[] #[.pointer (some ⟨w.heap.size, 0, none⟩), .pointer (some ⟨w1.heap.size + 1, 0, none⟩)], .func (Fn.func 57) #[] #[.pointer (some ⟨w.heap.size, 0, none⟩), .pointer (some ⟨w1.heap.size + 1, 0, none⟩)]] 71)).heap.size))) (((w1.alloc (.cells #[.string y] 9)).alloc (.cells #[.string z] 9)).alloc (.cells #[.func (Fn.func 54) #[] #[.pointer (some ⟨w.heap.size, 0, none⟩), .pointer (some ⟨w1.heap.size + 1, 0, none⟩)], .func (Fn.func 55) #[] #[.pointer (some ⟨w.heap.size, 0, none⟩), .pointer (some ⟨w1.heap.size + 1, 0, none⟩), .pointer (some ⟨w1.heap.size, 0, none⟩)], .func (Fn.func 56) #[] #[.pointer (some ⟨w.heap.size, 0, none⟩), .pointer (some ⟨w1.heap.size + 1, 0, none⟩)], .func (Fn.func 57) #[] #[.pointer (some ⟨w.heap.size, 0, none⟩), .pointer (some ⟨w1.heap.size + 1, 0, none⟩)]] 71)) (w1.heap.size + 1) z := by
      have h8 := (Blk.new (w1.alloc (.cells #[.string y] 9)) 9 #[.string z]).alloc (.cells #[.func (Fn.func 54) #[] #[.pointer (some ⟨w.heap.size, 0, none⟩), .pointer (some ⟨w1.heap.size + 1, 0, none⟩)], .func (Fn.func 55) #[] #[.pointer (some ⟨w.heap.size, 0, none⟩), .pointer (some ⟨w1.heap.size + 1, 0, none⟩), .pointer (some ⟨w1.heap.size, 0, none⟩)], .func (Fn.func 56) #[] #[.pointer (some ⟨w.heap.size, 0, none⟩), .pointer (some ⟨w1.heap.size + 1, 0, none⟩)], .func (Fn.func 57) #[] #[.pointer (some ⟨w.heap.size, 0, none⟩), .pointer (some ⟨w1.heap.size + 1, 0, none⟩)]] 71)
      have h9 : ((w1.alloc (.cells #[.string y] 9)).heap.size) = w1.heap.size + 1 := by simp
      rw [h9] at h8
      exact ⟨h8.cell 0, .inr (.inr ⟨by omega, by simp <;> omega⟩)⟩
    go_at_call 46
    refine (do_renew (w1.heap.size + 2) hd2 hf (by omega) hc2 ⟨((Blk.new w1 9 #[.string y]).alloc _).alloc _ |>.cell 0, .inr (.inr ⟨Nat.le_refl _, by simp <;> omega⟩)⟩ HTZ ?_ (.inr (.inr ⟨by omega, by simp⟩)) (by omega) hzz hRl).mono ?_
    · have h9 : (((w1.alloc (.cells #[.string y] 9)).alloc (.cells #[.string z] 9)).heap.size) = w1.heap.size + 2 := by simp
      have h8 := Blk.new ((w1.alloc (.cells #[.string y] 9)).alloc (.cells #[.string z] 9)) 71 #[.func (Fn.func 54) #[] #[.pointer (some ⟨w.heap.size, 0, none⟩), .pointer (some ⟨w1.heap.size + 1, 0, none⟩)], .func (Fn.func 55) #[] #[.pointer (some ⟨w.heap.size, 0, none⟩), .pointer (some ⟨w1.heap.size + 1, 0, none⟩), .pointer (some ⟨w1.heap.size, 0, none⟩)], .func (Fn.func 56) #[] #[.pointer (some ⟨w.heap.size, 0, none⟩), .pointer (some ⟨w1.heap.size + 1, 0, none⟩)], .func (Fn.func 57) #[] #[.pointer (some ⟨w.heap.size, 0, none⟩), .pointer (some ⟨w1.heap.size + 1, 0, none⟩)]]
      rw [h9] at h8
      exact ⟨h8.cell 0, h8.cell 1, h8.cell 2, h8.cell 3⟩
    rintro e w5 ⟨rfl, hs1, hs2, hs3⟩
    have H1 : Hid (DK K w5 p _) := hid (hs1.less (fun k hk => .inl hk)); have H2 := hid hs2; have H3 := hid (hfin _ hs3)
    clear hs1 hs2 hs3 hd2 hc2 hfin L2
    go_wp2_with fail
    go_ret
    exact ⟨rfl, H1.out, H2.out, H3.out⟩
  · have gz : (R2 == 0) = false := by rw [beq_eq_false_iff_ne]; exact hR2
    rw [if_neg hR2]
    have HFIN : Hid (∀ w', Below w.heap.size w w' → DK K w' p S ∧ BookAt w' b p x life dead ∧ Only (fun k => ¬ K k ∨ k = b) w w') := fun w' hbl => ⟨hd.below hbl, Blk.only hb (Only.of_below hbl NoF) (fun e => e), Only.of_below hbl _⟩
    clear hd hb hS hsz hR hlife HENV hR2
    go_enter Tryz.func12, Tryz.ntmps12
    go_wp2_with (first
      | (go_at_call 45; refine (HRD.out _ ((Below.refl _ _).alloc (Nat.le_refl _) _)).mono ?_; rintro e w1 ⟨rfl, hs⟩; have L1 := hid hs; clear hs))
    go_ret
    exact ⟨rfl, HFIN.out _ (below_then (below_then ((Below.refl _ _).alloc (Nat.le_refl _) _) L1.out) ((Below.refl _ _).alloc (Nat.le_refl _) _))⟩
end
end Go.Proofs.YtnhgfhbicaiilaaGreat
/- Size; Same; great. -/
namespace Go.Proofs.YtnhgfhbicaiilaaGreat
open Go.RowKit Book Reel
set_option linter.unusedVariables false

theorem bsize_nil (w : World) : Calls Tryz.prog 28 #[.pointer none] w fun e w' => e = .returned (.int .i64 0) ∧ w = w' := by
  go_enter Tryz.func28, Tryz.ntmps28
  go_wp2
  go_ret
  exact ⟨rfl, rfl⟩
theorem bsize_K {K : Nat → Prop} {w : World} {b p : Nat} {x : ByteArray} {life : Nat} {dead : Bool} {S : St} (hd : DK K w p S) (hb : BookAt w b p x life dead) :
    Calls Tryz.prog 28 #[.pointer (some ⟨b, 0, none⟩)] w fun e w' => e = .returned (.int .i64 (if sizeS S x < 0 then 0 else sizeS S x)) ∧ Below w.heap.size w w' := by
  have HZ : Hid (∀ q, Calls Tryz.prog 34 #[.pointer (some ⟨p, 0, none⟩), .string x] (w.drewN q) fun e w' => e = .returned (.int .i64 (sizeS S x)) ∧ w.drewN q = w') := fun q => size_K x (hd.only ((Only.refl NoF w).drewN q) (fun _ e => e.elim))
  obtain ⟨c0, c1, c2, c3⟩ := hb.cells
  clear c2 c3
  obtain ⟨z, hz⟩ : ∃ z, sizeS S x = z := ⟨_, rfl⟩
  rw [hz] at HZ ⊢
  clear hd hb hz
  by_cases h0 : z < 0
  · rw [if_pos h0]
    go_enter Tryz.func28, Tryz.ntmps28
    go_wp2_with fail
    go_quiet (first | (go_at_call 34; exact Calls.quiet_of_same ((HZ.out _).mono fun _ _ h => ⟨h.1, h.2.symm⟩)))
    go_wp2_with fail
    go_ret
    exact ⟨by simp; omega, below_drewN (Below.refl _ _) _⟩
  · rw [if_neg h0]
    go_enter Tryz.func28, Tryz.ntmps28
    go_wp2_with fail
    go_quiet (first | (go_at_call 34; exact Calls.quiet_of_same ((HZ.out _).mono fun _ _ h => ⟨h.1, h.2.symm⟩)))
    go_wp2_with fail
    go_ret
    exact ⟨by simp; omega, below_drewN (Below.refl _ _) _⟩
def totalN (rs : List ByteArray) : Nat := (rs.map fun s => s.size).sum
theorem total_snoc (rs : List ByteArray) (x : ByteArray) : totalN (rs ++ [x]) = totalN rs + x.size := by unfold totalN; simp
theorem total_le : ∀ (rs : List ByteArray) (k : Nat), totalN (rs.take k) ≤ totalN rs
  | [], k => by simp
  | x :: r, 0 => Nat.zero_le _
  | x :: r, k + 1 => by have := total_le r k; unfold totalN at *; simp only [List.take_succ_cons, List.map_cons, List.sum_cons]; omega
def greatB (rs : List ByteArray) : Bool := decide (8192 < totalN (rs.take 100) ∨ 100 < rs.length)
set_option maxHeartbeats 1000000 in
theorem great_any (a : Option Addr) (n c : Nat) (rs : List ByteArray) (w : World) (hS : StrsAt w a n rs) (hsz : ∀ x ∈ rs, x.size ≤ 140737488355328) :
    Calls Tryz.prog 9 #[.slice a n c] w fun e w' => e = .returned (.bool (greatB rs)) ∧ w = w' := by
  have hn : rs.length = n := hS.1
  have HS := hid hS
  have HSZ := hid hsz
  have HN := hid hn
  have HG : Hid (greatB rs = decide (8192 < totalN (rs.take 100) ∨ 100 < rs.length)) := rfl
  obtain ⟨R, hR⟩ : ∃ R, greatB rs = R := ⟨_, rfl⟩
  rw [hR] at HG ⊢
  clear hS hsz hn hR
  go_enter Tryz.func9, Tryz.ntmps9
  go_wp2
  go_loopw [3, 4] (fun nv iv wr => ∃ k : Nat, k ≤ n ∧ k ≤ 100 ∧ iv = .int .i64 k ∧ nv = .int .i64 (totalN (rs.take k) : Int) ∧ totalN (rs.take k) ≤ 1048576 ∧ wr = w) (fun _ iv _ => n - (intOf iv).toNat)
  case atStart => exact ⟨0, by omega, by omega, rfl, rfl, by simp [totalN], rfl⟩
  case round =>
    obtain ⟨k, hk, hk1, rfl, rfl, ht, rfl⟩ := hrel
    obtain ⟨T, hT⟩ : ∃ T, totalN (rs.take k) = T := ⟨_, rfl⟩
    rw [hT] at ht
    by_cases hlt : k < n
    · have ck : (k : Int) < n := by omega
      by_cases h100 : k < 100
      · have ck2 : (k : Int) < 100 := by omega
        have ck0 : (0 : Int) ≤ (k : Int) := by omega
        obtain ⟨ab, aoff, rfl, hab, hac⟩ := strs_get HS.out hlt
        obtain ⟨x, hx⟩ : ∃ x, rs.getD k ByteArray.empty = x := ⟨_, rfl⟩
        rw [hx] at hac
        have hkl : k < rs.length := by rw [HN.out]; exact hlt
        have hxk : rs[k] = x := by rw [← hx, List.getD_eq_getElem?_getD, List.getElem?_eq_getElem hkl]; rfl
        have hxs : x.size ≤ 140737488355328 := HSZ.out x (by rw [← hxk]; exact List.getElem_mem _)
        have HT1 : Hid (totalN (rs.take (k + 1)) = T + x.size) := by show _ = _; rw [List.take_succ_eq_append_getElem hkl, total_snoc, hT, hxk]
        rw [hT]
        clear hT hx hxk hkl
        by_cases hbig : 1048576 < T + x.size
        · have gb : (1048576 : Int) < (T : Int) + x.size := by omega
          have HRT : Hid (R = true) := by
            show R = true
            rw [HG.out, decide_eq_true_iff]
            left
            have h1 := total_le (rs.take 100) (k + 1)
            rw [List.take_take, Nat.min_eq_left (by omega), HT1.out] at h1
            omega
          go_wp2_with fail
          go_ret
          exact ⟨by rw [HRT.out]; rfl, rfl⟩
        · have gb : ¬ (1048576 : Int) < (T : Int) + x.size := by omega
          go_wp2_with fail
          go_roundw
          case rel => exact ⟨k + 1, by omega, by omega, by go_num, by rw [HT1.out]; go_num, by rw [HT1.out]; omega, by first | rfl | trivial⟩
          case measure => simp [intOf]; omega
      · obtain rfl : k = 100 := by omega
        rw [hT]
        have gn : (100 : Int) < n := by omega
        have HRT : Hid (R = true) := by show R = true; rw [HG.out, decide_eq_true_iff]; right; rw [HN.out]; omega
        clear hT
        by_cases h8 : 8192 < T
        · have g8 : (8192 : Int) < T := by omega
          go_wp2_with fail
          go_ret
          exact ⟨by rw [HRT.out]; rfl, rfl⟩
        · have g8 : ¬ (8192 : Int) < T := by omega
          go_wp2_with fail
          go_ret
          exact ⟨by rw [HRT.out]; rfl, rfl⟩
    · obtain rfl : k = n := by omega
      have ck : ¬ (k : Int) < k := by omega
      have hTT : totalN (rs.take 100) = T := by
        rw [← hT]
        have e1 : rs.take 100 = rs := List.take_of_length_le (by rw [HN.out]; omega)
        have e2 : rs.take k = rs := List.take_of_length_le (by rw [HN.out]; omega)
        rw [e1, e2]
      rw [hT]
      have gn : ¬ (100 : Int) < k := by omega
      by_cases h8 : 8192 < T
      · have g8 : (8192 : Int) < T := by omega
        have HRT : Hid (R = true) := by show R = true; rw [HG.out, decide_eq_true_iff]; left; omega
        clear hT hTT
        go_wp2_with fail
        go_ret
        exact ⟨by rw [HRT.out]; rfl, rfl⟩
      · have g8 : ¬ (8192 : Int) < T := by omega
        have HRT : Hid (R = false) := by show R = false; rw [HG.out, decide_eq_false_iff_not, hTT, HN.out]; omega
        clear hT hTT
        go_wp2_with fail
        go_ret
        exact ⟨by rw [HRT.out]; rfl, rfl⟩
/-- two lists of transactions that are the same -/
theorem same_row {L M : List (List ByteArray)} {k : Nat} (h : L.take k = M.take k) (hl : k < L.length) (hm : k < M.length) (e : L[k] = M[k]) : L.take (k + 1) = M.take (k + 1) := by
  rw [List.take_succ_eq_append_getElem hl, List.take_succ_eq_append_getElem hm, h, e]
theorem same_txt {l m : List ByteArray} {k : Nat} (h : l.take k = m.take k) (hl : k < l.length) (hm : k < m.length) (e : l[k] = m[k]) : l.take (k + 1) = m.take (k + 1) := by
  rw [List.take_succ_eq_append_getElem hl, List.take_succ_eq_append_getElem hm, h, e]
set_option maxRecDepth 100000 in
set_option maxHeartbeats 4000000 in
theorem same_any {G G' : Nat → Prop} (a a' : Option Addr) (n n' c c' : Nat) (L M : List (List ByteArray)) (w : World) (hL : GridIn G w a n L) (hM : GridIn G' w a' n' M) :
    Calls Tryz.prog 14 #[.slice a n c, .slice a' n' c'] w fun e w' => e = .returned (.bool (decide (L = M))) ∧ Below w.heap.size w w' := by
  have hn : L.length = n := hL.1
  have hn' : M.length = n' := hM.1
  have hb := hL.2.1; have hb' := hM.2.1
  by_cases hne : n = n'
  · subst hne
    have HL := hid hL; have HM := hid hM; have HN := hid hn; have HN' := hid hn'
    have HEQ : Hid (∀ R, R = decide (L = M) → R = decide (L = M)) := fun _ h => h
    obtain ⟨R, hR⟩ : ∃ R, decide (L = M) = R := ⟨_, rfl⟩
    have HR : Hid (decide (L = M) = R) := hR
    rw [hR]
    clear hL hM hn hn' hR HEQ
    have g0 : ((n : Int) == (n : Int)) = true := by simp
    go_enter Tryz.func14, Tryz.ntmps14
    go_wp2
    go_loopw [5, 6] (fun iv _ wr => ∃ k : Nat, k ≤ n ∧ iv = .int .i64 k ∧ Hid (L.take k = M.take k) ∧ Hid (Below w.heap.size w wr)) (fun iv _ _ => n - (intOf iv).toNat)
    case atStart => exact ⟨0, by omega, rfl, rfl, Below.refl _ _⟩
    case round =>
      obtain ⟨k, hk, rfl, HT, LX⟩ := hrel
      by_cases hlt : k < n
      · have ck : (k : Int) < n := by omega
        have ck0 : (0 : Int) ≤ (k : Int) := by omega
        obtain ⟨b1, o1, a1, c1, rfl, e1, s1⟩ := (HL.out.only (Only.of_below LX.out NoF) (fun _ _ e => e)).get hlt
        obtain ⟨b2, o2, a2, c2, rfl, e2, s2⟩ := (HM.out.only (Only.of_below LX.out NoF) (fun _ _ e => e)).get hlt
        have hl : k < L.length := by rw [HN.out]; exact hlt
        have hm : k < M.length := by rw [HN'.out]; exact hlt
        obtain ⟨l, hll⟩ : ∃ l, L[k] = l := ⟨_, rfl⟩
        obtain ⟨m, hmm⟩ : ∃ m, M[k] = m := ⟨_, rfl⟩
        rw [hll] at e1 s1; rw [hmm] at e2 s2
        have S1 := hid s1; have S2 := hid s2
        have HSTEP : Hid (l = m → L.take (k + 1) = M.take (k + 1)) := fun e => same_row HT.out hl hm (by rw [hll, hmm, e])
        have HNO : Hid (l ≠ m → R = false) := fun e => by
          rw [← HR.out, decide_eq_false_iff_not]; intro h; subst h; exact e (hll.symm.trans hmm)
        clear s1 s2 hll hmm hl hm
        by_cases hlen : l.length = m.length
        · obtain ⟨q, hq⟩ : ∃ q, m.length = q := ⟨_, rfl⟩
          have HQ : Hid (l.length = q) := hlen.trans hq
          have HQ2 := hid hq
          rw [hlen, hq] at e1; rw [hq] at e2
          rw [hlen, hq] at S1; rw [hq] at S2
          have gq : ((q : Int) == (q : Int)) = true := by simp
          have hq63 : q ≤ 9223372036854775807 := S1.out.1.2.1
          clear hlen hq
          go_wp2_with fail
          go_quiet (fail)
          go_wp2_with fail
          have E1 := hid e1; have E2 := hid e2
          clear e1 e2
          go_loopw [6] (fun jv wi => ∃ j : Nat, j ≤ q ∧ jv = .int .i64 j ∧ Hid (l.take j = m.take j) ∧ Hid (Below wr.heap.size wr wi)) (fun jv _ => q - (intOf jv).toNat)
          case atStart => exact ⟨0, by omega, rfl, rfl, below_drewN (Below.refl _ _) _⟩
          case round =>
            obtain ⟨j, hj, rfl, HJ, LI⟩ := hrel
            have e1 := (World.cell?_of_block (LI.out.block b1 (World.block_lt_of_cell? _ _ E1.out))).trans E1.out
            have e2 := (World.cell?_of_block (LI.out.block b2 (World.block_lt_of_cell? _ _ E2.out))).trans E2.out
            by_cases hlj : j < q
            · have cj : (j : Int) < q := by omega
              have cj0 : (0 : Int) ≤ (j : Int) := by omega
              obtain ⟨d1, p1, rfl, -, y1⟩ := strs_get (S1.out.1.later LI.out) hlj
              obtain ⟨d2, p2, rfl, -, y2⟩ := strs_get (S2.out.1.later LI.out) hlj
              have jl : j < l.length := by rw [HQ.out]; exact hlj
              have jm : j < m.length := by rw [HQ2.out]; exact hlj
              obtain ⟨z1, hz1⟩ : ∃ z, l.getD j ByteArray.empty = z := ⟨_, rfl⟩
              obtain ⟨z2, hz2⟩ : ∃ z, m.getD j ByteArray.empty = z := ⟨_, rfl⟩
              have k1 : l[j] = z1 := by rw [← hz1, List.getD_eq_getElem?_getD, List.getElem?_eq_getElem jl]; rfl
              have k2 : m[j] = z2 := by rw [← hz2, List.getD_eq_getElem?_getD, List.getElem?_eq_getElem jm]; rfl
              rw [hz1] at y1; rw [hz2] at y2
              have HS2 : Hid (z1 = z2 → l.take (j + 1) = m.take (j + 1)) := fun e => same_txt HJ.out jl jm (by rw [k1, k2, e])
              have HN2 : Hid (z1 ≠ z2 → R = false) := fun e => HNO.out (fun h => by subst h; exact e (k1.symm.trans k2))
              clear hz1 hz2 k1 k2 jl jm
              by_cases hz : z1 = z2
              · subst hz
                go_wp2_with fail
                go_quiet (fail)
                go_wp2_with fail
                go_roundw
                case rel => exact ⟨j + 1, by omega, by go_num, HS2.out (by first | rfl | trivial), below_drewN LI.out _⟩
                case measure => simp [intOf]; omega
              · have hzb := bstr_ne hz
                have HF := HN2.out hz
                have HFF := hid HF
                have hzb2 : ¬ z1.toList = z2.toList := by intro e; rw [e] at hzb; simp at hzb
                clear hz HF
                go_wp2_with fail
                go_quiet (fail)
                go_wp2_with fail
                go_ret
                exact ⟨by rw [HFF.out]; rfl, below_drewN (below_then LX.out LI.out) _⟩
            · obtain rfl : j = q := by omega
              have cj : ¬ (j : Int) < j := by omega
              have HLM : Hid (l = m) := by
                have h1 := HJ.out
                rwa [List.take_of_length_le (by rw [HQ.out]; omega), List.take_of_length_le (by rw [HQ2.out]; omega)] at h1
              go_wp2_with fail
              go_roundw
              case rel => exact ⟨k + 1, by omega, by go_num, HSTEP.out HLM.out, below_then LX.out LI.out⟩
              case measure => simp [intOf]; omega
        · have g : ((l.length : Int) == (m.length : Int)) = false := by rw [beq_eq_false_iff_ne]; omega
          have HF : Hid (R = false) := HNO.out (fun e => hlen (by rw [e]))
          clear hlen
          go_wp2_with fail
          go_quiet (fail)
          go_wp2_with fail
          go_ret
          exact ⟨by rw [HF.out]; rfl, below_drewN LX.out _⟩
      · obtain rfl : k = n := by omega
        have ck : ¬ (k : Int) < k := by omega
        have HRT : Hid (R = true) := by
          show R = true
          rw [← HR.out, decide_eq_true_iff]
          have h1 := HT.out
          rwa [List.take_of_length_le (by rw [HN.out]; omega), List.take_of_length_le (by rw [HN'.out]; omega)] at h1
        go_wp2_with fail
        go_ret
        exact ⟨by rw [HRT.out]; rfl, LX.out⟩
  · have g : ((n : Int) == (n' : Int)) = false := by rw [beq_eq_false_iff_ne]; omega
    have hR : decide (L = M) = false := by rw [decide_eq_false_iff_not]; intro h; subst h; omega
    rw [hR]
    clear hL hM hR hn hn'
    go_enter Tryz.func14, Tryz.ntmps14
    go_wp2
    go_ret
    exact ⟨rfl, Below.refl _ _⟩
end Go.Proofs.YtnhgfhbicaiilaaGreat
/- What awake of layer 17 sees: plain Lean. -/
namespace Go.Proofs.YtnhgfhbicaiilaaGreat
open Go.RowKit Book Reel
set_option linter.unusedVariables false

def J : ByteArray := ⟨#[106]⟩
def k0 : St := new 1000
def k1 : St := (addB k0 J 0 false [[120]]).1
def k2 : St := (renewB k1 J 0 false [[121], [122]]).1
set_option maxRecDepth 100000 in
theorem kf0 : (openS k0 J).2.1 = 0 ∧ (openS k0 J).2.2 = [] ∧ (openS k0 J).1 = k0 := ⟨by decide +kernel, by decide +kernel, rfl⟩
set_option maxRecDepth 100000 in
theorem kf1 : (addB k0 J 0 false [[120]]).2.1 = 0 ∧ (addB k0 J 0 false [[120]]).2.2 = false := by decide +kernel
set_option maxRecDepth 100000 in
theorem kf2 : (addB k1 J 0 false []).2.1 = 1 ∧ (addB k1 J 0 false []).2.2 = false := by decide +kernel
theorem kf2b : (addB k1 J 0 false []).1 = k1 := rfl
set_option maxRecDepth 100000 in
theorem kf3 : (renewB k1 J 0 false [[121], [122]]).2.1 = 0 ∧ (renewB k1 J 0 false [[121], [122]]).2.2 = false := by decide +kernel
set_option maxRecDepth 100000 in
theorem kf4 : (openS k2 J).2.1 = 0 ∧ (openS k2 J).2.2 = [[[121], [122]]] := by decide +kernel
set_option maxRecDepth 100000 in
theorem kf5 : readS k1 J = ([9, 0, 0, 0, 133, 221, 139, 140, 1, 0, 0, 0, 1, 0, 0, 0, 120], 0) := by decide +kernel
set_option maxRecDepth 100000 in
theorem kf6 : k0.Fits 10 ∧ k1.Fits 10 ∧ k2.Fits 10 := by unfold St.Fits; decide +kernel
theorem new_K {K : Nat → Prop} {w : World} (n : Int) (hK : ∀ k, K k → k < w.heap.size) : Calls Tryz.prog 5 #[.int .i64 n] w fun e w' => ∃ p, e = .returned (.pointer (some ⟨p, 0, none⟩)) ∧ DK K w' p (new n) ∧ Below w.heap.size w w' := by
  refine (new_D (B := w.heap.size) n (Nat.le_refl _)).mono ?_; rintro e w' ⟨p, rfl, d, b⟩
  refine ⟨p, rfl, ((DK.of_D (G := fun _ => False) d (fun k e => e.elim) (Below.refl _ _)).less (fun k hk => .inl (hK k hk))), b⟩
end Go.Proofs.YtnhgfhbicaiilaaGreat
/- The law's own test. -/
namespace Go.Proofs.YtnhgfhbicaiilaaGreat
open Go.RowKit Book Reel
set_option linter.unusedVariables false

theorem strs_new1 (w : World) (x : ByteArray) : StrsAt (w.alloc (.cells #[.string x] 9)) (some ⟨w.heap.size, 0, none⟩) 1 [x] := by
  refine ⟨rfl, by omega, .inr ⟨_, _, rfl, fun j hj => ?_⟩⟩
  obtain rfl : j = 0 := by omega
  exact (Blk.new w 9 #[.string x]).cell 0
theorem strs_new2 (w : World) (x y : ByteArray) : StrsAt (w.alloc (.cells #[.string x, .string y] 9)) (some ⟨w.heap.size, 0, none⟩) 2 [x, y] := by
  refine ⟨rfl, by omega, .inr ⟨_, _, rfl, fun j hj => ?_⟩⟩
  have h := Blk.new w 9 #[.string x, .string y]
  obtain rfl | rfl : j = 0 ∨ j = 1 := by omega
  · exact h.cell 0
  · exact h.cell 1
theorem Only.low {K : Nat → Prop} {B b : Nat} {w w1 w2 : World} (h : Below B w w1) (hB : B ≤ w1.heap.size) (ho : Only (fun k => ¬ K k ∨ k = b) w1 w2) (hK : ∀ k, k < B → K k) (hb : B ≤ b) : Below B w w2 :=
  h.trans (ho.below (fun k e => by
    rcases e with e | e
    · exact Nat.le_of_not_lt (fun h => e (hK k h))
    · omega) hB)
theorem Only.low1 {K : Nat → Prop} {B : Nat} {w w1 w2 : World} (h : Below B w w1) (hB : B ≤ w1.heap.size) (ho : Only (fun k => ¬ K k) w1 w2) (hK : ∀ k, k < B → K k) : Below B w w2 :=
  h.trans (ho.below (fun k e => Nat.le_of_not_lt (fun h => e (hK k h))) hB)
/-- a book over a disk -/
structure BkOn (K : Nat → Prop) (w : World) (p b : Nat) (S : St) (x : ByteArray) (life : Nat) (dead : Bool) : Prop where
  disk : DK K w p S
  book : BookAt w b p x life dead
  kb : K b
theorem BkOn.below {K : Nat → Prop} {w w' : World} {p b : Nat} {S : St} {x : ByteArray} {life : Nat} {dead : Bool} (h : BkOn K w p b S x life dead) (hb : Below w.heap.size w w') : BkOn K w' p b S x life dead := ⟨h.disk.below hb, Blk.only h.book (Only.of_below hb NoF) (fun e => e), h.kb⟩
section
variable {K : Nat → Prop} {w : World} {p b : Nat} {S : St} {x : ByteArray} {life : Nat} {dead : Bool} {n : Nat}
theorem add_E (a : Option Addr) (m c : Nat) (rs : List ByteArray) (h : BkOn K w p b S x life dead) (hf : S.Fits n) (hn : n + 3 < big) (hl : life ≤ 9223372036854775807) (hx : x.size ≤ 1000) (hS : StrsAt w a m rs) (hsz : ∀ x ∈ rs, x.size ≤ 9223372036854775807) :
    Calls Tryz.prog 10 #[.pointer (some ⟨b, 0, none⟩), .slice a m c] w fun e w' => e = .returned (.int .i64 (addB S x life dead (lists rs)).2.1) ∧ (BkOn K w' p b (addB S x life dead (lists rs)).1 x life (addB S x life dead (lists rs)).2.2 ∧ Only (fun k => ¬ K k ∨ k = b) w w') :=
  (add_K a m c rs h.disk hf (by omega) h.book h.kb hl hx hS hsz).mono fun e w' ⟨h1, h2, h3, h4⟩ => ⟨h1, ⟨h2, h3, h.kb⟩, h4⟩
theorem renew_E (a : Option Addr) (m c : Nat) (rs : List ByteArray) (h : BkOn K w p b S x life dead) (hf : S.Fits n) (hn : n + 5 < big) (hl : life ≤ 9223372036854775807) (hx : x.size ≤ 1000) (hS : StrsAt w a m rs) (hsz : ∀ x ∈ rs, x.size ≤ 9223372036854775807) :
    Calls Tryz.prog 12 #[.pointer (some ⟨b, 0, none⟩), .slice a m c] w fun e w' => e = .returned (.int .i64 (renewB S x life dead (lists rs)).2.1) ∧ (BkOn K w' p b (renewB S x life dead (lists rs)).1 x life (renewB S x life dead (lists rs)).2.2 ∧ Only (fun k => ¬ K k ∨ k = b) w w') :=
  (renew_K a m c rs h.disk hf (by omega) h.book h.kb hl hx hS hsz).mono fun e w' ⟨h1, h2, h3, h4⟩ => ⟨h1, ⟨h2, h3, h.kb⟩, h4⟩
end
set_option maxRecDepth 100000 in
set_option maxHeartbeats 8000000 in
theorem awake17_any (w : World) : Calls Tryz.prog 4 #[] w fun e w' => e = .returned (.bool true) ∧ Below w.heap.size w w' := by
  obtain ⟨B, hB⟩ : ∃ B, w.heap.size = B := ⟨_, rfl⟩
  have HBW := hid hB
  rw [hB]; clear hB
  have x1 : ((⟨#[9, 0, 0, 0, 133, 221, 139, 140, 1, 0, 0, 0, 1, 0, 0, 0, 120]⟩ : ByteArray).extract 0 4).toList = [9, 0, 0, 0] := by rw [ba_toList]; decide +kernel
  have x2 : ((⟨#[9, 0, 0, 0, 133, 221, 139, 140, 1, 0, 0, 0, 1, 0, 0, 0, 120]⟩ : ByteArray).extract 8 17).toList = [1, 0, 0, 0, 1, 0, 0, 0, 120] := by rw [ba_toList]; decide +kernel
  go_enter Tryz.func4, Tryz.ntmps4
  go_wp2_with fail
  refine (new_K (K := fun k => k < B) 1000 (fun k h => by rw [HBW.out]; exact h)).mono ?_; rintro e w1 ⟨p, rfl, d0, b1⟩
  have L1 : Hid (Below B w w1) := by rw [HBW.out] at b1; exact b1
  have B1 : B ≤ w1.heap.size := by have := L1.out.size; rw [HBW.out] at this; exact this
  have D0 : Hid (DK (fun k => k < B) w1 p k0) := d0
  clear d0 b1
  go_wp2_with fail
  refine (open_K (fun k => k < B) p k0 J w1 10 kf6.1 (by decide) D0.out (by decide)).mono ?_
  rintro e w2 ⟨hp, ho⟩
  rcases hp with ⟨-, b, a, c, G, rfl, hd, hbk, hGb, hgr, hG⟩ | ⟨h1, -⟩
  case inr => exact absurd kf0.1 h1
  rw [kf0.2.2] at hd hbk
  have hlen : (openS k0 J).2.2.length = 0 := by rw [kf0.2.1]; rfl
  rw [hlen]
  have L2 : Hid (Below B w w2) := Only.low1 L1.out B1 ho (fun k h => h)
  have hBb : B ≤ b := Nat.le_trans B1 (hG b hGb).1
  have HE2 : Hid (BkOn (fun k => k < B ∨ G k) w2 p b k0 J 0 false) := ⟨hd, hbk, .inr hGb⟩
  have B2 : B ≤ w2.heap.size := Nat.le_trans B1 ho.size
  clear hd hbk hGb hgr hG ho hlen D0
  go_wp2_with fail
  have hal : Below w2.heap.size w2 (w2.alloc (.cells #[.string ⟨#[120]⟩] 9)) := (Below.refl _ _).alloc (Nat.le_refl _) _
  go_at_call 10
  refine (add_E _ 1 1 [⟨#[120]⟩] (HE2.out.below hal) kf6.1 (by decide) (by decide) (by decide) (strs_new1 w2 _) (by decide)).mono ?_
  rintro e w3 ⟨rfl, he, ho⟩
  have hr : (addB k0 J 0 false (lists [⟨#[120]⟩])).2.1 = 0 := kf1.1
  have hdd : (addB k0 J 0 false (lists [⟨#[120]⟩])).2.2 = false := kf1.2
  rw [hr]
  rw [hdd] at he
  have HE3 : Hid (BkOn (fun k => k < B ∨ G k) w3 p b k1 J 0 false) := he
  have L3 : Hid (Below B w w3) := Only.low (L2.out.trans (hal.mono B2)) (Nat.le_trans B2 hal.size) ho (fun k h => .inl h) hBb
  have B3 : B ≤ w3.heap.size := Nat.le_trans B2 (Nat.le_trans hal.size ho.size)
  clear he ho hr hdd hal HE2
  go_wp2_with fail
  go_at_call 29
  refine (read_K J HE3.out.disk).mono ?_; rintro e w' ⟨rfl, rfl⟩
  rw [kf5]
  go_wp2_with fail
  go_at_call 10
  refine (add_E none 0 0 [] HE3.out kf6.2.1 (by decide) (by decide) (by decide) ⟨rfl, by omega, .inl rfl⟩ (by decide)).mono ?_
  rintro e w4 ⟨rfl, he, ho⟩
  have hr : (addB k1 J 0 false (lists [])).2.1 = 1 := kf2.1
  have hdd : (addB k1 J 0 false (lists [])).2.2 = false := kf2.2
  rw [hr]
  rw [hdd] at he
  have HE4 : Hid (BkOn (fun k => k < B ∨ G k) w4 p b k1 J 0 false) := he
  have L4 : Hid (Below B w w4) := Only.low L3.out B3 ho (fun k h => .inl h) hBb
  have B4 : B ≤ w4.heap.size := Nat.le_trans B3 ho.size
  clear he ho hr hdd HE3
  go_wp2_with fail
  have hal : Below w4.heap.size w4 (w4.alloc (.cells #[.string ⟨#[121]⟩, .string ⟨#[122]⟩] 9)) := (Below.refl _ _).alloc (Nat.le_refl _) _
  go_at_call 12
  refine (renew_E _ 2 2 [⟨#[121]⟩, ⟨#[122]⟩] (HE4.out.below hal) kf6.2.1 (by decide) (by decide) (by decide) (strs_new2 w4 _ _) (by decide)).mono ?_
  rintro e w5 ⟨rfl, he, ho⟩
  have hr : (renewB k1 J 0 false (lists [⟨#[121]⟩, ⟨#[122]⟩])).2.1 = 0 := kf3.1
  have hdd : (renewB k1 J 0 false (lists [⟨#[121]⟩, ⟨#[122]⟩])).2.2 = false := kf3.2
  rw [hr]
  rw [hdd] at he
  have HE5 : Hid (BkOn (fun k => k < B ∨ G k) w5 p b k2 J 0 false) := he
  have L5 : Hid (Below B w w5) := Only.low (L4.out.trans (hal.mono B4)) (Nat.le_trans B4 hal.size) ho (fun k h => .inl h) hBb
  have B5 : B ≤ w5.heap.size := Nat.le_trans B4 (Nat.le_trans hal.size ho.size)
  clear he ho hr hdd hal HE4
  go_wp2_with fail
  go_at_call 7
  refine (open_K (fun k => k < B ∨ G k) p k2 J w5 10 kf6.2.2 (by decide) HE5.out.disk (by decide)).mono ?_
  rintro e w6 ⟨hp, ho⟩
  rcases hp with ⟨-, b', a', c', G', rfl, hd, hbk, hGb, hgr, hG⟩ | ⟨h1, -⟩
  case inr => exact absurd kf4.1 h1
  rw [kf4.2] at hgr ⊢
  have L6 : Hid (Below B w w6) := Only.low1 L5.out B5 ho (fun k h => .inl h)
  obtain ⟨gb, go_, ga, gc, rfl, e1, s1⟩ := hgr.get (j := 0) (by decide)
  obtain ⟨tb, to_, rfl, -, t1⟩ := strs_get s1.1 (j := 1) (by show 1 < 2; omega)
  have q1 : w6.cell? ⟨gb, go_, none⟩ = some (.slice (some ⟨tb, to_, none⟩) 2 gc) := e1
  have q2 : w6.cell? ⟨tb, to_ + 1, none⟩ = some (.string ⟨#[122]⟩) := t1
  clear hd hbk hGb hgr hG ho HE5 e1 s1 t1
  go_wp2_with fail
  go_ret
  exact ⟨rfl, L6.out⟩
end Go.Proofs.YtnhgfhbicaiilaaGreat
/- What is seen of a disk, whatever its room and whether power goes: plain Lean. -/
namespace Go.Proofs.YtnhgfhbicaiilaaGreat.Reel
open Go.RowKit
set_option linter.unusedVariables false

structure Sees (S : St) (f : ByteArray → Option Spool) : Prop where
  ok : S.Ok
  at_ : ∀ x, Reel.at_ S x = f x
def Stays (S S' : St) : Prop := S'.down = false ∧ S'.life = S.life ∧ (S.armed = 0 → S'.armed = 0)
def Went (S S' : St) : Prop := S'.down = true ∧ S.armed ≠ 0
section
variable {S S' : St} {f : ByteArray → Option Spool} {x y : ByteArray} {t : Spool}
theorem Sees.same (h : Sees S f) (hl : S'.l = S.l) (ht : S'.ts = S.ts) (hu : S'.used = S.used) (hr : S'.room ≤ 67108864) : Sees S' f := by
  refine ⟨h.ok.with_ hl ht hu hr, fun x => ?_⟩
  rw [← h.at_ x]; unfold Reel.at_; rw [hl, ht]
theorem Sees.act (h : Sees S f) : Sees (actS S).1 f := by
  obtain ⟨h1, h2, h3, h4⟩ := act_l S
  exact h.same h1 h2 h3 (by rw [h4]; exact h.ok.room)
theorem act_two (S : St) (hd : S.down = false) : ((actS S).2 = 0 ∧ Stays S (actS S).1) ∨ ((actS S).2 = 10 ∧ Went S (actS S).1) := by
  unfold actS Stays Went
  split
  · rename_i h; exact .inl ⟨rfl, hd, rfl, fun _ => h⟩
  · split
    · rename_i h1 h2; exact .inr ⟨rfl, rfl, h1⟩
    · rename_i h1 h2; exact .inl ⟨rfl, hd, rfl, fun e => absurd e h1⟩
theorem put_sees (h : Sees S f) (hf : f x = some t) (t' : Spool) (h1 : t'.safe ≤ t'.bytes.length) (h2 : t'.bytes.length ≤ 4194304) (U : Nat) (hU : U + t.bytes.length = S.used + t'.bytes.length) (hm : U ≤ 67108864) : Sees { putT S x t' with used := U } (upd f x (some t')) := by
  have hat : Reel.at_ S x = some t := (h.at_ x).trans hf
  have hok := h.ok.put hat h2 h1 U hU hm
  refine ⟨hok, fun y => ?_⟩
  show Reel.at_ (putT S x t') y = _
  rw [at_put h.ok hok]; unfold upd
  split
  · rfl
  · exact h.at_ y
theorem ins_sees (h : Sees S f) (hf : f x = none) (hx : isName x = true) (hfew : S.l.length < 64) (t' : Spool) (h1 : t'.safe ≤ t'.bytes.length) (h2 : t'.bytes.length ≤ 4194304) (U : Nat) (hU : U = S.used + t'.bytes.length) (hm : U ≤ 67108864) : Sees { putT S x t' with used := U } (upd f x (some t')) := by
  have hat : Reel.at_ S x = none := (h.at_ x).trans hf
  have hok := h.ok.ins (at_none h.ok hat) hx hfew (t' := t') h2 h1 U hU hm
  refine ⟨hok, fun y => ?_⟩
  show Reel.at_ (putT S x t') y = _
  rw [at_put h.ok hok]; unfold upd
  split
  · rfl
  · exact h.at_ y
theorem del_sees (h : Sees S f) (hf : f x = some t) (U : Nat) (hU : U + t.bytes.length = S.used) : Sees { delT S x with used := U } (upd f x none) := by
  have hat : Reel.at_ S x = some t := (h.at_ x).trans hf
  have hok := h.ok.del hat U hU
  refine ⟨hok, fun y => ?_⟩
  show Reel.at_ (delT S x) y = _
  unfold upd
  split
  · rename_i hy; subst hy; exact at_del_self h.ok (at_some hat).1 hok
  · rename_i hy; rw [at_del h.ok hat hy]; exact h.at_ y
/-- the answer of an act: it was made, or the power went -/
def Acted (S : St) (r : St × Int) (f g : ByteArray → Option Spool) : Prop := (r.2 = 0 ∧ Sees r.1 g ∧ Stays S r.1) ∨ (r.2 = 10 ∧ Sees r.1 f ∧ Went S r.1)
def grown (o : Option Spool) (s : List UInt8) : Spool := match o with
  | some t => ⟨t.bytes ++ s, t.safe⟩
  | none => ⟨s, 0⟩
theorem append_sees (h : Sees S f) (hd : S.down = false) (s : ByteArray) (hx : isName x = true) :
    ((appendS S x s).2 = 11 ∧ (appendS S x s).1 = S) ∨ Acted S (appendS S x s) (upd f x (some (grown (f x) s.data.toList))) (upd f x (some (grown (f x) s.data.toList))) := by
  have hsz : s.data.toList.length = s.size := by rw [Array.length_toList]; rfl
  have hroom := h.ok.room
  have fin : ∀ (T : St) (g : ByteArray → Option Spool), Sees T g → T.down = false → T.life = S.life → T.armed = S.armed → Acted S (actS T) g g := by
    intro T g hT h1 h2 h3
    rcases act_two T h1 with ⟨e, a, b, c⟩ | ⟨e, a, b⟩
    · exact .inl ⟨e, hT.act, a, b.trans h2, fun e => c (h3.trans e)⟩
    · exact .inr ⟨e, hT.act, a, by rw [← h3]; exact b⟩
  unfold appendS
  rw [if_neg (by rw [hd]; simp), if_neg (by rw [hx]; simp)]
  by_cases hr : S.room < S.used + s.size
  · rw [if_pos hr]; exact .inl ⟨rfl, rfl⟩
  rw [if_neg hr, h.at_ x]
  cases hf : f x with
  | some t =>
    simp only
    split
    · exact .inl ⟨rfl, rfl⟩
    · rename_i hl
      have hsafe := (h.ok.each t (at_mem ((h.at_ x).trans hf))).2
      exact .inr (fin _ _ (put_sees h hf ⟨t.bytes ++ s.data.toList, t.safe⟩ (by show t.safe ≤ (t.bytes ++ s.data.toList).length; rw [List.length_append]; omega) (by show (t.bytes ++ s.data.toList).length ≤ _; rw [List.length_append, hsz]; omega) _ (by show S.used + s.size + _ = S.used + (t.bytes ++ s.data.toList).length; rw [List.length_append, hsz]; omega) (by omega)) hd rfl rfl)
  | none =>
    simp only
    split
    · exact .inl ⟨rfl, rfl⟩
    · rename_i hl
      exact .inr (fin _ _ (ins_sees h hf hx (by omega) ⟨s.data.toList, 0⟩ (Nat.zero_le _) (by show s.data.toList.length ≤ _; rw [hsz]; omega) _ (by show _ = S.used + s.data.toList.length; rw [hsz]) (by omega)) hd rfl rfl)
theorem sync_sees (h : Sees S f) (hd : S.down = false) (hf : f x = some t) : Acted S (syncS S x) f (upd f x (some ⟨t.bytes, t.bytes.length⟩)) := by
  have hat : Reel.at_ S x = some t := (h.at_ x).trans hf
  have h4 := (h.ok.each t (at_mem hat)).1
  unfold syncS
  rw [if_neg (by rw [hd]; simp), hat]
  simp only
  obtain ⟨l1, l2, l3, l4⟩ := act_l S
  rcases act_two S hd with ⟨e, st⟩ | ⟨e, w⟩
  · rw [if_pos e]
    refine .inl ⟨rfl, ?_, st⟩
    have := put_sees h.act hf ⟨t.bytes, t.bytes.length⟩ (Nat.le_refl _) h4 (actS S).1.used rfl (by rw [l3]; exact h.ok.most)
    exact this
  · rw [if_neg (by rw [e]; decide)]
    exact .inr ⟨e, h.act, w⟩
theorem drop_sees (h : Sees S f) (hd : S.down = false) (hf : f x = some t) : Acted S (dropS S x) f (upd f x none) := by
  have hat : Reel.at_ S x = some t := (h.at_ x).trans hf
  have hmem := size_mem (at_mem hat)
  rw [← h.ok.used] at hmem
  unfold dropS
  rw [if_neg (by rw [hd]; simp), hat]
  simp only
  obtain ⟨l1, l2, l3, l4⟩ := act_l S
  rcases act_two S hd with ⟨e, st⟩ | ⟨e, w⟩
  · rw [if_pos e]
    exact .inl ⟨rfl, del_sees h.act hf _ (by rw [l3]; omega), st⟩
  · rw [if_neg (by rw [e]; decide)]
    exact .inr ⟨e, h.act, w⟩
theorem cut_sees (h : Sees S f) (hd : S.down = false) (hf : f x = some t) (j : Nat) (hj : j ≤ t.bytes.length) : Acted S (cutS S x j) f (upd f x (some (cutT t j))) := by
  have hat : Reel.at_ S x = some t := (h.at_ x).trans hf
  have hmem := size_mem (at_mem hat)
  rw [← h.ok.used] at hmem
  have h4 := (h.ok.each t (at_mem hat)).1
  have hm := h.ok.most
  have hl : (cutT t j).bytes.length = j := by unfold cutT; rw [List.length_take]; omega
  unfold cutS
  rw [if_neg (by rw [hd]; simp), hat]
  simp only
  rw [if_neg (by omega)]
  obtain ⟨l1, l2, l3, l4⟩ := act_l S
  rcases act_two S hd with ⟨e, st⟩ | ⟨e, w⟩
  · rw [if_pos e]
    refine .inl ⟨rfl, ?_, st⟩
    have := put_sees h.act hf (cutT t j) (by rw [hl]; exact Nat.min_le_right _ _) (by rw [hl]; omega) (S.used - (t.bytes.length - j)) (by rw [l3, hl]; omega) (by omega)
    exact this
  · rw [if_neg (by rw [e]; decide)]
    exact .inr ⟨e, h.act, w⟩
theorem swap_sees (h : Sees S f) (hd : S.down = false) (hf : f x = some t) (hy : isName y = true) (hne : x ≠ y) : Acted S (swapS S x y) f (upd (upd f x none) y (some t)) := by
  have hat : Reel.at_ S x = some t := (h.at_ x).trans hf
  have hmem := size_mem (at_mem hat)
  rw [← h.ok.used] at hmem
  obtain ⟨h4, h5⟩ := h.ok.each t (at_mem hat)
  have hm := h.ok.most
  unfold swapS
  rw [if_neg (by rw [hd]; simp), hat]
  simp only
  rw [if_neg (by rw [hy]; decide)]
  obtain ⟨l1, l2, l3, l4⟩ := act_l S
  rcases act_two S hd with ⟨e, st⟩ | ⟨e, w⟩
  · rw [if_pos e, if_neg hne]
    refine .inl ⟨rfl, ?_, st⟩
    have hdel : Sees { delT (actS S).1 x with used := S.used - t.bytes.length } (upd f x none) := del_sees h.act hf _ (by rw [l3]; omega)
    have hfy : upd f x none y = f y := upd_other _ _ (Ne.symm hne)
    show Sees (putT { delT (actS S).1 x with used := S.used - lenAt S y } y t) _
    cases hfy2 : f y with
    | some t2 =>
      have hat2 : Reel.at_ S y = some t2 := (h.at_ y).trans hfy2
      have hmem2 := size_mem (at_mem hat2)
      rw [← h.ok.used] at hmem2
      have hlen : lenAt S y = t2.bytes.length := by unfold lenAt; rw [hat2]
      rw [hlen]
      exact put_sees hdel (hfy.trans hfy2) t h5 h4 (S.used - t2.bytes.length) (by show _ = S.used - t.bytes.length + _; omega) (by omega)
    | none =>
      have hat2 : Reel.at_ S y = none := (h.at_ y).trans hfy2
      have hlen : lenAt S y = 0 := by unfold lenAt; rw [hat2]
      rw [hlen]
      have hfew : ({ delT (actS S).1 x with used := S.used - t.bytes.length } : St).l.length < 64 := by
        rw [← hdel.ok.len]
        obtain ⟨g1, g2⟩ := at_some hat
        have hp : posOf S.l x < S.ts.length := (List.getElem?_eq_some_iff.1 g2).1
        have h64 := h.ok.few
        have hlen2 := h.ok.len
        show (delT (actS S).1 x).ts.length < 64
        have e3 : (delT (actS S).1 x).ts = S.ts.take (posOf S.l x) ++ S.ts.drop (posOf S.l x + 1) := by
          show (if hasN (actS S).1.l x = true then _ else _) = _
          rw [l1, l2, if_pos g1]
        rw [e3, List.length_append, List.length_take, List.length_drop]
        omega
      exact ins_sees hdel (hfy.trans hfy2) hy hfew t h5 h4 (S.used - 0) (by show _ = S.used - t.bytes.length + _; omega) (by omega)
  · rw [if_neg (by rw [e]; decide)]
    exact .inr ⟨e, h.act, w⟩
theorem on_sees (h : Sees S f) (hd : S.down = true) (fs : List Int) : ∃ g, Sees (onS S fs) g ∧ (onS S fs).down = false ∧ (onS S fs).life = S.life ∧ (onS S fs).armed = S.armed ∧ (∀ x, f x = none → g x = none) ∧ (∀ x t, f x = some t → ∃ t', g x = some t' ∧ (t.bytes.length = t.safe → t' = t) ∧ (t.bytes.length ≠ t.safe → ∃ c, t' = left t c)) := by
  have hok := on_ok h.ok fs
  have he : onS S fs = { S with down := false, ts := onT fs 0 S.ts, used := size (onT fs 0 S.ts) } := by unfold onS; rw [if_neg (by rw [hd]; simp)]
  rw [he] at hok ⊢
  refine ⟨_, ⟨hok, fun x => rfl⟩, rfl, rfl, rfl, fun x hx => ?_, fun x t hx => ?_⟩
  · have hn := at_none h.ok ((h.at_ x).trans hx)
    show Reel.at_ _ x = none
    unfold Reel.at_
    exact if_neg (by show ¬ hasN S.l x = true; rw [hn]; simp)
  · obtain ⟨h1, h2⟩ := at_some ((h.at_ x).trans hx)
    obtain ⟨t', g1, g2⟩ := (onT_get fs S.ts 0 (posOf S.l x)).2 t h2
    refine ⟨t', ?_, g2⟩
    show Reel.at_ _ x = _
    unfold Reel.at_
    exact (if_pos h1).trans g1
theorem off_sees (h : Sees S f) : Sees (offS S) f ∧ (offS S).down = true := by
  unfold offS
  by_cases hd : S.down = true
  · rw [if_pos hd]; exact ⟨h, hd⟩
  · rw [if_neg hd]; exact ⟨h.same rfl rfl rfl h.ok.room, rfl⟩
theorem arm_sees (h : Sees S f) (n : Int) : Sees (armS S n) f := h.same rfl rfl rfl h.ok.room
theorem read_sees (h : Sees S f) (hd : S.down = false) (x : ByteArray) : readS S x = match f x with | none => ([], 12) | some t => (t.bytes, 0) := by
  unfold readS; rw [if_neg (by rw [hd]; simp), h.at_ x]; rfl
theorem size_sees (h : Sees S f) (x : ByteArray) : sizeS S x = match f x with | none => -1 | some t => (t.bytes.length : Int) := by
  unfold sizeS; rw [h.at_ x]; rfl
theorem new_sees (n : Int) : Sees (new n) (fun _ => none) ∧ (new n).down = false ∧ (new n).armed = 0 := by
  refine ⟨⟨new_ok _, fun x => ?_⟩, rfl, rfl⟩
  unfold Reel.at_
  split <;> rfl
end
end Go.Proofs.YtnhgfhbicaiilaaGreat.Reel
/- A book over a disk whose power does not go: plain Lean. -/
namespace Go.Proofs.YtnhgfhbicaiilaaGreat
open Go.RowKit Book Reel
set_option linter.unusedVariables false

theorem J_tilde : tilde J ≠ J := by
  intro e
  have := congrArg ByteArray.size e
  rw [tilde_size] at this; omega
structure Calm (S : St) (D : List (List (List UInt8))) : Prop where
  down : S.down = false
  armed : S.armed = 0
  valid : ∀ rs ∈ D, Valid rs
  sees : ∃ f, Sees S f ∧ (∀ y, y ≠ J → f y = none) ∧ ((f J = none ∧ D = []) ∨ f J = some ⟨deedsL crcP D, (deedsL crcP D).length⟩)
theorem deedsL_snoc (crc : List UInt8 → Nat) (D : List (List (List UInt8))) (rs : List (List UInt8)) : deedsL crc (D ++ [rs]) = deedsL crc D ++ deedL crc rs := by unfold deedsL; rw [List.flatMap_append]; simp
theorem calm_new (n : Int) : Calm (new n) [] := by
  obtain ⟨h1, h2, h3⟩ := new_sees n
  exact ⟨h2, h3, fun rs h => (by cases h), _, h1, fun y _ => rfl, .inl ⟨rfl, rfl⟩⟩
theorem readR_all (D : List (List (List UInt8))) (hv : ∀ rs ∈ D, Valid rs) : readR crcP (deedsL crcP D) = (D, (deedsL crcP D).length) := by
  have := readR_deeds crcP_ok D [] hv (stepR_short [] (by simp))
  rwa [List.append_nil] at this
theorem calm_open {S : St} {D : List (List (List UInt8))} (h : Calm S D) : openS S J = (S, 0, D) := by
  obtain ⟨hd, ha, hv, f, hs, ho, hj⟩ := h
  have eA : openA S J = (S, 0) := by
    unfold openA
    rw [size_sees hs, ho _ J_tilde]
    exact if_neg (by decide)
  have eR : openR S J = (D, (readS S J).1.length) := by
    unfold openR
    rw [read_sees hs hd]
    rcases hj with ⟨hj, rfl⟩ | hj
    · rw [hj]; rfl
    · rw [hj]; exact readR_all D hv
  have eB : openB S J = (S, 0) := by
    unfold openB
    rw [eR]
    exact if_neg (by simp)
  unfold openS
  rw [if_neg (by rw [hd]; simp), if_neg (by decide), eA]
  simp only
  rw [if_neg (by simp), eB, eR]
  simp
theorem ready_ok {S : St} {life : Nat} {rs : List (List UInt8)} (hd : S.down = false) (hl : S.life = life) : (readyS S life false rs).2 = (bodyE rs).2 := by
  unfold readyS
  simp only
  rw [if_neg]
  rintro ⟨-, h | h | h⟩
  · cases h
  · rw [hd] at h; cases h
  · exact h hl
theorem bodyE_errs (rs : List (List UInt8)) : (bodyE rs).2 = 0 ∨ (bodyE rs).2 = 1 ∨ (bodyE rs).2 = 6 ∨ (bodyE rs).2 = 5 := by
  unfold bodyE
  split
  · exact .inr (.inl rfl)
  split
  · exact .inr (.inr (.inl rfl))
  split
  · exact .inr (.inr (.inr rfl))
  split
  · exact .inr (.inr (.inr rfl))
  · exact .inl rfl
/-- what a deed makes of a calm book -/
def DeedPost (S : St) (D D' : List (List (List UInt8))) (rs : List (List UInt8)) (r : St × Int × Bool) : Prop :=
  r.2.2 = false ∧ ((r.2.1 = 0 ∧ Valid rs ∧ Calm r.1 D' ∧ r.1.life = S.life) ∨ (r.2.1 ≠ 0 ∧ r.1 = S ∧ (r.2.1 = (bodyE rs).2 ∨ r.2.1 = 11)))
theorem seq_cons {F : St → St × Int} {r : List (St → St × Int)} {S : St} {dead : Bool} (h : (F S).2 = 0) : seqS (F :: r) S dead = seqS r (F S).1 dead := by
  show (if (F S).2 = 0 then _ else _) = _; rw [if_pos h]
theorem seq_stop {F : St → St × Int} {r : List (St → St × Int)} {S : St} {dead : Bool} (h : (F S).2 ≠ 0) : seqS (F :: r) S dead = ((F S).1, (F S).2, dead || decide ((F S).2 = 10)) := by
  show (if (F S).2 = 0 then _ else _) = _; rw [if_neg h]
theorem acted_calm {S : St} {r : St × Int} {f g : ByteArray → Option Spool} (h : Acted S r f g) (ha : S.armed = 0) : r.2 = 0 ∧ Sees r.1 g ∧ r.1.down = false ∧ r.1.armed = 0 ∧ r.1.life = S.life := by
  rcases h with ⟨h1, h2, h3, h4, h5⟩ | ⟨-, -, -, h⟩
  · exact ⟨h1, h2, h3, h5 ha, h4⟩
  · exact absurd ha h
theorem calm_add {S : St} {D : List (List (List UInt8))} (h : Calm S D) (rs : List (List UInt8)) : DeedPost S D (D ++ [rs]) rs (addB S J S.life false rs) := by
  obtain ⟨hd, ha, hv, f, hs, ho, hj⟩ := h
  have hr := ready_ok (rs := rs) hd rfl
  unfold addB
  by_cases h0 : (readyS S S.life false rs).2 = 0
  · rw [if_pos h0]
    rw [hr] at h0
    obtain ⟨hval, hb⟩ := bodyE_ok h0
    have hs1 : (bx (readyS S S.life false rs).1).data.toList = deedL crcP rs := by rw [bx_list]; unfold readyS deedL; rw [hb]
    obtain ⟨y, hy⟩ : ∃ y, bx (readyS S S.life false rs).1 = y := ⟨_, rfl⟩
    rw [hy] at hs1 ⊢
    unfold addL
    rcases append_sees hs hd y (x := J) (by decide) with ⟨e1, e2⟩ | hact
    · rw [seq_stop (by rw [e1]; decide)]
      refine ⟨?_, .inr ⟨?_, e2, .inr e1⟩⟩
      · show (false || decide ((appendS S J y).2 = 10)) = false
        rw [e1]; decide
      · show (appendS S J y).2 ≠ 0
        rw [e1]; decide
    · obtain ⟨a1, a2, a3, a4, a5⟩ := acted_calm hact ha
      rw [seq_cons a1]
      have hg : grown (f J) y.data.toList = ⟨deedsL crcP (D ++ [rs]), (grown (f J) y.data.toList).safe⟩ := by
        rw [deedsL_snoc, hs1]
        rcases hj with ⟨hj, rfl⟩ | hj
        · rw [hj]; rfl
        · rw [hj]; rfl
      obtain ⟨b1, b2, b3, b4, b5⟩ := acted_calm (sync_sees a2 a3 (upd_self _ _ _)) a4
      rw [seq_cons b1]
      refine ⟨rfl, .inl ⟨rfl, hval, ⟨b3, b4, ?_, _, b2, fun z hz => ?_, .inr ?_⟩, b5.trans a5⟩⟩
      · intro q hq
        rcases List.mem_append.1 hq with hq | hq
        · exact hv q hq
        · rw [List.mem_singleton] at hq; subst hq; exact hval
      · rw [upd_other _ _ hz, upd_other _ _ hz]; exact ho z hz
      · rw [upd_self, hg]
  · rw [if_neg h0]
    refine ⟨rfl, .inr ⟨h0, rfl, .inl hr⟩⟩
theorem calm_renew {S : St} {D : List (List (List UInt8))} (h : Calm S D) (rs : List (List UInt8)) : DeedPost S D [rs] rs (renewB S J S.life false rs) := by
  obtain ⟨hd, ha, hv, f, hs, ho, hj⟩ := h
  have hr := ready_ok (rs := rs) hd rfl
  unfold renewB
  by_cases h0 : (readyS S S.life false rs).2 = 0
  · rw [if_pos h0]
    rw [hr] at h0
    obtain ⟨hval, hb⟩ := bodyE_ok h0
    have hs1 : (bx (readyS S S.life false rs).1).data.toList = deedL crcP rs := by rw [bx_list]; unfold readyS deedL; rw [hb]
    obtain ⟨y, hy⟩ : ∃ y, bx (readyS S S.life false rs).1 = y := ⟨_, rfl⟩
    rw [hy] at hs1 ⊢
    unfold renewL
    have hd1 : drop1 S (tilde J) = (S, 0) := by unfold drop1; rw [size_sees hs, ho _ J_tilde]; exact if_pos (by decide)
    rw [seq_cons (by rw [hd1])]
    show DeedPost _ _ _ _ (seqS _ (drop1 S (tilde J)).1 false)
    rw [hd1]
    show DeedPost _ _ _ _ (seqS _ S false)
    rcases append_sees hs hd y (x := tilde J) (by decide) with ⟨e1, e2⟩ | hact
    · rw [seq_stop (by rw [e1]; decide)]
      refine ⟨?_, .inr ⟨?_, e2, .inr e1⟩⟩
      · show (false || decide ((appendS S (tilde J) y).2 = 10)) = false
        rw [e1]; decide
      · show (appendS S (tilde J) y).2 ≠ 0
        rw [e1]; decide
    · obtain ⟨a1, a2, a3, a4, a5⟩ := acted_calm hact ha
      rw [seq_cons a1]
      have hg : grown (f (tilde J)) y.data.toList = ⟨deedL crcP rs, 0⟩ := by
        rw [ho _ J_tilde, ← hs1]; rfl
      rw [hg] at a2
      obtain ⟨b1, b2, b3, b4, b5⟩ := acted_calm (sync_sees a2 a3 (upd_self _ _ _)) a4
      rw [seq_cons b1]
      obtain ⟨c1, c2, c3, c4, c5⟩ := acted_calm (swap_sees b2 b3 (upd_self _ _ _) (y := J) (by decide) J_tilde) b4
      rw [seq_cons c1]
      have hd2 : deedsL crcP [rs] = deedL crcP rs := by unfold deedsL; simp
      refine ⟨rfl, .inl ⟨rfl, hval, ⟨c3, c4, ?_, _, c2, fun z hz => ?_, .inr ?_⟩, c5.trans (b5.trans a5)⟩⟩
      · intro q hq; rw [List.mem_singleton] at hq; subst hq; exact hval
      · rw [upd_other _ _ hz]
        by_cases hzt : z = tilde J
        · subst hzt; rw [upd_self]
        · rw [upd_other _ _ hzt, upd_other _ _ hzt, upd_other _ _ hzt]; exact ho z hz
      · rw [upd_self, hd2]
  · rw [if_neg h0]
    refine ⟨rfl, .inr ⟨h0, rfl, .inl hr⟩⟩
end Go.Proofs.YtnhgfhbicaiilaaGreat
/- How many acts a book's calls take; rows of lists of texts that a law keeps. -/
namespace Go.Proofs.YtnhgfhbicaiilaaGreat
open Go.RowKit Book Reel
set_option linter.unusedVariables false

theorem fits_more {S : St} {n m : Nat} (h : S.Fits n) (hm : n ≤ m) : S.Fits m := ⟨Nat.le_trans h.1 hm, Nat.le_trans h.2.1 hm, h.2.2⟩
theorem seq_fits {dead : Bool} : ∀ (L : List (St → St × Int)) (S : St) (n : Nat), (∀ F ∈ L, ∀ S, Near S (F S).1) → S.Fits n → (seqS L S dead).1.Fits (n + L.length)
  | [], S, n, _, h => h
  | F :: r, S, n, hL, h => by
    have h1 := (hL F (List.mem_cons_self ..) S).fits h
    by_cases e : (F S).2 = 0
    · rw [seq_cons e]
      have := seq_fits (dead := dead) r (F S).1 (n + 1) (fun G hG => hL G (List.mem_cons_of_mem _ hG)) h1
      exact fits_more this (by simp; omega)
    · rw [seq_stop e]
      exact fits_more h1 (by simp)
theorem addL_near (x s : ByteArray) : ∀ F ∈ addL x s, ∀ S, Near S (F S).1 := by
  intro F hF S
  unfold addL at hF
  simp only [List.mem_cons, List.not_mem_nil, or_false] at hF
  rcases hF with rfl | rfl
  · exact append_near S x s
  · exact sync_near S x
theorem renewL_near (x t s : ByteArray) : ∀ F ∈ renewL x t s, ∀ S, Near S (F S).1 := by
  intro F hF S
  unfold renewL at hF
  simp only [List.mem_cons, List.not_mem_nil, or_false] at hF
  rcases hF with rfl | rfl | rfl | rfl
  · exact drop1_near S t
  · exact append_near S t s
  · exact sync_near S t
  · exact swap_near S t x
theorem add_fits {S : St} {n : Nat} (h : S.Fits n) (x : ByteArray) (life : Nat) (dead : Bool) (rs : List (List UInt8)) : (addB S x life dead rs).1.Fits (n + 4) := by
  unfold addB
  split
  · exact fits_more (seq_fits _ S n (addL_near _ _) h) (by simp [addL])
  · exact fits_more h (by omega)
theorem renew_fits {S : St} {n : Nat} (h : S.Fits n) (x : ByteArray) (life : Nat) (dead : Bool) (rs : List (List UInt8)) : (renewB S x life dead rs).1.Fits (n + 4) := by
  unfold renewB
  split
  · exact fits_more (seq_fits _ S n (renewL_near _ _ _) h) (by simp [renewL])
  · exact fits_more h (by omega)
theorem open_fits {S : St} {n : Nat} (h : S.Fits n) (x : ByteArray) : (openS S x).1.Fits (n + 4) := by
  have hA := (openA_near S x).fits h
  have hB := (openB_near (openA S x).1 x).fits hA
  unfold openS
  split
  · exact fits_more h (by omega)
  split
  · exact fits_more h (by omega)
  split
  · exact fits_more hA (by omega)
  split
  · exact fits_more hB (by omega)
  · exact fits_more hB (by omega)
theorem grid_lists (L : List (List ByteArray)) : grid (L.map lists) = L := by
  unfold grid lists
  rw [List.map_map]
  conv => rhs; rw [← List.map_id L]
  apply List.map_congr_left
  intro l _
  simp only [Function.comp, List.map_map]
  conv => rhs; rw [id, ← List.map_id l]
  apply List.map_congr_left
  intro s _
  exact bx_back s
/-- a law's own list of deeds: the slices came in -/
def Want (w0 w : World) (B : Nat) (v : Value) (L : List (List ByteArray)) : Prop := ∃ vs, w.ownsRow B 36 1 v L.length vs ∧ ∀ j (h : j < L.length), ∃ a c, vs[j]? = some (.slice a L[j].length c) ∧ StrsAt w0 a L[j].length L[j]
theorem want_nil (w0 w : World) (B : Nat) : Want w0 w B (.slice none 0 0) [] := ⟨[], World.ownsRow_nil _ _ _ _, fun j h => by cases h⟩
theorem want_push {w0 w' : World} {B : Nat} {v' : Value} {L : List (List ByteArray)} {vs : List Value} {rs : List ByteArray} {a : Option Addr} {c : Nat} (hl : vs.length = L.length)
    (h2 : ∀ j (h : j < L.length), ∃ a c, vs[j]? = some (.slice a L[j].length c) ∧ StrsAt w0 a L[j].length L[j]) (hr : StrsAt w0 a rs.length rs) (ho : w'.ownsRow B 36 1 v' (L.length + 1) (vs ++ [.slice a rs.length c])) : Want w0 w' B v' (L ++ [rs]) := by
  refine ⟨vs ++ [.slice a rs.length c], by rw [List.length_append]; exact ho, fun j hj => ?_⟩
  by_cases hjl : j < L.length
  · obtain ⟨a', c', e, h3⟩ := h2 j hjl
    have e2 : (L ++ [rs])[j] = L[j] := List.getElem_append_left hjl
    rw [e2]
    exact ⟨a', c', by rw [List.getElem?_append_left (by omega)]; exact e, h3⟩
  · have hj' : j = L.length := by rw [List.length_append] at hj; simp at hj; omega
    subst hj'
    have e2 : (L ++ [rs])[L.length] = rs := by simp
    rw [e2]
    exact ⟨a, c, by rw [List.getElem?_append_right (by omega), hl]; simp, hr⟩
theorem Want.grid {w0 w : World} {B : Nat} {a : Option Addr} {n c : Nat} {L : List (List ByteArray)} (h : Want w0 w B (.slice a n c) L) (hn : n = L.length) (hm : n ≤ 9223372036854775807) (hb : Below w0.heap.size w0 w) : GridIn (fun _ => True) w a n L := by
  subst hn
  obtain ⟨vs, h1, h2⟩ := h
  refine ⟨rfl, hm, ?_⟩
  by_cases h0 : L.length = 0
  · exact .inl h0
  right
  have h1' := h1
  rcases h1.2 with ⟨e, e0⟩ | ⟨g, cap, cur, e, hg1, hg, hn, hc, hsz, htk⟩
  · exact absurd e0 h0
  injection e with e1 e2 e3
  subst e1 e3
  refine ⟨g, 0, rfl, trivial, fun j hj => ?_⟩
  obtain ⟨a', c', e, ho⟩ := h2 j hj
  refine ⟨a', c', ?_, ho.later hb, fun _ _ _ _ => trivial⟩
  have h3 := h1'.cellAt j (by omega)
  rw [Nat.zero_add]
  have h5 : (⟨g, 0, none⟩ : Addr).add j = ⟨g, j, none⟩ := by unfold Addr.add; split <;> simp_all
  rw [← e, ← h3]
theorem total_mem : ∀ (rs : List ByteArray) (x : ByteArray), x ∈ rs → x.size ≤ totalN rs
  | y :: r, x, h => by
    unfold totalN
    simp only [List.map_cons, List.sum_cons]
    rcases List.mem_cons.1 h with rfl | h
    · omega
    · have := total_mem r x h; unfold totalN at this; omega
theorem body_total : ∀ (rs : List ByteArray), ((lists rs).flatMap textL).length = 4 * rs.length + totalN rs
  | [] => rfl
  | x :: r => by
    have := body_total r
    have hx : x.data.toList.length = x.size := by rw [Array.length_toList]; rfl
    show ((x.data.toList :: lists r).flatMap textL).length = _
    rw [List.flatMap_cons, List.length_append, textL_len, this, hx]
    unfold totalN
    simp only [List.map_cons, List.sum_cons, List.length_cons]
    omega
theorem great_not {rs : List ByteArray} (h : greatB rs = false) : (bodyE (lists rs)).2 = 0 ∨ (bodyE (lists rs)).2 = 1 ∨ (bodyE (lists rs)).2 = 6 := by
  unfold greatB at h
  rw [decide_eq_false_iff_not] at h
  simp only [not_or] at h
  obtain ⟨h1, h2⟩ := h
  have ht : rs.take 100 = rs := List.take_of_length_le (by omega)
  rw [ht] at h1
  have hb := body_total rs
  have hl := lists_len rs
  unfold bodyE
  split
  · exact .inr (.inl rfl)
  split
  · exact .inr (.inr rfl)
  split
  · rename_i hx
    obtain ⟨x, hx, hx2⟩ := hx
    unfold lists at hx
    obtain ⟨y, hy, rfl⟩ := List.mem_map.1 hx
    have h3 := total_mem rs y hy
    have h4 : y.data.toList.length = y.size := by rw [Array.length_toList]; rfl
    omega
  split
  · rename_i hx
    exfalso
    unfold bodyL at hx
    rw [List.length_append, numL_len, hb] at hx
    omega
  · exact .inl rfl
end Go.Proofs.YtnhgfhbicaiilaaGreat
/- A slice of structs, opened: the fields of each. -/
namespace Go.Proofs.YtnhgfhbicaiilaaGreat
open Go.ChangeShapes Go.WideShapes Go.ChangeAt Go.RowKit Go.Deep
set_option linter.unusedVariables false

section
variable {H : Type} {enc : TypeId × Value → H} {P : Program} {w : World} {base : Nat} {spare : Nat → Bool} {held : Bool}
theorem open_slice_fields {t e : TypeId} {fs : Array Field} {fuel : Nat} {cs : List Value} {x : DataW H × List MemPlace} (ht : P.underlying t = some (.slice e)) (he : P.underlying e = some (.struct fs))
    (hone : oneCellFields P fs = true) (hC : P.cellsOf e = fs.size) (h : DataW.trod enc P w base spare held fuel t cs = some x) :
    (cs = [.slice none 0 0] ∧ x = (.nil, [])) ∨
    ∃ (a : Addr) (len cap m : Nat) (D : Nat → DataW H) (Pl : Nat → List MemPlace), cs = [.slice (some a) len cap] ∧ base ≤ a.block ∧ len ≤ cap ∧ cap ≤ maxLen ∧ m = (if spare a.block then cap else len) ∧
      x = (.slice ((List.range len).map D) ((List.range (m - len)).map fun j => D (len + j)), MemPlace.row a (m * fs.size) ++ (List.range m).flatMap Pl) ∧
      ∀ i, i < m → ∃ (ys : List (DataW H × List MemPlace)) (n : Nat), D i = .agg (ys.map (·.1)) ∧ Pl i = ys.flatMap (·.2) ∧ ys.length = fs.size ∧
        ∀ (j : Nat) (f : Field), fs[j]? = some f → ∃ (v : Value) (y : DataW H × List MemPlace), w.cell? (a.add (i * fs.size + j)) = some v ∧ ys[j]? = some y ∧ DataW.trod enc P w base spare held n f.type [v] = some y := by
  rcases open_slice ht h with h0 | ⟨a, len, cap, m, n, D, Pl, hcs, hb, hl, hm, hmm, hx, hi⟩
  · exact .inl h0
  · refine .inr ⟨a, len, cap, m, D, Pl, hcs, hb, hl, hm, hmm, by rw [hC] at hx; exact hx, fun i him => ?_⟩
    obtain ⟨cs', hc, ht'⟩ := hi i him
    rw [hC] at hc
    obtain ⟨ys, n', hn', hy, hlen, hyl, hf⟩ := DataW.trod_struct he ht'
    obtain ⟨_, hcl, hat⟩ := World.cells?_some hc
    simp only [Prod.mk.injEq] at hy
    refine ⟨ys, n', hy.1, hy.2, hyl, fun j f hj => ?_⟩
    obtain ⟨ho, hk⟩ := hone_of hone j f hj
    have hjl : j < fs.size := (Array.getElem?_eq_some_iff.1 hj).1
    have hcell := hat j hjl
    have hv : cs'[j]? = some (cs'[j]'(by omega)) := List.getElem?_eq_getElem (by omega)
    have h1 := hf j f hj
    rw [ho, hk] at h1
    have hone' : (cs'.drop j).take 1 = [cs'[j]'(by omega)] := by
      rw [List.drop_eq_getElem_cons (by omega)]
      rfl
    rw [hone'] at h1
    have hys : ys[j]? = some (ys[j]'(by omega)) := List.getElem?_eq_getElem (by omega)
    refine ⟨_, _, ?_, hys, h1.trans hys⟩
    rw [← Go.Deep.add_add, hcell, hv]
end
end Go.Proofs.YtnhgfhbicaiilaaGreat
/- An argument that is a slice of deeds (a slice of texts, and a bool), opened: with the bound of its texts. -/
namespace Go.Proofs.YtnhgfhbicaiilaaGreat
open Go.ChangeShapes Go.WideShapes Go.ChangeAt Go.RowKit Go.Deep
set_option linter.unusedVariables false

theorem weights_mem_all {H : Type} {P : Program} {e : TypeId} {n : Nat} : ∀ {l : List (DataW H)} {d : DataW H}, d ∈ l → n ∈ d.weights P e → n ∈ DataW.weightsAll P e l
  | x :: r, d, hd, hn => by
    simp only [DataW.weightsAll, List.mem_append]
    rcases List.mem_cons.1 hd with rfl | hd
    · exact .inl hn
    · exact .inr (weights_mem_all hd hn)
theorem weights_slice {H : Type} {P : Program} {t e : TypeId} {n : Nat} {l r : List (DataW H)} {d : DataW H} (ht : P.underlying t = some (.slice e)) (hd : d ∈ l) (hn : n ∈ d.weights P e) : n ∈ (DataW.slice l r : DataW H).weights P t := by
  simp only [DataW.weights, ht, List.mem_cons, List.mem_append]
  exact .inr (.inl (weights_mem_all hd hn))
theorem weights_struct {H : Type} {P : Program} {t : TypeId} {fs : Array Field} {n j : Nat} {f : Field} {l : List (DataW H)} {d : DataW H} (ht : P.underlying t = some (.struct fs)) (hf : fs[j]? = some f) (hd : l[j]? = some d) (hn : n ∈ d.weights P f.type) : n ∈ (DataW.agg l : DataW H).weights P t := by
  simp only [DataW.weights, ht]
  exact DataW.weights_mem_each (j := j) (by rw [List.getElem?_map]; simp [hf]) hd n hn
/-- a slice of texts at one cell -/
theorem strsAt_one {H : Type} {enc : TypeId × Value → H} {W : World} {base fuel : Nat} {spare : Nat → Bool} {held : Bool} {v : Value} {y : DataW H × List MemPlace} (h : DataW.trod enc Tryz.prog W base spare held fuel 36 [v] = some y) :
    ∃ a n c l, v = .slice a n c ∧ StrsAt W a n l ∧ ∀ x ∈ l, x.size ∈ y.1.weights Tryz.prog 36 := by
  rcases open_strings Tryz.underlying36 Tryz.underlying9 (by kernel_rfl) h with ⟨hcs, _⟩ | ⟨x, l, c, ss, hcs, _, hl, hm, hz, hx, hcell, hws⟩
  · simp at hcs
    subst hcs
    exact ⟨none, 0, 0, [], rfl, ⟨rfl, by omega, .inl rfl⟩, fun x hx => by cases hx⟩
  · simp at hcs
    subst hcs
    have hc2 : l ≤ ss.length := by rw [hz]; split <;> omega
    refine ⟨_, _, _, ss.take l, rfl, ?_, fun z hz2 => ?_⟩
    · refine ⟨by simp; omega, by unfold maxLen at hm; omega, ?_⟩
      by_cases h0 : l = 0
      · exact .inl h0
      · refine .inr ?_
        obtain ⟨b, off, spot⟩ := x
        have hspot : spot = none := by simpa [Addr.add] using World.cell?_spot (hcell 0 (by omega))
        subst hspot
        refine ⟨b, off, rfl, fun j hj => ?_⟩
        have h1 := hcell j (by omega)
        have h2 : (⟨b, off, none⟩ : Addr).add j = ⟨b, off + j, none⟩ := by
          unfold Addr.add; split
          · subst_vars; rfl
          · rfl
        rw [h2] at h1
        rw [h1]
        simp [List.getD_eq_getElem?_getD, hj]
    · rw [hx]
      have hd : (DataW.lit (.string z.data.toList) : DataW H) ∈ strs (ss.take l) := by unfold strs; exact List.mem_map.2 ⟨z, hz2, rfl⟩
      refine weights_slice Tryz.underlying36 hd ?_
      have hs : z.size = z.data.toList.length := by rw [Array.length_toList]; rfl
      rw [hs]; simp [DataW.weights]
/-- a deed at a place in memory -/
def DeedAt (w : World) (b o : Nat) (a : Option Addr) (n c : Nat) (rs : List ByteArray) (anew : Bool) : Prop :=
  w.cell? ⟨b, o, none⟩ = some (.slice a n c) ∧ w.cell? ⟨b, o + 1, none⟩ = some (.bool anew) ∧ StrsAt w a n rs ∧ ∀ x ∈ rs, x.size ≤ 140737488355328
def DeedsAt (w : World) (a : Option Addr) (n : Nat) : Prop := n ≤ 9223372036854775807 ∧ (n = 0 ∨ ∃ b off, a = some ⟨b, off, none⟩ ∧ ∀ j, j < n → ∃ ra rn rc rs rw, DeedAt w b (off + j * 2) ra rn rc rs rw)
end Go.Proofs.YtnhgfhbicaiilaaGreat
