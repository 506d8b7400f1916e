/- check, Split, Join, Compare, Within of the program. -/
import Derived.Test.YtfgglckpfnnaoaaDoorPathWalkA
namespace Go.Proofs.YtfgglckpfnnaoaaDoor
open Go.RowKit Pap
set_option linter.unusedVariables false

def ls (l : List ByteArray) : List (List UInt8) := l.map (·.data.toList)
theorem ls_length (l : List ByteArray) : (ls l).length = l.length := by simp [ls]
/-- the library's variable that says how long a text may be that is searched by rule -/
def MaxAt (w : World) : Prop := ∃ m, w.cell? ⟨0, 0, none⟩ = some (.int .i64 m)
theorem MaxAt.later {w w' : World} (h : MaxAt w) (hb : Below w.heap.size w w') : MaxAt w' := by
  obtain ⟨m, hm⟩ := h
  refine ⟨m, ?_⟩
  rw [hb.cell (p := ⟨0, 0, none⟩) (World.block_lt_of_cell? w _ hm)]; exact hm
theorem any_bad (l : List ByteArray) : l.any (fun x => !goodL x.data.toList) = true ↔ ∃ x ∈ ls l, goodL x = false := by
  rw [List.any_eq_true]
  constructor
  · rintro ⟨x, hx, h⟩; exact ⟨_, List.mem_map.2 ⟨x, hx, rfl⟩, by simpa using h⟩
  · rintro ⟨y, hy, h⟩
    obtain ⟨x, hx, rfl⟩ := List.mem_map.1 hy
    exact ⟨x, hx, by simpa using h⟩

set_option maxHeartbeats 1000000 in
set_option maxRecDepth 100000 in
theorem check_any (a : Option Addr) (n c : Nat) (l : List ByteArray) (w : World) (hS : StrsAt w a n l) :
    Calls Tryd.prog 25 #[.slice a n c] w fun e w' => e = .returned (.int .i64 (checkE (ls l))) ∧ Below w.heap.size w w' := by
  have hl := hS.1
  have cc := containsFunc_grows 35 #[] (fun args w => rfl) (fun x => !goodL x.data.toList) a n c l w hS
    (fun W _ x _ => (checkClos_any x W).mono fun e w' h => ⟨h.1, by obtain ⟨_, rfl⟩ := h; exact Below.refl _ _⟩)
  by_cases h0 : n = 0
  · have HX : Hid (checkE (ls l) = 30) := by
      unfold Hid checkE; rw [if_pos (.inl (List.length_eq_zero_iff.1 (by rw [ls_length]; omega)))]
    have hb : ((n : Int) == 0) = true := by simp; omega
    clear cc
    go_enter Tryd.func25, Tryd.ntmps25
    go_wp2
    go_ret
    exact ⟨ret_int (by rw [HX.out]), Below.refl _ _⟩
  · have hb : ((n : Int) == 0) = false := by simp; omega
    by_cases hany : l.any (fun x => !goodL x.data.toList) = true
    · have HX : Hid (checkE (ls l) = 30) := by unfold Hid checkE; rw [if_pos (.inr ((any_bad l).1 hany))]
      rw [hany] at cc
      have CC := hid cc; clear cc hany
      go_enter Tryd.func25, Tryd.ntmps25
      go_wp2_with (go_at_call 33; refine CC.out.mono ?_; rintro e w1 ⟨rfl, hb1⟩)
      go_ret
      exact ⟨ret_int (by rw [HX.out]), hb1⟩
    · have hf : l.any (fun x => !goodL x.data.toList) = false := by simpa using hany
      have hno : ¬ (ls l = [] ∨ ∃ x ∈ ls l, goodL x = false) := by
        rintro (h | h)
        · have := congrArg List.length h; rw [ls_length] at this; simp at this; rw [this] at hl; simp at hl; omega
        · exact hany ((any_bad l).2 h)
      rw [hf] at cc
      have CC := hid cc; clear cc hany hf
      by_cases h64 : 64 < n
      · have HX : Hid (checkE (ls l) = 33) := by unfold Hid checkE; rw [if_neg hno, if_pos (by rw [ls_length]; omega)]
        have hn : (64 : Int) < n := by omega
        clear hno
        go_enter Tryd.func25, Tryd.ntmps25
        go_wp2_with (go_at_call 33; refine CC.out.mono ?_; rintro e w1 ⟨rfl, hb1⟩)
        go_ret
        exact ⟨ret_int (by rw [HX.out]), hb1⟩
      · have HX : Hid (checkE (ls l) = 0) := by unfold Hid checkE; rw [if_neg hno, if_neg (by rw [ls_length]; omega)]
        have hn : ¬ (64 : Int) < n := by omega
        clear hno
        go_enter Tryd.func25, Tryd.ntmps25
        go_wp2_with (go_at_call 33; refine CC.out.mono ?_; rintro e w1 ⟨rfl, hb1⟩)
        go_ret
        exact ⟨ret_int (by rw [HX.out]), hb1⟩

/-- what Split hands back -/
def namesOf (s : List UInt8) : List (List UInt8) := if splitE s = 0 then pieces s else []
def SplitsTo (s : ByteArray) (v : Value) (w : World) : Prop := ∃ a c l, v = .slice a l.length c ∧ StrsAt w a l.length l ∧ ls l = namesOf s.data.toList ∧ (splitE s.data.toList ≠ 0 → v = .slice none 0 0)
def SplitsC (s : ByteArray) (v : Value) (w : World) : Prop := ∃ a l, v = .slice a l.length l.length ∧ StrsAt w a l.length l ∧ ls l = namesOf s.data.toList ∧ (splitE s.data.toList ≠ 0 → v = .slice none 0 0)
theorem strs_alloc (w : World) (l : List ByteArray) (T : TypeId) (hm : l.length ≤ 9223372036854775807) : StrsAt (w.alloc (.cells (l.map Value.string).toArray T)) (some ⟨w.heap.size, 0, none⟩) l.length l := by
  refine ⟨rfl, hm, ?_⟩
  by_cases h0 : l.length = 0
  · exact .inl h0
  · refine .inr ⟨w.heap.size, 0, rfl, fun j hj => ?_⟩
    rw [Nat.zero_add, World.cell?_alloc_mark]
    simp [List.getElem?_eq_getElem hj]

set_option maxHeartbeats 1000000 in
theorem splitC_any (s : ByteArray) (w : World) (hs : s.size < 4294967281) (hm : MaxAt w) :
    Calls Tryd.prog 11 #[.string s] w fun e w' => ∃ v, e = .returned (.tuple #[v, .int .i64 (splitE s.data.toList)]) ∧ SplitsC s v w' ∧ Below w.heap.size w w' := by
  obtain ⟨m, hm⟩ := hm
  have cS := Tryd.strings_Split s slash m w hs hm (by decide)
  have hlen : (Lib.splitB slash 0 (Lib.countB s slash) s).length = Lib.countB s slash + 1 := Lib.splitB_all slash (by decide) 0 _ s rfl
  have hls := splitB_pieces s
  have hcl := Lib.countB_le slash (by decide) s.size s (Nat.le_refl _)
  obtain ⟨l, hl⟩ : ∃ l, Lib.splitB slash 0 (Lib.countB s slash) s = l := ⟨_, rfl⟩
  rw [hl] at cS hlen hls
  obtain ⟨k, hk⟩ : ∃ k, Lib.countB s slash = k := ⟨_, rfl⟩
  rw [hk] at cS hlen hcl
  have hlm : l.length ≤ 9223372036854775807 := by omega
  have hS := strs_alloc w l 9 hlm
  have hbel : Below w.heap.size w (w.alloc (.cells (l.map Value.string).toArray 9)) := (Below.refl _ _).alloc (Nat.le_refl _) _
  rw [← hlen] at cS
  obtain ⟨w1, hw1⟩ : ∃ w1, w.alloc (.cells (l.map Value.string).toArray 9) = w1 := ⟨_, rfl⟩
  rw [hw1] at cS hS hbel
  obtain ⟨q, hq⟩ : ∃ q, w.heap.size = q := ⟨_, rfl⟩
  have hS' := hS
  rw [hq] at cS hS
  have cC := check_any (some ⟨q, 0, none⟩) l.length l.length l w1 hS
  have hE : checkE (ls l) = splitE s.data.toList := by unfold splitE ls; rw [hls]
  rw [hE] at cC
  have HL : Hid (ls l = pieces s.data.toList) := hls
  obtain ⟨E, hEE⟩ : ∃ E, splitE s.data.toList = E := ⟨_, rfl⟩
  rw [hEE] at cC
  have HEE := hid hEE
  have CS := hid cS; have CC := hid cC
  clear cS cC hlen hls hl hk hcl hE hEE hw1 hm hS' hq
  by_cases h0 : E = 0
  · subst h0
    go_enter Tryd.func11, Tryd.ntmps11
    go_wp2_with (first
      | (go_at_call 24; refine CS.out.mono ?_; rintro e w2 ⟨rfl, hw⟩; obtain rfl := hw.symm)
      | (go_at_call 25; refine CC.out.mono ?_; rintro e w2 ⟨rfl, hb2⟩))
    go_ret2
    exact ⟨_, by rw [HEE.out]; rfl, ⟨_, l, rfl, hS.later hb2, by unfold namesOf; rw [if_pos HEE.out]; exact HL.out, fun h => absurd HEE.out h⟩, below_then hbel hb2⟩
  · have e1 : (E != 0) = true := by simpa using h0
    have e2 : (E == 0) = false := by simpa using h0
    have H0 := hid h0; clear h0
    go_enter Tryd.func11, Tryd.ntmps11
    go_wp2_with (first
      | (go_at_call 24; refine CS.out.mono ?_; rintro e w2 ⟨rfl, hw⟩; obtain rfl := hw.symm)
      | (go_at_call 25; refine CC.out.mono ?_; rintro e w2 ⟨rfl, hb2⟩))
    go_ret2
    exact ⟨_, by rw [HEE.out]; rfl, ⟨none, [], rfl, ⟨rfl, by simp, .inl rfl⟩, by unfold namesOf; rw [if_neg (by rw [HEE.out]; exact H0.out)]; rfl, fun _ => rfl⟩, below_then hbel hb2⟩
theorem split_any (s : ByteArray) (w : World) (hs : s.size < 4294967281) (hm : MaxAt w) :
    Calls Tryd.prog 11 #[.string s] w fun e w' => ∃ v, e = .returned (.tuple #[v, .int .i64 (splitE s.data.toList)]) ∧ SplitsTo s v w' ∧ Below w.heap.size w w' :=
  (splitC_any s w hs hm).mono fun e w' ⟨v, he, ⟨a, l, h1, h2, h3, h4⟩, hb⟩ => ⟨v, he, ⟨a, l.length, l, h1, h2, h3, h4⟩, hb⟩

/-- what Join hands back -/
def joinR (l : List (List UInt8)) : List UInt8 := if checkE l = 0 then joinL l else []
set_option maxHeartbeats 1000000 in
theorem join_any (a : Option Addr) (n c : Nat) (l : List ByteArray) (w : World) (hS : StrsAt w a n l) (hc : n ≤ c) :
    Calls Tryd.prog 13 #[.slice a n c] w fun e w' => e = .returned (.tuple #[.string ⟨(joinR (ls l)).toArray⟩, .int .i64 (checkE (ls l))]) ∧ Below w.heap.size w w' := by
  have hl := hS.1
  have cC := check_any a n c l w hS
  by_cases h0 : checkE (ls l) = 0
  · have hJ : joinR (ls l) = joinL (ls l) := by unfold joinR; rw [if_pos h0]
    have hn : n ≠ 0 := by
      have := (checkE_ok.1 h0).1; intro e; apply this; apply List.length_eq_zero_iff.1; rw [ls_length]; omega
    have hbnd := join_bound h0
    have hle : n ≤ 64 := by have := (checkE_ok.1 h0).2.2; rw [ls_length] at this; omega
    rw [h0] at cC
    have CC := hid cC
    obtain ⟨b, off, rfl, hcell⟩ := hS.2.2.resolve_left hn
    have cJ : ∀ W, Below w.heap.size w W → Calls Tryd.prog 26 #[.slice (some ⟨b, off, none⟩) n c, .string ⟨#[47]⟩] W fun e w' => e = .returned (.string ⟨(joinR (ls l)).toArray⟩) ∧ Below W.heap.size W w' := by
      intro W hW
      have hSW := hS.later hW
      obtain ⟨b', off', hab, hc'⟩ := hSW.2.2.resolve_left hn
      cases hab
      have hb0 := World.block_lt_of_cell? W _ (hc' 0 (by omega))
      have h := Tryd.strings_Join b off c l ⟨#[47]⟩ W (fun j x hx => by
        obtain ⟨hj, he⟩ := List.getElem?_eq_some_iff.1 hx
        rw [hc' j (by omega), List.getD_eq_getElem?_getD, hx]; rfl) hb0 (by omega) (by omega) (by
        show (Lib.join (ls l) [47]).length ≤ _
        rw [join_eq]; omega)
      rw [hl] at h
      rw [hJ, ← join_eq]; exact h
    have CJ := hid cJ
    have H0 := hid h0
    clear cC cJ hbnd hcell h0 hJ
    go_enter Tryd.func13, Tryd.ntmps13
    go_wp2_with (first
      | (go_at_call 25; refine CC.out.mono ?_; rintro e w1 ⟨rfl, hb1⟩)
      | (go_at_call 26; refine (CJ.out _ hb1).mono ?_; rintro e w2 ⟨rfl, hb2⟩))
    go_ret2
    exact ⟨by rw [H0.out]; rfl, below_then hb1 hb2⟩
  · have hJ : joinR (ls l) = [] := by unfold joinR; rw [if_neg h0]
    obtain ⟨E, hE⟩ : ∃ E, checkE (ls l) = E := ⟨_, rfl⟩
    rw [hE] at cC h0
    have e1 : (E != 0) = true := by simpa using h0
    have e2 : (E == 0) = false := by simpa using h0
    have CC := hid cC; have HE := hid hE; have HJ := hid hJ
    clear cC hE hJ h0
    go_enter Tryd.func13, Tryd.ntmps13
    go_wp2_with (go_at_call 25; refine CC.out.mono ?_; rintro e w1 ⟨rfl, hb1⟩)
    go_ret2
    exact ⟨by rw [HJ.out, HE.out]; rfl, hb1⟩
end Go.Proofs.YtfgglckpfnnaoaaDoor
