/- strings.IndexRune, ContainsRune at a rune beyond ASCII, in a text of ASCII alone: it isn't there. -/
import Derived.Test.YtcglkhcgnafegaaMem
import Derived.Test.YtcglkhcgnafegaaShelf
import Derived.Lib.OthersKept
import Derived.Lib.IndexAny
namespace Go.Proofs.Ytcglkhcgnafegaa
open Go.RowKit
set_option linter.unusedVariables false

def Ascii (s : ByteArray) : Prop := ∀ i, (h : i < s.size) → s[i].toNat < 128
theorem decode_ascii {s : ByteArray} (ha : Ascii s) {pos : Nat} (h : pos < s.size) : (Utf8.decode s pos).1 < 128 ∧ (Utf8.decode s pos).2 = 1 := by
  have hb := ha pos h
  have hg : (s.get! pos).toNat = s[pos].toNat := by
    have : s.get! pos = s[pos] := by simp [ByteArray.get!, h]; rfl
    rw [this]
  unfold Utf8.decode
  simp only [Nat.add_zero, hg]
  rw [if_pos hb]
  exact ⟨hb, rfl⟩
def LastBig (r : ByteArray) : Prop := 2 ≤ r.size ∧ r.size ≤ 4 ∧ ∀ k, (hk : k < r.size) → k + 1 = r.size → 128 ≤ (r[k]).toNat
theorem lastBig_ite {c : Prop} [Decidable c] {x y : ByteArray} (hx : LastBig x) (hy : LastBig y) : LastBig (if c then x else y) := by split <;> assumption
theorem encode_last (c : Int) (h0 : 128 ≤ c) (h1 : c ≤ 1114111) : LastBig (Utf8.encode c) := by
  unfold Utf8.encode
  generalize hc : (if Utf8.valid c = true then c.toNat else Utf8.runeError) = n
  have hn : 128 ≤ n ∧ n ≤ 1114111 := by rw [← hc]; split <;> (try unfold Utf8.runeError) <;> omega
  simp only []
  rw [if_neg (by omega)]
  refine lastBig_ite ?_ (lastBig_ite ?_ ?_)
  · refine ⟨by simp [ByteArray.size], by simp [ByteArray.size], fun k hk he => ?_⟩
    have : k = 1 := by simp [ByteArray.size] at he; omega
    subst this
    simp [ByteArray.getElem_eq_getElem_data]; omega
  · refine ⟨by simp [ByteArray.size], by simp [ByteArray.size], fun k hk he => ?_⟩
    have : k = 2 := by simp [ByteArray.size] at he; omega
    subst this
    simp [ByteArray.getElem_eq_getElem_data]; omega
  · refine ⟨by simp [ByteArray.size], by simp [ByteArray.size], fun k hk he => ?_⟩
    have : k = 3 := by simp [ByteArray.size] at he; omega
    subst this
    simp [ByteArray.getElem_eq_getElem_data]; omega
theorem indexByte_no (s : List UInt8) (c : UInt8) (h : c ∉ s) : Lib.indexByte s c = -1 := by
  have h1 := Lib.indexByte_ge s c
  have h2 := Lib.contains_iff_indexByte s c
  have h3 : s.contains c = false := by simpa using h
  rw [h3] at h2
  have h4 : ¬ 0 ≤ Lib.indexByte s c := by simpa using h2.symm
  omega

set_option maxHeartbeats 2000000 in
set_option maxRecDepth 100000 in
theorem indexRune_err (s : ByteArray) (ha : Ascii s) (w : World) :
    Calls Try.prog 43 #[.string s, .int .i32 65533] w fun e w' => e = .returned (.int .i64 (-1)) ∧ Below w.heap.size w w' := by
  go_enter Try.func43, Try.ntmps43
  go_wp2
  go_loopg [] s.size (fun gf wx => ∃ pos : Nat, wx.heap[w.heap.size]? = some (.stringIter s pos) ∧ Below w.heap.size w wx ∧ s.size ≤ pos + gf)
  case atStart => exact ⟨0, World.iter_heap w s 0, (Below.refl _ w).alloc (Nat.le_refl _) _, by omega⟩
  case round =>
    obtain ⟨pos, hit, hbw, hfu⟩ := hrel
    by_cases hps : pos < s.size
    · obtain ⟨g', rfl⟩ : ∃ g', gk = g' + 1 := ⟨gk - 1, by omega⟩
      have hnx : ∀ ty, (Instr.next (.pointer (some ⟨w.heap.size, 0, none⟩)) true ty).run Try.prog wr = _ := fun ty => Lib.run_next_any_at wr w.heap.size s pos ty hit hps
      obtain ⟨hd1, hd2⟩ := decode_ascii ha hps
      rw [hd2] at hnx
      have hit2 := Lib.iterAt_heap wr w.heap.size s pos (pos + 1) hit
      have hbw2 := Lib.below_iterAt hbw (k := w.heap.size) (Nat.le_refl _) s (pos + 1)
      obtain ⟨W, hWd⟩ : ∃ W, wr.iterAt w.heap.size s (pos + 1) = W := ⟨_, rfl⟩
      rw [hWd] at hnx hit2 hbw2
      obtain ⟨R, hR⟩ : ∃ R, (Utf8.decode s pos).1 = R := ⟨_, rfl⟩
      rw [hR] at hd1 hnx
      have hne : ((R : Int) == 65533) = false := by simp; omega
      clear hR hWd hd2
      go_wp2
      go_roundg g'
      case measure => omega
      case rel => exact ⟨pos + 1, hit2, hbw2, by omega⟩
    · have hnx : ∀ ty, (Instr.next (.pointer (some ⟨w.heap.size, 0, none⟩)) true ty).run Try.prog wr = _ := fun ty => Lib.run_next_end_at wr w.heap.size s pos ty hit hps
      go_wp2
      go_ret
      exact ⟨rfl, hbw⟩

set_option maxHeartbeats 2000000 in
set_option maxRecDepth 100000 in
theorem indexRune_bad (s : ByteArray) (c : Int) (h0 : 128 ≤ c) (h1 : c ≤ 1114111) (hc : c ≠ 65533) (hv : Lib.validRune c = false) (w : World) :
    Calls Try.prog 43 #[.string s, .int .i32 c] w fun e w' => e = .returned (.int .i64 (-1)) ∧ w = w' := by
  have h2 : (c == 65533) = false := by simpa using hc
  go_enter Try.func43, Try.ntmps43
  go_wp2_with (go_at_call 47; refine (Try.utf8_ValidRune _ _).mono ?_; rintro e w' ⟨rfl, hw⟩; obtain rfl := hw.symm)
  go_ret
  exact ⟨rfl, rfl⟩

set_option maxHeartbeats 2000000 in
set_option maxRecDepth 100000 in
theorem indexRune_far (s : ByteArray) (ha : Ascii s) (hs : 4 ≤ s.size) (hs2 : s.size ≤ 1000) (c : Int) (h0 : 128 ≤ c) (h1 : c ≤ 1114111) (hc : c ≠ 65533) (hv : Lib.validRune c = true) (w : World) :
    Calls Try.prog 43 #[.string s, .int .i32 c] w fun e w' => e = .returned (.int .i64 (-1)) ∧ Below w.heap.size w w' := by
  have h2 : (c == 65533) = false := by simpa using hc
  obtain ⟨n2, n4, hlast⟩ := encode_last c h0 h1
  obtain ⟨rs, hrs⟩ : ∃ rs, Utf8.encode c = rs := ⟨_, rfl⟩
  rw [hrs] at n2 n4 hlast
  obtain ⟨L, hL⟩ : ∃ L, L + 1 = rs.size := ⟨rs.size - 1, by omega⟩
  have hb := hlast L (by omega) hL
  have hLr : L < rs.size := by omega
  have hLs : L < s.size := by omega
  have hx := ha L hLs
  have e1 : (rs.size : Int) - 1 = (L : Int) := by omega
  have hne : ((s[L].toNat : Int) != (rs[L].toNat : Int)) = true := by simp; omega
  have hno : Lib.indexByte (List.take (s.size - rs.size) (List.drop rs.size s.data.toList)) rs[L] = -1 := by
    refine indexByte_no _ _ (fun hm => ?_)
    have hm2 := List.mem_of_mem_drop (List.mem_of_mem_take hm)
    obtain ⟨j, hj, he⟩ := List.getElem_of_mem hm2
    have h3 := ha j (by simpa using hj)
    have h4 : s.data.toList[j] = s[j]'(by simpa using hj) := rfl
    rw [h4] at he
    rw [he] at h3; omega
  have HB := hid hb; have HX := hid hx; have HL := hid hlast
  clear hb hx hlast
  go_enter Try.func43, Try.ntmps43
  go_wp2_with (go_at_call 47; refine (Try.utf8_ValidRune _ _).mono ?_; rintro e w' ⟨rfl, hw⟩; obtain rfl := hw.symm)
  go_step3
  go_wp2
  refine wp_loop_rounds 1 ?_
  rw [rounds_succ]
  go_wp2
  go_step3
  go_wp2
  go_quiet (fail)
  go_wp2
  have hbW : Below w.heap.size w (w.drewN nq) := below_drewNg w nq
  generalize w.drewN nq = W1 at hbW ⊢
  go_quiet ((go_at_call 33; exact Calls.quiet_of_same (Try.strings_IndexByte _ _ _)))
  go_wp2
  simp only [Exit.inBlock, Exit.then, Exit.noGoto_ret]
  go_ret
  exact ⟨rfl, below_then hbW (below_drewNg W1 _)⟩

/-- strings.ContainsRune in the text of the sixteen digits -/
def digs : ByteArray := ⟨#[48, 49, 50, 51, 52, 53, 54, 55, 56, 57, 97, 98, 99, 100, 101, 102]⟩
theorem digs_ascii : Ascii digs := by
  intro i h
  have : ∀ i : Fin 16, (digs.data.toList.getD i.val 0).toNat < 128 := by decide
  have h16 : i < 16 := h
  have h2 := this ⟨i, h16⟩
  rw [List.getD_eq_getElem?_getD, List.getElem?_eq_getElem (by exact h16)] at h2
  exact h2
def isDigR (c : Int) : Bool := (48 ≤ c && c ≤ 57) || (97 ≤ c && c ≤ 102)

set_option maxHeartbeats 400000 in
theorem containsRune_digs (c : Int) (h0 : 0 ≤ c) (h1 : c ≤ 1114111) (w : World) :
    Calls Try.prog 37 #[.string digs, .int .i32 c] w fun e w' => e = .returned (.bool (isDigR c)) ∧ Below w.heap.size w w' := by
  by_cases hlt : c < 128
  · refine (Try.strings_ContainsRune_ascii digs c w h0 hlt).mono ?_
    rintro e w' ⟨rfl, hw⟩
    obtain rfl := hw.symm
    refine ⟨ret_bool ?_, Below.refl _ _⟩
    have : ∀ c : Fin 128, decide (0 ≤ Lib.indexByte digs.data.toList ((c.val : Int)).toNat.toUInt8) = isDigR (c.val : Int) := by decide +kernel
    have := this ⟨c.toNat, by omega⟩
    simp only [Int.toNat_of_nonneg h0] at this
    exact this
  · have hr : isDigR c = false := by unfold isDigR; simp; omega
    have HR := hid hr; clear hr
    have hall : ∃ R, Calls Try.prog 43 #[.string digs, .int .i32 c] w R ∧ (∀ e w', R e w' → e = .returned (.int .i64 (-1)) ∧ Below w.heap.size w w') := by
      by_cases he : c = 65533
      · subst he; exact ⟨_, indexRune_err digs digs_ascii w, fun _ _ h => h⟩
      · by_cases hv : Lib.validRune c = true
        · exact ⟨_, indexRune_far digs digs_ascii (by decide) (by decide) c (by omega) h1 he hv w, fun _ _ h => h⟩
        · refine ⟨_, indexRune_bad digs c (by omega) h1 he (by simpa using hv) w, fun _ _ h => ⟨h.1, ?_⟩⟩
          obtain ⟨_, rfl⟩ := h
          exact Below.refl _ _
    obtain ⟨R, hR, hRR⟩ := hall
    obtain ⟨d, hd⟩ : ∃ d, digs = d := ⟨_, rfl⟩
    rw [hd] at hR ⊢
    have HRR := hid hRR; clear hRR hd
    go_enter Try.func37, Try.ntmps37
    go_wp2_with (go_at_call 43; refine hR.mono ?_; intro e w' h; obtain ⟨rfl, hb⟩ := HRR.out e w' h)
    go_ret
    exact ⟨ret_bool (by rw [HR.out]), hb⟩

theorem odd_any (x : Nat) (h1 : x ≤ 1114111) (w : World) :
    Calls Try.prog 36 #[.int .i32 (x : Int)] w fun e w' => e = .returned (.bool (!isDigR x)) ∧ Below w.heap.size w w' := by
  go_enter Try.func36, Try.ntmps36
  go_wp2_with (go_at_call 37; refine (containsRune_digs _ (by omega) (by omega) _).mono ?_; rintro e w' ⟨rfl, hb⟩)
  go_ret
  exact ⟨rfl, hb⟩
end Go.Proofs.Ytcglkhcgnafegaa
