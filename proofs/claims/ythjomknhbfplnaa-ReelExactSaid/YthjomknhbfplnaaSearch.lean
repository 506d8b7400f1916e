/- cmp.Less and slices.BinarySearch over texts; what stands in rising order. -/
import Derived.Test.YthjomknhbfplnaaStrs
import Derived.Test.YthjomknhbfplnaaOnly
import Derived.Test.YthjomknhbfplnaaSorted
import Derived.WalkLawsBesides
namespace Go.Proofs.Ythjomknhbfplnaa
open Go.RowKit
set_option linter.unusedVariables false

/-- x stands, or would, at k -/
def PosAt (l : List ByteArray) (x : ByteArray) (k : Nat) : Prop := k ≤ l.length ∧ ∀ t, t < l.length → lt' (l.getD t ByteArray.empty) x = decide (t < k)

theorem sisNaN_any (s : ByteArray) (w : World) : Calls Try.prog 81 #[.string s] w fun e w' => e = .returned (.bool false) ∧ w = w' := by
  go_enter Try.func81, Try.ntmps81
  go_wp2
  go_ret
  exact ⟨ret_bool (by simp), rfl⟩
theorem cisNaN_any (s : ByteArray) (w : World) : Calls Try.prog 84 #[.string s] w fun e w' => e = .returned (.bool false) ∧ w = w' := by
  go_enter Try.func84, Try.ntmps84
  go_wp2
  go_ret
  exact ⟨ret_bool (by simp), rfl⟩
theorem less_any (x y : ByteArray) (w : World) : Calls Try.prog 80 #[.string x, .string y] w fun e w' => e = .returned (.bool (lt' x y)) ∧ w = w' := by
  unfold lt'
  cases h : Op.bytesLess x.toList y.toList
  · go_enter Try.func80, Try.ntmps80
    go_wp2_with (go_at_call 84; refine (cisNaN_any _ _).mono ?_; rintro e w' ⟨rfl, rfl⟩)
    go_ret
    exact ⟨rfl, rfl⟩
  · go_enter Try.func80, Try.ntmps80
    go_wp2_with (go_at_call 84; refine (cisNaN_any _ _).mono ?_; rintro e w' ⟨rfl, rfl⟩)
    go_ret
    exact ⟨rfl, rfl⟩

set_option maxHeartbeats 1000000 in
theorem bs_any (a : Option Addr) (n c : Nat) (l : List ByteArray) (x : ByteArray) (k : Nat) (w : World) (hS : StrsAt w a n l) (hbig : n ≤ 1048576) (hk : PosAt l x k) :
    Calls Try.prog 75 #[.slice a n c, .string x] w fun e w' => e = .returned (.tuple #[.int .i64 k, .bool (decide (k < n ∧ l.getD k ByteArray.empty = x))]) ∧ w = w' := by
  obtain ⟨h1, h2, h3⟩ := hS
  obtain ⟨k1, k2⟩ := hk
  have K2 := hid k2; clear k2
  have H1 := hid h1
  have hkn : k ≤ n := by omega
  obtain ⟨r, hr⟩ : ∃ r, decide (k < n ∧ l.getD k ByteArray.empty = x) = r := ⟨_, rfl⟩
  rw [hr]
  have HR := hid hr
  clear h1 k1 hr
  go_enter Try.func75, Try.ntmps75
  go_wp2
  go_loop [7, 8] (fun s7 s8 => ∃ lo hi : Nat, s7 = .int .i64 lo ∧ s8 = .int .i64 hi ∧ lo ≤ k ∧ k ≤ hi ∧ hi ≤ n) (fun s7 s8 => (intOf s8 - intOf s7).toNat)
  case atStart => exact ⟨0, n, rfl, rfl, Nat.zero_le _, hkn, Nat.le_refl _⟩
  case round =>
    obtain ⟨lo, hi, rfl, rfl, g1, g2, g3⟩ := hrel
    by_cases hlt : lo < hi
    · obtain ⟨b, off, rfl, hc⟩ := h3.resolve_left (by omega)
      have cm := hc ((lo + hi) / 2) (by omega)
      have ky := K2.out ((lo + hi) / 2) (by rw [H1.out]; omega)
      obtain ⟨y, hy⟩ : ∃ y, l.getD ((lo + hi) / 2) ByteArray.empty = y := ⟨_, rfl⟩
      rw [hy] at cm ky
      clear hc hy
      by_cases hm : (lo + hi) / 2 < k
      · have hL : lt' y x = true := by rw [ky]; exact decide_eq_true hm
        clear ky
        go_wp2_with (go_at_call 80; refine (less_any _ _ _).mono ?_; rw [hL]; rintro e w' ⟨rfl, rfl⟩)
        go_round
        case rel => exact ⟨(lo + hi) / 2 + 1, hi, by rw [show ((lo : Int) + (hi : Int)) / 2 + 1 = (((lo + hi) / 2 + 1 : Nat) : Int) by omega], rfl, by omega, by omega, g3⟩
        case measure => simp [intOf]; omega
      · have hL : lt' y x = false := by rw [ky]; exact decide_eq_false hm
        clear ky
        go_wp2_with (go_at_call 80; refine (less_any _ _ _).mono ?_; rw [hL]; rintro e w' ⟨rfl, rfl⟩)
        go_round
        case rel => exact ⟨lo, (lo + hi) / 2, rfl, by rw [show ((lo : Int) + (hi : Int)) / 2 = (((lo + hi) / 2 : Nat) : Int) by omega], g1, by omega, by omega⟩
        case measure => simp [intOf]; omega
    · obtain rfl : lo = k := by omega
      by_cases hn : lo < n
      · obtain ⟨b, off, rfl, hc⟩ := h3.resolve_left (by omega)
        have cl := hc lo hn
        obtain ⟨y, hy⟩ : ∃ y, l.getD lo ByteArray.empty = y := ⟨_, rfl⟩
        rw [hy] at cl
        have HY := hid hy
        clear hc hy
        by_cases hyx : y = x
        · subst hyx
          obtain rfl : r = true := HR.out.symm.trans (decide_eq_true ⟨hn, HY.out⟩)
          go_wp2_with (go_at_call 81; refine (sisNaN_any _ _).mono ?_; rintro e w' ⟨rfl, rfl⟩)
          go_ret2
          exact ⟨rfl, rfl⟩
        · obtain rfl : r = false := HR.out.symm.trans (decide_eq_false (fun e => hyx (HY.out.symm.trans e.2)))
          have hne := bstr_ne hyx
          have hne2 : ¬ y.toList = x.toList := by simpa using hne
          clear hyx
          go_wp2_with (go_at_call 81; refine (sisNaN_any _ _).mono ?_; rintro e w' ⟨rfl, rfl⟩)
          go_ret2
          exact ⟨rfl, rfl⟩
      · obtain rfl : r = false := HR.out.symm.trans (decide_eq_false (fun e => hn e.1))
        go_wp2
        go_ret2
        exact ⟨rfl, rfl⟩
theorem bs_names (a : Option Addr) (n c : Nat) (l : List ByteArray) (x : ByteArray) (w : World) (hS : StrsAt w a n l) (hbig : n ≤ 1048576) (hr : Rising l) :
    Calls Try.prog 75 #[.slice a n c, .string x] w fun e w' => e = .returned (.tuple #[.int .i64 (posOf l x : Nat), .bool (hasN l x)]) ∧ w = w' := by
  have := bs_any a n c l x (posOf l x) w hS hbig ⟨posOf_le l x, posOf_at hr x⟩
  rw [← hS.1, pos_bool hr] at this
  rw [← hS.1]; exact this
def MapF (m : Nat) (ks vs : Value) : Nat → Prop := fun k => k = m ∨ ks.ownBlock = some k ∨ vs.ownBlock = some k
theorem own_slice {w : World} {B e s n : Nat} {v : Value} {xs : List Value} (h : w.ownsRow B e s v n xs) : ∃ a c, v = .slice a n c ∧ n ≤ c := by
  rcases h.2 with ⟨rfl, h0⟩ | ⟨g, cap, cur, rfl, hb, hg, hn, r⟩
  · exact ⟨none, 0, by rw [h0], by omega⟩
  · exact ⟨_, _, rfl, hn⟩
theorem svals_one (l : List ByteArray) : ∀ u ∈ svals l, u.oneCell' = true := by
  intro u hu; unfold svals at hu; obtain ⟨x, _, rfl⟩ := List.mem_map.1 hu; rfl
end Go.Proofs.Ythjomknhbfplnaa
