/- The walk of the laws' 'says'; Texts of the reference of layer 10. -/
import Derived.Test.YthjomknhbfplnaaRefL
import Derived.Test.YthjomknhbfplnaaReelDoes
namespace Go.Proofs.Ythjomknhbfplnaa
open Go.RowKit Reel
set_option linter.unusedVariables false

section
variable {u : Nat} {v : Value} {S : St} {w : World}
set_option maxHeartbeats 4000000 in
theorem rsays_any (n : Nat) (x : ActV) (fa : Option Addr) (fn fc : Nat) (h : RefAt w u v S) (hf : S.Fits n) (hn : n < big) (hx : ActV.Wf x) (ht : x.text.size ≤ 4096) (hI : IntsAt w fa fn x.fates) (ha : fn ≠ 0 → ∀ b off, fa = some ⟨b, off, none⟩ → b ≠ u) (hok : (doesS S x).1.Ok) :
    Calls Try.prog 23 #[.pointer (some ⟨u, 0, none⟩), .agg #[.int .i64 x.kind, .string x.name, .string x.text, .int .i64 x.n, .slice fa fn fc]] w fun e w' => e = .returned (.int .i64 (doesS S x).2) ∧ RStep w w' u v (doesS S x).1 := by
  obtain ⟨kind, name, text, nn, fates⟩ := x
  obtain ⟨⟨k1, k2⟩, ⟨n1, n2⟩, hz1, hz2⟩ := hx
  simp only at k1 k2 n1 n2 hz1 hz2 ht hI ⊢
  have HOKK := hid hok
  clear hok
  obtain ⟨W, hW⟩ : ∃ W, w.alloc (.cells #[.int .i64 kind, .string name, .string text, .int .i64 nn, .slice fa fn fc] 46) = W := ⟨_, rfl⟩
  have hb : Below w.heap.size w W := by rw [← hW]; exact (Below.refl _ _).alloc (Nat.le_refl _) _
  have HD := hid (h.later hb)
  have HB : Hid (Only (· = u) w W) := Only.of_below hb _
  have HI := hid (ints_later hI hb)
  have HF := hid hf; have HA := hid ha; have HD0 := hid h; have HBB := hid hb
  have HT : Hid (text.size ≤ 140737488355328) := Nat.le_trans ht (by decide)
  have HZ := hid hz1; have HZ2 := hid hz2
  have HW := hid hW
  clear h hf ha hI hb hW ht hz1 hz2
  have hk : kind = 1 ∨ kind = 2 ∨ kind = 3 ∨ kind = 4 ∨ kind = 5 ∨ kind = 6 ∨ kind = 7 ∨ kind = 8 ∨ kind = 9 ∨ (kind ≠ 1 ∧ kind ≠ 2 ∧ kind ≠ 3 ∧ kind ≠ 4 ∧ kind ≠ 5 ∧ kind ≠ 6 ∧ kind ≠ 7 ∧ kind ≠ 8 ∧ kind ≠ 9) := by omega
  rcases hk with rfl | rfl | rfl | rfl | rfl | rfl | rfl | rfl | rfl | ⟨c1, c2, c3, c4, c5, c6, c7, c8, c9⟩
  · go_enter Try.func23, Try.ntmps23
    go_wp2_with fail
    rw [HW.out]
    refine (rappend_any name text HD.out n HF.out hn HOKK.out HZ.out HT.out).mono ?_; rintro e w' ⟨rfl, hs⟩
    have R : Hid (RStep w w' u v (doesS S ⟨1, name, text, nn, fates⟩).1) := RStep.next HD.out HB.out (.inl rfl) hs
    clear hs
    go_wp2_with fail
    go_ret
    exact ⟨rfl, R.out⟩
  · go_enter Try.func23, Try.ntmps23
    go_wp2_with fail
    rw [HW.out]
    refine (rsync_any name HD.out n HF.out hn HOKK.out).mono ?_; rintro e w' ⟨rfl, hs⟩
    have R : Hid (RStep w w' u v (doesS S ⟨2, name, text, nn, fates⟩).1) := RStep.next HD.out HB.out (.inl rfl) hs
    clear hs
    go_wp2_with fail
    go_ret
    exact ⟨rfl, R.out⟩
  · go_enter Try.func23, Try.ntmps23
    go_wp2_with fail
    rw [HW.out]
    refine (rcut_any name nn HD.out n HF.out hn HOKK.out).mono ?_; rintro e w' ⟨rfl, hs⟩
    have R : Hid (RStep w w' u v (doesS S ⟨3, name, text, nn, fates⟩).1) := RStep.next HD.out HB.out (.inl rfl) hs
    clear hs
    go_wp2_with fail
    go_ret
    exact ⟨rfl, R.out⟩
  · go_enter Try.func23, Try.ntmps23
    go_wp2_with fail
    rw [HW.out]
    refine (rswap_any name text HD.out n HF.out hn HOKK.out HZ2.out).mono ?_; rintro e w' ⟨rfl, hs⟩
    have R : Hid (RStep w w' u v (doesS S ⟨4, name, text, nn, fates⟩).1) := RStep.next HD.out HB.out (.inl rfl) hs
    clear hs
    go_wp2_with fail
    go_ret
    exact ⟨rfl, R.out⟩
  · go_enter Try.func23, Try.ntmps23
    go_wp2_with fail
    rw [HW.out]
    refine (rdrop_any name HD.out n HF.out hn HOKK.out).mono ?_; rintro e w' ⟨rfl, hs⟩
    have R : Hid (RStep w w' u v (doesS S ⟨5, name, text, nn, fates⟩).1) := RStep.next HD.out HB.out (.inl rfl) hs
    clear hs
    go_wp2_with fail
    go_ret
    exact ⟨rfl, R.out⟩
  · go_enter Try.func23, Try.ntmps23
    go_wp2_with fail
    rw [HW.out]
    refine (roff_any HD.out n HF.out (Nat.le_of_lt hn)).mono ?_; rintro e w' ⟨rfl, hs⟩
    have R : Hid (RStep w w' u v (doesS S ⟨6, name, text, nn, fates⟩).1) := RStep.next HD.out HB.out (.inl rfl) hs
    clear hs
    go_wp2_with fail
    go_ret
    exact ⟨rfl, R.out⟩
  · go_enter Try.func23, Try.ntmps23
    go_wp2_with fail
    rw [HW.out]
    refine (ron_any fa fn fc fates HD.out HI.out HA.out).mono ?_; rintro e w' ⟨rfl, hs⟩
    have R : Hid (RStep w w' u v (doesS S ⟨7, name, text, nn, fates⟩).1) := RStep.next HD.out HB.out (.inl rfl) hs
    clear hs
    go_wp2_with fail
    go_ret
    exact ⟨rfl, R.out⟩
  · go_enter Try.func23, Try.ntmps23
    go_wp2_with fail
    rw [HW.out]
    refine (rarm_any HD.out nn n2).mono ?_; rintro e w' ⟨rfl, hs⟩
    have R : Hid (RStep w w' u v (doesS S ⟨8, name, text, nn, fates⟩).1) := RStep.next HD.out HB.out (.inl rfl) hs
    clear hs
    go_wp2_with fail
    go_ret
    exact ⟨rfl, R.out⟩
  · go_enter Try.func23, Try.ntmps23
    go_wp2_with fail
    rw [HW.out]
    refine (rroomc_any HD.out nn).mono ?_; rintro e w' ⟨rfl, hs⟩
    have R : Hid (RStep w w' u v (doesS S ⟨9, name, text, nn, fates⟩).1) := RStep.next HD.out HB.out (.inl rfl) hs
    clear hs
    go_wp2_with fail
    go_ret
    exact ⟨rfl, R.out⟩
  · have R : Hid (doesS S ⟨kind, name, text, nn, fates⟩ = (S, 0)) := by
      unfold Hid doesS
      simp only
      rw [if_neg c1, if_neg c2, if_neg c3, if_neg c4, if_neg c5, if_neg c6, if_neg c7, if_neg c8, if_neg c9]
    have c1 : (kind == 1) = false := by simpa using c1
    have c2 : (kind == 2) = false := by simpa using c2
    have c3 : (kind == 3) = false := by simpa using c3
    have c4 : (kind == 4) = false := by simpa using c4
    have c5 : (kind == 5) = false := by simpa using c5
    have c6 : (kind == 6) = false := by simpa using c6
    have c7 : (kind == 7) = false := by simpa using c7
    have c8 : (kind == 8) = false := by simpa using c8
    have c9 : (kind == 9) = false := by simpa using c9
    go_enter Try.func23, Try.ntmps23
    go_wp2_with fail
    rw [HW.out]
    go_ret
    rw [R.out]
    exact ⟨rfl, v, HD.out, HB.out, .inl rfl⟩
end

end Go.Proofs.Ythjomknhbfplnaa
