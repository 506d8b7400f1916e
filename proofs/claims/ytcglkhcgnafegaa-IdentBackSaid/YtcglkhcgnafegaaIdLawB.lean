/- The walk of the statement IdentBack. -/
import Derived.Test.YtcglkhcgnafegaaIdArr
import Derived.Test.YtcglkhcgnafegaaIdBack
namespace Go.Proofs.Ytcglkhcgnafegaa
open Go.RowKit Idp
set_option linter.unusedVariables false

set_option maxHeartbeats 2000000 in
theorem walk_IdentBack (A B : ByteArray) (s : ByteArray) (w : World) (hA : A.size = 32) (hB : B.size = 32) :
    Calls Try.prog 8 #[arrV A, arrV B, .string s] w fun e w' => e = .returned (.bool true) ∧ Below w.heap.size w w' := by
  unfold arrV
  obtain ⟨ca, hca⟩ : ∃ ca, (bvals A.data.toList).toArray = ca := ⟨_, rfl⟩
  obtain ⟨cb, hcb⟩ : ∃ cb, (bvals B.data.toList).toArray = cb := ⟨_, rfl⟩
  rw [hca, hcb]
  have HCA := hid hca; have HCB := hid hcb; clear hca hcb
  go_enter Try.func8, Try.ntmps8
  go_wp2_with fail
  have a0 : ArrAt ((w.alloc (.cells ca 29)).alloc (.cells cb 29)) w.heap.size 29 A := by
    unfold ArrAt; rw [HCA.out, heap_alloc_old _ _ (by simp), heap_alloc_new]
  have b0 : ArrAt ((w.alloc (.cells ca 29)).alloc (.cells cb 29)) (w.heap.size + 1) 29 B := by
    unfold ArrAt; rw [HCB.out]; have := heap_alloc_new (w.alloc (.cells ca 29)) (.cells cb 29); simpa using this
  have hb0 : Below w.heap.size w ((w.alloc (.cells ca 29)).alloc (.cells cb 29)) := ((Below.refl _ _).alloc (Nat.le_refl _) _).alloc (by simp) _
  obtain ⟨w0, hw0⟩ : ∃ w0, (w.alloc (.cells ca 29)).alloc (.cells cb 29) = w0 := ⟨_, rfl⟩
  rw [hw0] at a0 b0 hb0 ⊢
  clear hw0
  refine (awake_any _).mono ?_; rintro e w1 ⟨rfl, hb1⟩
  have a1 := a0.below hb1
  have b1 := b0.below hb1
  have ka := a1.conv hA
  have kb := b1.conv hB
  obtain ⟨G, hG⟩ : ∃ G : ByteArray, (⟨(hexL A).toArray⟩ : ByteArray) = G := ⟨_, rfl⟩
  obtain ⟨K, hK⟩ : ∃ K : ByteArray, (⟨(hexL B).toArray⟩ : ByteArray) = K := ⟨_, rfl⟩
  have cG : ∀ w, Calls Try.prog 15 #[.string A] w fun e w' => e = .returned (.string G) ∧ Below w.heap.size w w' := fun w => by rw [← hG]; exact hex_any A w
  have cK : ∀ w, Calls Try.prog 15 #[.string B] w fun e w' => e = .returned (.string K) ∧ Below w.heap.size w w' := fun w => by rw [← hK]; exact hex_any B w
  have cU : ∀ w, Calls Try.prog 18 #[.string G] w fun e w' => e = .returned (.tuple #[.string A, .int .i64 0]) ∧ Below w.heap.size w w' := fun w => by
    have h := unhex_any G w
    rw [← hG, unhex_hex hA, hG] at h
    exact h
  have hlt : Op.bytesLess G.toList K.toList = Op.bytesLess A.toList B.toList := by
    rw [← hG, ← hK]; simp only [ba_toList]; exact less_hex hA hB
  have heq : (G.toList == K.toList) = (A.toList == B.toList) := by
    by_cases h : A = B
    · have : G = K := by rw [← hG, ← hK, h]
      rw [this, h]; simp
    · rw [bstr_ne h]
      refine bstr_ne (fun h2 => h (hexL_inj hA hB ?_))
      have := congrArg (fun x : ByteArray => x.data.toList) (hG.trans (h2.trans hK.symm))
      simpa using this
  have CG := hid cG; have CK := hid cK; have CU := hid cU
  clear cG cK cU hG hK
  go_wp2_with fail
  refine (CG.out _).mono ?_; rintro e w2 ⟨rfl, hb2⟩
  go_wp2_with fail
  refine (CK.out _).mono ?_; rintro e w3 ⟨rfl, hb3⟩
  go_wp2_with fail
  refine (CU.out _).mono ?_; rintro e w4 ⟨rfl, hb4⟩
  have hbA := below_then (below_then (below_then (below_then hb0 hb1) hb2) hb3) hb4
  clear hb0 hb1 hb2 hb3 hb4
  go_wp2_with fail
  have cS : ∀ w, Calls Try.prog 18 #[.string s] w fun e w' => e = .returned (.tuple #[.string ⟨(unhexR s).1.toArray⟩, .int .i64 (unhexR s).2]) ∧ Below w.heap.size w w' := fun w => unhex_any s w
  by_cases he : (unhexR s).2 = 0
  · obtain ⟨h32, hback⟩ := hex_unhex he
    obtain ⟨t, ht⟩ : ∃ t : ByteArray, (⟨(unhexR s).1.toArray⟩ : ByteArray) = t := ⟨_, rfl⟩
    rw [he] at cS
    rw [ht] at h32 hback
    simp only [ht] at cS
    have cB : ∀ w, Calls Try.prog 15 #[.string t] w fun e w' => e = .returned (.string s) ∧ Below w.heap.size w w' := fun w => by
      have h := hex_any t w
      rw [hback] at h; exact h
    have hg : decide (t.size = 32) = true := by simpa using h32
    have CS := hid cS; have CB := hid cB
    clear cS cB ht he h32 hback
    refine (CS.out _).mono ?_; rintro e w5 ⟨rfl, hb5⟩
    go_wp2_with (first
      | (go_at_call 15; refine (CB.out _).mono ?_; rintro e w6 ⟨rfl, hb6⟩)
      | (go_at_call 20; refine (good_any _ _).mono ?_; rintro e w' ⟨rfl, rfl⟩))
    go_ret
    exact ⟨rfl, below_then (below_then hbA hb5) hb6⟩
  · have hn := unhex_err he
    obtain ⟨V, hV⟩ : ∃ V, (unhexR s).2 = V := ⟨_, rfl⟩
    simp only [hn, hV] at cS
    rw [hV] at he
    have h1 : (V == 0) = false := by simpa using he
    have h2 : (V != 0) = true := by simpa using he
    have CS := hid cS
    clear cS hn hV he
    refine (CS.out _).mono ?_; rintro e w5 ⟨rfl, hb5⟩
    go_wp2
    go_ret
    exact ⟨rfl, below_then hbA hb5⟩
end Go.Proofs.Ytcglkhcgnafegaa
