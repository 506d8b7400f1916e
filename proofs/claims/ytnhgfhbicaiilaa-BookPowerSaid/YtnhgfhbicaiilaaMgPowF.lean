/- Texts in a row: BkLawA, BkAwakeP, BkAwake, BkSees, BkCalm, BkFits, OpenActsG, OpenDeeds, BkMid, BkSpoiltP, ReelP, BkPowerP, BkFound. -/
import Derived.Test.YtnhgfhbicaiilaaMgPowE
import Derived.Deep.Slices
import Derived.Deep.Fields
import Derived.ChangeSame
import Derived.ChangeSlices
import Derived.WalkKit
import Derived.ProofKit
import Derived.OpenShut
import Derived.ShutString
import Derived.ChangeOld
import Derived.SliceStrings
import Derived.DataShut
import Derived.SizedLaws
import Derived.Maps.AppendAt
import Derived.Deep.DeepCutAuto
import Derived.Deep.CutBlock
/- Size; Same; great. -/
namespace Go.Proofs.Ytnhgfhbicaiilaa
open Go.RowKit Book Reel
set_option linter.unusedVariables false

theorem bsize_nil (w : World) : Calls Try.prog 13 #[.pointer none] w fun e w' => e = .returned (.int .i64 0) ∧ w = w' := by
  go_enter Try.func13, Try.ntmps13
  go_wp2
  go_ret
  exact ⟨rfl, rfl⟩
theorem bsize_K {K : Nat → Prop} {w : World} {b p : Nat} {x : ByteArray} {life : Nat} {dead : Bool} {S : St} (hd : DK K w p S) (hb : BookAt w b p x life dead) :
    Calls Try.prog 13 #[.pointer (some ⟨b, 0, none⟩)] w fun e w' => e = .returned (.int .i64 (if sizeS S x < 0 then 0 else sizeS S x)) ∧ Below w.heap.size w w' := by
  have HZ : Hid (∀ q, Calls Try.prog 16 #[.pointer (some ⟨p, 0, none⟩), .string x] (w.drewN q) fun e w' => e = .returned (.int .i64 (sizeS S x)) ∧ w.drewN q = w') := fun q => size_K x (hd.only ((Only.refl NoF w).drewN q) (fun _ e => e.elim))
  obtain ⟨c0, c1, c2, c3⟩ := hb.cells
  clear c2 c3
  obtain ⟨z, hz⟩ : ∃ z, sizeS S x = z := ⟨_, rfl⟩
  rw [hz] at HZ ⊢
  clear hd hb hz
  by_cases h0 : z < 0
  · rw [if_pos h0]
    go_enter Try.func13, Try.ntmps13
    go_wp2_with fail
    go_quiet (first | (go_at_call 16; exact Calls.quiet_of_same ((HZ.out _).mono fun _ _ h => ⟨h.1, h.2.symm⟩)))
    go_wp2_with fail
    go_ret
    exact ⟨by simp; omega, below_drewN (Below.refl _ _) _⟩
  · rw [if_neg h0]
    go_enter Try.func13, Try.ntmps13
    go_wp2_with fail
    go_quiet (first | (go_at_call 16; exact Calls.quiet_of_same ((HZ.out _).mono fun _ _ h => ⟨h.1, h.2.symm⟩)))
    go_wp2_with fail
    go_ret
    exact ⟨by simp; omega, below_drewN (Below.refl _ _) _⟩
def totalN (rs : List ByteArray) : Nat := (rs.map fun s => s.size).sum
theorem total_snoc (rs : List ByteArray) (x : ByteArray) : totalN (rs ++ [x]) = totalN rs + x.size := by unfold totalN; simp
theorem total_le : ∀ (rs : List ByteArray) (k : Nat), totalN (rs.take k) ≤ totalN rs
  | [], k => by simp
  | x :: r, 0 => Nat.zero_le _
  | x :: r, k + 1 => by have := total_le r k; unfold totalN at *; simp only [List.take_succ_cons, List.map_cons, List.sum_cons]; omega
def greatB (rs : List ByteArray) : Bool := decide (8192 < totalN (rs.take 100) ∨ 100 < rs.length)
set_option maxHeartbeats 1000000 in
theorem great_any (a : Option Addr) (n c : Nat) (rs : List ByteArray) (w : World) (hS : StrsAt w a n rs) (hsz : ∀ x ∈ rs, x.size ≤ 140737488355328) :
    Calls Try.prog 9 #[.slice a n c] w fun e w' => e = .returned (.bool (greatB rs)) ∧ w = w' := by
  have hn : rs.length = n := hS.1
  have HS := hid hS
  have HSZ := hid hsz
  have HN := hid hn
  have HG : Hid (greatB rs = decide (8192 < totalN (rs.take 100) ∨ 100 < rs.length)) := rfl
  obtain ⟨R, hR⟩ : ∃ R, greatB rs = R := ⟨_, rfl⟩
  rw [hR] at HG ⊢
  clear hS hsz hn hR
  go_enter Try.func9, Try.ntmps9
  go_wp2
  go_loopw [3, 4] (fun nv iv wr => ∃ k : Nat, k ≤ n ∧ k ≤ 100 ∧ iv = .int .i64 k ∧ nv = .int .i64 (totalN (rs.take k) : Int) ∧ totalN (rs.take k) ≤ 1048576 ∧ wr = w) (fun _ iv _ => n - (intOf iv).toNat)
  case atStart => exact ⟨0, by omega, by omega, rfl, rfl, by simp [totalN], rfl⟩
  case round =>
    obtain ⟨k, hk, hk1, rfl, rfl, ht, rfl⟩ := hrel
    obtain ⟨T, hT⟩ : ∃ T, totalN (rs.take k) = T := ⟨_, rfl⟩
    rw [hT] at ht
    by_cases hlt : k < n
    · have ck : (k : Int) < n := by omega
      by_cases h100 : k < 100
      · have ck2 : (k : Int) < 100 := by omega
        have ck0 : (0 : Int) ≤ (k : Int) := by omega
        obtain ⟨ab, aoff, rfl, hab, hac⟩ := strs_get HS.out hlt
        obtain ⟨x, hx⟩ : ∃ x, rs.getD k ByteArray.empty = x := ⟨_, rfl⟩
        rw [hx] at hac
        have hkl : k < rs.length := by rw [HN.out]; exact hlt
        have hxk : rs[k] = x := by rw [← hx, List.getD_eq_getElem?_getD, List.getElem?_eq_getElem hkl]; rfl
        have hxs : x.size ≤ 140737488355328 := HSZ.out x (by rw [← hxk]; exact List.getElem_mem _)
        have HT1 : Hid (totalN (rs.take (k + 1)) = T + x.size) := by show _ = _; rw [List.take_succ_eq_append_getElem hkl, total_snoc, hT, hxk]
        rw [hT]
        clear hT hx hxk hkl
        by_cases hbig : 1048576 < T + x.size
        · have gb : (1048576 : Int) < (T : Int) + x.size := by omega
          have HRT : Hid (R = true) := by
            show R = true
            rw [HG.out, decide_eq_true_iff]
            left
            have h1 := total_le (rs.take 100) (k + 1)
            rw [List.take_take, Nat.min_eq_left (by omega), HT1.out] at h1
            omega
          go_wp2_with fail
          go_ret
          exact ⟨by rw [HRT.out]; rfl, rfl⟩
        · have gb : ¬ (1048576 : Int) < (T : Int) + x.size := by omega
          go_wp2_with fail
          go_roundw
          case rel => exact ⟨k + 1, by omega, by omega, by go_num, by rw [HT1.out]; go_num, by rw [HT1.out]; omega, by first | rfl | trivial⟩
          case measure => simp [intOf]; omega
      · obtain rfl : k = 100 := by omega
        rw [hT]
        have gn : (100 : Int) < n := by omega
        have HRT : Hid (R = true) := by show R = true; rw [HG.out, decide_eq_true_iff]; right; rw [HN.out]; omega
        clear hT
        by_cases h8 : 8192 < T
        · have g8 : (8192 : Int) < T := by omega
          go_wp2_with fail
          go_ret
          exact ⟨by rw [HRT.out]; rfl, rfl⟩
        · have g8 : ¬ (8192 : Int) < T := by omega
          go_wp2_with fail
          go_ret
          exact ⟨by rw [HRT.out]; rfl, rfl⟩
    · obtain rfl : k = n := by omega
      have ck : ¬ (k : Int) < k := by omega
      have hTT : totalN (rs.take 100) = T := by
        rw [← hT]
        have e1 : rs.take 100 = rs := List.take_of_length_le (by rw [HN.out]; omega)
        have e2 : rs.take k = rs := List.take_of_length_le (by rw [HN.out]; omega)
        rw [e1, e2]
      rw [hT]
      have gn : ¬ (100 : Int) < k := by omega
      by_cases h8 : 8192 < T
      · have g8 : (8192 : Int) < T := by omega
        have HRT : Hid (R = true) := by show R = true; rw [HG.out, decide_eq_true_iff]; left; omega
        clear hT hTT
        go_wp2_with fail
        go_ret
        exact ⟨by rw [HRT.out]; rfl, rfl⟩
      · have g8 : ¬ (8192 : Int) < T := by omega
        have HRT : Hid (R = false) := by show R = false; rw [HG.out, decide_eq_false_iff_not, hTT, HN.out]; omega
        clear hT hTT
        go_wp2_with fail
        go_ret
        exact ⟨by rw [HRT.out]; rfl, rfl⟩
/-- two lists of transactions that are the same -/
theorem same_row {L M : List (List ByteArray)} {k : Nat} (h : L.take k = M.take k) (hl : k < L.length) (hm : k < M.length) (e : L[k] = M[k]) : L.take (k + 1) = M.take (k + 1) := by
  rw [List.take_succ_eq_append_getElem hl, List.take_succ_eq_append_getElem hm, h, e]
theorem same_txt {l m : List ByteArray} {k : Nat} (h : l.take k = m.take k) (hl : k < l.length) (hm : k < m.length) (e : l[k] = m[k]) : l.take (k + 1) = m.take (k + 1) := by
  rw [List.take_succ_eq_append_getElem hl, List.take_succ_eq_append_getElem hm, h, e]
set_option maxRecDepth 100000 in
set_option maxHeartbeats 4000000 in
theorem same_any {G G' : Nat → Prop} (a a' : Option Addr) (n n' c c' : Nat) (L M : List (List ByteArray)) (w : World) (hL : GridIn G w a n L) (hM : GridIn G' w a' n' M) :
    Calls Try.prog 12 #[.slice a n c, .slice a' n' c'] w fun e w' => e = .returned (.bool (decide (L = M))) ∧ Below w.heap.size w w' := by
  have hn : L.length = n := hL.1
  have hn' : M.length = n' := hM.1
  have hb := hL.2.1; have hb' := hM.2.1
  by_cases hne : n = n'
  · subst hne
    have HL := hid hL; have HM := hid hM; have HN := hid hn; have HN' := hid hn'
    have HEQ : Hid (∀ R, R = decide (L = M) → R = decide (L = M)) := fun _ h => h
    obtain ⟨R, hR⟩ : ∃ R, decide (L = M) = R := ⟨_, rfl⟩
    have HR : Hid (decide (L = M) = R) := hR
    rw [hR]
    clear hL hM hn hn' hR HEQ
    have g0 : ((n : Int) == (n : Int)) = true := by simp
    go_enter Try.func12, Try.ntmps12
    go_wp2
    go_loopw [5, 6] (fun iv _ wr => ∃ k : Nat, k ≤ n ∧ iv = .int .i64 k ∧ Hid (L.take k = M.take k) ∧ Hid (Below w.heap.size w wr)) (fun iv _ _ => n - (intOf iv).toNat)
    case atStart => exact ⟨0, by omega, rfl, rfl, Below.refl _ _⟩
    case round =>
      obtain ⟨k, hk, rfl, HT, LX⟩ := hrel
      by_cases hlt : k < n
      · have ck : (k : Int) < n := by omega
        have ck0 : (0 : Int) ≤ (k : Int) := by omega
        obtain ⟨b1, o1, a1, c1, rfl, e1, s1⟩ := (HL.out.only (Only.of_below LX.out NoF) (fun _ _ e => e)).get hlt
        obtain ⟨b2, o2, a2, c2, rfl, e2, s2⟩ := (HM.out.only (Only.of_below LX.out NoF) (fun _ _ e => e)).get hlt
        have hl : k < L.length := by rw [HN.out]; exact hlt
        have hm : k < M.length := by rw [HN'.out]; exact hlt
        obtain ⟨l, hll⟩ : ∃ l, L[k] = l := ⟨_, rfl⟩
        obtain ⟨m, hmm⟩ : ∃ m, M[k] = m := ⟨_, rfl⟩
        rw [hll] at e1 s1; rw [hmm] at e2 s2
        have S1 := hid s1; have S2 := hid s2
        have HSTEP : Hid (l = m → L.take (k + 1) = M.take (k + 1)) := fun e => same_row HT.out hl hm (by rw [hll, hmm, e])
        have HNO : Hid (l ≠ m → R = false) := fun e => by
          rw [← HR.out, decide_eq_false_iff_not]; intro h; subst h; exact e (hll.symm.trans hmm)
        clear s1 s2 hll hmm hl hm
        by_cases hlen : l.length = m.length
        · obtain ⟨q, hq⟩ : ∃ q, m.length = q := ⟨_, rfl⟩
          have HQ : Hid (l.length = q) := hlen.trans hq
          have HQ2 := hid hq
          rw [hlen, hq] at e1; rw [hq] at e2
          rw [hlen, hq] at S1; rw [hq] at S2
          have gq : ((q : Int) == (q : Int)) = true := by simp
          have hq63 : q ≤ 9223372036854775807 := S1.out.1.2.1
          clear hlen hq
          go_wp2_with fail
          go_quiet (fail)
          go_wp2_with fail
          have E1 := hid e1; have E2 := hid e2
          clear e1 e2
          go_loopw [6] (fun jv wi => ∃ j : Nat, j ≤ q ∧ jv = .int .i64 j ∧ Hid (l.take j = m.take j) ∧ Hid (Below wr.heap.size wr wi)) (fun jv _ => q - (intOf jv).toNat)
          case atStart => exact ⟨0, by omega, rfl, rfl, below_drewN (Below.refl _ _) _⟩
          case round =>
            obtain ⟨j, hj, rfl, HJ, LI⟩ := hrel
            have e1 := (World.cell?_of_block (LI.out.block b1 (World.block_lt_of_cell? _ _ E1.out))).trans E1.out
            have e2 := (World.cell?_of_block (LI.out.block b2 (World.block_lt_of_cell? _ _ E2.out))).trans E2.out
            by_cases hlj : j < q
            · have cj : (j : Int) < q := by omega
              have cj0 : (0 : Int) ≤ (j : Int) := by omega
              obtain ⟨d1, p1, rfl, -, y1⟩ := strs_get (S1.out.1.later LI.out) hlj
              obtain ⟨d2, p2, rfl, -, y2⟩ := strs_get (S2.out.1.later LI.out) hlj
              have jl : j < l.length := by rw [HQ.out]; exact hlj
              have jm : j < m.length := by rw [HQ2.out]; exact hlj
              obtain ⟨z1, hz1⟩ : ∃ z, l.getD j ByteArray.empty = z := ⟨_, rfl⟩
              obtain ⟨z2, hz2⟩ : ∃ z, m.getD j ByteArray.empty = z := ⟨_, rfl⟩
              have k1 : l[j] = z1 := by rw [← hz1, List.getD_eq_getElem?_getD, List.getElem?_eq_getElem jl]; rfl
              have k2 : m[j] = z2 := by rw [← hz2, List.getD_eq_getElem?_getD, List.getElem?_eq_getElem jm]; rfl
              rw [hz1] at y1; rw [hz2] at y2
              have HS2 : Hid (z1 = z2 → l.take (j + 1) = m.take (j + 1)) := fun e => same_txt HJ.out jl jm (by rw [k1, k2, e])
              have HN2 : Hid (z1 ≠ z2 → R = false) := fun e => HNO.out (fun h => by subst h; exact e (k1.symm.trans k2))
              clear hz1 hz2 k1 k2 jl jm
              by_cases hz : z1 = z2
              · subst hz
                go_wp2_with fail
                go_quiet (fail)
                go_wp2_with fail
                go_roundw
                case rel => exact ⟨j + 1, by omega, by go_num, HS2.out (by first | rfl | trivial), below_drewN LI.out _⟩
                case measure => simp [intOf]; omega
              · have hzb := bstr_ne hz
                have HF := HN2.out hz
                have HFF := hid HF
                have hzb2 : ¬ z1.toList = z2.toList := by intro e; rw [e] at hzb; simp at hzb
                clear hz HF
                go_wp2_with fail
                go_quiet (fail)
                go_wp2_with fail
                go_ret
                exact ⟨by rw [HFF.out]; rfl, below_drewN (below_then LX.out LI.out) _⟩
            · obtain rfl : j = q := by omega
              have cj : ¬ (j : Int) < j := by omega
              have HLM : Hid (l = m) := by
                have h1 := HJ.out
                rwa [List.take_of_length_le (by rw [HQ.out]; omega), List.take_of_length_le (by rw [HQ2.out]; omega)] at h1
              go_wp2_with fail
              go_roundw
              case rel => exact ⟨k + 1, by omega, by go_num, HSTEP.out HLM.out, below_then LX.out LI.out⟩
              case measure => simp [intOf]; omega
        · have g : ((l.length : Int) == (m.length : Int)) = false := by rw [beq_eq_false_iff_ne]; omega
          have HF : Hid (R = false) := HNO.out (fun e => hlen (by rw [e]))
          clear hlen
          go_wp2_with fail
          go_quiet (fail)
          go_wp2_with fail
          go_ret
          exact ⟨by rw [HF.out]; rfl, below_drewN LX.out _⟩
      · obtain rfl : k = n := by omega
        have ck : ¬ (k : Int) < k := by omega
        have HRT : Hid (R = true) := by
          show R = true
          rw [← HR.out, decide_eq_true_iff]
          have h1 := HT.out
          rwa [List.take_of_length_le (by rw [HN.out]; omega), List.take_of_length_le (by rw [HN'.out]; omega)] at h1
        go_wp2_with fail
        go_ret
        exact ⟨by rw [HRT.out]; rfl, LX.out⟩
  · have g : ((n : Int) == (n' : Int)) = false := by rw [beq_eq_false_iff_ne]; omega
    have hR : decide (L = M) = false := by rw [decide_eq_false_iff_not]; intro h; subst h; omega
    rw [hR]
    clear hL hM hR hn hn'
    go_enter Try.func12, Try.ntmps12
    go_wp2
    go_ret
    exact ⟨rfl, Below.refl _ _⟩
end Go.Proofs.Ytnhgfhbicaiilaa
/- What awake of layer 17 sees: plain Lean. -/
namespace Go.Proofs.Ytnhgfhbicaiilaa
open Go.RowKit Book Reel
set_option linter.unusedVariables false

def J : ByteArray := ⟨#[106]⟩
def k0 : St := new 1000
def k1 : St := (addB k0 J 0 false [[120]]).1
def k2 : St := (renewB k1 J 0 false [[121], [122]]).1
set_option maxRecDepth 100000 in
theorem kf0 : (openS k0 J).2.1 = 0 ∧ (openS k0 J).2.2 = [] ∧ (openS k0 J).1 = k0 := ⟨by decide +kernel, by decide +kernel, rfl⟩
set_option maxRecDepth 100000 in
theorem kf1 : (addB k0 J 0 false [[120]]).2.1 = 0 ∧ (addB k0 J 0 false [[120]]).2.2 = false := by decide +kernel
set_option maxRecDepth 100000 in
theorem kf2 : (addB k1 J 0 false []).2.1 = 1 ∧ (addB k1 J 0 false []).2.2 = false := by decide +kernel
theorem kf2b : (addB k1 J 0 false []).1 = k1 := rfl
set_option maxRecDepth 100000 in
theorem kf3 : (renewB k1 J 0 false [[121], [122]]).2.1 = 0 ∧ (renewB k1 J 0 false [[121], [122]]).2.2 = false := by decide +kernel
set_option maxRecDepth 100000 in
theorem kf4 : (openS k2 J).2.1 = 0 ∧ (openS k2 J).2.2 = [[[121], [122]]] := by decide +kernel
set_option maxRecDepth 100000 in
theorem kf5 : readS k1 J = ([9, 0, 0, 0, 133, 221, 139, 140, 1, 0, 0, 0, 1, 0, 0, 0, 120], 0) := by decide +kernel
set_option maxRecDepth 100000 in
theorem kf6 : k0.Fits 10 ∧ k1.Fits 10 ∧ k2.Fits 10 := by unfold St.Fits; decide +kernel
theorem new_K {K : Nat → Prop} {w : World} (n : Int) (hK : ∀ k, K k → k < w.heap.size) : Calls Try.prog 7 #[.int .i64 n] w fun e w' => ∃ p, e = .returned (.pointer (some ⟨p, 0, none⟩)) ∧ DK K w' p (new n) ∧ Below w.heap.size w w' := by
  refine (new_D (B := w.heap.size) n (Nat.le_refl _)).mono ?_; rintro e w' ⟨p, rfl, d, b⟩
  refine ⟨p, rfl, ((DK.of_D (G := fun _ => False) d (fun k e => e.elim) (Below.refl _ _)).less (fun k hk => .inl (hK k hk))), b⟩
end Go.Proofs.Ytnhgfhbicaiilaa
/- The law's own test. -/
namespace Go.Proofs.Ytnhgfhbicaiilaa
open Go.RowKit Book Reel
set_option linter.unusedVariables false

theorem strs_new1 (w : World) (x : ByteArray) : StrsAt (w.alloc (.cells #[.string x] 9)) (some ⟨w.heap.size, 0, none⟩) 1 [x] := by
  refine ⟨rfl, by omega, .inr ⟨_, _, rfl, fun j hj => ?_⟩⟩
  obtain rfl : j = 0 := by omega
  exact (Blk.new w 9 #[.string x]).cell 0
theorem strs_new2 (w : World) (x y : ByteArray) : StrsAt (w.alloc (.cells #[.string x, .string y] 9)) (some ⟨w.heap.size, 0, none⟩) 2 [x, y] := by
  refine ⟨rfl, by omega, .inr ⟨_, _, rfl, fun j hj => ?_⟩⟩
  have h := Blk.new w 9 #[.string x, .string y]
  obtain rfl | rfl : j = 0 ∨ j = 1 := by omega
  · exact h.cell 0
  · exact h.cell 1
theorem Only.low {K : Nat → Prop} {B b : Nat} {w w1 w2 : World} (h : Below B w w1) (hB : B ≤ w1.heap.size) (ho : Only (fun k => ¬ K k ∨ k = b) w1 w2) (hK : ∀ k, k < B → K k) (hb : B ≤ b) : Below B w w2 :=
  h.trans (ho.below (fun k e => by
    rcases e with e | e
    · exact Nat.le_of_not_lt (fun h => e (hK k h))
    · omega) hB)
theorem Only.low1 {K : Nat → Prop} {B : Nat} {w w1 w2 : World} (h : Below B w w1) (hB : B ≤ w1.heap.size) (ho : Only (fun k => ¬ K k) w1 w2) (hK : ∀ k, k < B → K k) : Below B w w2 :=
  h.trans (ho.below (fun k e => Nat.le_of_not_lt (fun h => e (hK k h))) hB)
/-- a book over a disk -/
structure BkOn (K : Nat → Prop) (w : World) (p b : Nat) (S : St) (x : ByteArray) (life : Nat) (dead : Bool) : Prop where
  disk : DK K w p S
  book : BookAt w b p x life dead
  kb : K b
theorem BkOn.below {K : Nat → Prop} {w w' : World} {p b : Nat} {S : St} {x : ByteArray} {life : Nat} {dead : Bool} (h : BkOn K w p b S x life dead) (hb : Below w.heap.size w w') : BkOn K w' p b S x life dead := ⟨h.disk.below hb, Blk.only h.book (Only.of_below hb NoF) (fun e => e), h.kb⟩
section
variable {K : Nat → Prop} {w : World} {p b : Nat} {S : St} {x : ByteArray} {life : Nat} {dead : Bool} {n : Nat}
theorem add_E (a : Option Addr) (m c : Nat) (rs : List ByteArray) (h : BkOn K w p b S x life dead) (hf : S.Fits n) (hn : n + 3 < big) (hl : life ≤ 9223372036854775807) (hx : x.size ≤ 1000) (hS : StrsAt w a m rs) (hsz : ∀ x ∈ rs, x.size ≤ 9223372036854775807) :
    Calls Try.prog 11 #[.pointer (some ⟨b, 0, none⟩), .slice a m c] w fun e w' => e = .returned (.int .i64 (addB S x life dead (lists rs)).2.1) ∧ (BkOn K w' p b (addB S x life dead (lists rs)).1 x life (addB S x life dead (lists rs)).2.2 ∧ Only (fun k => ¬ K k ∨ k = b) w w') :=
  (add_K a m c rs h.disk hf (by omega) h.book h.kb hl hx hS hsz).mono fun e w' ⟨h1, h2, h3, h4⟩ => ⟨h1, ⟨h2, h3, h.kb⟩, h4⟩
theorem renew_E (a : Option Addr) (m c : Nat) (rs : List ByteArray) (h : BkOn K w p b S x life dead) (hf : S.Fits n) (hn : n + 5 < big) (hl : life ≤ 9223372036854775807) (hx : x.size ≤ 1000) (hS : StrsAt w a m rs) (hsz : ∀ x ∈ rs, x.size ≤ 9223372036854775807) :
    Calls Try.prog 10 #[.pointer (some ⟨b, 0, none⟩), .slice a m c] w fun e w' => e = .returned (.int .i64 (renewB S x life dead (lists rs)).2.1) ∧ (BkOn K w' p b (renewB S x life dead (lists rs)).1 x life (renewB S x life dead (lists rs)).2.2 ∧ Only (fun k => ¬ K k ∨ k = b) w w') :=
  (renew_K a m c rs h.disk hf (by omega) h.book h.kb hl hx hS hsz).mono fun e w' ⟨h1, h2, h3, h4⟩ => ⟨h1, ⟨h2, h3, h.kb⟩, h4⟩
end
set_option maxRecDepth 100000 in
set_option maxHeartbeats 8000000 in
theorem awake17_any (w : World) : Calls Try.prog 6 #[] w fun e w' => e = .returned (.bool true) ∧ Below w.heap.size w w' := by
  obtain ⟨B, hB⟩ : ∃ B, w.heap.size = B := ⟨_, rfl⟩
  have HBW := hid hB
  rw [hB]; clear hB
  have x1 : ((⟨#[9, 0, 0, 0, 133, 221, 139, 140, 1, 0, 0, 0, 1, 0, 0, 0, 120]⟩ : ByteArray).extract 0 4).toList = [9, 0, 0, 0] := by rw [ba_toList]; decide +kernel
  have x2 : ((⟨#[9, 0, 0, 0, 133, 221, 139, 140, 1, 0, 0, 0, 1, 0, 0, 0, 120]⟩ : ByteArray).extract 8 17).toList = [1, 0, 0, 0, 1, 0, 0, 0, 120] := by rw [ba_toList]; decide +kernel
  go_enter Try.func6, Try.ntmps6
  go_wp2_with fail
  refine (new_K (K := fun k => k < B) 1000 (fun k h => by rw [HBW.out]; exact h)).mono ?_; rintro e w1 ⟨p, rfl, d0, b1⟩
  have L1 : Hid (Below B w w1) := by rw [HBW.out] at b1; exact b1
  have B1 : B ≤ w1.heap.size := by have := L1.out.size; rw [HBW.out] at this; exact this
  have D0 : Hid (DK (fun k => k < B) w1 p k0) := d0
  clear d0 b1
  go_wp2_with fail
  refine (open_K (fun k => k < B) p k0 J w1 10 kf6.1 (by decide) D0.out (by decide)).mono ?_
  rintro e w2 ⟨hp, ho⟩
  rcases hp with ⟨-, b, a, c, G, rfl, hd, hbk, hGb, hgr, hG⟩ | ⟨h1, -⟩
  case inr => exact absurd kf0.1 h1
  rw [kf0.2.2] at hd hbk
  have hlen : (openS k0 J).2.2.length = 0 := by rw [kf0.2.1]; rfl
  rw [hlen]
  have L2 : Hid (Below B w w2) := Only.low1 L1.out B1 ho (fun k h => h)
  have hBb : B ≤ b := Nat.le_trans B1 (hG b hGb).1
  have HE2 : Hid (BkOn (fun k => k < B ∨ G k) w2 p b k0 J 0 false) := ⟨hd, hbk, .inr hGb⟩
  have B2 : B ≤ w2.heap.size := Nat.le_trans B1 ho.size
  clear hd hbk hGb hgr hG ho hlen D0
  go_wp2_with fail
  have hal : Below w2.heap.size w2 (w2.alloc (.cells #[.string ⟨#[120]⟩] 9)) := (Below.refl _ _).alloc (Nat.le_refl _) _
  go_at_call 11
  refine (add_E _ 1 1 [⟨#[120]⟩] (HE2.out.below hal) kf6.1 (by decide) (by decide) (by decide) (strs_new1 w2 _) (by decide)).mono ?_
  rintro e w3 ⟨rfl, he, ho⟩
  have hr : (addB k0 J 0 false (lists [⟨#[120]⟩])).2.1 = 0 := kf1.1
  have hdd : (addB k0 J 0 false (lists [⟨#[120]⟩])).2.2 = false := kf1.2
  rw [hr]
  rw [hdd] at he
  have HE3 : Hid (BkOn (fun k => k < B ∨ G k) w3 p b k1 J 0 false) := he
  have L3 : Hid (Below B w w3) := Only.low (L2.out.trans (hal.mono B2)) (Nat.le_trans B2 hal.size) ho (fun k h => .inl h) hBb
  have B3 : B ≤ w3.heap.size := Nat.le_trans B2 (Nat.le_trans hal.size ho.size)
  clear he ho hr hdd hal HE2
  go_wp2_with fail
  go_at_call 14
  refine (read_K J HE3.out.disk).mono ?_; rintro e w' ⟨rfl, rfl⟩
  rw [kf5]
  go_wp2_with fail
  go_at_call 11
  refine (add_E none 0 0 [] HE3.out kf6.2.1 (by decide) (by decide) (by decide) ⟨rfl, by omega, .inl rfl⟩ (by decide)).mono ?_
  rintro e w4 ⟨rfl, he, ho⟩
  have hr : (addB k1 J 0 false (lists [])).2.1 = 1 := kf2.1
  have hdd : (addB k1 J 0 false (lists [])).2.2 = false := kf2.2
  rw [hr]
  rw [hdd] at he
  have HE4 : Hid (BkOn (fun k => k < B ∨ G k) w4 p b k1 J 0 false) := he
  have L4 : Hid (Below B w w4) := Only.low L3.out B3 ho (fun k h => .inl h) hBb
  have B4 : B ≤ w4.heap.size := Nat.le_trans B3 ho.size
  clear he ho hr hdd HE3
  go_wp2_with fail
  have hal : Below w4.heap.size w4 (w4.alloc (.cells #[.string ⟨#[121]⟩, .string ⟨#[122]⟩] 9)) := (Below.refl _ _).alloc (Nat.le_refl _) _
  go_at_call 10
  refine (renew_E _ 2 2 [⟨#[121]⟩, ⟨#[122]⟩] (HE4.out.below hal) kf6.2.1 (by decide) (by decide) (by decide) (strs_new2 w4 _ _) (by decide)).mono ?_
  rintro e w5 ⟨rfl, he, ho⟩
  have hr : (renewB k1 J 0 false (lists [⟨#[121]⟩, ⟨#[122]⟩])).2.1 = 0 := kf3.1
  have hdd : (renewB k1 J 0 false (lists [⟨#[121]⟩, ⟨#[122]⟩])).2.2 = false := kf3.2
  rw [hr]
  rw [hdd] at he
  have HE5 : Hid (BkOn (fun k => k < B ∨ G k) w5 p b k2 J 0 false) := he
  have L5 : Hid (Below B w w5) := Only.low (L4.out.trans (hal.mono B4)) (Nat.le_trans B4 hal.size) ho (fun k h => .inl h) hBb
  have B5 : B ≤ w5.heap.size := Nat.le_trans B4 (Nat.le_trans hal.size ho.size)
  clear he ho hr hdd hal HE4
  go_wp2_with fail
  go_at_call 8
  refine (open_K (fun k => k < B ∨ G k) p k2 J w5 10 kf6.2.2 (by decide) HE5.out.disk (by decide)).mono ?_
  rintro e w6 ⟨hp, ho⟩
  rcases hp with ⟨-, b', a', c', G', rfl, hd, hbk, hGb, hgr, hG⟩ | ⟨h1, -⟩
  case inr => exact absurd kf4.1 h1
  rw [kf4.2] at hgr ⊢
  have L6 : Hid (Below B w w6) := Only.low1 L5.out B5 ho (fun k h => .inl h)
  obtain ⟨gb, go_, ga, gc, rfl, e1, s1⟩ := hgr.get (j := 0) (by decide)
  obtain ⟨tb, to_, rfl, -, t1⟩ := strs_get s1.1 (j := 1) (by show 1 < 2; omega)
  have q1 : w6.cell? ⟨gb, go_, none⟩ = some (.slice (some ⟨tb, to_, none⟩) 2 gc) := e1
  have q2 : w6.cell? ⟨tb, to_ + 1, none⟩ = some (.string ⟨#[122]⟩) := t1
  clear hd hbk hGb hgr hG ho HE5 e1 s1 t1
  go_wp2_with fail
  go_ret
  exact ⟨rfl, L6.out⟩
end Go.Proofs.Ytnhgfhbicaiilaa
/- What is seen of a disk, whatever its room and whether power goes: plain Lean. -/
namespace Go.Proofs.Ytnhgfhbicaiilaa.Reel
open Go.RowKit
set_option linter.unusedVariables false

structure Sees (S : St) (f : ByteArray → Option Spool) : Prop where
  ok : S.Ok
  at_ : ∀ x, Reel.at_ S x = f x
def Stays (S S' : St) : Prop := S'.down = false ∧ S'.life = S.life ∧ (S.armed = 0 → S'.armed = 0)
def Went (S S' : St) : Prop := S'.down = true ∧ S.armed ≠ 0
section
variable {S S' : St} {f : ByteArray → Option Spool} {x y : ByteArray} {t : Spool}
theorem Sees.same (h : Sees S f) (hl : S'.l = S.l) (ht : S'.ts = S.ts) (hu : S'.used = S.used) (hr : S'.room ≤ 67108864) : Sees S' f := by
  refine ⟨h.ok.with_ hl ht hu hr, fun x => ?_⟩
  rw [← h.at_ x]; unfold Reel.at_; rw [hl, ht]
theorem Sees.act (h : Sees S f) : Sees (actS S).1 f := by
  obtain ⟨h1, h2, h3, h4⟩ := act_l S
  exact h.same h1 h2 h3 (by rw [h4]; exact h.ok.room)
theorem act_two (S : St) (hd : S.down = false) : ((actS S).2 = 0 ∧ Stays S (actS S).1) ∨ ((actS S).2 = 10 ∧ Went S (actS S).1) := by
  unfold actS Stays Went
  split
  · rename_i h; exact .inl ⟨rfl, hd, rfl, fun _ => h⟩
  · split
    · rename_i h1 h2; exact .inr ⟨rfl, rfl, h1⟩
    · rename_i h1 h2; exact .inl ⟨rfl, hd, rfl, fun e => absurd e h1⟩
theorem put_sees (h : Sees S f) (hf : f x = some t) (t' : Spool) (h1 : t'.safe ≤ t'.bytes.length) (h2 : t'.bytes.length ≤ 4194304) (U : Nat) (hU : U + t.bytes.length = S.used + t'.bytes.length) (hm : U ≤ 67108864) : Sees { putT S x t' with used := U } (upd f x (some t')) := by
  have hat : Reel.at_ S x = some t := (h.at_ x).trans hf
  have hok := h.ok.put hat h2 h1 U hU hm
  refine ⟨hok, fun y => ?_⟩
  show Reel.at_ (putT S x t') y = _
  rw [at_put h.ok hok]; unfold upd
  split
  · rfl
  · exact h.at_ y
theorem ins_sees (h : Sees S f) (hf : f x = none) (hx : isName x = true) (hfew : S.l.length < 64) (t' : Spool) (h1 : t'.safe ≤ t'.bytes.length) (h2 : t'.bytes.length ≤ 4194304) (U : Nat) (hU : U = S.used + t'.bytes.length) (hm : U ≤ 67108864) : Sees { putT S x t' with used := U } (upd f x (some t')) := by
  have hat : Reel.at_ S x = none := (h.at_ x).trans hf
  have hok := h.ok.ins (at_none h.ok hat) hx hfew (t' := t') h2 h1 U hU hm
  refine ⟨hok, fun y => ?_⟩
  show Reel.at_ (putT S x t') y = _
  rw [at_put h.ok hok]; unfold upd
  split
  · rfl
  · exact h.at_ y
theorem del_sees (h : Sees S f) (hf : f x = some t) (U : Nat) (hU : U + t.bytes.length = S.used) : Sees { delT S x with used := U } (upd f x none) := by
  have hat : Reel.at_ S x = some t := (h.at_ x).trans hf
  have hok := h.ok.del hat U hU
  refine ⟨hok, fun y => ?_⟩
  show Reel.at_ (delT S x) y = _
  unfold upd
  split
  · rename_i hy; subst hy; exact at_del_self h.ok (at_some hat).1 hok
  · rename_i hy; rw [at_del h.ok hat hy]; exact h.at_ y
/-- the answer of an act: it was made, or the power went -/
def Acted (S : St) (r : St × Int) (f g : ByteArray → Option Spool) : Prop := (r.2 = 0 ∧ Sees r.1 g ∧ Stays S r.1) ∨ (r.2 = 10 ∧ Sees r.1 f ∧ Went S r.1)
def grown (o : Option Spool) (s : List UInt8) : Spool := match o with
  | some t => ⟨t.bytes ++ s, t.safe⟩
  | none => ⟨s, 0⟩
theorem append_sees (h : Sees S f) (hd : S.down = false) (s : ByteArray) (hx : isName x = true) :
    ((appendS S x s).2 = 11 ∧ (appendS S x s).1 = S) ∨ Acted S (appendS S x s) (upd f x (some (grown (f x) s.data.toList))) (upd f x (some (grown (f x) s.data.toList))) := by
  have hsz : s.data.toList.length = s.size := by rw [Array.length_toList]; rfl
  have hroom := h.ok.room
  have fin : ∀ (T : St) (g : ByteArray → Option Spool), Sees T g → T.down = false → T.life = S.life → T.armed = S.armed → Acted S (actS T) g g := by
    intro T g hT h1 h2 h3
    rcases act_two T h1 with ⟨e, a, b, c⟩ | ⟨e, a, b⟩
    · exact .inl ⟨e, hT.act, a, b.trans h2, fun e => c (h3.trans e)⟩
    · exact .inr ⟨e, hT.act, a, by rw [← h3]; exact b⟩
  unfold appendS
  rw [if_neg (by rw [hd]; simp), if_neg (by rw [hx]; simp)]
  by_cases hr : S.room < S.used + s.size
  · rw [if_pos hr]; exact .inl ⟨rfl, rfl⟩
  rw [if_neg hr, h.at_ x]
  cases hf : f x with
  | some t =>
    simp only
    split
    · exact .inl ⟨rfl, rfl⟩
    · rename_i hl
      have hsafe := (h.ok.each t (at_mem ((h.at_ x).trans hf))).2
      exact .inr (fin _ _ (put_sees h hf ⟨t.bytes ++ s.data.toList, t.safe⟩ (by show t.safe ≤ (t.bytes ++ s.data.toList).length; rw [List.length_append]; omega) (by show (t.bytes ++ s.data.toList).length ≤ _; rw [List.length_append, hsz]; omega) _ (by show S.used + s.size + _ = S.used + (t.bytes ++ s.data.toList).length; rw [List.length_append, hsz]; omega) (by omega)) hd rfl rfl)
  | none =>
    simp only
    split
    · exact .inl ⟨rfl, rfl⟩
    · rename_i hl
      exact .inr (fin _ _ (ins_sees h hf hx (by omega) ⟨s.data.toList, 0⟩ (Nat.zero_le _) (by show s.data.toList.length ≤ _; rw [hsz]; omega) _ (by show _ = S.used + s.data.toList.length; rw [hsz]) (by omega)) hd rfl rfl)
theorem sync_sees (h : Sees S f) (hd : S.down = false) (hf : f x = some t) : Acted S (syncS S x) f (upd f x (some ⟨t.bytes, t.bytes.length⟩)) := by
  have hat : Reel.at_ S x = some t := (h.at_ x).trans hf
  have h4 := (h.ok.each t (at_mem hat)).1
  unfold syncS
  rw [if_neg (by rw [hd]; simp), hat]
  simp only
  obtain ⟨l1, l2, l3, l4⟩ := act_l S
  rcases act_two S hd with ⟨e, st⟩ | ⟨e, w⟩
  · rw [if_pos e]
    refine .inl ⟨rfl, ?_, st⟩
    have := put_sees h.act hf ⟨t.bytes, t.bytes.length⟩ (Nat.le_refl _) h4 (actS S).1.used rfl (by rw [l3]; exact h.ok.most)
    exact this
  · rw [if_neg (by rw [e]; decide)]
    exact .inr ⟨e, h.act, w⟩
theorem drop_sees (h : Sees S f) (hd : S.down = false) (hf : f x = some t) : Acted S (dropS S x) f (upd f x none) := by
  have hat : Reel.at_ S x = some t := (h.at_ x).trans hf
  have hmem := size_mem (at_mem hat)
  rw [← h.ok.used] at hmem
  unfold dropS
  rw [if_neg (by rw [hd]; simp), hat]
  simp only
  obtain ⟨l1, l2, l3, l4⟩ := act_l S
  rcases act_two S hd with ⟨e, st⟩ | ⟨e, w⟩
  · rw [if_pos e]
    exact .inl ⟨rfl, del_sees h.act hf _ (by rw [l3]; omega), st⟩
  · rw [if_neg (by rw [e]; decide)]
    exact .inr ⟨e, h.act, w⟩
theorem cut_sees (h : Sees S f) (hd : S.down = false) (hf : f x = some t) (j : Nat) (hj : j ≤ t.bytes.length) : Acted S (cutS S x j) f (upd f x (some (cutT t j))) := by
  have hat : Reel.at_ S x = some t := (h.at_ x).trans hf
  have hmem := size_mem (at_mem hat)
  rw [← h.ok.used] at hmem
  have h4 := (h.ok.each t (at_mem hat)).1
  have hm := h.ok.most
  have hl : (cutT t j).bytes.length = j := by unfold cutT; rw [List.length_take]; omega
  unfold cutS
  rw [if_neg (by rw [hd]; simp), hat]
  simp only
  rw [if_neg (by omega)]
  obtain ⟨l1, l2, l3, l4⟩ := act_l S
  rcases act_two S hd with ⟨e, st⟩ | ⟨e, w⟩
  · rw [if_pos e]
    refine .inl ⟨rfl, ?_, st⟩
    have := put_sees h.act hf (cutT t j) (by rw [hl]; exact Nat.min_le_right _ _) (by rw [hl]; omega) (S.used - (t.bytes.length - j)) (by rw [l3, hl]; omega) (by omega)
    exact this
  · rw [if_neg (by rw [e]; decide)]
    exact .inr ⟨e, h.act, w⟩
theorem swap_sees (h : Sees S f) (hd : S.down = false) (hf : f x = some t) (hy : isName y = true) (hne : x ≠ y) : Acted S (swapS S x y) f (upd (upd f x none) y (some t)) := by
  have hat : Reel.at_ S x = some t := (h.at_ x).trans hf
  have hmem := size_mem (at_mem hat)
  rw [← h.ok.used] at hmem
  obtain ⟨h4, h5⟩ := h.ok.each t (at_mem hat)
  have hm := h.ok.most
  unfold swapS
  rw [if_neg (by rw [hd]; simp), hat]
  simp only
  rw [if_neg (by rw [hy]; decide)]
  obtain ⟨l1, l2, l3, l4⟩ := act_l S
  rcases act_two S hd with ⟨e, st⟩ | ⟨e, w⟩
  · rw [if_pos e, if_neg hne]
    refine .inl ⟨rfl, ?_, st⟩
    have hdel : Sees { delT (actS S).1 x with used := S.used - t.bytes.length } (upd f x none) := del_sees h.act hf _ (by rw [l3]; omega)
    have hfy : upd f x none y = f y := upd_other _ _ (Ne.symm hne)
    show Sees (putT { delT (actS S).1 x with used := S.used - lenAt S y } y t) _
    cases hfy2 : f y with
    | some t2 =>
      have hat2 : Reel.at_ S y = some t2 := (h.at_ y).trans hfy2
      have hmem2 := size_mem (at_mem hat2)
      rw [← h.ok.used] at hmem2
      have hlen : lenAt S y = t2.bytes.length := by unfold lenAt; rw [hat2]
      rw [hlen]
      exact put_sees hdel (hfy.trans hfy2) t h5 h4 (S.used - t2.bytes.length) (by show _ = S.used - t.bytes.length + _; omega) (by omega)
    | none =>
      have hat2 : Reel.at_ S y = none := (h.at_ y).trans hfy2
      have hlen : lenAt S y = 0 := by unfold lenAt; rw [hat2]
      rw [hlen]
      have hfew : ({ delT (actS S).1 x with used := S.used - t.bytes.length } : St).l.length < 64 := by
        rw [← hdel.ok.len]
        obtain ⟨g1, g2⟩ := at_some hat
        have hp : posOf S.l x < S.ts.length := (List.getElem?_eq_some_iff.1 g2).1
        have h64 := h.ok.few
        have hlen2 := h.ok.len
        show (delT (actS S).1 x).ts.length < 64
        have e3 : (delT (actS S).1 x).ts = S.ts.take (posOf S.l x) ++ S.ts.drop (posOf S.l x + 1) := by
          show (if hasN (actS S).1.l x = true then _ else _) = _
          rw [l1, l2, if_pos g1]
        rw [e3, List.length_append, List.length_take, List.length_drop]
        omega
      exact ins_sees hdel (hfy.trans hfy2) hy hfew t h5 h4 (S.used - 0) (by show _ = S.used - t.bytes.length + _; omega) (by omega)
  · rw [if_neg (by rw [e]; decide)]
    exact .inr ⟨e, h.act, w⟩
theorem on_sees (h : Sees S f) (hd : S.down = true) (fs : List Int) : ∃ g, Sees (onS S fs) g ∧ (onS S fs).down = false ∧ (onS S fs).life = S.life ∧ (onS S fs).armed = S.armed ∧ (∀ x, f x = none → g x = none) ∧ (∀ x t, f x = some t → ∃ t', g x = some t' ∧ (t.bytes.length = t.safe → t' = t) ∧ (t.bytes.length ≠ t.safe → ∃ c, t' = left t c)) := by
  have hok := on_ok h.ok fs
  have he : onS S fs = { S with down := false, ts := onT fs 0 S.ts, used := size (onT fs 0 S.ts) } := by unfold onS; rw [if_neg (by rw [hd]; simp)]
  rw [he] at hok ⊢
  refine ⟨_, ⟨hok, fun x => rfl⟩, rfl, rfl, rfl, fun x hx => ?_, fun x t hx => ?_⟩
  · have hn := at_none h.ok ((h.at_ x).trans hx)
    show Reel.at_ _ x = none
    unfold Reel.at_
    exact if_neg (by show ¬ hasN S.l x = true; rw [hn]; simp)
  · obtain ⟨h1, h2⟩ := at_some ((h.at_ x).trans hx)
    obtain ⟨t', g1, g2⟩ := (onT_get fs S.ts 0 (posOf S.l x)).2 t h2
    refine ⟨t', ?_, g2⟩
    show Reel.at_ _ x = _
    unfold Reel.at_
    exact (if_pos h1).trans g1
theorem off_sees (h : Sees S f) : Sees (offS S) f ∧ (offS S).down = true := by
  unfold offS
  by_cases hd : S.down = true
  · rw [if_pos hd]; exact ⟨h, hd⟩
  · rw [if_neg hd]; exact ⟨h.same rfl rfl rfl h.ok.room, rfl⟩
theorem arm_sees (h : Sees S f) (n : Int) : Sees (armS S n) f := h.same rfl rfl rfl h.ok.room
theorem read_sees (h : Sees S f) (hd : S.down = false) (x : ByteArray) : readS S x = match f x with | none => ([], 12) | some t => (t.bytes, 0) := by
  unfold readS; rw [if_neg (by rw [hd]; simp), h.at_ x]; rfl
theorem size_sees (h : Sees S f) (x : ByteArray) : sizeS S x = match f x with | none => -1 | some t => (t.bytes.length : Int) := by
  unfold sizeS; rw [h.at_ x]; rfl
theorem new_sees (n : Int) : Sees (new n) (fun _ => none) ∧ (new n).down = false ∧ (new n).armed = 0 := by
  refine ⟨⟨new_ok _, fun x => ?_⟩, rfl, rfl⟩
  unfold Reel.at_
  split <;> rfl
end
end Go.Proofs.Ytnhgfhbicaiilaa.Reel
/- A book over a disk whose power does not go: plain Lean. -/
namespace Go.Proofs.Ytnhgfhbicaiilaa
open Go.RowKit Book Reel
set_option linter.unusedVariables false

theorem J_tilde : tilde J ≠ J := by
  intro e
  have := congrArg ByteArray.size e
  rw [tilde_size] at this; omega
structure Calm (S : St) (D : List (List (List UInt8))) : Prop where
  down : S.down = false
  armed : S.armed = 0
  valid : ∀ rs ∈ D, Valid rs
  sees : ∃ f, Sees S f ∧ (∀ y, y ≠ J → f y = none) ∧ ((f J = none ∧ D = []) ∨ f J = some ⟨deedsL crcP D, (deedsL crcP D).length⟩)
theorem deedsL_snoc (crc : List UInt8 → Nat) (D : List (List (List UInt8))) (rs : List (List UInt8)) : deedsL crc (D ++ [rs]) = deedsL crc D ++ deedL crc rs := by unfold deedsL; rw [List.flatMap_append]; simp
theorem calm_new (n : Int) : Calm (new n) [] := by
  obtain ⟨h1, h2, h3⟩ := new_sees n
  exact ⟨h2, h3, fun rs h => (by cases h), _, h1, fun y _ => rfl, .inl ⟨rfl, rfl⟩⟩
theorem readR_all (D : List (List (List UInt8))) (hv : ∀ rs ∈ D, Valid rs) : readR crcP (deedsL crcP D) = (D, (deedsL crcP D).length) := by
  have := readR_deeds crcP_ok D [] hv (stepR_short [] (by simp))
  rwa [List.append_nil] at this
theorem calm_open {S : St} {D : List (List (List UInt8))} (h : Calm S D) : openS S J = (S, 0, D) := by
  obtain ⟨hd, ha, hv, f, hs, ho, hj⟩ := h
  have eA : openA S J = (S, 0) := by
    unfold openA
    rw [size_sees hs, ho _ J_tilde]
    exact if_neg (by decide)
  have eR : openR S J = (D, (readS S J).1.length) := by
    unfold openR
    rw [read_sees hs hd]
    rcases hj with ⟨hj, rfl⟩ | hj
    · rw [hj]; rfl
    · rw [hj]; exact readR_all D hv
  have eB : openB S J = (S, 0) := by
    unfold openB
    rw [eR]
    exact if_neg (by simp)
  unfold openS
  rw [if_neg (by rw [hd]; simp), if_neg (by decide), eA]
  simp only
  rw [if_neg (by simp), eB, eR]
  simp
theorem ready_ok {S : St} {life : Nat} {rs : List (List UInt8)} (hd : S.down = false) (hl : S.life = life) : (readyS S life false rs).2 = (bodyE rs).2 := by
  unfold readyS
  simp only
  rw [if_neg]
  rintro ⟨-, h | h | h⟩
  · cases h
  · rw [hd] at h; cases h
  · exact h hl
theorem bodyE_errs (rs : List (List UInt8)) : (bodyE rs).2 = 0 ∨ (bodyE rs).2 = 1 ∨ (bodyE rs).2 = 6 ∨ (bodyE rs).2 = 5 := by
  unfold bodyE
  split
  · exact .inr (.inl rfl)
  split
  · exact .inr (.inr (.inl rfl))
  split
  · exact .inr (.inr (.inr rfl))
  split
  · exact .inr (.inr (.inr rfl))
  · exact .inl rfl
/-- what a deed makes of a calm book -/
def DeedPost (S : St) (D D' : List (List (List UInt8))) (rs : List (List UInt8)) (r : St × Int × Bool) : Prop :=
  r.2.2 = false ∧ ((r.2.1 = 0 ∧ Valid rs ∧ Calm r.1 D' ∧ r.1.life = S.life) ∨ (r.2.1 ≠ 0 ∧ r.1 = S ∧ (r.2.1 = (bodyE rs).2 ∨ r.2.1 = 11)))
theorem seq_cons {F : St → St × Int} {r : List (St → St × Int)} {S : St} {dead : Bool} (h : (F S).2 = 0) : seqS (F :: r) S dead = seqS r (F S).1 dead := by
  show (if (F S).2 = 0 then _ else _) = _; rw [if_pos h]
theorem seq_stop {F : St → St × Int} {r : List (St → St × Int)} {S : St} {dead : Bool} (h : (F S).2 ≠ 0) : seqS (F :: r) S dead = ((F S).1, (F S).2, dead || decide ((F S).2 = 10)) := by
  show (if (F S).2 = 0 then _ else _) = _; rw [if_neg h]
theorem acted_calm {S : St} {r : St × Int} {f g : ByteArray → Option Spool} (h : Acted S r f g) (ha : S.armed = 0) : r.2 = 0 ∧ Sees r.1 g ∧ r.1.down = false ∧ r.1.armed = 0 ∧ r.1.life = S.life := by
  rcases h with ⟨h1, h2, h3, h4, h5⟩ | ⟨-, -, -, h⟩
  · exact ⟨h1, h2, h3, h5 ha, h4⟩
  · exact absurd ha h
theorem calm_add {S : St} {D : List (List (List UInt8))} (h : Calm S D) (rs : List (List UInt8)) : DeedPost S D (D ++ [rs]) rs (addB S J S.life false rs) := by
  obtain ⟨hd, ha, hv, f, hs, ho, hj⟩ := h
  have hr := ready_ok (rs := rs) hd rfl
  unfold addB
  by_cases h0 : (readyS S S.life false rs).2 = 0
  · rw [if_pos h0]
    rw [hr] at h0
    obtain ⟨hval, hb⟩ := bodyE_ok h0
    have hs1 : (bx (readyS S S.life false rs).1).data.toList = deedL crcP rs := by rw [bx_list]; unfold readyS deedL; rw [hb]
    obtain ⟨y, hy⟩ : ∃ y, bx (readyS S S.life false rs).1 = y := ⟨_, rfl⟩
    rw [hy] at hs1 ⊢
    unfold addL
    rcases append_sees hs hd y (x := J) (by decide) with ⟨e1, e2⟩ | hact
    · rw [seq_stop (by rw [e1]; decide)]
      refine ⟨?_, .inr ⟨?_, e2, .inr e1⟩⟩
      · show (false || decide ((appendS S J y).2 = 10)) = false
        rw [e1]; decide
      · show (appendS S J y).2 ≠ 0
        rw [e1]; decide
    · obtain ⟨a1, a2, a3, a4, a5⟩ := acted_calm hact ha
      rw [seq_cons a1]
      have hg : grown (f J) y.data.toList = ⟨deedsL crcP (D ++ [rs]), (grown (f J) y.data.toList).safe⟩ := by
        rw [deedsL_snoc, hs1]
        rcases hj with ⟨hj, rfl⟩ | hj
        · rw [hj]; rfl
        · rw [hj]; rfl
      obtain ⟨b1, b2, b3, b4, b5⟩ := acted_calm (sync_sees a2 a3 (upd_self _ _ _)) a4
      rw [seq_cons b1]
      refine ⟨rfl, .inl ⟨rfl, hval, ⟨b3, b4, ?_, _, b2, fun z hz => ?_, .inr ?_⟩, b5.trans a5⟩⟩
      · intro q hq
        rcases List.mem_append.1 hq with hq | hq
        · exact hv q hq
        · rw [List.mem_singleton] at hq; subst hq; exact hval
      · rw [upd_other _ _ hz, upd_other _ _ hz]; exact ho z hz
      · rw [upd_self, hg]
  · rw [if_neg h0]
    refine ⟨rfl, .inr ⟨h0, rfl, .inl hr⟩⟩
theorem calm_renew {S : St} {D : List (List (List UInt8))} (h : Calm S D) (rs : List (List UInt8)) : DeedPost S D [rs] rs (renewB S J S.life false rs) := by
  obtain ⟨hd, ha, hv, f, hs, ho, hj⟩ := h
  have hr := ready_ok (rs := rs) hd rfl
  unfold renewB
  by_cases h0 : (readyS S S.life false rs).2 = 0
  · rw [if_pos h0]
    rw [hr] at h0
    obtain ⟨hval, hb⟩ := bodyE_ok h0
    have hs1 : (bx (readyS S S.life false rs).1).data.toList = deedL crcP rs := by rw [bx_list]; unfold readyS deedL; rw [hb]
    obtain ⟨y, hy⟩ : ∃ y, bx (readyS S S.life false rs).1 = y := ⟨_, rfl⟩
    rw [hy] at hs1 ⊢
    unfold renewL
    have hd1 : drop1 S (tilde J) = (S, 0) := by unfold drop1; rw [size_sees hs, ho _ J_tilde]; exact if_pos (by decide)
    rw [seq_cons (by rw [hd1])]
    show DeedPost _ _ _ _ (seqS _ (drop1 S (tilde J)).1 false)
    rw [hd1]
    show DeedPost _ _ _ _ (seqS _ S false)
    rcases append_sees hs hd y (x := tilde J) (by decide) with ⟨e1, e2⟩ | hact
    · rw [seq_stop (by rw [e1]; decide)]
      refine ⟨?_, .inr ⟨?_, e2, .inr e1⟩⟩
      · show (false || decide ((appendS S (tilde J) y).2 = 10)) = false
        rw [e1]; decide
      · show (appendS S (tilde J) y).2 ≠ 0
        rw [e1]; decide
    · obtain ⟨a1, a2, a3, a4, a5⟩ := acted_calm hact ha
      rw [seq_cons a1]
      have hg : grown (f (tilde J)) y.data.toList = ⟨deedL crcP rs, 0⟩ := by
        rw [ho _ J_tilde, ← hs1]; rfl
      rw [hg] at a2
      obtain ⟨b1, b2, b3, b4, b5⟩ := acted_calm (sync_sees a2 a3 (upd_self _ _ _)) a4
      rw [seq_cons b1]
      obtain ⟨c1, c2, c3, c4, c5⟩ := acted_calm (swap_sees b2 b3 (upd_self _ _ _) (y := J) (by decide) J_tilde) b4
      rw [seq_cons c1]
      have hd2 : deedsL crcP [rs] = deedL crcP rs := by unfold deedsL; simp
      refine ⟨rfl, .inl ⟨rfl, hval, ⟨c3, c4, ?_, _, c2, fun z hz => ?_, .inr ?_⟩, c5.trans (b5.trans a5)⟩⟩
      · intro q hq; rw [List.mem_singleton] at hq; subst hq; exact hval
      · rw [upd_other _ _ hz]
        by_cases hzt : z = tilde J
        · subst hzt; rw [upd_self]
        · rw [upd_other _ _ hzt, upd_other _ _ hzt, upd_other _ _ hzt]; exact ho z hz
      · rw [upd_self, hd2]
  · rw [if_neg h0]
    refine ⟨rfl, .inr ⟨h0, rfl, .inl hr⟩⟩
end Go.Proofs.Ytnhgfhbicaiilaa
/- How many acts a book's calls take; rows of lists of texts that a law keeps. -/
namespace Go.Proofs.Ytnhgfhbicaiilaa
open Go.RowKit Book Reel
set_option linter.unusedVariables false

theorem fits_more {S : St} {n m : Nat} (h : S.Fits n) (hm : n ≤ m) : S.Fits m := ⟨Nat.le_trans h.1 hm, Nat.le_trans h.2.1 hm, h.2.2⟩
theorem seq_fits {dead : Bool} : ∀ (L : List (St → St × Int)) (S : St) (n : Nat), (∀ F ∈ L, ∀ S, Near S (F S).1) → S.Fits n → (seqS L S dead).1.Fits (n + L.length)
  | [], S, n, _, h => h
  | F :: r, S, n, hL, h => by
    have h1 := (hL F (List.mem_cons_self ..) S).fits h
    by_cases e : (F S).2 = 0
    · rw [seq_cons e]
      have := seq_fits (dead := dead) r (F S).1 (n + 1) (fun G hG => hL G (List.mem_cons_of_mem _ hG)) h1
      exact fits_more this (by simp; omega)
    · rw [seq_stop e]
      exact fits_more h1 (by simp)
theorem addL_near (x s : ByteArray) : ∀ F ∈ addL x s, ∀ S, Near S (F S).1 := by
  intro F hF S
  unfold addL at hF
  simp only [List.mem_cons, List.not_mem_nil, or_false] at hF
  rcases hF with rfl | rfl
  · exact append_near S x s
  · exact sync_near S x
theorem renewL_near (x t s : ByteArray) : ∀ F ∈ renewL x t s, ∀ S, Near S (F S).1 := by
  intro F hF S
  unfold renewL at hF
  simp only [List.mem_cons, List.not_mem_nil, or_false] at hF
  rcases hF with rfl | rfl | rfl | rfl
  · exact drop1_near S t
  · exact append_near S t s
  · exact sync_near S t
  · exact swap_near S t x
theorem add_fits {S : St} {n : Nat} (h : S.Fits n) (x : ByteArray) (life : Nat) (dead : Bool) (rs : List (List UInt8)) : (addB S x life dead rs).1.Fits (n + 4) := by
  unfold addB
  split
  · exact fits_more (seq_fits _ S n (addL_near _ _) h) (by simp [addL])
  · exact fits_more h (by omega)
theorem renew_fits {S : St} {n : Nat} (h : S.Fits n) (x : ByteArray) (life : Nat) (dead : Bool) (rs : List (List UInt8)) : (renewB S x life dead rs).1.Fits (n + 4) := by
  unfold renewB
  split
  · exact fits_more (seq_fits _ S n (renewL_near _ _ _) h) (by simp [renewL])
  · exact fits_more h (by omega)
theorem open_fits {S : St} {n : Nat} (h : S.Fits n) (x : ByteArray) : (openS S x).1.Fits (n + 4) := by
  have hA := (openA_near S x).fits h
  have hB := (openB_near (openA S x).1 x).fits hA
  unfold openS
  split
  · exact fits_more h (by omega)
  split
  · exact fits_more h (by omega)
  split
  · exact fits_more hA (by omega)
  split
  · exact fits_more hB (by omega)
  · exact fits_more hB (by omega)
theorem grid_lists (L : List (List ByteArray)) : grid (L.map lists) = L := by
  unfold grid lists
  rw [List.map_map]
  conv => rhs; rw [← List.map_id L]
  apply List.map_congr_left
  intro l _
  simp only [Function.comp, List.map_map]
  conv => rhs; rw [id, ← List.map_id l]
  apply List.map_congr_left
  intro s _
  exact bx_back s
/-- a law's own list of deeds: the slices came in -/
def Want (w0 w : World) (B : Nat) (v : Value) (L : List (List ByteArray)) : Prop := ∃ vs, w.ownsRow B 33 1 v L.length vs ∧ ∀ j (h : j < L.length), ∃ a c, vs[j]? = some (.slice a L[j].length c) ∧ StrsAt w0 a L[j].length L[j]
theorem want_nil (w0 w : World) (B : Nat) : Want w0 w B (.slice none 0 0) [] := ⟨[], World.ownsRow_nil _ _ _ _, fun j h => by cases h⟩
theorem want_push {w0 w' : World} {B : Nat} {v' : Value} {L : List (List ByteArray)} {vs : List Value} {rs : List ByteArray} {a : Option Addr} {c : Nat} (hl : vs.length = L.length)
    (h2 : ∀ j (h : j < L.length), ∃ a c, vs[j]? = some (.slice a L[j].length c) ∧ StrsAt w0 a L[j].length L[j]) (hr : StrsAt w0 a rs.length rs) (ho : w'.ownsRow B 33 1 v' (L.length + 1) (vs ++ [.slice a rs.length c])) : Want w0 w' B v' (L ++ [rs]) := by
  refine ⟨vs ++ [.slice a rs.length c], by rw [List.length_append]; exact ho, fun j hj => ?_⟩
  by_cases hjl : j < L.length
  · obtain ⟨a', c', e, h3⟩ := h2 j hjl
    have e2 : (L ++ [rs])[j] = L[j] := List.getElem_append_left hjl
    rw [e2]
    exact ⟨a', c', by rw [List.getElem?_append_left (by omega)]; exact e, h3⟩
  · have hj' : j = L.length := by rw [List.length_append] at hj; simp at hj; omega
    subst hj'
    have e2 : (L ++ [rs])[L.length] = rs := by simp
    rw [e2]
    exact ⟨a, c, by rw [List.getElem?_append_right (by omega), hl]; simp, hr⟩
theorem Want.grid {w0 w : World} {B : Nat} {a : Option Addr} {n c : Nat} {L : List (List ByteArray)} (h : Want w0 w B (.slice a n c) L) (hn : n = L.length) (hm : n ≤ 9223372036854775807) (hb : Below w0.heap.size w0 w) : GridIn (fun _ => True) w a n L := by
  subst hn
  obtain ⟨vs, h1, h2⟩ := h
  refine ⟨rfl, hm, ?_⟩
  by_cases h0 : L.length = 0
  · exact .inl h0
  right
  have h1' := h1
  rcases h1.2 with ⟨e, e0⟩ | ⟨g, cap, cur, e, hg1, hg, hn, hc, hsz, htk⟩
  · exact absurd e0 h0
  injection e with e1 e2 e3
  subst e1 e3
  refine ⟨g, 0, rfl, trivial, fun j hj => ?_⟩
  obtain ⟨a', c', e, ho⟩ := h2 j hj
  refine ⟨a', c', ?_, ho.later hb, fun _ _ _ _ => trivial⟩
  have h3 := h1'.cellAt j (by omega)
  rw [Nat.zero_add]
  have h5 : (⟨g, 0, none⟩ : Addr).add j = ⟨g, j, none⟩ := by unfold Addr.add; split <;> simp_all
  rw [← e, ← h3]
theorem total_mem : ∀ (rs : List ByteArray) (x : ByteArray), x ∈ rs → x.size ≤ totalN rs
  | y :: r, x, h => by
    unfold totalN
    simp only [List.map_cons, List.sum_cons]
    rcases List.mem_cons.1 h with rfl | h
    · omega
    · have := total_mem r x h; unfold totalN at this; omega
theorem body_total : ∀ (rs : List ByteArray), ((lists rs).flatMap textL).length = 4 * rs.length + totalN rs
  | [] => rfl
  | x :: r => by
    have := body_total r
    have hx : x.data.toList.length = x.size := by rw [Array.length_toList]; rfl
    show ((x.data.toList :: lists r).flatMap textL).length = _
    rw [List.flatMap_cons, List.length_append, textL_len, this, hx]
    unfold totalN
    simp only [List.map_cons, List.sum_cons, List.length_cons]
    omega
theorem great_not {rs : List ByteArray} (h : greatB rs = false) : (bodyE (lists rs)).2 = 0 ∨ (bodyE (lists rs)).2 = 1 ∨ (bodyE (lists rs)).2 = 6 := by
  unfold greatB at h
  rw [decide_eq_false_iff_not] at h
  simp only [not_or] at h
  obtain ⟨h1, h2⟩ := h
  have ht : rs.take 100 = rs := List.take_of_length_le (by omega)
  rw [ht] at h1
  have hb := body_total rs
  have hl := lists_len rs
  unfold bodyE
  split
  · exact .inr (.inl rfl)
  split
  · exact .inr (.inr rfl)
  split
  · rename_i hx
    obtain ⟨x, hx, hx2⟩ := hx
    unfold lists at hx
    obtain ⟨y, hy, rfl⟩ := List.mem_map.1 hx
    have h3 := total_mem rs y hy
    have h4 : y.data.toList.length = y.size := by rw [Array.length_toList]; rfl
    omega
  split
  · rename_i hx
    exfalso
    unfold bodyL at hx
    rw [List.length_append, numL_len, hb] at hx
    omega
  · exact .inl rfl
end Go.Proofs.Ytnhgfhbicaiilaa
/- A slice of structs, opened: the fields of each. -/
namespace Go.Proofs.Ytnhgfhbicaiilaa
open Go.ChangeShapes Go.WideShapes Go.ChangeAt Go.RowKit Go.Deep
set_option linter.unusedVariables false

section
variable {H : Type} {enc : TypeId × Value → H} {P : Program} {w : World} {base : Nat} {spare : Nat → Bool} {held : Bool}
theorem open_slice_fields {t e : TypeId} {fs : Array Field} {fuel : Nat} {cs : List Value} {x : DataW H × List MemPlace} (ht : P.underlying t = some (.slice e)) (he : P.underlying e = some (.struct fs))
    (hone : oneCellFields P fs = true) (hC : P.cellsOf e = fs.size) (h : DataW.trod enc P w base spare held fuel t cs = some x) :
    (cs = [.slice none 0 0] ∧ x = (.nil, [])) ∨
    ∃ (a : Addr) (len cap m : Nat) (D : Nat → DataW H) (Pl : Nat → List MemPlace), cs = [.slice (some a) len cap] ∧ base ≤ a.block ∧ len ≤ cap ∧ cap ≤ maxLen ∧ m = (if spare a.block then cap else len) ∧
      x = (.slice ((List.range len).map D) ((List.range (m - len)).map fun j => D (len + j)), MemPlace.row a (m * fs.size) ++ (List.range m).flatMap Pl) ∧
      ∀ i, i < m → ∃ (ys : List (DataW H × List MemPlace)) (n : Nat), D i = .agg (ys.map (·.1)) ∧ Pl i = ys.flatMap (·.2) ∧ ys.length = fs.size ∧
        ∀ (j : Nat) (f : Field), fs[j]? = some f → ∃ (v : Value) (y : DataW H × List MemPlace), w.cell? (a.add (i * fs.size + j)) = some v ∧ ys[j]? = some y ∧ DataW.trod enc P w base spare held n f.type [v] = some y := by
  rcases open_slice ht h with h0 | ⟨a, len, cap, m, n, D, Pl, hcs, hb, hl, hm, hmm, hx, hi⟩
  · exact .inl h0
  · refine .inr ⟨a, len, cap, m, D, Pl, hcs, hb, hl, hm, hmm, by rw [hC] at hx; exact hx, fun i him => ?_⟩
    obtain ⟨cs', hc, ht'⟩ := hi i him
    rw [hC] at hc
    obtain ⟨ys, n', hn', hy, hlen, hyl, hf⟩ := DataW.trod_struct he ht'
    obtain ⟨_, hcl, hat⟩ := World.cells?_some hc
    simp only [Prod.mk.injEq] at hy
    refine ⟨ys, n', hy.1, hy.2, hyl, fun j f hj => ?_⟩
    obtain ⟨ho, hk⟩ := hone_of hone j f hj
    have hjl : j < fs.size := (Array.getElem?_eq_some_iff.1 hj).1
    have hcell := hat j hjl
    have hv : cs'[j]? = some (cs'[j]'(by omega)) := List.getElem?_eq_getElem (by omega)
    have h1 := hf j f hj
    rw [ho, hk] at h1
    have hone' : (cs'.drop j).take 1 = [cs'[j]'(by omega)] := by
      rw [List.drop_eq_getElem_cons (by omega)]
      rfl
    rw [hone'] at h1
    have hys : ys[j]? = some (ys[j]'(by omega)) := List.getElem?_eq_getElem (by omega)
    refine ⟨_, _, ?_, hys, h1.trans hys⟩
    rw [← Go.Deep.add_add, hcell, hv]
end
end Go.Proofs.Ytnhgfhbicaiilaa
/- An argument that is a slice of deeds (a slice of texts, and a bool), opened: with the bound of its texts. -/
namespace Go.Proofs.Ytnhgfhbicaiilaa
open Go.ChangeShapes Go.WideShapes Go.ChangeAt Go.RowKit Go.Deep
set_option linter.unusedVariables false

theorem weights_mem_all {H : Type} {P : Program} {e : TypeId} {n : Nat} : ∀ {l : List (DataW H)} {d : DataW H}, d ∈ l → n ∈ d.weights P e → n ∈ DataW.weightsAll P e l
  | x :: r, d, hd, hn => by
    simp only [DataW.weightsAll, List.mem_append]
    rcases List.mem_cons.1 hd with rfl | hd
    · exact .inl hn
    · exact .inr (weights_mem_all hd hn)
theorem weights_slice {H : Type} {P : Program} {t e : TypeId} {n : Nat} {l r : List (DataW H)} {d : DataW H} (ht : P.underlying t = some (.slice e)) (hd : d ∈ l) (hn : n ∈ d.weights P e) : n ∈ (DataW.slice l r : DataW H).weights P t := by
  simp only [DataW.weights, ht, List.mem_cons, List.mem_append]
  exact .inr (.inl (weights_mem_all hd hn))
theorem weights_struct {H : Type} {P : Program} {t : TypeId} {fs : Array Field} {n j : Nat} {f : Field} {l : List (DataW H)} {d : DataW H} (ht : P.underlying t = some (.struct fs)) (hf : fs[j]? = some f) (hd : l[j]? = some d) (hn : n ∈ d.weights P f.type) : n ∈ (DataW.agg l : DataW H).weights P t := by
  simp only [DataW.weights, ht]
  exact DataW.weights_mem_each (j := j) (by rw [List.getElem?_map]; simp [hf]) hd n hn
/-- a slice of texts at one cell -/
theorem strsAt_one {H : Type} {enc : TypeId × Value → H} {W : World} {base fuel : Nat} {spare : Nat → Bool} {held : Bool} {v : Value} {y : DataW H × List MemPlace} (h : DataW.trod enc Try.prog W base spare held fuel 33 [v] = some y) :
    ∃ a n c l, v = .slice a n c ∧ StrsAt W a n l ∧ ∀ x ∈ l, x.size ∈ y.1.weights Try.prog 33 := by
  rcases open_strings Try.underlying33 Try.underlying9 (by kernel_rfl) h with ⟨hcs, _⟩ | ⟨x, l, c, ss, hcs, _, hl, hm, hz, hx, hcell, hws⟩
  · simp at hcs
    subst hcs
    exact ⟨none, 0, 0, [], rfl, ⟨rfl, by omega, .inl rfl⟩, fun x hx => by cases hx⟩
  · simp at hcs
    subst hcs
    have hc2 : l ≤ ss.length := by rw [hz]; split <;> omega
    refine ⟨_, _, _, ss.take l, rfl, ?_, fun z hz2 => ?_⟩
    · refine ⟨by simp; omega, by unfold maxLen at hm; omega, ?_⟩
      by_cases h0 : l = 0
      · exact .inl h0
      · refine .inr ?_
        obtain ⟨b, off, spot⟩ := x
        have hspot : spot = none := by simpa [Addr.add] using World.cell?_spot (hcell 0 (by omega))
        subst hspot
        refine ⟨b, off, rfl, fun j hj => ?_⟩
        have h1 := hcell j (by omega)
        have h2 : (⟨b, off, none⟩ : Addr).add j = ⟨b, off + j, none⟩ := by
          unfold Addr.add; split
          · subst_vars; rfl
          · rfl
        rw [h2] at h1
        rw [h1]
        simp [List.getD_eq_getElem?_getD, hj]
    · rw [hx]
      have hd : (DataW.lit (.string z.data.toList) : DataW H) ∈ strs (ss.take l) := by unfold strs; exact List.mem_map.2 ⟨z, hz2, rfl⟩
      refine weights_slice Try.underlying33 hd ?_
      have hs : z.size = z.data.toList.length := by rw [Array.length_toList]; rfl
      rw [hs]; simp [DataW.weights]
/-- a deed at a place in memory -/
def DeedAt (w : World) (b o : Nat) (a : Option Addr) (n c : Nat) (rs : List ByteArray) (anew : Bool) : Prop :=
  w.cell? ⟨b, o, none⟩ = some (.slice a n c) ∧ w.cell? ⟨b, o + 1, none⟩ = some (.bool anew) ∧ StrsAt w a n rs ∧ ∀ x ∈ rs, x.size ≤ 140737488355328
def DeedsAt (w : World) (a : Option Addr) (n : Nat) : Prop := n ≤ 9223372036854775807 ∧ (n = 0 ∨ ∃ b off, a = some ⟨b, off, none⟩ ∧ ∀ j, j < n → ∃ ra rn rc rs rw, DeedAt w b (off + j * 2) ra rn rc rs rw)
set_option maxRecDepth 100000 in
theorem open_deeds {H : Type} {enc : TypeId × Value → H} {r : Reach} {b0 : Nat} {W : World} {held : Bool} {v : Value} {d : DataW H} {p : List MemPlace} {base : Nat} (hv : Value.okWide Try.prog W r b0 22 v) (h : DataW.Trod enc Try.prog W base (fun _ => true) held 22 v d p)
    (hz : ∀ n ∈ d.weights Try.prog 22, n ≤ reachBytes) : ∃ a n c, v = .slice a n c ∧ DeedsAt W a n := by
  obtain ⟨a, n, c, rfl⟩ := okWide_slice Try.underlying22 hv
  obtain ⟨fuel, hf⟩ := h
  rcases open_slice_fields Try.underlying22 Try.underlying35 (by kernel_rfl) (by kernel_rfl) hf with ⟨hcs, _⟩ | ⟨x, l, c', m, D, Pl, hcs, _, hl, hm, hmm, hD, hi⟩
  · simp [Value.cells] at hcs
    obtain ⟨rfl, rfl, rfl⟩ := hcs
    exact ⟨none, 0, 0, rfl, by omega, .inl rfl⟩
  · simp [Value.cells] at hcs
    obtain ⟨rfl, rfl, rfl⟩ := hcs
    unfold maxLen at hm
    refine ⟨_, _, _, rfl, by omega, ?_⟩
    by_cases h0 : n = 0
    · exact .inl h0
    · refine .inr ?_
      obtain ⟨b, off, spot⟩ := x
      have hspot : spot = none := by
        obtain ⟨ys, k, _, _, _, hfs⟩ := hi 0 (by rw [hmm]; simp; omega)
        obtain ⟨v0, y0, hc0, _, _⟩ := hfs 0 _ rfl
        simpa [Addr.add] using World.cell?_spot hc0
      subst hspot
      refine ⟨b, off, rfl, fun j hj => ?_⟩
      obtain ⟨ys, k, hDj, _, hyl, hfs⟩ := hi j (by rw [hmm]; simp; omega)
      have hadd : ∀ q, (⟨b, off, none⟩ : Addr).add (j * 2 + q) = ⟨b, off + j * 2 + q, none⟩ := fun q => by
        unfold Addr.add; split
        · rename_i h; rw [show off + j * 2 + q = off by omega]
        · rw [← Nat.add_assoc]
      obtain ⟨v0, y0, c0, e0, t0⟩ := hfs 0 _ rfl
      obtain ⟨v1, y1, c1, _, t1⟩ := hfs 1 _ rfl
      have c0 : W.cell? ⟨b, off + j * 2 + 0, none⟩ = some v0 := by have h : W.cell? ((⟨b, off, none⟩ : Addr).add (j * 2 + 0)) = some v0 := c0; rwa [hadd 0] at h
      have c1 : W.cell? ⟨b, off + j * 2 + 1, none⟩ = some v1 := by have h : W.cell? ((⟨b, off, none⟩ : Addr).add (j * 2 + 1)) = some v1 := c1; rwa [hadd 1] at h
      obtain ⟨ra, rn, rc, rl, rfl, w0, z0⟩ := strsAt_one t0
      obtain ⟨rw, e1, _⟩ := DataW.trod_bool Try.underlying4 t1
      simp only [List.cons.injEq, and_true] at e1
      subst e1
      refine ⟨ra, rn, rc, rl, rw, c0, c1, w0, fun x hx => ?_⟩
      have hin : x.size ∈ (d.weights Try.prog 22) := by
        have hd : d = .slice ((List.range n).map D) ((List.range (m - n)).map fun q => D (n + q)) := (Prod.mk.inj hD).1
        rw [hd]
        refine weights_slice Try.underlying22 (List.mem_map.2 ⟨j, List.mem_range.2 hj, rfl⟩) ?_
        rw [hDj]
        exact weights_struct Try.underlying35 (j := 0) rfl (by rw [List.getElem?_map, e0]; rfl) (z0 x hx)
      have := hz _ hin
      unfold reachBytes at this
      omega
end Go.Proofs.Ytnhgfhbicaiilaa
/- Where a law stands between its deeds: a book over a disk, and lists of deeds of its own. -/
namespace Go.Proofs.Ytnhgfhbicaiilaa
open Go.RowKit Book Reel
set_option linter.unusedVariables false

def Grew (K : Nat → Prop) (w w' : World) : Nat → Prop := fun k => K k ∨ (w.heap.size ≤ k ∧ k < w'.heap.size)
theorem DK.more2 {K G : Nat → Prop} {w w' : World} {p : Nat} {S : St} (h : DK K w p S) (ho : Only G w w') (hG : ∀ k, G k → K k) : DK (Grew K w w') w' p S := by
  obtain ⟨F, h1, h2, h3⟩ := h
  refine ⟨F, h1.only ho (fun k hk hg => h2 k hk (hG k hg)), fun k hk e => ?_, fun k hk => ?_⟩
  · rcases e with e | e
    · exact h2 k hk e
    · have := h1.1 k hk; omega
  · rcases hk with e | e
    · exact Nat.lt_of_lt_of_le (h3 k e) ho.size
    · exact e.2
structure Mid (B : Nat) (w0 wx : World) (p b : Nat) (K : Nat → Prop) (S : St) (n life : Nat) (dead : Bool) : Prop where
  on : BkOn K wx p b S J life dead
  fits : S.Fits n
  low : ∀ k, k < B → K k
  bb : B ≤ b
  bel : Below B w0 wx
  size : B ≤ wx.heap.size
def Wanted (B : Nat) (w0 wx : World) (K : Nat → Prop) (v : Value) (L : List (List ByteArray)) : Prop := Want w0 wx B v L ∧ ∀ k, v.ownBlock = some k → K k
theorem want_only {F : Nat → Prop} {w0 w w' : World} {B : Nat} {v : Value} {L : List (List ByteArray)} (h : Want w0 w B v L) (ho : Only F w w') (hf : ∀ k, v.ownBlock = some k → ¬ F k) : Want w0 w' B v L := by
  obtain ⟨vs, h1, h2⟩ := h
  exact ⟨vs, own_only h1 ho hf, h2⟩
section
variable {B n m life life' p b b' : Nat} {w0 wx w' : World} {K K' G : Nat → Prop} {S S' : St} {dead dead' : Bool} {v v' : Value} {L : List (List ByteArray)}
theorem Mid.step (h : Mid B w0 wx p b K S n life dead) (ho : Only G wx w') (hG : ∀ k, G k → K k ∧ B ≤ k ∧ k ≠ b) : Mid B w0 w' p b (Grew K wx w') S n life dead :=
  ⟨⟨h.on.disk.more2 ho (fun k hk => (hG k hk).1), Blk.only h.on.book ho (fun e => (hG b e).2.2 rfl), .inl h.on.kb⟩, h.fits, fun k hk => .inl (h.low k hk), h.bb, h.bel.trans (ho.below (fun k hk => (hG k hk).2.1) h.size), Nat.le_trans h.size ho.size⟩
theorem Mid.alloc (h : Mid B w0 wx p b K S n life dead) (o : Obj) : Mid B w0 (wx.alloc o) p b (Grew K wx (wx.alloc o)) S n life dead :=
  h.step (G := NoF) ((Only.refl _ _).alloc o) (fun k e => e.elim)
theorem Mid.deed (h : Mid B w0 wx p b K S n life dead) (he : BkOn K w' p b S' J life' dead') (ho : Only (fun k => ¬ K k ∨ k = b) wx w') (hf : S'.Fits m) : Mid B w0 w' p b K S' m life' dead' :=
  ⟨he, hf, h.low, h.bb, Only.low h.bel h.size ho h.low h.bb, Nat.le_trans h.size ho.size⟩
theorem Mid.opened (h : Mid B w0 wx p b K S n life dead) (hd : DK (fun k => K k ∨ G k) w' p S') (hbk : BookAt w' b' p J life' dead') (hG : ∀ k, G k → wx.heap.size ≤ k ∧ k < w'.heap.size) (hb : G b') (ho : Only (fun k => ¬ K k) wx w') (hf : S'.Fits m) : Mid B w0 w' p b' (fun k => K k ∨ G k) S' m life' dead' :=
  ⟨⟨hd, hbk, .inr hb⟩, hf, fun k hk => .inl (h.low k hk), Nat.le_trans h.size (hG _ hb).1, Only.low1 h.bel h.size ho h.low, Nat.le_trans h.size ho.size⟩
theorem Wanted.only (h : Wanted B w0 wx K v L) (ho : Only G wx w') (hG : ∀ k, v.ownBlock = some k → ¬ G k) (hK : ∀ k, K k → K' k) : Wanted B w0 w' K' v L :=
  ⟨want_only h.1 ho hG, fun k hk => hK k (h.2 k hk)⟩
theorem Wanted.alloc (h : Wanted B w0 wx K v L) (o : Obj) : Wanted B w0 (wx.alloc o) (Grew K wx (wx.alloc o)) v L :=
  h.only (G := NoF) ((Only.refl _ _).alloc o) (fun k _ e => e) (fun k hk => .inl hk)
theorem Wanted.deed (h : Wanted B w0 wx K v L) (hb : BookAt wx b p J life dead) (ho : Only (fun k => ¬ K k ∨ k = b) wx w') : Wanted B w0 w' K v L :=
  h.only ho (fun k hk e => e.elim (fun e => e (h.2 k hk)) (fun e => by
    obtain ⟨vs, h1, h2⟩ := h.1
    exact own_blk_ne h1 hb (by decide) (by rw [hk, e]))) (fun k hk => hk)
theorem Wanted.opened (h : Wanted B w0 wx K v L) (ho : Only (fun k => ¬ K k) wx w') : Wanted B w0 w' (fun k => K k ∨ G k) v L :=
  h.only ho (fun k hk e => e (h.2 k hk)) (fun k hk => .inl hk)
/-- an empty list of its own, made anew -/
theorem Wanted.made (hB : B ≤ wx.heap.size) (u : Value) (hu : u.oneCell' = true) : Wanted B w0 (wx.alloc (.cells #[] 33)) (Grew K wx (wx.alloc (.cells #[] 33))) (.slice (some ⟨wx.heap.size, 0, none⟩) 0 0) [] := by
  refine ⟨⟨[], own_low (World.ownsRow_made _ _ 0 (Nat.le_refl _) (by unfold maxLen; omega) rfl) (fun k e => ?_), fun j h => by cases h⟩, fun k e => ?_⟩
  · simp only [Value.ownBlock, Option.some.injEq] at e
    omega
  · simp only [Value.ownBlock, Option.some.injEq] at e
    exact .inr ⟨by omega, by rw [← e]; simp⟩
/-- one deed more -/
theorem Mid.pushed {o : Obj} {vs : List Value} (h : Mid B w0 wx p b K S n life dead) (hK : ∀ k, v.ownBlock = some k → K k) (hv : wx.ownsRow B 33 1 v L.length vs) (hg : (wx.alloc o).grownBy w' v.ownBlock) : Mid B w0 w' p b (Grew K wx w') S n life dead := by
  have hon : Only (fun k => v.ownBlock = some k) wx w' := ((Only.refl _ wx).alloc o).grown hg (fun k e => .inl e)
  refine h.step hon (fun k hk => ⟨hK k hk, (hv.lt k hk).1, fun e => ?_⟩)
  subst e
  exact own_blk_ne hv h.on.book (by decide) hk
theorem Wanted.pushed {o : Obj} {vs : List Value} {rs : List ByteArray} {a : Option Addr} {c : Nat} (h : Wanted B w0 wx K v L) (h2 : ∀ j (h : j < L.length), ∃ a c, vs[j]? = some (.slice a L[j].length c) ∧ StrsAt w0 a L[j].length L[j]) (hv : wx.ownsRow B 33 1 v L.length vs) (hr : StrsAt w0 a rs.length rs)
    (ho : w'.ownsRow B 33 1 v' (L.length + 1) (vs ++ [.slice a rs.length c])) (hg : (wx.alloc o).grownBy w' v.ownBlock) (hat : v'.ownBlock = v.ownBlock ∨ v'.ownBlock = some (wx.alloc o).heap.size) : Wanted B w0 w' (Grew K wx w') v' (L ++ [rs]) := by
  refine ⟨want_push (by have := hv.1; omega) h2 hr ho, fun k hk => ?_⟩
  rcases hat with e | e
  · exact .inl (h.2 k (by rw [← e]; exact hk))
  · rw [e] at hk
    simp only [Option.some.injEq] at hk
    refine .inr ⟨by rw [← hk]; simp, ?_⟩
    exact own_lt ho (by rw [e, ← hk])
end
theorem deeds_get {w : World} {a : Option Addr} {n : Nat} (h : DeedsAt w a n) {j : Nat} (hj : j < n) : ∃ b off ra rn rc rs rw, a = some ⟨b, off, none⟩ ∧ b < w.heap.size ∧ DeedAt w b (off + j * 2) ra rn rc rs rw := by
  obtain ⟨b, off, ha, hc⟩ := h.2.resolve_left (by omega)
  obtain ⟨ra, rn, rc, rs, rw, hd⟩ := hc j hj
  exact ⟨b, off, ra, rn, rc, rs, rw, ha, World.block_lt_of_cell? w _ hd.1, hd⟩
theorem wanted_slice {B : Nat} {w0 wx : World} {K : Nat → Prop} {v : Value} {L : List (List ByteArray)} (h : Wanted B w0 wx K v L) : ∃ a c, v = .slice a L.length c := by
  obtain ⟨vs, h1, -⟩ := h.1
  obtain ⟨a, c, e, -⟩ := own_slice h1
  exact ⟨a, c, e⟩
theorem same_self {G G' : Nat → Prop} {a a' : Option Addr} {c c' : Nat} (L : List (List ByteArray)) (w : World) (h : GridIn G w a L.length L) (h' : GridIn G' w a' L.length L) :
    Calls Try.prog 12 #[.slice a L.length c, .slice a' L.length c'] w fun e w' => e = .returned (.bool true) ∧ Below w.heap.size w w' :=
  (same_any _ _ _ _ _ _ L L w h h').mono fun e w' ⟨h1, h2⟩ => ⟨by rw [h1]; simp, h2⟩
end Go.Proofs.Ytnhgfhbicaiilaa
/- A book whose reel counts in part; a book whose last bytes are turned: plain Lean. -/
namespace Go.Proofs.Ytnhgfhbicaiilaa
open Go.RowKit Book Reel
set_option linter.unusedVariables false

theorem open_part {S : St} {f : ByteArray → Option Spool} {t : List UInt8} {sf n : Nat} {D : List (List (List UInt8))} (hs : Sees S f) (hd : S.down = false) (ha : S.armed = 0) (ho : f (tilde J) = none) (hj : f J = some ⟨t, sf⟩) (hr : readR crcP t = (D, n)) (hn : n ≤ t.length) :
    (openS S J).2 = (0, D) ∧ Sees (openS S J).1 (upd f J (some (if n < t.length then cutT ⟨t, sf⟩ n else ⟨t, sf⟩))) ∧ (openS S J).1.down = false ∧ (openS S J).1.armed = 0 ∧ (openS S J).1.life = S.life := by
  have eA : openA S J = (S, 0) := by
    unfold openA
    rw [size_sees hs, ho]
    exact if_neg (by decide)
  have eR : openR S J = (D, n) := by
    unfold openR
    rw [read_sees hs hd, hj]
    exact hr
  have eL : (readS S J).1.length = t.length := by rw [read_sees hs hd, hj]
  by_cases hlt : n < t.length
  · rw [if_pos hlt]
    obtain ⟨c1, c2, c3, c4, c5⟩ := acted_calm (cut_sees hs hd hj n (Nat.le_of_lt hlt)) ha
    have eB : openB S J = cutS S J n := by
      unfold openB
      rw [eR, eL]
      exact if_pos hlt
    have e : openS S J = ((cutS S J n).1, 0, D) := by
      unfold openS
      rw [if_neg (by rw [hd]; simp), if_neg (by decide), eA]
      simp only
      rw [if_neg (by simp), eB, if_neg (by rw [c1]; simp), eR]
    rw [e]
    exact ⟨rfl, c2, c3, c4, c5⟩
  · rw [if_neg hlt]
    have eB : openB S J = (S, 0) := by
      unfold openB
      rw [eR, eL]
      exact if_neg hlt
    have e : openS S J = (S, 0, D) := by
      unfold openS
      rw [if_neg (by rw [hd]; simp), if_neg (by decide), eA]
      simp only
      rw [if_neg (by simp), eB, eR]
      simp
    rw [e]
    refine ⟨rfl, ⟨hs.ok, fun x => ?_⟩, hd, ha, rfl⟩
    rw [hs.at_]
    unfold upd
    split
    · rename_i hx; subst hx; exact hj
    · rfl
theorem open_part_size {S : St} {f : ByteArray → Option Spool} {t : List UInt8} {sf n : Nat} {D : List (List (List UInt8))} (hs : Sees S f) (hd : S.down = false) (ha : S.armed = 0) (ho : f (tilde J) = none) (hj : f J = some ⟨t, sf⟩) (hr : readR crcP t = (D, n)) (hn : n ≤ t.length) :
    sizeS (openS S J).1 J = n := by
  obtain ⟨-, h, -⟩ := open_part hs hd ha ho hj hr hn
  rw [size_sees h, upd_self]
  split
  · rename_i e; cases e
  · rename_i t' e
    injection e with e
    subst e
    split
    · unfold cutT
      show ((t.take n).length : Int) = n
      rw [List.length_take]; omega
    · rename_i h2
      show (t.length : Int) = n
      omega
theorem append_fresh (s : ByteArray) (hz : s.size ≤ 4194304) : (appendS (new 4194304) J s).2 = 0 ∧ Sees (appendS (new 4194304) J s).1 (upd (fun _ => none) J (some ⟨s.data.toList, 0⟩)) ∧ (appendS (new 4194304) J s).1.down = false ∧ (appendS (new 4194304) J s).1.armed = 0 ∧ (appendS (new 4194304) J s).1.life = 0 := by
  obtain ⟨h1, h2, h3⟩ := new_sees 4194304
  rcases append_sees h1 h2 s (x := J) (by decide) with ⟨e1, e2⟩ | hact
  · exfalso
    have hr : (new 4194304).room = 4194304 := by decide
    have hu : (new 4194304).used = 0 := rfl
    have hl : (new 4194304).l.length = 0 := rfl
    unfold appendS at e1
    rw [if_neg (by rw [h2]; simp), if_neg (by decide), if_neg (by rw [hr, hu]; omega), h1.at_ J] at e1
    simp only at e1
    rw [if_neg (by rw [hl]; omega)] at e1
    unfold actS at e1
    rw [if_pos (by exact h3)] at e1
    cases e1
  · obtain ⟨a1, a2, a3, a4, a5⟩ := acted_calm hact h3
    exact ⟨a1, a2, a3, a4, a5⟩
theorem calm_size {S : St} {D : List (List (List UInt8))} (h : Calm S D) : (if sizeS S J < 0 then 0 else sizeS S J) = ((deedsL crcP D).length : Int) := by
  obtain ⟨hd, ha, hv, f, hs, ho, hj⟩ := h
  rw [size_sees hs]
  rcases hj with ⟨hj, rfl⟩ | hj
  · rw [hj]; rfl
  · rw [hj]
    simp only
    rw [if_neg (by omega)]
theorem calm_read {S : St} {D : List (List (List UInt8))} (h : Calm S D) (h0 : D ≠ []) : readS S J = (deedsL crcP D, 0) ∧ (deedsL crcP D).length ≤ 4194304 := by
  obtain ⟨hd, ha, hv, f, hs, ho, hj⟩ := h
  rcases hj with ⟨hj, rfl⟩ | hj
  · exact absurd rfl h0
  · refine ⟨by rw [read_sees hs hd, hj], ?_⟩
    exact (hs.ok.each _ (at_mem ((hs.at_ J).trans hj))).1
theorem snoc_len (D : List (List (List UInt8))) (rs : List (List UInt8)) : (deedsL crcP (D ++ [rs])).length = (deedsL crcP D).length + (8 + (bodyL rs).length) := by
  rw [deedsL_snoc, List.length_append, deed_len]
theorem read_spoilt (D : List (List (List UInt8))) (rs : List (List UInt8)) (hv : ∀ q ∈ D ++ [rs], Valid q) (k : Nat) (x : UInt8) (h1 : (deedsL crcP D).length + 4 ≤ k) (h2 : k < (deedsL crcP (D ++ [rs])).length) (hx : x ≠ (deedsL crcP (D ++ [rs]))[k]) :
    readR crcP ((deedsL crcP (D ++ [rs])).set k x) = (D, (deedsL crcP D).length) := by
  have hlen := snoc_len D rs
  have e : (deedsL crcP (D ++ [rs])).set k x = deedsL crcP D ++ (deedL crcP rs).set (k - (deedsL crcP D).length) x := by
    rw [deedsL_snoc, List.set_append_right _ _ (by omega)]
  rw [e]
  have hval := hv rs (by simp)
  have hdl := deed_len (crc := crcP) rs
  refine readR_deeds crcP_ok D _ (fun q hq => hv q (by simp [hq])) ?_
  refine stepR_spoilt crcP_ok (bodyL rs) _ (by have := hval.2.2.2; omega) (k - (deedsL crcP D).length) x (by omega) (by show _ < (deedL crcP rs).length; omega) ?_ rfl
  intro e2
  apply hx
  rw [e2]
  have : (deedsL crcP (D ++ [rs]))[k]? = some ((deedL crcP rs)[k - (deedsL crcP D).length]'(by omega)) := by
    rw [deedsL_snoc, List.getElem?_append_right (by omega), List.getElem?_eq_getElem]
  rw [List.getElem?_eq_getElem h2] at this
  exact (Option.some.inj this).symm
/-- the tape with a byte turned, as the law writes it -/
theorem turned (l : List UInt8) (k : Nat) (x : UInt8) (h : k < l.length) : (bx l).extract 0 k ++ ⟨#[x]⟩ ++ (bx l).extract (k + 1) l.length = bx (l.set k x) := by
  apply ba_ext
  rw [bx_list]
  have e1 : ((bx l).extract 0 k).data.toList = l.take k := by
    rw [ByteArray.data_extract, Array.toList_extract, bx_list]
    simp [List.extract_eq_take_drop]
  have e2 : ((bx l).extract (k + 1) l.length).data.toList = l.drop (k + 1) := by
    rw [ByteArray.data_extract, Array.toList_extract, bx_list]
    rw [List.extract_eq_take_drop]
    exact List.take_of_length_le (by rw [List.length_drop]; exact Nat.le_refl _)
  rw [ByteArray.data_append, ByteArray.data_append, Array.toList_append, Array.toList_append, e1, e2]
  rw [List.set_eq_take_append_cons_drop, if_pos h]
  simp
end Go.Proofs.Ytnhgfhbicaiilaa
/- What ReelSafe wants of the states: plain Lean. -/
namespace Go.Proofs.Ytnhgfhbicaiilaa.Reel
open Go.RowKit
set_option linter.unusedVariables false
section
variable {S : St} {d : Bool} {m n k u : Nat} {f : ByteArray → Option Spool} {x : ByteArray} {t : Spool}
/-- an act: it goes, or the power goes in it -/
theorem actS_two (h : S.down = false) (hf : S.Fits n) (hok : S.Ok) : ∃ m' d', actS S = ({ S with acts := S.acts + 1, down := d', armed := m', life := if d' = true then S.life + 1 else S.life }, if d' = true then 10 else 0) ∧ m' ≤ 9223372036854775807 := by
  unfold actS
  split
  · exact ⟨S.armed, false, by simp [h], hf.2.2⟩
  · split
    · exact ⟨0, true, rfl, by omega⟩
    · exact ⟨S.armed - 1, false, by simp [h], by have := hf.2.2; omega⟩
theorem view_appendG (h : View S false m n k u f) (hf : f x = some t) (s : ByteArray) (hu : u + s.size ≤ 67108864) (hl : t.bytes.length + s.size ≤ 4194304) (hx : isName x = true) :
    ∃ d' m', (appendS S x s).2 = (if d' = true then 10 else 0) ∧ View (appendS S x s).1 d' m' (n + 1) k (u + s.size) (upd f x (some ⟨t.bytes ++ s.data.toList, t.safe⟩)) := by
  have hsz : s.data.toList.length = s.size := by rw [Array.length_toList]; rfl
  have hus := h.used
  have hfit := h.fits
  have hat : Reel.at_ S x = some t := (h.at_ x).trans hf
  have hsafe := (h.ok.each t (at_mem hat)).2
  have e : appendS S x s = actS { putT S x ⟨t.bytes ++ s.data.toList, t.safe⟩ with used := S.used + s.size } := by
    unfold appendS
    rw [if_neg (by rw [h.down]; simp), if_neg (by rw [hx]; simp), if_neg (by rw [h.room]; omega), hat]
    exact if_neg (by omega)
  have hok : St.Ok { putT S x ⟨t.bytes ++ s.data.toList, t.safe⟩ with used := S.used + s.size } := h.ok.put hat (t' := ⟨t.bytes ++ s.data.toList, t.safe⟩) (by show (t.bytes ++ s.data.toList).length ≤ _; rw [List.length_append, hsz]; omega) (by show t.safe ≤ (t.bytes ++ s.data.toList).length; rw [List.length_append]; omega) _ (by show _ = S.used + (t.bytes ++ s.data.toList).length; rw [List.length_append, hsz]; omega) (by omega)
  obtain ⟨m', d', h1, h2⟩ := actS_two (S := { putT S x ⟨t.bytes ++ s.data.toList, t.safe⟩ with used := S.used + s.size }) (n := n) h.down hfit hok
  rw [e, h1]
  refine ⟨d', m', rfl, hok.with_ rfl rfl rfl hok.room, h.room, rfl, rfl, ⟨?_, ?_, h2⟩, ?_, ?_, fun y => ?_⟩
  · show S.acts + 1 ≤ _; have := hfit.1; omega
  · show (if d' = true then S.life + 1 else S.life) ≤ _; have := hfit.2.1; split <;> omega
  · show (putN S.l x).length ≤ k
    unfold putN; rw [if_pos (at_some hat).1]; exact h.few
  · show S.used + s.size ≤ _; omega
  · show Reel.at_ (putT S x _) y = _
    rw [at_put h.ok hok]; unfold upd
    split
    · rfl
    · exact h.at_ y
theorem view_syncG (h : View S false m n k u f) (hf : f x = some t) :
    ∃ d' m', (syncS S x).2 = (if d' = true then 10 else 0) ∧ View (syncS S x).1 d' m' (n + 1) k u (if d' = true then f else upd f x (some ⟨t.bytes, t.bytes.length⟩)) := by
  have hat : Reel.at_ S x = some t := (h.at_ x).trans hf
  have hfit := h.fits
  have hus := h.used
  have hsafe := h.ok.each t (at_mem hat)
  obtain ⟨m', d', h1, h2⟩ := actS_two h.down hfit h.ok
  cases d'
  · have e : syncS S x = ({ putT { S with acts := S.acts + 1, down := false, armed := m' } x ⟨t.bytes, t.bytes.length⟩ with used := S.used }, 0) := by
      unfold syncS; rw [if_neg (by rw [h.down]; simp), hat]
      show (if (actS S).2 = 0 then _ else _) = _
      rw [h1]
      exact (if_pos (show (if false = true then 10 else 0 : Int) = 0 from rfl)).trans rfl
    have hok : St.Ok { putT S x ⟨t.bytes, t.bytes.length⟩ with used := S.used } := h.ok.put hat (t' := ⟨t.bytes, t.bytes.length⟩) hsafe.1 (Nat.le_refl t.bytes.length) _ rfl h.ok.most
    rw [e]
    refine ⟨false, m', rfl, hok.with_ rfl rfl rfl hok.room, h.room, rfl, rfl, ⟨by show S.acts + 1 ≤ _; have := hfit.1; omega, by show S.life ≤ _; have := hfit.2.1; omega, h2⟩, ?_, hus, fun y => ?_⟩
    · show (putN S.l x).length ≤ k
      unfold putN; rw [if_pos (at_some hat).1]; exact h.few
    · show Reel.at_ (putT S x _) y = _
      rw [at_put h.ok hok]
      show _ = upd f x (some ⟨t.bytes, t.bytes.length⟩) y
      unfold upd
      split
      · rfl
      · exact h.at_ y
  · have e : syncS S x = actS S := by
      unfold syncS; rw [if_neg (by rw [h.down]; simp), hat]
      show (if (actS S).2 = 0 then _ else _) = _
      rw [h1]; exact if_neg (show ¬ (if true = true then 10 else 0 : Int) = 0 by decide)
    rw [e, h1]
    exact ⟨true, m', rfl, h.ok.with_ rfl rfl rfl h.ok.room, h.room, rfl, rfl, ⟨by show S.acts + 1 ≤ _; have := hfit.1; omega, by show S.life + 1 ≤ _; have := hfit.2.1; omega, h2⟩, h.few, hus, h.at_⟩
/-- while the power is away -/
theorem view_appendD (h : View S true m n k u f) (x s : ByteArray) : appendS S x s = (S, 10) := by unfold appendS; rw [if_pos h.down]
theorem view_syncD (h : View S true m n k u f) (x : ByteArray) : syncS S x = (S, 10) := by unfold syncS; rw [if_pos h.down]
theorem view_dropD (h : View S true m n k u f) (x : ByteArray) : dropS S x = (S, 10) := by unfold dropS; rw [if_pos h.down]
/-- what is left of a tape -/
theorem tear_take (l : List UInt8) : (tear l).take (l.length - 1) = l.take (l.length - 1) := by
  unfold tear
  cases h : l.reverse with
  | nil => have : l = [] := by simpa using h
           subst this; rfl
  | cons c r =>
    have hl : l = r.reverse ++ [c] := by have := congrArg List.reverse h; simpa using this
    subst hl
    simp
theorem left_spec (t : Spool) (c : Int) (h : t.safe ≤ t.bytes.length) :
    t.safe ≤ (left t c).bytes.length ∧ (left t c).bytes.length ≤ t.bytes.length ∧ (left t c).safe = (left t c).bytes.length ∧ (left t c).bytes.take t.safe = t.bytes.take t.safe ∧
      (t.safe < (left t c).bytes.length → (left t c).bytes.take ((left t c).bytes.length - 1) = t.bytes.take ((left t c).bytes.length - 1)) := by
  obtain ⟨h1, h2⟩ := left_len t c h
  have hk := kept_le c (t.bytes.length - t.safe)
  have hb : (left t c).bytes = if (kept c (t.bytes.length - t.safe)).2 = true ∧ 0 < (kept c (t.bytes.length - t.safe)).1 then tear (t.bytes.take (t.safe + (kept c (t.bytes.length - t.safe)).1)) else t.bytes.take (t.safe + (kept c (t.bytes.length - t.safe)).1) := rfl
  obtain ⟨N, hN⟩ : ∃ N, (kept c (t.bytes.length - t.safe)).1 = N := ⟨_, rfl⟩
  rw [hN] at h1 hk hb
  have hl : (t.bytes.take (t.safe + N)).length = t.safe + N := by rw [List.length_take]; omega
  have hcut : ∀ j, j ≤ t.safe + N → (t.bytes.take (t.safe + N)).take j = t.bytes.take j := fun j hj => by rw [List.take_take, Nat.min_eq_left hj]
  refine ⟨by omega, by omega, h2, ?_, fun hlt => ?_⟩
  · rw [hb]
    split
    · rename_i hc
      have ht := tear_take (t.bytes.take (t.safe + N))
      rw [hl] at ht
      have := congrArg (List.take t.safe) ht
      rw [List.take_take, List.take_take, Nat.min_eq_left (by omega), hcut _ (by omega)] at this
      exact this
    · exact hcut _ (by omega)
  · rw [h1, hb]
    split
    · have ht := tear_take (t.bytes.take (t.safe + N))
      rw [hl] at ht
      rw [ht, hcut _ (by omega)]
    · exact hcut _ (by omega)
end
end Go.Proofs.Ytnhgfhbicaiilaa.Reel
/- A book over a disk whose power goes: plain Lean. -/
namespace Go.Proofs.Ytnhgfhbicaiilaa
open Go.RowKit Book Reel
set_option linter.unusedVariables false

structure CalmP (S : St) (D : List (List (List UInt8))) : Prop where
  down : S.down = false
  valid : ∀ rs ∈ D, Valid rs
  sees : ∃ f, Sees S f ∧ (∀ y, y ≠ J → f y = none) ∧ ((f J = none ∧ D = []) ∨ f J = some ⟨deedsL crcP D, (deedsL crcP D).length⟩)
/-- the book's reel: its deeds, and perhaps torn bytes, all safe -/
def KeepJ (D : List (List (List UInt8))) (o : Option Spool) : Prop := (o = none ∧ D = []) ∨ ∃ G, stepR crcP G = none ∧ o = some ⟨deedsL crcP D ++ G, (deedsL crcP D ++ G).length⟩
structure Kept (S : St) (D : List (List (List UInt8))) : Prop where
  valid : ∀ rs ∈ D, Valid rs
  sees : ∃ f, Sees S f ∧ KeepJ D (f J)
section
variable {S : St} {D : List (List (List UInt8))}
theorem Calm.toP (h : Calm S D) : CalmP S D := ⟨h.down, h.valid, h.sees⟩
theorem CalmP.kept (h : CalmP S D) : Kept S D := by
  obtain ⟨hd, hv, f, hs, ho, hj⟩ := h
  refine ⟨hv, f, hs, ?_⟩
  rcases hj with hj | hj
  · exact .inl hj
  · exact .inr ⟨[], stepR_short [] (by simp), by rw [List.append_nil]; exact hj⟩
theorem CalmP.arm (h : CalmP S D) (k : Int) : CalmP (armS S k) D := by
  obtain ⟨hd, hv, f, hs, ho, hj⟩ := h
  exact ⟨hd, hv, f, arm_sees hs k, ho, hj⟩
theorem Kept.arm (h : Kept S D) (k : Int) : Kept (armS S k) D := by
  obtain ⟨hv, f, hs, hj⟩ := h
  exact ⟨hv, f, arm_sees hs k, hj⟩
theorem Kept.back (h : Kept S D) (fs : List Int) : Kept (onS (offS S) fs) D ∧ (onS (offS S) fs).down = false := by
  obtain ⟨hv, f, hs, hj⟩ := h
  obtain ⟨ho, hd⟩ := off_sees hs
  obtain ⟨g, hg, hgd, hgl, hga, hn, hm⟩ := on_sees ho hd fs
  refine ⟨⟨hv, g, hg, ?_⟩, hgd⟩
  rcases hj with ⟨hj, e⟩ | ⟨G, hG, hj⟩
  · exact .inl ⟨hn J hj, e⟩
  · obtain ⟨t', e1, e2, -⟩ := hm J _ hj
    exact .inr ⟨G, hG, by rw [e1, e2 rfl]⟩
def readO : Option Spool → List UInt8
  | none => []
  | some t => t.bytes
theorem readO_sees {f : ByteArray → Option Spool} (h : Sees S f) (hd : S.down = false) (x : ByteArray) : (readS S x).1 = readO (f x) := by
  rw [read_sees h hd]; cases f x <;> rfl
theorem keepJ_read {o : Option Spool} (hv : ∀ rs ∈ D, Valid rs) (h : KeepJ D o) : readR crcP (readO o) = (D, (deedsL crcP D).length) ∧ (deedsL crcP D).length ≤ (readO o).length := by
  rcases h with ⟨rfl, rfl⟩ | ⟨G, hG, rfl⟩
  · exact ⟨rfl, Nat.le_refl _⟩
  · refine ⟨readR_deeds crcP_ok D G hv hG, ?_⟩
    show _ ≤ (deedsL crcP D ++ G).length
    rw [List.length_append]; omega
/-- an opening, whether or not the power goes -/
theorem Kept.opened (h : Kept S D) (hd : S.down = false) : Kept (openS S J).1 D ∧ (S.armed = 0 → (openS S J).2 = (0, D)) := by
  obtain ⟨hv, f, hs, hj⟩ := h
  -- behind the spare
  have hA : ∃ g, Sees (openA S J).1 g ∧ g J = f J ∧ (((openA S J).2 = 0 ∧ (openA S J).1.down = false ∧ (S.armed = 0 → (openA S J).1.armed = 0)) ∨ ((openA S J).2 ≠ 0 ∧ S.armed ≠ 0)) := by
    unfold openA
    split
    · rename_i hz
      rw [size_sees hs] at hz
      cases ht : f (tilde J) with
      | none => rw [ht] at hz; exact absurd hz (by decide)
      | some t =>
        rcases drop_sees hs hd ht with ⟨e1, e2, e3, e4, e5⟩ | ⟨e1, e2, e3, e4⟩
        · exact ⟨_, e2, upd_other _ _ (Ne.symm J_tilde), .inl ⟨e1, e3, e5⟩⟩
        · exact ⟨_, e2, rfl, .inr ⟨by rw [e1]; decide, e4⟩⟩
    · exact ⟨f, hs, rfl, .inl ⟨rfl, hd, fun e => e⟩⟩
  obtain ⟨g, hg, hgj, hA⟩ := hA
  obtain ⟨RA, hRA⟩ : ∃ RA, openA S J = RA := ⟨_, rfl⟩
  unfold openS
  rw [if_neg (by rw [hd]; simp), if_neg (by decide)]
  rw [hRA] at hg hA ⊢
  rcases hA with ⟨a1, a2, a3⟩ | ⟨a1, a2⟩
  · rw [if_neg (by rw [a1]; simp)]
    rw [← hgj] at hj
    obtain ⟨hr, hle⟩ := keepJ_read hv hj
    have hb := readO_sees hg a2 J
    have eR : openR RA.1 J = (D, (deedsL crcP D).length) := by
      unfold openR
      rw [hb]; exact hr
    have eL : (readS RA.1 J).1.length = (readO (g J)).length := by rw [hb]
    by_cases hlt : (deedsL crcP D).length < (readO (g J)).length
    · have eB : openB RA.1 J = cutS RA.1 J (deedsL crcP D).length := by
        unfold openB
        rw [eR, eL]; exact if_pos hlt
      rw [eB, eR]
      rcases hj with ⟨hj, e⟩ | ⟨G, hG, hj⟩
      · exfalso
        rw [hj] at hlt
        exact Nat.not_lt_zero _ hlt
      · have hcut : cutT ⟨deedsL crcP D ++ G, (deedsL crcP D ++ G).length⟩ (deedsL crcP D).length = ⟨deedsL crcP D ++ [], (deedsL crcP D ++ []).length⟩ := by
          unfold cutT
          simp
        have hfin : KeepJ D (some ⟨deedsL crcP D ++ [], (deedsL crcP D ++ []).length⟩) := .inr ⟨[], stepR_short [] (by simp), rfl⟩
        rcases cut_sees hg a2 hj (deedsL crcP D).length (by show _ ≤ (deedsL crcP D ++ G).length; rw [List.length_append]; omega) with ⟨e1, e2, e3, e4, e5⟩ | ⟨e1, e2, e3, e4⟩
        · rw [if_neg (by rw [e1]; simp)]
          rw [hcut] at e2
          exact ⟨⟨hv, _, e2, by rw [upd_self]; exact hfin⟩, fun _ => rfl⟩
        · rw [if_pos (by rw [e1]; decide)]
          exact ⟨⟨hv, _, e2, .inr ⟨G, hG, hj⟩⟩, fun e => absurd (a3 e) e4⟩
    · have eB : openB RA.1 J = (RA.1, 0) := by
        unfold openB
        rw [eR, eL]; exact if_neg hlt
      rw [eB, eR, if_neg (by simp)]
      exact ⟨⟨hv, g, hg, hj⟩, fun _ => rfl⟩
  · rw [if_pos a1]
    exact ⟨⟨hv, g, hg, by rw [hgj]; exact hj⟩, fun e => absurd e a2⟩
/-- what is left of a deed that was laid down and not made safe -/
theorem left_deed (A F : List UInt8) (c : Int) (h : F ≠ []) : ∃ G, left ⟨A ++ F, A.length⟩ c = ⟨A ++ G, (A ++ G).length⟩ ∧ G.length ≤ F.length ∧ G.take (G.length - 1) = F.take (G.length - 1) := by
  obtain ⟨h1, h2, h3, h4, h5⟩ := left_spec ⟨A ++ F, A.length⟩ c (by simp)
  simp only at h1 h2 h3 h4 h5
  obtain ⟨L, hL⟩ : ∃ L, left ⟨A ++ F, A.length⟩ c = L := ⟨_, rfl⟩
  rw [hL] at h1 h2 h3 h4 h5 ⊢
  have e : L.bytes = A ++ L.bytes.drop A.length := by
    have := List.take_append_drop A.length L.bytes
    rw [h4, List.take_left] at this
    exact this.symm
  obtain ⟨G, hG⟩ : ∃ G, L.bytes.drop A.length = G := ⟨_, rfl⟩
  rw [hG] at e
  refine ⟨G, ?_, ?_, ?_⟩
  · obtain ⟨b, s⟩ := L
    simp only at e h3
    subst e
    rw [h3]
  · rw [e, List.length_append, List.length_append] at h2; omega
  · by_cases h0 : G.length = 0
    · rw [h0]; simp
    · have hlt : A.length < L.bytes.length := by rw [e, List.length_append]; omega
      have := h5 hlt
      rw [e, List.length_append] at this
      have e2 : A.length + G.length - 1 = A.length + (G.length - 1) := by omega
      rw [e2] at this
      rw [List.take_append, List.take_append, List.take_of_length_le (Nat.le_add_right _ _), Nat.add_sub_cancel_left] at this
      exact List.append_cancel_left this
/-- the power went while a deed was laid down -/
theorem lost_add {f : ByteArray → Option Spool} {rs : List (List UInt8)} (hs : Sees S f) (hv : ∀ q ∈ D, Valid q) (hr : Valid rs) (hj : f J = some ⟨deedsL crcP D ++ deedL crcP rs, (deedsL crcP D).length⟩) (fs : List Int) :
    Kept (onS (offS S) fs) D ∨ Kept (onS (offS S) fs) (D ++ [rs]) := by
  obtain ⟨ho, hd⟩ := off_sees hs
  obtain ⟨g, hg, -, -, -, -, hm⟩ := on_sees ho hd fs
  have hl := deed_len (crc := crcP) rs
  have hne : deedL crcP rs ≠ [] := fun e => by rw [e, List.length_nil] at hl; omega
  obtain ⟨t', e1, -, e2⟩ := hm J _ hj
  obtain ⟨c, rfl⟩ := e2 (by show (deedsL crcP D ++ deedL crcP rs).length ≠ (deedsL crcP D).length; rw [List.length_append]; omega)
  obtain ⟨G, hG, h1, h2⟩ := left_deed (deedsL crcP D) (deedL crcP rs) c hne
  rw [hG] at e1
  by_cases hw : G = deedL crcP rs
  · right
    refine ⟨fun q hq => ?_, g, hg, .inr ⟨[], stepR_short [] (by simp), ?_⟩⟩
    · rcases List.mem_append.1 hq with hq | hq
      · exact hv q hq
      · rw [List.mem_singleton] at hq; subst hq; exact hr
    · rw [List.append_nil, deedsL_snoc, e1, hw]
  · left
    have hb1 : 1 ≤ (bodyL rs).length := by unfold bodyL; rw [List.length_append, numL_len]; omega
    exact ⟨hv, g, hg, .inr ⟨G, stepR_torn crcP_ok (bodyL rs) G hb1 (by have := hr.2.2.2; omega) h1 h2 hw, e1⟩⟩
/-- what a deed makes of a book whose power may go -/
def DeedLost (S : St) (D D' : List (List (List UInt8))) (rs : List (List UInt8)) (r : St × Int × Bool) : Prop :=
  (r.2.1 = 0 ∧ r.2.2 = false ∧ Valid rs ∧ CalmP r.1 D' ∧ r.1.life = S.life) ∨ (r.2.1 = 10 ∧ ∀ fs, Kept (onS (offS r.1) fs) D ∨ Kept (onS (offS r.1) fs) D') ∨
  (r.2.1 ≠ 0 ∧ r.2.1 ≠ 10 ∧ r.2.2 = false ∧ r.1 = S ∧ (r.2.1 = (bodyE rs).2 ∨ r.2.1 = 11))
theorem lost_snoc (dead : Bool) (e : Int) : (dead || decide (e = 10)) = false ↔ dead = false ∧ e ≠ 10 := by simp
theorem power_add (h : CalmP S D) (rs : List (List UInt8)) : DeedLost S D (D ++ [rs]) rs (addB S J S.life false rs) := by
  obtain ⟨hd, hv, f, hs, ho, hj⟩ := h
  have hr := ready_ok (rs := rs) hd rfl
  unfold addB
  by_cases h0 : (readyS S S.life false rs).2 = 0
  · rw [if_pos h0]
    rw [hr] at h0
    obtain ⟨hval, hb⟩ := bodyE_ok h0
    have hs1 : (bx (readyS S S.life false rs).1).data.toList = deedL crcP rs := by rw [bx_list]; unfold readyS deedL; rw [hb]
    obtain ⟨y, hy⟩ : ∃ y, bx (readyS S S.life false rs).1 = y := ⟨_, rfl⟩
    rw [hy] at hs1 ⊢
    have hg : grown (f J) y.data.toList = ⟨deedsL crcP D ++ deedL crcP rs, (deedsL crcP D).length⟩ := by
      rw [hs1]
      rcases hj with ⟨hj, rfl⟩ | hj
      · rw [hj]; rfl
      · rw [hj]; rfl
    have lost : ∀ T g, Sees T g → g J = some (grown (f J) y.data.toList) → ∀ fs, Kept (onS (offS T) fs) D ∨ Kept (onS (offS T) fs) (D ++ [rs]) := fun T g hT hgJ fs => by
      rw [hg] at hgJ
      exact lost_add hT hv hval hgJ fs
    unfold addL
    rcases append_sees hs hd y (x := J) (by decide) with ⟨e1, e2⟩ | ⟨e1, e2, e3, e4, e5⟩ | ⟨e1, e2, e3, e4⟩
    · rw [seq_stop (by rw [e1]; decide)]
      refine .inr (.inr ⟨?_, ?_, ?_, e2, .inr e1⟩)
      · show (appendS S J y).2 ≠ 0
        rw [e1]; decide
      · show (appendS S J y).2 ≠ 10
        rw [e1]; decide
      · show (false || decide ((appendS S J y).2 = 10)) = false
        rw [e1]; decide
    · rw [seq_cons e1]
      rcases sync_sees e2 e3 (upd_self _ _ _) with ⟨b1, b2, b3, b4, b5⟩ | ⟨b1, b2, b3, b4⟩
      · rw [seq_cons b1]
        refine .inl ⟨rfl, rfl, hval, ⟨b3, ?_, _, b2, fun z hz => ?_, .inr ?_⟩, b4.trans e4⟩
        · intro q hq
          rcases List.mem_append.1 hq with hq | hq
          · exact hv q hq
          · rw [List.mem_singleton] at hq; subst hq; exact hval
        · rw [upd_other _ _ hz, upd_other _ _ hz]; exact ho z hz
        · rw [upd_self, hg, deedsL_snoc]
      · rw [seq_stop (by rw [b1]; decide)]
        exact .inr (.inl ⟨b1, fun fs => lost _ _ b2 (upd_self _ _ _) fs⟩)
    · rw [seq_stop (by rw [e1]; decide)]
      exact .inr (.inl ⟨e1, fun fs => lost _ _ e2 (upd_self _ _ _) fs⟩)
  · rw [if_neg h0]
    rw [hr] at h0 ⊢
    refine .inr (.inr ⟨h0, ?_, rfl, rfl, .inl rfl⟩)
    show (bodyE rs).2 ≠ 10
    rcases bodyE_errs rs with h | h | h | h <;> rw [h] <;> decide
theorem power_renew (h : CalmP S D) (rs : List (List UInt8)) : DeedLost S D [rs] rs (renewB S J S.life false rs) := by
  have hk := h
  obtain ⟨hd, hv, f, hs, ho, hj⟩ := h
  have hr := ready_ok (rs := rs) hd rfl
  unfold renewB
  by_cases h0 : (readyS S S.life false rs).2 = 0
  · rw [if_pos h0]
    rw [hr] at h0
    obtain ⟨hval, hb⟩ := bodyE_ok h0
    have hs1 : (bx (readyS S S.life false rs).1).data.toList = deedL crcP rs := by rw [bx_list]; unfold readyS deedL; rw [hb]
    obtain ⟨y, hy⟩ : ∃ y, bx (readyS S S.life false rs).1 = y := ⟨_, rfl⟩
    rw [hy] at hs1 ⊢
    have hkj : KeepJ D (f J) := by
      rcases hj with hj | hj
      · exact .inl hj
      · exact .inr ⟨[], stepR_short [] (by simp), by rw [List.append_nil]; exact hj⟩
    have lost : ∀ T g, Sees T g → g J = f J → ∀ fs, Kept (onS (offS T) fs) D ∨ Kept (onS (offS T) fs) [rs] := fun T g hT hgJ fs =>
      .inl ((Kept.back ⟨hv, g, hT, by rw [hgJ]; exact hkj⟩ fs).1)
    have oJ : ∀ (g : ByteArray → Option Spool) (o : Option Spool), upd g (tilde J) o J = g J := fun g o => upd_other _ _ (Ne.symm J_tilde)
    unfold renewL
    have hd1 : drop1 S (tilde J) = (S, 0) := by unfold drop1; rw [size_sees hs, ho _ J_tilde]; exact if_pos (by decide)
    rw [seq_cons (by rw [hd1])]
    show DeedLost _ _ _ _ (seqS _ (drop1 S (tilde J)).1 false)
    rw [hd1]
    show DeedLost _ _ _ _ (seqS _ S false)
    rcases append_sees hs hd y (x := tilde J) (by decide) with ⟨e1, e2⟩ | ⟨e1, e2, e3, e4, e5⟩ | ⟨e1, e2, e3, e4⟩
    · rw [seq_stop (by rw [e1]; decide)]
      refine .inr (.inr ⟨?_, ?_, ?_, e2, .inr e1⟩)
      · show (appendS S (tilde J) y).2 ≠ 0
        rw [e1]; decide
      · show (appendS S (tilde J) y).2 ≠ 10
        rw [e1]; decide
      · show (false || decide ((appendS S (tilde J) y).2 = 10)) = false
        rw [e1]; decide
    · rw [seq_cons e1]
      have hg : grown (f (tilde J)) y.data.toList = ⟨deedL crcP rs, 0⟩ := by
        rw [ho _ J_tilde, ← hs1]; rfl
      rw [hg] at e2
      rcases sync_sees e2 e3 (upd_self _ _ _) with ⟨b1, b2, b3, b4, b5⟩ | ⟨b1, b2, b3, b4⟩
      · rw [seq_cons b1]
        rcases swap_sees b2 b3 (upd_self _ _ _) (y := J) (by decide) J_tilde with ⟨c1, c2, c3, c4, c5⟩ | ⟨c1, c2, c3, c4⟩
        · rw [seq_cons c1]
          have hd2 : deedsL crcP [rs] = deedL crcP rs := by unfold deedsL; simp
          refine .inl ⟨rfl, rfl, hval, ⟨c3, ?_, _, c2, fun z hz => ?_, .inr ?_⟩, c4.trans (b4.trans e4)⟩
          · intro q hq; rw [List.mem_singleton] at hq; subst hq; exact hval
          · rw [upd_other _ _ hz]
            by_cases hzt : z = tilde J
            · subst hzt; rw [upd_self]
            · rw [upd_other _ _ hzt, upd_other _ _ hzt, upd_other _ _ hzt]; exact ho z hz
          · rw [upd_self, hd2]
        · rw [seq_stop (by rw [c1]; decide)]
          exact .inr (.inl ⟨c1, fun fs => lost _ _ c2 (by rw [oJ, oJ]) fs⟩)
      · rw [seq_stop (by rw [b1]; decide)]
        exact .inr (.inl ⟨b1, fun fs => lost _ _ b2 (by rw [oJ]) fs⟩)
    · rw [seq_stop (by rw [e1]; decide)]
      exact .inr (.inl ⟨e1, fun fs => lost _ _ e2 (by rw [oJ]) fs⟩)
  · rw [if_neg h0]
    rw [hr] at h0 ⊢
    refine .inr (.inr ⟨h0, ?_, rfl, rfl, .inl rfl⟩)
    show (bodyE rs).2 ≠ 10
    rcases bodyE_errs rs with h | h | h | h <;> rw [h] <;> decide
end
end Go.Proofs.Ytnhgfhbicaiilaa
/- The walk of found: a book behind a loss of power. -/
namespace Go.Proofs.Ytnhgfhbicaiilaa
open Go.RowKit Book Reel
set_option linter.unusedVariables false

theorem off_fits {S : St} {n : Nat} (h : S.Fits n) : (offS S).Fits (n + 1) := by
  obtain ⟨h1, h2, h3⟩ := h
  unfold offS
  split
  · exact ⟨by omega, by omega, h3⟩
  · exact ⟨by show S.acts ≤ _; omega, by show S.life + 1 ≤ _; omega, by show (0 : Nat) ≤ _; omega⟩
theorem on_fits {S : St} {n : Nat} (h : S.Fits n) (fs : List Int) : (onS S fs).Fits n := by
  unfold onS
  split
  · exact h
  · exact ⟨h.1, h.2.1, h.2.2⟩
theorem arm_fits {S : St} {n : Nat} (h : S.Fits n) (k : Int) (hk : k ≤ 9223372036854775807) : (armS S k).Fits n := ⟨h.1, h.2.1, by show k.toNat ≤ _; omega⟩
theorem open_any (K : Nat → Prop) (p : Nat) (S : St) (x : ByteArray) (w : World) (n : Nat) (hf : S.Fits n) (hn : n + 2 < big) (h : DK K w p S) (hx : x.size ≤ 1000) :
    Calls Try.prog 8 #[.pointer (some ⟨p, 0, none⟩), .string x] w fun e w' => ∃ v, e = .returned v ∧ DK K w' p (openS S x).1 ∧ Only (fun k => ¬ K k) w w' :=
  (open_K K p S x w n hf hn h hx).mono fun e w' ⟨hp, ho⟩ => by
    rcases hp with ⟨-, b, a, c, G, rfl, hd, -⟩ | ⟨-, rfl, hd⟩
    · exact ⟨_, rfl, hd.less (fun k hk => .inl hk), ho⟩
    · exact ⟨_, rfl, hd, ho⟩
theorem ints_only {K : Nat → Prop} {w w' : World} {a : Option Addr} {n : Nat} {l : List Int} (h : IntsAt w a n l) (ho : Only (fun k => ¬ K k) w w') (hk : n ≠ 0 → ∀ b off, a = some ⟨b, off, none⟩ → K b) : IntsAt w' a n l :=
  h.only ho (fun hn b off e hf => hf (hk hn b off e))
theorem ints_get {w : World} {a : Option Addr} {n : Nat} {l : List Int} (h : IntsAt w a n l) {j : Nat} (hj : j < n) : ∃ b off x, a = some ⟨b, off, none⟩ ∧ b < w.heap.size ∧ w.cell? ⟨b, off + j, none⟩ = some (.int .i64 x) ∧ -9223372036854775808 ≤ x ∧ x ≤ 9223372036854775807 := by
  obtain ⟨h1, h2, h3, h4⟩ := h
  obtain ⟨b, off, ha, hc⟩ := h4.resolve_left (by omega)
  have hx := h3 (l.getD j 0) (by
    rw [List.getD_eq_getElem?_getD, List.getElem?_eq_getElem (by omega)]
    exact List.getElem_mem _)
  exact ⟨b, off, _, ha, World.block_lt_of_cell? w _ (hc j hj), hc j hj, hx.1, hx.2⟩
/-- where found stands between its losses -/
structure FoundAt (K : Nat → Prop) (w0 w : World) (p : Nat) (S : St) (n : Nat) (E : List (List (List UInt8))) : Prop where
  disk : DK K w p S
  fits : S.Fits n
  kept : Kept S E
  up : S.down = false
  only : Only (fun k => ¬ K k) w0 w
set_option maxRecDepth 100000 in
set_option maxHeartbeats 4000000 in
theorem found_K (K : Nat → Prop) (w : World) (p : Nat) (S : St) (m : Nat) (E : List (List (List UInt8))) (a1 : Option Addr) (n1 c1 : Nat) (l1 : List Int) (a2 : Option Addr) (n2 c2 : Nat) (l2 : List Int)
    (hd : DK K w p S) (hf : S.Fits m) (hm : m + 100 < big) (h1 : IntsAt w a1 n1 l1) (k1 : n1 ≠ 0 → ∀ b off, a1 = some ⟨b, off, none⟩ → K b) (h2 : IntsAt w a2 n2 l2) (k2 : n2 ≠ 0 → ∀ b off, a2 = some ⟨b, off, none⟩ → K b) (hk : Kept (onS (offS S) l2) E) :
    Calls Try.prog 18 #[.pointer (some ⟨p, 0, none⟩), .slice a1 n1 c1, .slice a2 n2 c2] w fun e w' => ∃ a c G S', e = .returned (.tuple #[.slice a E.length c, .int .i64 0]) ∧ DK (fun k => K k ∨ G k) w' p S' ∧ S'.Fits (m + 100) ∧ Kept S' E ∧
      GridIn G w' a E.length (grid E) ∧ (∀ k, G k → w.heap.size ≤ k ∧ k < w'.heap.size) ∧ Only (fun k => ¬ K k) w w' := by
  have HD := hid hd; have HF := hid hf; have H1 := hid h1; have H2 := hid h2; have HK := hid hk; have HK1 := hid k1; have HK2 := hid k2
  have hn1 := h1.2.1
  clear hd hf h1 h2 hk k1 k2
  go_enter Try.func18, Try.ntmps18
  go_wp2_with fail
  refine (off_K m HD.out HF.out (by omega)).mono ?_; rintro e w1 ⟨rfl, d1, o1⟩
  have D1 := hid d1; have O1 := hid o1
  clear d1 o1
  go_wp2_with fail
  refine (on_K _ _ _ l2 D1.out (ints_only H2.out O1.out HK2.out) HK2.out).mono ?_; rintro e w2 ⟨rfl, d1, o1⟩
  have HA : Hid (FoundAt K w w2 p (onS (offS S) l2) (m + 1) E) := ⟨d1, on_fits (off_fits HF.out) _, HK.out, by
    have := off_sees HK.out.sees.choose_spec.1
    unfold onS; split
    · assumption
    · rfl, O1.out.then o1⟩
  clear d1 o1 D1 O1
  obtain ⟨S2, hS2⟩ : ∃ S2, onS (offS S) l2 = S2 := ⟨_, rfl⟩
  rw [hS2] at HA
  clear hS2 HK
  go_upto_block 0 with fail
  go_cut [8] (fun s8 wx => ∃ S3, Hid (FoundAt K w wx p S3 (m + 80) E))
  case first =>
    go_wp2_with fail
    go_loopw [8] (fun iv wr => ∃ (j : Nat) (S3 : St), j ≤ n1 ∧ j ≤ 5 ∧ iv = .int .i64 j ∧ Hid (FoundAt K w wr p S3 (m + 1 + 10 * j) E)) (fun iv _ => n1 - (intOf iv).toNat)
    case atStart => exact ⟨0, S2, Nat.zero_le _, Nat.zero_le _, rfl, HA.out⟩
    case round =>
      obtain ⟨j, S3, hj, hj5, rfl, HX⟩ := hrel
      clear HA
      by_cases hgo : j < n1 ∧ j < 5
      · obtain ⟨hj1, hj2⟩ := hgo
        have g1 : (j : Int) < n1 := by omega
        have g2 : (j : Int) < 5 := by omega
        have g0 : (0 : Int) ≤ (j : Int) := by omega
        obtain ⟨ab, aoff, x, rfl, -, q0, -, -⟩ := ints_get (ints_only H1.out HX.out.only HK1.out) hj1
        go_wp2_with fail
        obtain ⟨z, hz⟩ : ∃ z, wrap64 (1 + wrap64 ((IntKind.u64.wrap x).tmod 3)) = z := ⟨_, rfl⟩
        have hz1 : z ≤ 9223372036854775807 := by rw [← hz]; unfold wrap64; omega
        rw [hz]
        clear hz
        refine (arm_K z hz1 HX.out.disk).mono ?_; rintro e w3 ⟨rfl, d3, o3⟩
        have D3 := hid d3; have O3 := hid (HX.out.only.then o3)
        clear d3 o3
        go_wp2_with fail
        refine (open_any K p (armS S3 z) J w3 (m + 1 + 10 * j) (arm_fits HX.out.fits z hz1) (by omega) D3.out (by decide)).mono ?_
        rintro e w4 ⟨v, rfl, d4, o4⟩
        have D4 := hid d4; have O4 := hid (O3.out.then o4)
        have F4 := hid (open_fits (arm_fits HX.out.fits z hz1) J)
        have K4 := hid ((HX.out.kept.arm z).opened HX.out.up).1
        clear d4 o4
        obtain ⟨S4, hS4⟩ : ∃ S4, (openS (armS S3 z) J).1 = S4 := ⟨_, rfl⟩
        rw [hS4] at D4 F4 K4
        clear hS4 D3
        go_wp2_with fail
        refine (off_K _ D4.out F4.out (by omega)).mono ?_; rintro e w5 ⟨rfl, d5, o5⟩
        have D5 := hid d5; have O5 := hid (O4.out.then o5)
        clear d5 o5
        go_wp2_with fail
        refine (on_K _ _ _ l2 D5.out (ints_only H2.out O5.out HK2.out) HK2.out).mono ?_; rintro e w6 ⟨rfl, d6, o6⟩
        obtain ⟨b1, b2⟩ := K4.out.back l2
        have HX2 : Hid (FoundAt K w w6 p (onS (offS S4) l2) (m + 1 + 10 * (j + 1)) E) := ⟨d6, fits_more (on_fits (off_fits F4.out) _) (by omega), b1, b2, O5.out.then o6⟩
        clear d6 o6 b1 b2
        go_wp2_with fail
        go_roundw
        case rel => exact ⟨j + 1, _, by omega, by omega, by go_num, HX2⟩
        case measure => simp [intOf]; omega
      · have gn : ¬ (j : Int) < n1 ∨ (j : Int) < n1 ∧ ¬ (j : Int) < 5 := by omega
        rcases gn with gn | ⟨gn, gn2⟩
        all_goals
          go_wp2_with fail
          go_meet
          case rel => exact ⟨S3, HX.out.disk, fits_more HX.out.fits (by omega), HX.out.kept, HX.out.up, HX.out.only⟩
  case rest =>
    obtain ⟨S3, HX⟩ := hcut
    clear HA
    go_wp2_with fail
    refine (arm_K 0 (by decide) HX.out.disk).mono ?_; rintro e w3 ⟨rfl, d3, o3⟩
    have D3 := hid d3; have O3 := hid (HX.out.only.then o3)
    clear d3 o3
    go_wp2_with fail
    refine (open_K K p (armS S3 0) J w3 (m + 80) (arm_fits HX.out.fits 0 (by decide)) (by omega) D3.out (by decide)).mono ?_
    rintro e w4 ⟨hp, ho⟩
    obtain ⟨kk, ke⟩ := (HX.out.kept.arm 0).opened HX.out.up
    have ke := ke rfl
    have hfo := open_fits (arm_fits HX.out.fits 0 (by decide)) J
    rcases hp with ⟨-, b, a, c, G, rfl, hd, hbk, hGb, hgr, hG⟩ | ⟨h1, -⟩
    case inr => exact absurd (by rw [ke]) h1
    rw [ke] at hgr ⊢
    simp only at hgr ⊢
    have hsz := O3.out.size
    have O4 := hid (O3.out.then ho)
    have HG := hid hG; have HGR := hid hgr; have HDD := hid hd; have HKK := hid kk; have HFO := hid hfo
    clear hd hbk hGb hgr hG ho ke kk hfo
    go_wp2_with fail
    go_ret2
    exact ⟨a, c, G, _, rfl, HDD.out, fits_more HFO.out (by omega), HKK.out, HGR.out, fun k hk => ⟨Nat.le_trans hsz (HG.out k hk).1, (HG.out k hk).2⟩, O4.out⟩
end Go.Proofs.Ytnhgfhbicaiilaa
