/- The walk of SnapLists. -/
import Derived.Test.YtlenfiiocmchdaaGreatDoorMdL
namespace Go.Proofs.YtlenfiiocmchdaaGreatDoor
open Go.RowKit Book Pap Ojt Sn
set_option linter.unusedVariables false
set_option linter.unusedSimpArgs false

set_option maxRecDepth 100000 in
set_option maxHeartbeats 16000000 in
theorem walk_SnapLists (a0 : Option Addr) (n0 c0 : Nat) (l0 : List Fi) (id p : ByteArray) (W : World) (w0 : FisAt W a0 n0 l0) (nc0 : n0 ≤ c0) (z0 : ∀ f ∈ l0, f.path.size ≤ 140737488355328 ∧ f.data.size ≤ 140737488355328)
    (hi : id.size ≤ 140737488355328) (hp : p.size ≤ 140737488355328) (hm : MaxAt W) :
    Calls Tryz.prog 3 #[.slice a0 n0 c0, .string id, .string p] W fun e w' => e = .returned (.bool true) ∧ Below W.heap.size W w' := by
  have HM := hid hm
  have H0 := hid w0
  have Z0 := hid z0
  have HA := hid (awake_any W hm)
  clear hm w0 z0
  go_enter Tryz.func3, Tryz.ntmps3
  go_wp2_with fail
  refine HA.out.mono ?_; rintro e w1 ⟨rfl, hb1⟩
  have HB1 := hid hb1
  have HV0 := hid (vast_any a0 n0 c0 l0 w1 (H0.out.later hb1) Z0.out)
  clear hb1 HA
  go_wp2_with fail
  refine HV0.out.mono ?_; rintro e w2 ⟨r0, rfl, hb2, hr0⟩
  have HB2 := hid (below_then HB1.out hb2)
  clear hb2 HV0 HB1
  cases r0 with
  | true =>
    go_wp2_with fail
    go_ret
    exact ⟨rfl, HB2.out⟩
  | false =>
    obtain ⟨hn0, hs0⟩ := hr0 rfl
    have Y0 := hid (sumF_each hs0)
    clear hr0
    by_cases hps : 65536 < p.size
    · have ci : (65536 : Int) < p.size := by omega
      go_wp2_with fail
      go_ret
      exact ⟨rfl, HB2.out⟩
    have ci : ¬ (65536 : Int) < p.size := by omega
    have HZG : Hid (SrcSz (getF l0)) := src_small (fun f hf => by have := Y0.out f hf; omega)
    have hb3 : Below w2.heap.size w2 (w2.alloc (.cells #[.slice a0 n0 c0] 31)) := (Below.refl _ _).alloc (Nat.le_refl _) _
    have HB3 := hid (below_then HB2.out hb3)
    have HK3 : Hid (BookAt (w2.alloc (.cells #[.slice a0 n0 c0] 31)) w2.heap.size l0) := ⟨a0, n0, c0, Blk.new w2 _ _, H0.out.later HB3.out⟩
    have HLA := hid (list_any 29 (.pointer (some ⟨w2.heap.size, 0, none⟩)) (getF l0) HZG.out id _ (book_src _ _ _ HK3.out))
    clear hb3 HB2 HK3
    go_wp2_with fail
    generalize (w2.alloc (.cells #[.slice a0 n0 c0] 31)) = w3 at HB3 HLA ⊢
    refine HLA.out.mono ?_; rintro e w4 ⟨xa, xn, xc, rfl, hE4, hb4, -, -⟩
    have HB4 := hid (below_then HB3.out hb4)
    have HLB := hid (rlist_any a0 n0 c0 l0 HZG.out id w4 (H0.out.later HB4.out))
    have HE4 := hid hE4
    obtain ⟨⟨R, er⟩, hR⟩ : ∃ r, listS (getF l0) id = r := ⟨_, rfl⟩
    rw [hR] at HLB HE4 ⊢
    clear hb4 HB3 HLA hE4 hR
    go_wp2_with fail
    refine HLB.out.mono ?_; rintro e w5 ⟨ya, yn, yc, rfl, hE5, hb5, -, -⟩
    have HB5 := hid (below_then HB4.out hb5)
    have HEQ := hid (entries_eq xa ya xn yn xc yc R R w5 (HE4.out.later hb5) hE5)
    clear hb5 HB4 HLB hE5 HE4
    go_wp2_with fail
    refine HEQ.out.mono ?_; rintro e w6 ⟨r, rfl, hr, hb6⟩
    obtain rfl : r = true := by simpa using hr
    have HB6 := hid (below_then HB5.out hb6)
    clear hr hb6 HEQ HB5
    have hb7 : Below w6.heap.size w6 (w6.alloc (.cells #[.slice a0 n0 c0] 31)) := (Below.refl _ _).alloc (Nat.le_refl _) _
    have HB7 := hid (below_then HB6.out hb7)
    have HK7 : Hid (BookAt (w6.alloc (.cells #[.slice a0 n0 c0] 31)) w6.heap.size l0) := ⟨a0, n0, c0, Blk.new w6 _ _, H0.out.later HB7.out⟩
    have HFA := hid (files_any 29 (.pointer (some ⟨w6.heap.size, 0, none⟩)) (getF l0) HZG.out id _ (book_src _ _ _ HK7.out))
    clear hb7 HB6 HK7
    go_wp2_with fail
    generalize (w6.alloc (.cells #[.slice a0 n0 c0] 31)) = w7 at HB7 HFA ⊢
    refine HFA.out.mono ?_; rintro e w8 ⟨ga, gn, gc, rfl, hE8, hb8, -, -, -⟩
    have HB8 := hid (below_then HB7.out hb8)
    have HFB := hid (rfiles_any a0 n0 c0 l0 HZG.out id w8 (H0.out.later HB8.out))
    have HE8 := hid hE8
    obtain ⟨⟨F, ef⟩, hF⟩ : ∃ r, filesS (getF l0) id = r := ⟨_, rfl⟩
    rw [hF] at HFB HE8 ⊢
    clear hb8 HB7 HFA hE8 hF
    go_wp2_with fail
    refine HFB.out.mono ?_; rintro e w9 ⟨ha, hn, hc, rfl, hE9, hb9, -, -, -⟩
    have HB9 := hid (below_then HB8.out hb9)
    have HSM := hid (same_any ga ha gn hn gc hc F F w9 (HE8.out.later hb9) hE9)
    clear hb9 HB8 HFB hE9 HE8
    go_wp2_with fail
    refine HSM.out.mono ?_; rintro e wa ⟨r, rfl, hr, hba⟩
    obtain rfl : r = true := by simpa using hr
    have HBa := hid (below_then HB9.out hba)
    clear hr hba HSM HB9
    have hbb : Below wa.heap.size wa (wa.alloc (.cells #[.slice a0 n0 c0] 31)) := (Below.refl _ _).alloc (Nat.le_refl _) _
    have HBb := hid (below_then HBa.out hbb)
    have HKb : Hid (BookAt (wa.alloc (.cells #[.slice a0 n0 c0] 31)) wa.heap.size l0) := ⟨a0, n0, c0, Blk.new wa _ _, H0.out.later HBb.out⟩
    have HDA := hid (find_any 29 (.pointer (some ⟨wa.heap.size, 0, none⟩)) (getF l0) HZG.out id p _ (book_src _ _ _ HKb.out) (by omega) (HM.out.later HBb.out))
    clear hbb HBa HKb
    go_wp2_with fail
    generalize (wa.alloc (.cells #[.slice a0 n0 c0] 31)) = wb at HBb HDA ⊢
    obtain ⟨⟨⟨xn', xk, xi⟩, xe⟩, hx⟩ : ∃ r, findS (getF l0) id p = r := ⟨_, rfl⟩
    have HXE := hid hx
    rw [hx] at HDA
    clear hx
    refine HDA.out.mono ?_; rintro e wc ⟨rfl, hbc⟩
    simp only [entCs]
    have hbd : Below wc.heap.size wc (wc.alloc (.cells #[.string xn', .int .i64 xk, .string xi] 40)) := (Below.refl _ _).alloc (Nat.le_refl _) _
    have HXd : Hid (Blk (wc.alloc (.cells #[.string xn', .int .i64 xk, .string xi] 40)) wc.heap.size 40 #[.string xn', .int .i64 xk, .string xi]) := Blk.new wc _ _
    have HBd := hid (below_then (below_then HBb.out hbc) hbd)
    clear hbc hbd HDA HBb
    go_upto_region 14 with fail
    generalize (wc.alloc (.cells #[.string xn', .int .i64 xk, .string xi] 40)) = wd at HXd HBd ⊢
    generalize wc.heap.size = xb at HXd ⊢
    have HDB := hid (rfind_any a0 n0 c0 l0 HZG.out id p wd (H0.out.later HBd.out) (by omega))
    rw [HXE.out] at HDB
    go_wp2_with fail
    refine HDB.out.mono ?_; rintro e we ⟨rfl, hbe⟩
    simp only [entCs]
    have hbf : Below we.heap.size we (we.alloc (.cells #[.string xn', .int .i64 xk, .string xi] 40)) := (Below.refl _ _).alloc (Nat.le_refl _) _
    have HYf : Hid (Blk (we.alloc (.cells #[.string xn', .int .i64 xk, .string xi] 40)) we.heap.size 40 #[.string xn', .int .i64 xk, .string xi]) := Blk.new we _ _
    have HXf : Hid (Blk (we.alloc (.cells #[.string xn', .int .i64 xk, .string xi] 40)) xb 40 #[.string xn', .int .i64 xk, .string xi]) := Blk.alloc ((hbe.block xb (Blk.lt HXd.out)).trans HXd.out) _
    have HBf := hid (below_then (below_then HBd.out hbe) hbf)
    clear hbe hbf HDB HBd HXd
    go_upto_region 15 with fail
    generalize (we.alloc (.cells #[.string xn', .int .i64 xk, .string xi] 40)) = wf at HYf HXf HBf ⊢
    generalize we.heap.size = yb at HYf ⊢
    have x0 : wf.cell? ⟨xb, 0, none⟩ = some (.string xn') := Blk.cell HXf.out 0
    have x1 : wf.cell? ⟨xb, 1, none⟩ = some (.int .i64 xk) := Blk.cell HXf.out 1
    have x2 : wf.cell? ⟨xb, 2, none⟩ = some (.string xi) := Blk.cell HXf.out 2
    have y0 : wf.cell? ⟨yb, 0, none⟩ = some (.string xn') := Blk.cell HYf.out 0
    have y1 : wf.cell? ⟨yb, 1, none⟩ = some (.int .i64 xk) := Blk.cell HYf.out 1
    have y2 : wf.cell? ⟨yb, 2, none⟩ = some (.string xi) := Blk.cell HYf.out 2
    go_wp2_with fail
    go_ret
    exact ⟨rfl, HBf.out⟩
end Go.Proofs.YtlenfiiocmchdaaGreatDoor
