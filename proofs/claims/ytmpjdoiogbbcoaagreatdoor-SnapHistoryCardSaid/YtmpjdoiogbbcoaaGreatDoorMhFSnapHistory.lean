/- The statement SnapHistoryCardSaid, from its walk: for every input the law returns true, and its arguments read behind the call as before; what the row lists of the library's variables is tied to the program's text. -/
import Derived.Test.YtmpjdoiogbbcoaaGreatDoorMhWSnapHistory
import Derived.DataShut
namespace Go.Proofs.YtmpjdoiogbbcoaaGreatDoor.snapHistory
open Go.ChangeShapes Go.WideShapes Go.ChangeAt Go.RowKit
open Go.ChangeMaps (open_string shut_string)
set_option linter.unusedVariables false

theorem own : ownKnob Tryz.prog.godebug = none := by kernel_rfl
theorem laidOut : laidOutB Tryz.prog = true := by kernel_rfl

set_option maxRecDepth 100000 in
theorem contract (H : Type) (enc : TypeId × Value → H) (W : World) (base : Nat) (args : Array Value) (ds gs : List (DataW H)) (before : List MemPlace)
  (hval0 : ∀ (j : Nat) t v, Tryz.f4.params[j]? = some t → args[j]? = some v → Value.okWide Tryz.prog W .any base t v)
  (hW : DataW.Whole enc Tryz.prog Tryz.f4.params.toList Rows.snapHistorySpec.vars false W args.toList ds gs before) (hz : (DataW.weightsEach Tryz.prog (Tryz.f4.params.toList ++ []) (ds ++ gs)).all (· ≤ reachBytes) = true) (hM : MaxAt W) :
  Calls Tryz.prog 4 args W fun e W' => ∃ v, e = .returned v ∧ Rows.snapHistorySpec.post enc Tryz.prog Tryz.f4 false true false false W args v W' := by
 have hval : ∀ (j : Nat) t v, Tryz.f4.params[j]? = some t → args[j]? = some v → Value.okWide Tryz.prog W .any base t v := hval0
 have hW' := hW
 obtain ⟨p, q, hA0, hV, rfl, hfz, hnd⟩ := hW
 have hA : DataW.TrodAll enc Tryz.prog W 0 (fun _ => true) true Tryz.f4.params.toList args.toList ds p := hA0
 rw [Tryz.params4] at hA hval hz
 obtain ⟨v0, vs0, d0, ds0, p0, q0, hargs, rfl, rfl, h0, r0⟩ := trodAll_cons hA
 obtain ⟨v1, vs1, d1, ds1, p1, q1, rfl, rfl, rfl, h1, r1⟩ := trodAll_cons r0
 obtain ⟨rfl, rfl, rfl⟩ := trodAll_nil r1
 obtain rfl : args = #[v0, v1] := by cases args; simp_all
 obtain ⟨rfl, rfl⟩ := trodVars_none hV
 simp only [List.append_nil] at hz
 have k0 := h0
 have lt0 : ∀ x ∈ p0, x.block < W.heap.size := by obtain ⟨m, hm⟩ := k0; exact DataW.trod_lt m _ _ _ hm
 have y0 : ∀ n ∈ d0.weights Tryz.prog 46, n ≤ reachBytes := fun n hn => of_decide_eq_true (List.all_eq_true.1 hz n (by simp [DataW.weightsEach, hn]))
 have k1 := h1
 have lt1 : ∀ x ∈ p1, x.block < W.heap.size := by obtain ⟨m, hm⟩ := k1; exact DataW.trod_lt m _ _ _ hm
 have y1 : ∀ n ∈ d1.weights Tryz.prog 47, n ≤ reachBytes := fun n hn => of_decide_eq_true (List.all_eq_true.1 hz n (by simp [DataW.weightsEach, hn]))
 obtain ⟨a0, n0, c0, rfl, w0⟩ := open_rows (hval 0 46 v0 rfl rfl) h0
 obtain ⟨a1, n1, c1, l1, rfl, w1, nc1, zz1, -⟩ := open_fis (hval 1 47 v1 rfl rfl) h1 y1
 clear hA0 hval0
 refine (walk_SnapHistory a0 n0 c0 a1 n1 c1 l1 W w0 w1 nc1 zz1 hM).mono fun e W' ⟨he, bel⟩ => ?_
 subst he
 exact ⟨_, rfl, _, _, _, [], _, [], hW', trodAll_mk1 (shut_bool Tryz.underlying4 _), (trodAll_cons_mk (Below.trod laidOut (by kernel_rfl) (of_decide_eq_true (by kernel_rfl)) k0 bel lt0) (trodAll_cons_mk (Below.trod laidOut (by kernel_rfl) (of_decide_eq_true (by kernel_rfl)) k1 bel lt1) trodAll_mk0)), rfl, bel.frame _, fun h => by cases h⟩

set_option maxRecDepth 100000 in
theorem laid_met (os : Os) : laidMet Tryz.prog Rows.snapHistoryRow.laid ((laidWorld os).forCall (fun _ _ => 0) ⟨#[], #[.slice none 0 0, .slice none 0 0], []⟩).memory :=
 laidMet_of_run' 8 (by kernel_rfl) (by kernel_rfl)
theorem reads (os : Os) {H : Type} (enc : TypeId × Value → H) : ∃ places, DataW.whole enc Tryz.prog ((laidWorld os).forCall (fun _ _ => 0) ⟨#[], #[.slice none 0 0, .slice none 0 0], []⟩).memory Tryz.f4.params.toList Rows.snapHistorySpec.vars false (#[.slice none 0 0, .slice none 0 0] : Array Value).toList 8 = some ([.nil, .nil], [], places) :=
 ⟨[], by kernel_rfl⟩

set_option maxRecDepth 100000 in
theorem lifted (os : Os) (started : os.Started) (H : Type) (enc : TypeId × Value → H) (F : Stop.Interp) :
  ReturnsInHanded {} Tryz.checked os 4 .any ((OpenSpec.ofChange Rows.snapHistorySpec).preRow enc Tryz.prog Tryz.f4 Rows.snapHistoryRow.domain false Rows.snapHistoryRow.laid) (((OpenSpec.ofChange Rows.snapHistorySpec).at F).post enc Tryz.prog Tryz.f4 false true false false) := by
 obtain ⟨places, hx⟩ := reads os enc
 refine returnsInHanded_of_row (C := Tryz.checked) (s := OpenSpec.ofChange Rows.snapHistorySpec) own started (by kernel_rfl) Tryz.func4
  (witness_row_at (enc := enc) (C := Tryz.checked) false (laidWorld os) #[.slice none 0 0, .slice none 0 0] rfl (by kernel_rfl) (by kernel_rfl) (by kernel_rfl)
   (OpenSpec.preRow_of_cond 8 hx (by kernel_rfl) (fun k hk => by cases hk) (by kernel_rfl) (laid_met os))) ?_
 intro W base args ds gs before hval hW _ _ hwt _ hsh _
 exact contract H enc W base args ds gs before hval hW hwt (maxAt_shaped hsh)

theorem c1 : (Rows.snapHistoryRow.inPlace == Tryz.pinned.checked.prog.inPlace 4) = true := by kernel_rfl
theorem c2 : (Rows.snapHistoryRow.unfollowed == Tryz.pinned.checked.prog.unfollowed 4) = true := by kernel_rfl
theorem c3 : (Rows.snapHistoryRow.recurses == Tryz.pinned.checked.prog.recurses 4) = true := by kernel_rfl
theorem c4 : (Rows.snapHistoryRow.named == Tryz.pinned.checked.prog.varsNamed 4) = true := by kernel_rfl
theorem c5 : (Rows.snapHistoryRow.lifted == Tryz.pinned.checked.prog.liftsFinal) = true := by kernel_rfl
theorem c6 : (Tryz.pinned.checked.prog.make == some Rows.snapHistoryRow.make) = true := by kernel_rfl
theorem c7 : Tryz.pinned.checked.prog.mayEnter = true := by kernel_rfl
theorem c8 : Tryz.pinned.checked.prog.stopsHeard = true := by kernel_rfl
theorem closed : joinedFacts Tryz.pinned.checked.prog 4 Tryz.f4 (OpenSpec.ofChange Rows.snapHistorySpec).bare Rows.snapHistoryRow = true := by
 unfold joinedFacts
 rw [c1, c2, c3, c4, c5, c6, c7, c8]
 kernel_rfl
theorem said : Rows.SnapHistorySaid :=
 OpenClaim.holds_of_cond 4 Tryz.f4 rfl rfl rfl rfl rfl rfl rfl ⟨rfl, rfl, rfl, rfl, rfl⟩ rfl rfl rfl rfl rfl (by kernel_rfl) Tryz.func4 closed
  (of_decide_eq_true (by kernel_rfl)) (by unfold Func.isWrapper; first | (rw [if_pos (by decide +kernel)]; kernel_rfl) | (rw [if_neg (by decide +kernel)]; exact ⟨rfl, rfl⟩))
  (fun os started H enc _ F => by rw [OpenClaim.pre_eq_preRow]; exact lifted os started H enc F)
theorem plain (f : FuncId) (fn : Func) (hf : Tryz.pinned.checked.prog.funcNamed "reliquary/reliquarylaw15.SnapHistory" = some f) (hfn : Tryz.pinned.checked.prog.funcs[f]? = some fn) :
  false = Tryz.pinned.checked.prog.looks [] ∧ ∀ (j : Nat) t, fn.params[j]? = some t → Tryz.pinned.checked.prog.wantsStandIn t = false := by
 obtain rfl : f = 4 := Option.some.inj ((show Tryz.prog.funcNamed "reliquary/reliquarylaw15.SnapHistory" = some 4 by kernel_rfl).symm.trans hf) |>.symm
 obtain rfl : fn = Tryz.f4 := (Option.some.inj (Tryz.func4.symm.trans hfn)).symm
 refine ⟨by kernel_rfl, fun j t ht => ?_⟩
 rw [Tryz.params4] at ht
 have hm := Array.mem_of_getElem? ht
 simp only [List.mem_toArray, List.mem_cons, or_false, List.not_mem_nil] at hm
 rcases hm with rfl | rfl
 ·exact (show Tryz.prog.wantsStandIn 46 = false by kernel_rfl)
 ·exact (show Tryz.prog.wantsStandIn 47 = false by kernel_rfl)

theorem snapHistory_holds : Rows.SnapHistoryCardSaid :=
 Claim7.holds_tied_plain_at .later [] _ _ _ _ said (fun _ h => by cases h) (by kernel_rfl) (fun _ h => by cases h) snapHistory_row_tie rfl ⟨rfl, rfl⟩ (by kernel_rfl) rfl plain (by kernel_rfl)
end Go.Proofs.YtmpjdoiogbbcoaaGreatDoor.snapHistory
