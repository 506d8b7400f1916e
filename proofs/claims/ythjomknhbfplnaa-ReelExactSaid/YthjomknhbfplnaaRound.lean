/- A region that draws its order, in a round of a loop over an iterator: what holds of it outside a round holds in one. No program. -/
import Derived.Deep.Quiet
import Derived.StillTail
import Derived.OrdersIn
import Derived.OwnWalkIn
import Derived.RangeFuncCalls
import Derived.ControlIn
import Derived.Test.YthjomknhbfplnaaBase
namespace Go.Proofs.Ythjomknhbfplnaa
open Go.RowKit
set_option linter.unusedVariables false

abbrev inR (l : Nat) : Fence := Fence.wide.inRound l
theorem callsIn_inR {l n : Nat} {P : Program} {f : FuncId} {args : Array Value} {w : World} {R : Ending → World → Prop} (h : Calls P f args w R) : CallsIn (inR l) n P f args w R := CallsIn.inRound l (callsIn_wide.2 h)
def noDefer (ops : Array Oper) : Bool := ops.toList.all fun o => match o.op with | .defer _ => false | _ => true
theorem noDefer_spec {ops : Array Oper} (h : noDefer ops = true) {i : Nat} {o : Oper} (hi : ops[i]? = some o) : ∀ c, o.op ≠ .defer c := by
  intro c hc
  unfold noDefer at h
  rw [List.all_eq_true] at h
  have hm : o ∈ ops.toList := by
    rw [← Array.getElem?_toList] at hi
    exact List.mem_of_getElem? hi
  have := h o hm
  rw [hc] at this
  cases this
section
variable {l n : Nat} {P : Program} {ops : Array Oper} {md : Region.Mode} {Q : Exit → Act → World → Prop}
theorem rowsIn_inR {row : String} {args : Array Value} {w : World} {R : Value → World → Prop} (h : Rows P row args w R) : RowsIn (inR l) n P row args w R := by
  intro c cs _
  obtain ⟨v, w', hR, hs⟩ := h c cs
  exact ⟨v, w', hR, stepsIn_wide.2 hs⟩
theorem uponIn_of {o : Oper} {a : Act} {K K' : Act → World → Prop} (hK : ∀ a w, K a w → K' a w) : ∀ r, o.upon P a K Q r → o.uponIn (inR l) n P a K' Q r
  | .ok (.value v) w', h => hK _ _ h
  | .ok .skip w', h => hK _ _ h
  | .ok (.defer d) w', h => hK _ _ h
  | .ok (.enter f args) w', h => ⟨fun e => (by cases e), callsIn_inR (Calls.mono h (fun e w'' he => by cases e <;> first | exact hK _ _ he | exact he))⟩
  | .ok (.row row args) w', h => ⟨fun e => (by cases e), RowsIn.mono (rowsIn_inR h) (fun v w'' he => hK _ _ he)⟩
  | .ok (.round _ _ _ _ _) _, h => h.elim
  | .halt (.panic v) w', h => h
  | .halt .goexit _, h => h.elim
theorem operIn_of {o : Oper} {a : Act} {w : World} {K K' : Act → World → Prop} (hd : ∀ c, o.op ≠ .defer c) (hK : ∀ a w, K a w → K' a w) (h : o.wp P a w K Q) : o.wpIn (inR l) n P a w K' Q := by
  refine ⟨fun _ _ => trivial, ?_⟩
  show o.uponIn (inR l) n P a K' Q ((o.semAt (some l) a.eval).run P w)
  rw [Oper.semAt_eq _ _ _ hd]
  exact uponIn_of hK _ h
theorem opIn_of (hno : ¬ LetsOut Q) (hd : noDefer ops = true) {i : Nat} {a : Act} {w : World} {K K' : Act → World → Prop} (hK : ∀ a w, K a w → K' a w) (h : wpOp P ops Q i K a w) : wpOpIn (inR l) n P ops Q i K' a w := by
  unfold wpOp at h
  unfold wpOpIn
  split at h
  · rename_i e; rw [e]; exact hK _ _ h
  · rename_i o e
    rw [e]
    split at h
    · rename_i hw; simp only [hw, if_true]; exact operIn_of (noDefer_spec hd e) hK (h.resolve_right (fun e => hno e.2))
    · rename_i hw; simp only [hw, if_false, Bool.false_eq_true]; exact ⟨fun _ _ => trivial, hK _ _ h⟩
theorem anyIn_of (hno : ¬ LetsOut Q) (hd : noDefer ops = true) : ∀ (fuel : Nat) (listed : Array Bool) (a : Act) (w : World), wpAny P md ops Q fuel listed a w → wpAnyIn (inR l) n P md ops Q fuel listed a w
  | 0, _, _, _, h => h
  | fuel + 1, _, _, _, h => ⟨h.1, fun i hi => opIn_of hno hd (fun a w => anyIn_of hno hd fuel _ a w) (h.2 i hi)⟩
theorem regionIn_of (hno : ¬ LetsOut Q) {id : Nat} {a : Act} {w : World} (hm : P.follows .mixedOrders = true) (hd : noDefer ops = true)
    (h : wpAny P .any ops Q ops.size (Array.replicate ops.size false) a { w with drawn := w.drawn + 1 }) : (Code.region id ops true).wpIn (inR l) n P Q a w :=
  wpIn_region_any hm (anyIn_of hno hd _ _ _ _ h)
/-- it reads, and calls what leaves the world alone -/
theorem regionIn_quiet (hno : ¬ LetsOut Q) {C : World → Prop} {id : Nat} {a : Act} {w : World} {L : List Oper} (hm : P.follows .mixedOrders = true) (hd : noDefer L.toArray = true) (hB : Region.lexB .any L.toArray = true) (hC : C { w with drawn := w.drawn + 1 })
    (h : wpQuiet P L.toArray C (fun a' => ∀ w', C w' → Q .normal a' w') L a) : (Code.region id L.toArray true).wpIn (inR l) n P Q a w := by
  refine regionIn_of hno hm hd ?_
  simp only [Region.lexB, Bool.and_eq_true] at hB
  refine wpAny_of_quiet (Q := fun a' => ∀ w', C w' → Q .normal a' w') (fun _ w' hw' h => h w' hw') _ _ _ _ hC ?_
  have := wpAnyQ_lex (C := C) (md := .any) hB.1 L 0 (Array.replicate L.toArray.size false) a (by simp) (by simpa using hB.2) h
  simpa using this
/-- it reads, and ends in one thing that writes -/
theorem regionIn_tail (hno : ¬ LetsOut Q) {id : Nat} {a : Act} {w : World} {L : List Oper} (N : Nat) (hm : P.follows .mixedOrders = true) (hd : noDefer L.toArray = true) (hB : Region.lexTailB .any L.toArray N = true)
    (h : wpStill P L.toArray { w with drawn := w.drawn + 1 } (fun a' => wpList P L.toArray Q (L.drop N) a' { w with drawn := w.drawn + 1 }) (L.take N) a) : (Code.region id L.toArray true).wpIn (inR l) n P Q a w := by
  simp only [Region.lexTailB, Bool.and_eq_true, decide_eq_true_eq] at hB
  obtain ⟨⟨⟨⟨hsel, hn⟩, hs⟩, hc⟩, hlex⟩ := hB
  have hn' : N < L.length := by simpa using hn
  have htl : (L.take N).length = N := by simp; omega
  have hdl : (L.drop N).length = L.toArray.size - N := by simp
  have inv0 : HeadInv .any L.toArray N (Array.replicate L.toArray.size false) :=
    ⟨by simp, fun j oj _ hl => (by rw [getD_replicate_false] at hl; cases hl), fun t _ ht => getD_in (by simpa using ht) (getD_replicate_false _ _)⟩
  have H := wpAnyL_lex (md := .any) (g := L.toArray.size - N) hsel hs hc hn (L.take N) 0 _ a (fun j hj => by
    have hj' : j < N := by rw [htl] at hj; exact hj
    simp [hj']) (by simpa using htl) inv0 (by rw [htl]; exact hlex) h
  refine regionIn_of hno hm hd ?_
  have := wpAny_of_head (Q' := Q) (g := L.toArray.size - N) (fun listed a' hL => by
    have := wpAny_of_seq (md := .any) (Q' := Q) (L.drop N) N listed a' { w with drawn := w.drawn + 1 } (fun j => by simp [List.getElem?_drop]) (by rw [hdl]; exact hL.1) hL.2
    rwa [hdl] at this) _ _ _ H
  rw [htl, show N + (L.toArray.size - N) = L.toArray.size by omega] at this
  exact this
end
end Go.Proofs.Ythjomknhbfplnaa
