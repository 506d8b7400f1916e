/- Texts in a row: OrdR, OrdL, SnY, Awk, ShTxt, TabP. -/
import Derived.Test.YtlenfiiocmchdaaGreatDoorMcI
/- Facts as a book; a commit without parents told by itself: order.read, met, isRight, Log; snap.Log. -/
namespace Go.Proofs.YtlenfiiocmchdaaGreatDoor
open Go.RowKit Book Pap Ojt Sn
set_option linter.unusedVariables false
set_option linter.unusedSimpArgs false

def FcsAt (w : World) (a : Option Addr) (n : Nat) (l : List Fc) : Prop :=
  l.length = n ∧ n ≤ 1000000 ∧ (n = 0 ∨ ∃ b off, a = some ⟨b, off, none⟩ ∧ ∀ j, j < n → w.cell? ⟨b, off + j * 3, none⟩ = some (.string (l.getD j noFc).id) ∧ w.cell? ⟨b, off + j * 3 + 1, none⟩ = some (.int .i64 (l.getD j noFc).h) ∧ w.cell? ⟨b, off + j * 3 + 2, none⟩ = some (.slice (l.getD j noFc).pa (l.getD j noFc).pn (l.getD j noFc).pc))
theorem FcsAt.later {w w' : World} {a : Option Addr} {n : Nat} {l : List Fc} (h : FcsAt w a n l) (hb : Below w.heap.size w w') : FcsAt w' a n l := by
  obtain ⟨h1, h2, h3⟩ := h
  refine ⟨h1, h2, h3.imp id ?_⟩
  rintro ⟨b, off, ha, hc⟩
  refine ⟨b, off, ha, fun j hj => ?_⟩
  obtain ⟨c0, c1, c2⟩ := hc j hj
  exact ⟨(hb.cell (World.block_lt_of_cell? w _ c0)).trans c0, (hb.cell (World.block_lt_of_cell? w _ c1)).trans c1, (hb.cell (World.block_lt_of_cell? w _ c2)).trans c2⟩
theorem own_fcs {w : World} {B : Nat} {v : Value} {n : Nat} {l : List Fc} (h : w.ownsRow B 94 3 v n (fvals l)) (hm : n ≤ 1000000) : ∃ a c, v = .slice a n c ∧ FcsAt w a n l := by
  have h' := h
  have hl := fvals_length l
  have hln : l.length = n := by have := h.1; omega
  rcases h.2 with ⟨rfl, h0⟩ | ⟨g, cap, cur, rfl, hb, hg, hn, hc, hsz, htk⟩
  · exact ⟨none, 0, by rw [h0], hln, hm, .inl h0⟩
  · refine ⟨_, _, rfl, hln, hm, .inr ⟨g, 0, rfl, fun j hj => ?_⟩⟩
    have hj' : j < l.length := by omega
    have c0 := h'.cellAt (j * 3 + 0) (by omega)
    have c1 := h'.cellAt (j * 3 + 1) (by omega)
    have c2 := h'.cellAt (j * 3 + 2) (by omega)
    rw [fvals_get l j 0 hj' (by omega)] at c0
    rw [fvals_get l j 1 hj' (by omega)] at c1
    rw [fvals_get l j 2 hj' (by omega)] at c2
    rw [Nat.zero_add]
    exact ⟨c0, c1, c2⟩
/-! a Go map of facts -/
def datA : Option Addr → DataW Unit
  | none => .nil
  | some ⟨b, o, s⟩ => .agg [.lit (.int .i64 b), .lit (.int .i64 o), match s with | none => .nil | some k => .lit (.int .i64 k)]
theorem datA_inj (x y : Option Addr) (h : datA x = datA y) : x = y := by
  rcases x with _ | ⟨b, o, s⟩ <;> rcases y with _ | ⟨b', o', s'⟩
  · rfl
  · cases h
  · cases h
  · unfold datA at h
    injection h with h
    injection h with h1 h
    injection h with h2 h
    injection h with h3 _
    injection h1 with h1
    injection h1 with _ h1
    injection h2 with h2
    injection h2 with _ h2
    have e1 : b = b' := by omega
    have e2 : o = o' := by omega
    have e3 : s = s' := by
      rcases s with _ | k <;> rcases s' with _ | k'
      · rfl
      · cases h3
      · cases h3
      · injection h3 with h3
        injection h3 with _ h3
        have : k = k' := by omega
        rw [this]
    rw [e1, e2, e3]
def datF (f : Fc) : DataW Unit := .agg [datS f.id, .lit (.int .i64 f.h), datA f.pa, .lit (.int .i64 f.pn), .lit (.int .i64 f.pc)]
theorem valF_inj (x y : Fc) (h : valF x = valF y) : x = y := by
  obtain ⟨a, b, c, d, e⟩ := x
  obtain ⟨a', b', c', d', e'⟩ := y
  simp [valF, fcs] at h
  obtain ⟨h1, h2, h3, h4, h5⟩ := h
  subst h1 h2 h3 h4 h5; rfl
theorem datF_inj (x y : Fc) (h : datF x = datF y) : x = y := by
  obtain ⟨a, b, c, d, e⟩ := x
  obtain ⟨a', b', c', d', e'⟩ := y
  unfold datF at h
  injection h with h
  injection h with h1 h
  injection h with h2 h
  injection h with h3 h
  injection h with h4 h
  injection h with h5 _
  have e1 := datS_inj _ _ h1
  have e3 := datA_inj _ _ h3
  injection h2 with h2
  injection h2 with _ h2
  injection h4 with h4
  injection h4 with _ h4
  injection h5 with h5
  injection h5 with _ h5
  simp only at e1 e3 h2 h4 h5
  have e4 : d = d' := by omega
  have e5 : e = e' := by omega
  rw [e1, h2, e3, e4, e5]
abbrev FcMap := MapFn (α := Fc) Tryz.prog 9 valF datF
theorem zeroFc (w : World) : (zeroValue 94).run Tryz.prog w = .ok (valF noFc) w := by
  obtain ⟨i, hi, hz, -⟩ := info_parts Tryz.infoFact
  have e : valF noFc = .agg #[.string ⟨#[]⟩, .int .i64 0, .slice none 0 0] := rfl
  simp [zeroValue, typeInfo, hi, hz, e]
theorem fcMap_get2 {w : World} {m n : Nat} {f : ByteArray → Option Fc} (h : FcMap w m n f) (s : ByteArray) (hs : s.size ≤ maxLen) : (Instr.lookup 183 (.map (some m)) (.string s) true).run Tryz.prog w = .ok (.tuple #[valF ((f s).getD noFc), .bool (f s).isSome]) w :=
  MapFn.get2 Tryz.underlying9 Tryz.underlying183 valF_inj datF_inj (z0 := noFc) zeroFc h s hs
/-- facts by their ids -/
def tabF (l : List Fc) : ByteArray → Option Fc := fun q => l.find? (fun f => decide (f.id = q))
theorem tabF_snoc {l : List Fc} {f : Fc} (h : f.id ∉ l.map (·.id)) : tabF (l ++ [f]) = fun q => if q = f.id then some f else tabF l q := by
  funext q
  unfold tabF
  rw [List.find?_append]
  by_cases hq : q = f.id
  · subst hq
    rw [if_pos rfl]
    have : l.find? (fun g => decide (g.id = f.id)) = none := List.find?_eq_none.2 (fun g hg => by
      simp only [decide_eq_true_eq]
      exact fun e => h (List.mem_map.2 ⟨g, hg, e⟩))
    rw [this]
    simp
  · rw [if_neg hq]
    have : [f].find? (fun g => decide (g.id = q)) = none := List.find?_eq_none.2 (fun g hg => by
      rw [List.mem_singleton.1 hg]
      simp only [decide_eq_true_eq]
      exact fun e => hq e.symm)
    rw [this]
    cases l.find? (fun g => decide (g.id = q)) <;> rfl
theorem tabF_none {l : List Fc} {q : ByteArray} (h : q ∉ l.map (·.id)) : tabF l q = none := List.find?_eq_none.2 (fun g hg => by
  simp only [decide_eq_true_eq]
  exact fun e => h (List.mem_map.2 ⟨g, hg, e⟩))
set_option maxRecDepth 100000 in
set_option maxHeartbeats 8000000 in
theorem read_any (a : Option Addr) (n c : Nat) (l : List Fc) (w : World) (h : FcsAt w a n l) (hnd : (l.map (·.id)).Nodup) (hsz : ∀ f ∈ l, f.id.size ≤ maxLen) :
    Calls Tryz.prog 110 #[.slice a n c] w fun e w' => ∃ m, e = .returned (.tuple #[.map (some m), .int .i64 0]) ∧ FcMap w' m n (tabF l) ∧ w.heap.size ≤ m ∧ Below w.heap.size w w' := by
  have hmk : ∀ (T : TypeId) (W : World), (Instr.makeMap T none).run Tryz.prog W = .ok (.map (some W.heap.size)) (W.alloc (.map #[] 0)) := fun T W => run_makeMap T W
  have HF := hid h
  have HL := hid h.1
  have hn6 := h.2.1
  have HND := hid hnd
  have HSZ := hid hsz
  have HC0 : Hid (FcMap (w.alloc (.map #[] 0)) w.heap.size 0 (tabF [])) := MapFn.made w
  have HB0 : Hid (Below w.heap.size w (w.alloc (.map #[] 0))) := (Below.refl _ _).alloc (Nat.le_refl _) _
  clear h hnd hsz
  go_enter Tryz.func110, Tryz.ntmps110
  go_upto_region 2 with fail
  generalize (w.alloc (.map #[] 0)) = w1 at HC0 HB0 ⊢
  generalize hm : w.heap.size = m at HC0 HB0 ⊢
  have HM := hid hm
  clear hm
  go_wp2_with fail
  go_loopw [12] (fun iv wr => ∃ i : Nat, i ≤ n ∧ iv = .int .i64 i ∧ Hid (FcMap wr m i (tabF (l.take i))) ∧ Hid (Below m w wr)) (fun iv _ => n - (intOf iv).toNat)
  case atStart => exact ⟨0, Nat.zero_le _, rfl, HC0, HB0⟩
  case round =>
    obtain ⟨i, hi, rfl, HC, HB⟩ := hrel
    have hszr := HB.out.size
    rw [HM.out] at hszr
    by_cases hlt : i < n
    · have ci : (i : Int) < n := by omega
      have ci0 : (0 : Int) ≤ (i : Int) := by omega
      obtain ⟨-, -, h3⟩ := HF.out.later (by rw [HM.out]; exact HB.out)
      obtain ⟨eb, eoff, rfl, hcell⟩ := h3.resolve_left (by omega)
      obtain ⟨q0, q1, q2⟩ := hcell i hlt
      have hil : i < l.length := by rw [HL.out]; exact hlt
      have hT : l.take (i + 1) = l.take i ++ [l.getD i noFc] := by
        rw [List.take_succ_eq_append_getElem hil, List.getD_eq_getElem?_getD, List.getElem?_eq_getElem hil]; rfl
      have hin : (l.getD i noFc).id ∉ (l.take i).map (·.id) := by
        have h1 := HND.out
        rw [← List.take_append_drop (i + 1) l, hT, List.map_append, List.map_append] at h1
        have h2 := (List.nodup_append.1 h1).1
        have h3 := (List.nodup_append.1 h2).2.2
        exact fun hh => h3 _ hh _ (by simp) rfl
      have HT2 : Hid (tabF (l.take (i + 1)) = fun q => if q = (l.getD i noFc).id then some (l.getD i noFc) else tabF (l.take i) q) := by
        show _ = _
        rw [hT]; exact tabF_snoc hin
      have hno := tabF_none hin
      have hids := HSZ.out (l.getD i noFc) (by rw [List.getD_eq_getElem?_getD, List.getElem?_eq_getElem hil]; exact List.getElem_mem hil)
      obtain ⟨f, hf⟩ : ∃ f, l.getD i noFc = f := ⟨_, rfl⟩
      rw [hf] at q0 q1 q2 HT2 hno hids
      have HNO := hid hno
      obtain ⟨fi, fh, fa, fn, fc⟩ := f
      simp only at q0 q1 q2 hids
      clear hf hcell h3 hT hin hil hno
      go_upto_region 5 with fail
      have HX1 : Hid (Blk (wr.alloc (.cells #[.string fi, .int .i64 fh, .slice fa fn fc] 94)) wr.heap.size 94 #[.string fi, .int .i64 fh, .slice fa fn fc]) := Blk.new wr _ _
      have HC1 : Hid (FcMap (wr.alloc (.cells #[.string fi, .int .i64 fh, .slice fa fn fc] 94)) m i (tabF (l.take i))) := HC.out.later ((Below.refl _ _).alloc (Nat.le_refl _) _)
      have HB1 : Hid (Below m w (wr.alloc (.cells #[.string fi, .int .i64 fh, .slice fa fn fc] 94))) := HB.out.alloc hszr _
      have hs1 : m ≤ (wr.alloc (.cells #[.string fi, .int .i64 fh, .slice fa fn fc] 94)).heap.size := by rw [World.size_alloc]; omega
      clear q0 q1 q2 HC HB
      generalize (wr.alloc (.cells #[.string fi, .int .i64 fh, .slice fa fn fc] 94)) = w4 at HX1 HC1 HB1 hs1 ⊢
      generalize wr.heap.size = g4 at HX1 ⊢
      have k0 : w4.cell? ⟨g4, 0, none⟩ = some (.string fi) := Blk.cell HX1.out 0
      have hlk := fcMap_get2 HC1.out fi hids
      have HNO' : tabF (l.take i) fi = none := HNO.out
      rw [HNO'] at hlk
      have ev : valF ((none : Option Fc).getD noFc) = .agg #[.string ⟨#[]⟩, .int .i64 0, .slice none 0 0] := rfl
      rw [ev] at hlk
      simp only [Option.isSome_none] at hlk
      clear ev HNO' HNO
      go_upto_region 6 with fail
      have HX5 : Hid (Blk (w4.alloc (.cells #[.string ⟨#[]⟩, .int .i64 0, .slice none 0 0] 94)) g4 94 #[.string fi, .int .i64 fh, .slice fa fn fc]) := Blk.alloc HX1.out _
      have HC5 : Hid (FcMap (w4.alloc (.cells #[.string ⟨#[]⟩, .int .i64 0, .slice none 0 0] 94)) m i (tabF (l.take i))) := HC1.out.later ((Below.refl _ _).alloc (Nat.le_refl _) _)
      have HB5 : Hid (Below m w (w4.alloc (.cells #[.string ⟨#[]⟩, .int .i64 0, .slice none 0 0] 94))) := HB1.out.alloc hs1 _
      have hs5 : m ≤ (w4.alloc (.cells #[.string ⟨#[]⟩, .int .i64 0, .slice none 0 0] 94)).heap.size := by rw [World.size_alloc]; omega
      clear hlk k0 HX1 HC1 HB1 hs1
      generalize (w4.alloc (.cells #[.string ⟨#[]⟩, .int .i64 0, .slice none 0 0] 94)) = w5 at HX5 HC5 HB5 hs5 ⊢
      have k0 : w5.cell? ⟨g4, 0, none⟩ = some (.string fi) := Blk.cell HX5.out 0
      have k1 : w5.cell? ⟨g4, 1, none⟩ = some (.int .i64 fh) := Blk.cell HX5.out 1
      have k2 : w5.cell? ⟨g4, 2, none⟩ = some (.slice fa fn fc) := Blk.cell HX5.out 2
      have him : i < maxLen := by unfold maxLen; omega
      go_wp2_with (first
        | (at_mapUpdate; refine wpList_mapFn_set rfl (.tmp 24) (.tmp 26) (.tmp 27) 183 rfl Tryz.underlying9 Tryz.underlying183 valF_inj HC5.out him fi hids ⟨fi, fh, fa, fn, fc⟩ rfl rfl rfl ?_; intro w6 hm6 hg6; have HM6 := hid hm6; have HG6 := hid hg6; clear hm6 hg6)
        | go_in)
      have HM7 : Hid (FcMap w6 m (i + 1) (tabF (l.take (i + 1)))) := by
        show FcMap _ _ _ _
        rw [HT2.out]; exact HM6.out
      have HB7 : Hid (Below m w w6) := HB5.out.grown HG6.out hs5 (fun j hj => by cases hj; exact Nat.le_refl _)
      go_roundw
      case rel => first | exact ⟨i + 1, by omega, by go_num, HM7, HB7⟩ | ((repeat apply Exists.intro); exact ⟨⟨i + 1, by omega, by go_num, HM7, HB7⟩, rfl⟩)
      case measure => simp [intOf]; omega
    · obtain rfl : i = n := by omega
      have ci : ¬ (i : Int) < i := by omega
      have HE : Hid (FcMap wr m i (tabF l)) := by
        have h := HC.out
        rw [List.take_of_length_le (by rw [HL.out]; exact Nat.le_refl _)] at h; exact h
      go_wp2_with fail
      go_ret2
      rw [HM.out]
      exact ⟨m, rfl, HE.out, Nat.le_refl _, HB.out⟩
end Go.Proofs.YtlenfiiocmchdaaGreatDoor
/- A commit without parents told by itself: isRight, met, Log; snap.Log. -/
namespace Go.Proofs.YtlenfiiocmchdaaGreatDoor
open Go.RowKit Book Pap Ojt Sn Go.Sort
set_option linter.unusedVariables false
set_option linter.unusedSimpArgs false

set_option maxRecDepth 100000 in
set_option maxHeartbeats 4000000 in
theorem isRight0_any (mv : Value) (f : Fc) (hf : f.pn = 0) (w : World) : Calls Tryz.prog 112 #[mv, valF f] w fun e w' => e = .returned (.bool (f.h == 0)) ∧ Below w.heap.size w w' := by
  obtain ⟨fi, fh, fa, fn, fc⟩ := f
  simp only at hf ⊢
  subst hf
  have e1 : valF ⟨fi, fh, fa, 0, fc⟩ = .agg #[.string fi, .int .i64 fh, .slice fa 0 fc] := rfl
  rw [e1]
  clear e1
  have HX : Hid (Blk (w.alloc (.cells #[.string fi, .int .i64 fh, .slice fa 0 fc] 94)) w.heap.size 94 #[.string fi, .int .i64 fh, .slice fa 0 fc]) := Blk.new w _ _
  have HB : Hid (Below w.heap.size w (w.alloc (.cells #[.string fi, .int .i64 fh, .slice fa 0 fc] 94))) := (Below.refl _ _).alloc (Nat.le_refl _) _
  have HH := hid (fun W => objheight_any none 0 0 [] W ⟨rfl, .inl rfl⟩ (by omega) (fun z hz => by cases hz))
  have e0 : heightL [] = 0 := rfl
  rw [e0] at HH
  clear e0
  go_enter Tryz.func112, Tryz.ntmps112
  go_upto_region 1 with fail
  generalize (w.alloc (.cells #[.string fi, .int .i64 fh, .slice fa 0 fc] 94)) = w1 at HX HB ⊢
  generalize hg : w.heap.size = g at HX HB ⊢
  have k1 : w1.cell? ⟨g, 1, none⟩ = some (.int .i64 fh) := Blk.cell HX.out 1
  have k2 : w1.cell? ⟨g, 2, none⟩ = some (.slice fa 0 fc) := Blk.cell HX.out 2
  go_wp2_with fail
  go_loopw [11, 5] (fun iv hv wr => iv = .int .i64 0 ∧ hv = .slice none 0 0 ∧ w1 = wr) (fun iv _ _ => 0)
  case atStart => exact ⟨rfl, rfl, rfl⟩
  case round =>
    obtain ⟨rfl, rfl, rfl⟩ := hrel
    go_wp2_with fail
    go_quiet (first | (go_at_call 75; exact Calls.quiet_of_same ((HH.out _).mono fun _ _ h => ⟨h.1, h.2.symm⟩)))
    go_wp2_with fail
    go_ret
    exact ⟨rfl, by rw [hg]; exact below_drewN HB.out _⟩
theorem compareBytes_self : ∀ l : List UInt8, Lib.compareBytes l l = 0
  | [] => rfl
  | a :: l => by
    have h : ¬ a < a := UInt8.lt_irrefl a
    rw [Lib.compareBytes, if_neg h, if_neg h, compareBytes_self l]
theorem cmpZ_self (f : Fc) : cmpZ f f = 0 := by
  unfold cmpZ orZ
  rw [compareBytes_self]
  have : Lib.compareInt f.h f.h = 0 := by unfold Lib.compareInt; simp
  rw [this]; rfl
/-- one fact sorted -/
theorem sort1_any (f : Fc) (B : Nat) (v : Value) (w : World) (h : w.ownsRow B 94 3 v 1 (fvals [f])) :
    Calls Tryz.prog 175 #[v, .func (.func 176) #[] #[]] w fun e w' => e = .returned (.tuple #[]) ∧ w'.ownsRow B 94 3 v 1 (fvals [f]) ∧ w.grownBy w' v.ownBlock := by
  have hc : ∀ x y : Unit, (fun _ _ => cmpZ f f : Unit → Unit → Int) x y = 0 := fun _ _ => cmpZ_self f
  have hSW : Go.Sort.SWO (Go.Proofs.ltOf (fun _ _ : Unit => cmpZ f f)) := by
    refine ⟨fun x => ?_, fun x y z h1 h2 => ?_, fun x y z h1 h2 => ?_⟩
    · simp [ltOf, cmpZ_self]
    · unfold ltOf at *
      simp only [cmpZ_self, decide_eq_true_eq] at *
      omega
    · unfold ltOf at *
      simp only [cmpZ_self] at *
      decide
  refine (sortK_own Tryz.sortF175 3 (by decide) Tryz.isAgg94 Tryz.sizeOf94 (fun _ : Unit => fcs f) (fun x => rfl) (fun x u hu => by simp [fcs] at hu; rcases hu with rfl | rfl | rfl <;> rfl) (fun _ _ => cmpZ f f) hSW (fun _ _ _ _ => rfl) 176 #[] B 1 v [()] w
    (enters_of Tryz.func176 (by kernel_rfl) rfl) (fun W hg x y => ?_) h (by omega)).mono ?_
  · refine (met1_any f f W).mono ?_
    rintro e w' ⟨rfl, q, os, rfl⟩
    exact ⟨rfl, q, os, rfl⟩
  · rintro e w' ⟨rfl, h1, h2⟩
    refine ⟨rfl, ?_, h2⟩
    have : ([()] : List Unit).mergeSort (fun x y => !(ltOf (fun _ _ : Unit => cmpZ f f)) y x) = [()] := by simp
    rw [this] at h1
    exact h1
abbrev BoMap := MapFn (α := Bool) Tryz.prog 9 Value.bool (fun b => DataW.lit (.bool b))
theorem valB_inj (x y : Bool) (h : Value.bool x = Value.bool y) : x = y := by injection h
theorem wpList_mapFn_ins {α : Type} {P : Program} {k : TypeId} {val : α → Value} {dat : α → DataW Unit} {w : World} {m n : Nat} {f : ByteArray → Option α} {ops : Array Oper} {rest : List Oper} {o : Oper} {a : Act} {Q : Exit → Act → World → Prop} (hg : o.guard = none) (mo xo vo : Operand) (t : TypeId) (hop : o.op = Op.insert t mo xo vo)
    (hk : P.underlying k = some .string) {e : TypeId} (ht : P.underlying t = some (.map k e)) (hi : ∀ x y, val x = val y → x = y) (h : MapFn P k val dat w m n f) (hn : n < maxLen) (s : ByteArray) (hs : s.size ≤ maxLen) (x : α)
    (hm : a.eval mo = .map (some m)) (hx : a.eval xo = .string s) (hv : a.eval vo = val x)
    (hK : ∀ w', MapFn P k val dat w' m (n + 1) (fun q => if q = s then some x else f q) → w.grownBy w' (some m) → wpList P ops Q rest (a.put o.dst undef) w') :
    wpList P ops Q (o :: rest) a w := by
  refine wpList_plain hg fun K' hK' => ?_
  obtain ⟨w', hrun, r1, r2⟩ := h.set hk ht hi hn s hs x
  unfold Oper.wp
  simp [execOp, hop, hm, hx, hv, hrun, Result.andThen]
  exact hK' _ _ (hK w' r1 r2)
set_option maxRecDepth 100000 in
set_option maxHeartbeats 8000000 in
theorem met0_any (m : Nat) (f : Fc) (hf : f.pn = 0) (hsz : f.id.size ≤ maxLen) (w : World) (h : FcMap w m 1 (tabF [f])) :
    Calls Tryz.prog 111 #[.map (some m), .string f.id] w fun e w' => ∃ a c, e = .returned (.tuple #[.slice a 1 c, .int .i64 0]) ∧ w'.ownsRow w.heap.size 94 3 (.slice a 1 c) 1 (fvals [f]) ∧ Below w.heap.size w w' := by
  have hmk : ∀ (T : TypeId) (W : World), (Instr.makeMap T none).run Tryz.prog W = .ok (.map (some W.heap.size)) (W.alloc (.map #[] 0)) := fun T W => run_makeMap T W
  have hlk := fcMap_get2 h f.id hsz
  have ht : tabF [f] f.id = some f := by unfold tabF; simp
  rw [ht] at hlk
  obtain ⟨fi, fh, fa, fn, fc⟩ := f
  simp only at hf hsz hlk ⊢
  subst hf
  have ev : valF ((some (⟨fi, fh, fa, 0, fc⟩ : Fc)).getD noFc) = .agg #[.string fi, .int .i64 fh, .slice fa 0 fc] := rfl
  rw [ev] at hlk
  simp only [Option.isSome_some] at hlk
  clear ev ht h
  have HX : Hid (Blk (w.alloc (.cells #[.string fi, .int .i64 fh, .slice fa 0 fc] 94)) w.heap.size 94 #[.string fi, .int .i64 fh, .slice fa 0 fc]) := Blk.new w _ _
  have HB : Hid (Below w.heap.size w (w.alloc (.cells #[.string fi, .int .i64 fh, .slice fa 0 fc] 94))) := (Below.refl _ _).alloc (Nat.le_refl _) _
  go_enter Tryz.func111, Tryz.ntmps111
  go_upto_region 2 with fail
  generalize (w.alloc (.cells #[.string fi, .int .i64 fh, .slice fa 0 fc] 94)) = w1 at HX HB ⊢
  clear hlk
  have hgl : w.heap.size ≤ w1.heap.size := HB.out.size
  have hg1 : w.heap.size < w1.heap.size := Blk.lt HX.out
  have HM2 : Hid (BoMap (w1.alloc (.map #[] 0)) w1.heap.size 0 (fun _ => none)) := MapFn.made w1
  have HX2 : Hid (Blk (w1.alloc (.map #[] 0)) w.heap.size 94 #[.string fi, .int .i64 fh, .slice fa 0 fc]) := Blk.alloc HX.out _
  have HB2 : Hid (Below w.heap.size w (w1.alloc (.map #[] 0))) := HB.out.alloc hgl _
  generalize hg : w.heap.size = g at HX HX2 hgl hg1 HB2 ⊢
  go_upto_region 5 with (first
    | (refine wpList_mapFn_ins rfl (.tmp 23) (.tmp 24) (.const (.bool true)) 248 rfl Tryz.underlying9 Tryz.underlying248 valB_inj HM2.out (by unfold maxLen; omega) fi hsz true rfl rfl rfl ?_; intro w6 hm6 hg6; have HG6 := hid hg6; clear hm6 hg6)
    | go_in)
  have HX6 : Hid (Blk w6 g 94 #[.string fi, .int .i64 fh, .slice fa 0 fc]) := (HG6.out.block g (by rw [World.size_alloc]; omega) (by intro e; cases e; omega)).trans HX2.out
  have HB6 : Hid (Below g w w6) := HB2.out.grown HG6.out (by rw [World.size_alloc]; omega) (fun j hj => by cases hj; exact hgl)
  have hs6 : g ≤ w6.heap.size := by have := HG6.out.size; rw [World.size_alloc] at this; omega
  clear HG6 HM2 HX2 HB2 HX HB
  have k0 : w6.cell? ⟨g, 0, none⟩ = some (.string fi) := Blk.cell HX6.out 0
  have k1 : w6.cell? ⟨g, 1, none⟩ = some (.int .i64 fh) := Blk.cell HX6.out 1
  have k2 : w6.cell? ⟨g, 2, none⟩ = some (.slice fa 0 fc) := Blk.cell HX6.out 2
  go_upto_region 6 with fail
  have hl6 : w6.heap.size < (w6.alloc (.cells #[.string fi, .int .i64 fh, .slice fa 0 fc] 94)).heap.size := by rw [World.size_alloc]; omega
  have HX7 : Hid (Blk (w6.alloc (.cells #[.string fi, .int .i64 fh, .slice fa 0 fc] 94)) w6.heap.size 94 #[.string fi, .int .i64 fh, .slice fa 0 fc]) := Blk.new w6 _ _
  have HB7 : Hid (Below g w (w6.alloc (.cells #[.string fi, .int .i64 fh, .slice fa 0 fc] 94))) := HB6.out.alloc hs6 _
  generalize (w6.alloc (.cells #[.string fi, .int .i64 fh, .slice fa 0 fc] 94)) = w7 at HX7 HB7 hl6 ⊢
  generalize w6.heap.size = e7 at HX7 hs6 hl6 ⊢
  clear k0 k1 k2 HX6 HB6
  have k2 : w7.cell? ⟨e7, 2, none⟩ = some (.slice fa 0 fc) := Blk.cell HX7.out 2
  have HOWN : Hid (w7.ownsRow g 94 3 (.slice (some ⟨e7, 0, none⟩) 1 1) 1 (fvals [⟨fi, fh, fa, 0, fc⟩])) :=
    ⟨rfl, .inr ⟨e7, 1, _, rfl, hs6, HX7.out, Nat.le_refl _, by unfold maxLen; omega, rfl, rfl⟩⟩
  go_wp2_with fail
  go_loopw [10, 9] (fun iv av wr => ∃ k : Nat, k ≤ 1 ∧ iv = .int .i64 k ∧ av = .slice (some ⟨e7, 0, none⟩) 1 1 ∧ w7 = wr) (fun iv _ _ => 1 - (intOf iv).toNat)
  case atStart => exact ⟨0, by omega, rfl, rfl, rfl⟩
  case round =>
    obtain ⟨k, hk, rfl, rfl, rfl⟩ := hrel
    rcases (by omega : k = 0 ∨ k = 1) with rfl | rfl
    · go_wp2_with fail
      go_loopw [40, 9] (fun jv av wr => jv = .int .i64 0 ∧ av = .slice (some ⟨e7, 0, none⟩) 1 1 ∧ w7 = wr) (fun _ _ _ => 0)
      case atStart => exact ⟨rfl, rfl, rfl⟩
      case round =>
        obtain ⟨rfl, rfl, rfl⟩ := hrel
        go_wp2_with fail
        go_roundw
        case rel => first | exact ⟨1, by omega, by first | rfl | go_num, rfl, by first | rfl | trivial⟩ | exact ⟨⟨1, by omega, by first | rfl | go_num, rfl, by first | rfl | trivial⟩, rfl⟩
        case measure => simp [intOf]
    · have HSO := hid (sort1_any ⟨fi, fh, fa, 0, fc⟩ g _ w7 HOWN.out)
      go_wp2_with fail
      refine HSO.out.mono ?_; rintro e w9 ⟨rfl, ho9, hg9⟩
      have HO9 := hid ho9
      have HB9 : Hid (Below g w w9) := HB7.out.grown hg9 (Nat.le_trans hs6 (Nat.le_of_lt hl6)) (fun j hj => by cases hj; exact hs6)
      clear ho9 hg9 HSO
      go_wp2_with fail
      go_ret2
      rw [hg]
      exact ⟨_, _, rfl, HO9.out, HB9.out⟩
set_option maxRecDepth 100000 in
set_option maxHeartbeats 8000000 in
theorem log0_any (a : Option Addr) (c : Nat) (f : Fc) (hf : f.pn = 0) (hh : f.h = 0) (hsz : f.id.size ≤ maxLen) (w : World) (h : FcsAt w a 1 [f]) :
    Calls Tryz.prog 69 #[.slice a 1 c, .string f.id] w fun e w' => ∃ a' c', e = .returned (.tuple #[.slice a' 1 c', .int .i64 0]) ∧ w'.ownsRow w.heap.size 9 1 (.slice a' 1 c') 1 (svals [f.id]) ∧ Below w.heap.size w w' := by
  obtain ⟨i0, hi0, hz0, hz1, hz2⟩ := info_parts Tryz.infoS
  have HR := hid (read_any a 1 c [f] w h (by simp) (fun g hg => by rw [List.mem_singleton.1 hg]; exact hsz))
  have HFN := hid hf
  have HHH := hid hh
  clear h
  go_enter Tryz.func69, Tryz.ntmps69
  go_wp2_with fail
  refine HR.out.mono ?_; rintro e w1 ⟨m, rfl, hm1, hml, hb1⟩
  have HM1 := hid hm1
  have HB1 := hid hb1
  have hs1 : w.heap.size ≤ w1.heap.size := hb1.size
  have HME := hid (met0_any m f hf hsz w1 hm1)
  clear hm1 hb1 HR hf hh
  go_wp2_with fail
  refine HME.out.mono ?_; rintro e w2 ⟨fa, fc, rfl, ho2, hb2⟩
  have HB2 : Hid (Below w.heap.size w w2) := HB1.out.trans (hb2.mono hs1)
  obtain ⟨fa', fc', hfe, hF⟩ := own_fcs ho2 (by omega)
  injection hfe with e1 e2 e3
  subst e1; subst e3
  obtain ⟨b, off, rfl, hc⟩ := hF.2.2.resolve_left (by omega)
  obtain ⟨q0, q1, q2⟩ := hc 0 (by omega)
  have g0 : ([f] : List Fc).getD 0 noFc = f := rfl
  rw [g0] at q0 q1 q2
  have hs2 : w.heap.size ≤ w2.heap.size := HB2.out.size
  have HQ : Hid (w2.cell? ⟨b, off, none⟩ = some (.string f.id) ∧ w2.cell? ⟨b, off + 1, none⟩ = some (.int .i64 f.h) ∧ w2.cell? ⟨b, off + 2, none⟩ = some (.slice f.pa f.pn f.pc)) := by
    refine ⟨?_, ?_, ?_⟩
    · simpa using q0
    · simpa using q1
    · simpa using q2
  clear q0 q1 q2 hc hF ho2 hb2 HME HM1 HB1 g0 e2
  go_wp2_with fail
  go_loopw [31, 9] (fun iv sv wr => ∃ k : Nat, k ≤ 1 ∧ iv = .int .i64 k ∧ Hid (Below w2.heap.size w2 wr) ∧ ((k = 0 ∧ sv = .slice none 0 0) ∨ (k = 1 ∧ ∃ sa sc, sv = .slice sa 1 sc ∧ Hid (wr.ownsRow w.heap.size 9 1 (.slice sa 1 sc) 1 (svals [f.id]))))) (fun iv _ _ => 1 - (intOf iv).toNat)
  case atStart => exact ⟨0, by omega, rfl, Below.refl _ _, .inl ⟨rfl, rfl⟩⟩
  case round =>
    obtain ⟨k, hk, rfl, HBR, ⟨rfl, rfl⟩ | ⟨rfl, sa, sc, rfl, HO⟩⟩ := hrel
    · obtain ⟨c0, c1, c2⟩ := HQ.out
      have q0 := (HBR.out.cell (World.block_lt_of_cell? w2 _ c0)).trans c0
      have q1 := (HBR.out.cell (World.block_lt_of_cell? w2 _ c1)).trans c1
      have q2 := (HBR.out.cell (World.block_lt_of_cell? w2 _ c2)).trans c2
      have hsr := HBR.out.size
      clear c0 c1 c2
      go_upto_region 11 with fail
      have HX : Hid (Blk (wr.alloc (.cells #[.string f.id, .int .i64 f.h, .slice f.pa f.pn f.pc] 94)) wr.heap.size 94 #[.string f.id, .int .i64 f.h, .slice f.pa f.pn f.pc]) := Blk.new wr _ _
      have HBX : Hid (Below w2.heap.size w2 (wr.alloc (.cells #[.string f.id, .int .i64 f.h, .slice f.pa f.pn f.pc] 94))) := HBR.out.alloc hsr _
      clear q0 q1 q2 HBR
      generalize (wr.alloc (.cells #[.string f.id, .int .i64 f.h, .slice f.pa f.pn f.pc] 94)) = w4 at HX HBX ⊢
      generalize wr.heap.size = g4 at HX hsr ⊢
      have k0 : w4.cell? ⟨g4, 0, none⟩ = some (.string f.id) := Blk.cell HX.out 0
      have k1 : w4.cell? ⟨g4, 1, none⟩ = some (.int .i64 f.h) := Blk.cell HX.out 1
      have k2 : w4.cell? ⟨g4, 2, none⟩ = some (.slice f.pa f.pn f.pc) := Blk.cell HX.out 2
      have HIR : Hid (Calls Tryz.prog 112 #[.map (some m), .agg #[.string f.id, .int .i64 f.h, .slice f.pa f.pn f.pc]] w4 fun e w' => e = .returned (.bool true) ∧ Below w4.heap.size w4 w') := by
        have h := isRight0_any (.map (some m)) f HFN.out w4
        rw [HHH.out] at h
        exact h
      go_wp2_with fail
      refine HIR.out.mono ?_; rintro e w5 ⟨rfl, hb5⟩
      have HX5 : Hid (Blk w5 g4 94 #[.string f.id, .int .i64 f.h, .slice f.pa f.pn f.pc]) := (hb5.block g4 (Blk.lt HX.out)).trans HX.out
      have HB5 : Hid (Below w2.heap.size w2 w5) := below_then HBX.out hb5
      have hs5 := HB5.out.size
      have k0' : w5.cell? ⟨g4, 0, none⟩ = some (.string f.id) := Blk.cell HX5.out 0
      clear k0 k1 k2 hb5 HIR HX HBX
      go_wp2_with (first
        | (at_builtin; refine wpList_append_own _ rfl (.tmp 39) (.tmp 42) 56 rfl w.heap.size 9 i0 (.string ⟨#[]⟩) 1 16 Tryz.underlying56 hi0 hz0 hz1 hz2 rfl (by decide) (.slice none 0 0) _ _ rfl (World.ownsRow_nil _ _ _ _) ⟨w5.heap.size, 0, none⟩ 1 1 [.string f.id] rfl rfl (cellNew1 _ _ _) (one_bytes rfl) (by unfold maxLen; omega) (by omega) (by rw [World.size_alloc]; omega) ?_; intro v' w9 hown' hgrow _; have HOWN := hid hown'; have HGR := hid hgrow; clear hown' hgrow))
      obtain ⟨va', vc', rfl, hvc'⟩ := own_slice' HOWN.out
      have HB9 : Hid (Below w2.heap.size w2 w9) := (HB5.out.alloc hs5 _).grown HGR.out (by rw [World.size_alloc]; omega) (fun j hj => by cases hj)
      go_roundw
      case rel => first | exact ⟨1, by omega, by first | rfl | go_num, HB9, .inr ⟨rfl, va', vc', rfl, HOWN⟩⟩ | exact ⟨⟨1, by omega, by first | rfl | go_num, HB9, .inr ⟨rfl, va', vc', rfl, HOWN⟩⟩, rfl⟩
      case measure => simp [intOf]
    · go_wp2_with fail
      go_ret2
      exact ⟨_, _, rfl, HO.out, below_then HB2.out HBR.out⟩
set_option maxRecDepth 100000 in
set_option maxHeartbeats 8000000 in
/-- snap.Log of a commit without parents -/
theorem slog0_any (t : TypeId) (rv : Value) (G : Sw.Src) (hz : SrcSz G) (id : ByteArray) (x : Ob) (hx : lookK G id 3 21 = (x, 0)) (hp : x.pars = []) (hh : x.height = 0) (hsz : id.size ≤ maxLen) (w : World) (hs : SrcAt w t rv G) :
    Calls Tryz.prog 25 #[.iface t rv, .string id] w fun e w' => ∃ a c, e = .returned (.tuple #[.slice a 1 c, .int .i64 0]) ∧ StrsAt w' a 1 [id] ∧ Below w.heap.size w w' := by
  have HF := hid (factsR_any t rv G hz id x hx hp w hs)
  rw [hh] at HF
  clear hs hx hp hh
  go_enter Tryz.func25, Tryz.ntmps25
  go_wp2_with fail
  refine HF.out.mono ?_; rintro e w1 ⟨a, c, pa, pc, rfl, ho1, hb1⟩
  have HB1 := hid hb1
  have hs1 : w.heap.size ≤ w1.heap.size := hb1.size
  obtain ⟨a', c', hfe, hF⟩ := own_fcs ho1 (by omega)
  injection hfe with e1 e2 e3
  subst e1; subst e3
  have HL := hid (log0_any a c ⟨id, 0, pa, 0, pc⟩ rfl rfl hsz w1 hF)
  clear ho1 hb1 hF HF e2
  go_wp2_with fail
  refine HL.out.mono ?_; rintro e w2 ⟨sa, sc, rfl, ho2, hb2⟩
  obtain ⟨sa', sc', hse, hst⟩ := own_strs (l := [id]) ho2 (by simp)
  injection hse with e1 e2 e3
  subst e1; subst e3
  have HST := hid hst
  have HB2 : Hid (Below w.heap.size w w2) := below_then HB1.out hb2
  clear ho2 hb2 hst HL e2
  go_wp2_with fail
  go_ret2
  exact ⟨_, _, rfl, HST.out, HB2.out⟩
end Go.Proofs.YtlenfiiocmchdaaGreatDoor
/- What two commits differ in: Diff, its two tables. -/
namespace Go.Proofs.YtlenfiiocmchdaaGreatDoor
open Go.RowKit Book Pap Ojt Sn
set_option linter.unusedVariables false
set_option linter.unusedSimpArgs false

def chCs (c : Ch) : List Value := [.string c.path, .string c.was, .string c.is]
def valC (c : Ch) : Value := .agg (chCs c).toArray
def datC (c : Ch) : DataW Unit := .agg [datS c.path, datS c.was, datS c.is]
theorem valC_inj (x y : Ch) (h : valC x = valC y) : x = y := by
  obtain ⟨a, b, c⟩ := x
  obtain ⟨a', b', c'⟩ := y
  simp [valC, chCs] at h
  obtain ⟨h1, h2, h3⟩ := h
  subst h1 h2 h3; rfl
theorem datC_inj (x y : Ch) (h : datC x = datC y) : x = y := by
  obtain ⟨a, b, c⟩ := x
  obtain ⟨a', b', c'⟩ := y
  unfold datC at h
  injection h with h
  injection h with h1 h
  injection h with h2 h
  injection h with h3 _
  have := datS_inj _ _ h1
  have := datS_inj _ _ h2
  have := datS_inj _ _ h3
  simp_all
abbrev ChMap := MapFn (α := Ch) Tryz.prog 9 valC datC
theorem Tryz.infoCh : (Tryz.prog.info? 50).map (fun i => (i.zero, i.size, i.bytes)) = some (some (.agg #[.string ⟨#[]⟩, .string ⟨#[]⟩, .string ⟨#[]⟩]), 3, 48) := by kernel_rfl
theorem zeroC (w : World) : (zeroValue 50).run Tryz.prog w = .ok (valC noCh) w := by
  obtain ⟨i, hi, hz, -⟩ := info_parts Tryz.infoCh
  have e : valC noCh = .agg #[.string ⟨#[]⟩, .string ⟨#[]⟩, .string ⟨#[]⟩] := rfl
  simp [zeroValue, typeInfo, hi, hz, e]
theorem chMap_get1 {w : World} {m n : Nat} {f : ByteArray → Option Ch} (h : ChMap w m n f) (s : ByteArray) (hs : s.size ≤ maxLen) : (Instr.lookup 118 (.map (some m)) (.string s) false).run Tryz.prog w = .ok (valC ((f s).getD noCh)) w :=
  MapFn.get1 Tryz.underlying9 Tryz.underlying118 valC_inj datC_inj (z0 := noCh) zeroC h s hs
/-- a slice of changes in memory -/
def ChsAt (w : World) (a : Option Addr) (n : Nat) (l : List Ch) : Prop :=
  l.length = n ∧ n ≤ 1000000 ∧ (n = 0 ∨ ∃ b off, a = some ⟨b, off, none⟩ ∧ ∀ j, j < n → w.cell? ⟨b, off + j * 3, none⟩ = some (.string (l.getD j noCh).path) ∧ w.cell? ⟨b, off + j * 3 + 1, none⟩ = some (.string (l.getD j noCh).was) ∧ w.cell? ⟨b, off + j * 3 + 2, none⟩ = some (.string (l.getD j noCh).is))
def DiffOut (G : Sw.Src) (a b : ByteArray) (w : World) (e : Ending) (w' : World) : Prop :=
  ∃ p n c D er, e = .returned (.tuple #[.slice p n c, .int .i64 er]) ∧ ChsAt w' p n D ∧ Below w.heap.size w w' ∧
    (if (listS G a).2 ≠ 0 then er = (listS G a).2 ∧ D = [] else if (listS G b).2 ≠ 0 then er = (listS G b).2 ∧ D = [] else er = 0 ∧ IsDiff (listS G a).1 (listS G b).1 D)
theorem chvals_get : ∀ (l : List Ch) (j : Nat), j < l.length → (l.flatMap chCs)[j * 3]? = some (.string (l.getD j noCh).path) ∧ (l.flatMap chCs)[j * 3 + 1]? = some (.string (l.getD j noCh).was) ∧ (l.flatMap chCs)[j * 3 + 2]? = some (.string (l.getD j noCh).is)
  | [], j, h => by simp at h
  | a :: r, 0, h => ⟨rfl, rfl, rfl⟩
  | a :: r, j + 1, h => by
    have ih := chvals_get r j (by simp only [List.length_cons] at h; omega)
    have e : (a :: r).flatMap chCs = chCs a ++ r.flatMap chCs := rfl
    have l3 : (chCs a).length = 3 := rfl
    rw [e, List.getElem?_append_right (by rw [l3]; omega), List.getElem?_append_right (by rw [l3]; omega), List.getElem?_append_right (by rw [l3]; omega), l3]
    rw [show (j + 1) * 3 - 3 = j * 3 by omega, show (j + 1) * 3 + 1 - 3 = j * 3 + 1 by omega, show (j + 1) * 3 + 2 - 3 = j * 3 + 2 by omega]
    exact ih
theorem diff1_any (x y : Ch) (W : World) (hx : OkName x.path) (hy : OkName y.path) (hm : MaxAt W) :
    Calls Tryz.prog 59 #[valC x, valC y] W fun e w' => e = .returned (.int .i64 (cmpP (pieces x.path.data.toList) (pieces y.path.data.toList))) ∧ Lays W w' := by
  have e1 : valC x = .agg #[.string x.path, .string x.was, .string x.is] := rfl
  have e2 : valC y = .agg #[.string y.path, .string y.was, .string y.is] := rfl
  rw [e1, e2]
  clear e1 e2
  have HLY : Hid (Lays W ((W.alloc (.cells #[.string x.path, .string x.was, .string x.is] 50)).alloc (.cells #[.string y.path, .string y.was, .string y.is] 50))) := ((Lays.refl W).alloc _).alloc _
  have HXB : Hid (Blk ((W.alloc (.cells #[.string x.path, .string x.was, .string x.is] 50)).alloc (.cells #[.string y.path, .string y.was, .string y.is] 50)) W.heap.size 50 #[.string x.path, .string x.was, .string x.is]) := Blk.alloc (Blk.new W _ _) _
  have HYB : Hid (Blk ((W.alloc (.cells #[.string x.path, .string x.was, .string x.is] 50)).alloc (.cells #[.string y.path, .string y.was, .string y.is] 50)) (W.heap.size + 1) 50 #[.string y.path, .string y.was, .string y.is]) := by
    have h := Blk.new (W.alloc (.cells #[.string x.path, .string x.was, .string x.is] 50)) 50 #[.string y.path, .string y.was, .string y.is]
    rw [World.size_alloc] at h; exact h
  have HCMP := hid (compareX_any x.path y.path ((W.alloc (.cells #[.string x.path, .string x.was, .string x.is] 50)).alloc (.cells #[.string y.path, .string y.was, .string y.is] 50)) (by have := hx.2; omega) (by have := hy.2; omega) (hm.later HLY.out.below))
  have hcr : compareR x.path.data.toList y.path.data.toList = cmpP (pieces x.path.data.toList) (pieces y.path.data.toList) := by unfold compareR; rw [if_pos ⟨hx.1, hy.1⟩]
  rw [hcr] at HCMP
  clear hcr hm
  go_enter Tryz.func59, Tryz.ntmps59
  go_upto_region 1 with fail
  generalize ((W.alloc (.cells #[.string x.path, .string x.was, .string x.is] 50)).alloc (.cells #[.string y.path, .string y.was, .string y.is] 50)) = w2 at HLY HXB HYB HCMP ⊢
  have k0 : w2.cell? ⟨W.heap.size, 0, none⟩ = some (.string x.path) := Blk.cell HXB.out 0
  have k1 : w2.cell? ⟨W.heap.size + 1, 0, none⟩ = some (.string y.path) := Blk.cell HYB.out 0
  go_wp2_with (go_at_call 37; refine HCMP.out.mono ?_; rintro e w3 ⟨rfl, hl3⟩)
  go_ret
  exact ⟨rfl, HLY.out.trans hl3⟩
theorem nodup_of_map {α β : Type} {f : α → β} : ∀ {l : List α}, (l.map f).Nodup → l.Nodup
  | [], _ => List.nodup_nil
  | a :: l, h => by
    rw [List.map_cons] at h
    obtain ⟨h1, h2⟩ := List.nodup_cons.1 h
    exact List.nodup_cons.2 ⟨fun hm => h1 (List.mem_map.2 ⟨a, hm, rfl⟩), nodup_of_map h2⟩
/-- an own slice of changes with a table sorted by paths -/
theorem sortCh_own {tab : ByteArray → Option Ch} (htb : PathTab tab) (B n : Nat) (v : Value) (O : List Ch) (w : World) (w0 : World) (hm : MaxAt w0) (hw : Below w0.heap.size w0 w) (hB : w0.heap.size ≤ B) (hO : ∀ c ∈ O, tab c.path = some c) (hnd : (O.map (fun c : Ch => c.path)).Nodup)
    (h : w.ownsRow B 50 3 v n (O.flatMap chCs)) (hn : n ≤ 1000000) (hOn : O.length = n) :
    Calls Tryz.prog 58 #[v, .func (.func 59) #[] #[]] w fun e w' => ∃ D : List Ch, e = .returned (.tuple #[]) ∧ w'.ownsRow B 50 3 v n (D.flatMap chCs) ∧ w.grownBy w' v.ownBlock ∧
      D.length = n ∧ D.Pairwise (fun x y => cmpP (pieces x.path.data.toList) (pieces y.path.data.toList) = -1) ∧ ∀ c, c ∈ D ↔ c ∈ O := by
  by_cases h0 : O = []
  · subst h0
    have hn0 : n = 0 := hOn.symm
    subst hn0
    obtain ⟨va, vc, rfl, hvc⟩ := own_slice' h
    refine (AnyF.slices_SortFunc_none Tryz.sortF58 va vc _ w).mono ?_
    rintro e w' ⟨rfl, rfl⟩
    exact ⟨[], rfl, h, ⟨rfl, rfl, rfl, Nat.le_refl _, fun _ _ _ => rfl⟩, rfl, List.Pairwise.nil, fun c => Iff.rfl⟩
  · obtain ⟨c0, hc0⟩ := List.exists_mem_of_ne_nil O h0
    haveI : Inhabited {c : Ch // tab c.path = some c} := ⟨⟨c0, hO c0 hc0⟩⟩
    obtain ⟨l, hl⟩ : ∃ l : List {c : Ch // tab c.path = some c}, l.map Subtype.val = O := ⟨O.pmap Subtype.mk hO, by simp [List.map_pmap]⟩
    have hflat : l.flatMap (fun c => chCs c.1) = O.flatMap chCs := by rw [← hl, List.flatMap_map]
    have hself : ∀ x : {c : Ch // tab c.path = some c}, cmpP (pieces x.1.path.data.toList) (pieces x.1.path.data.toList) = 0 := fun x => cmpP_self _
    have hone : ∀ x y : {c : Ch // tab c.path = some c}, cmpP (pieces x.1.path.data.toList) (pieces y.1.path.data.toList) = 0 → x = y := fun x y hxy => by
      have h1 := cmpP_zero _ _ hxy
      have h2 : x.1.path.data.toList = y.1.path.data.toList := by rw [← join_pieces x.1.path.data.toList, ← join_pieces y.1.path.data.toList, h1]
      have h3 : x.1.path = y.1.path := ba_ext h2
      have h4 := x.2
      rw [h3, y.2] at h4
      injection h4 with h4
      exact Subtype.ext h4.symm
    have hSW : Go.Sort.SWO (Go.Proofs.ltOf (fun x y : {c : Ch // tab c.path = some c} => cmpP (pieces x.1.path.data.toList) (pieces y.1.path.data.toList))) := by
      refine ⟨fun x => ?_, fun x y z h1 h2 => ?_, fun x y z h1 h2 => ?_⟩
      · simp [ltOf, hself x]
      · unfold ltOf at *
        simp only [decide_eq_true_eq] at *
        have r1 := cmpP_range (pieces x.1.path.data.toList) (pieces y.1.path.data.toList)
        have r2 := cmpP_range (pieces y.1.path.data.toList) (pieces z.1.path.data.toList)
        have := cmpP_trans (pieces x.1.path.data.toList) (pieces y.1.path.data.toList) (pieces z.1.path.data.toList) (by omega) (by omega)
        omega
      · unfold ltOf at *
        simp only [decide_eq_false_iff_not] at *
        have n1 := cmpP_neg (pieces x.1.path.data.toList) (pieces y.1.path.data.toList)
        have n2 := cmpP_neg (pieces y.1.path.data.toList) (pieces z.1.path.data.toList)
        have n3 := cmpP_neg (pieces x.1.path.data.toList) (pieces z.1.path.data.toList)
        have := (cmp_le_trans (pieces z.1.path.data.toList) (pieces y.1.path.data.toList) (pieces x.1.path.data.toList) (by omega) (by omega)).1
        omega
    have hT : ∀ x y : {c : Ch // tab c.path = some c}, Go.Proofs.ltOf (fun x y : {c : Ch // tab c.path = some c} => cmpP (pieces x.1.path.data.toList) (pieces y.1.path.data.toList)) x y = false → Go.Proofs.ltOf (fun x y : {c : Ch // tab c.path = some c} => cmpP (pieces x.1.path.data.toList) (pieces y.1.path.data.toList)) y x = false → x = y := fun x y h1 h2 => by
      unfold ltOf at *
      simp only [decide_eq_false_iff_not] at *
      have n1 := cmpP_neg (pieces x.1.path.data.toList) (pieces y.1.path.data.toList)
      exact hone x y (by omega)
    have hrow : w.ownsRow B 50 3 v n (l.flatMap (fun c => chCs c.1)) := by rw [hflat]; exact h
    refine (sortK_own Tryz.sortF58 3 (by decide) Tryz.isAgg50 Tryz.sizeOf50 (fun c : {c : Ch // tab c.path = some c} => chCs c.1) (fun x => rfl) (fun x u hu => by simp [chCs] at hu; rcases hu with rfl | rfl | rfl <;> rfl) _ hSW hT 59 #[] B n v l w
      (enters_of Tryz.func59 (by kernel_rfl) rfl) (fun W hg x y => ?_) hrow hn).mono ?_
    · have hmW : MaxAt W := hm.later (hw.grown hg hw.size (fun j hj => Nat.le_trans hB (h.lt j hj).1))
      refine (diff1_any x.1 y.1 W (htb _ _ x.2).2 (htb _ _ y.2).2 hmW).mono ?_
      rintro e w' ⟨rfl, os, rfl⟩
      exact ⟨rfl, 0, os, rfl⟩
    · rintro e w' ⟨rfl, hrow', hg'⟩
      refine ⟨(l.mergeSort fun x y => !(Go.Proofs.ltOf (fun x y : {c : Ch // tab c.path = some c} => cmpP (pieces x.1.path.data.toList) (pieces y.1.path.data.toList))) y x).map Subtype.val, rfl, ?_, hg', ?_, ?_, fun c => ?_⟩
      · rw [List.flatMap_map]; exact hrow'
      · rw [List.length_map, List.length_mergeSort, ← hOn, ← hl, List.length_map]
      · rw [List.pairwise_map]
        have hp := List.pairwise_mergeSort (le := fun x y : {c : Ch // tab c.path = some c} => !(Go.Proofs.ltOf (fun x y : {c : Ch // tab c.path = some c} => cmpP (pieces x.1.path.data.toList) (pieces y.1.path.data.toList))) y x) (fun a b c h1 h2 => by
          simp only [Bool.not_eq_true', ] at *
          exact hSW.ntrans _ _ _ h2 h1) (fun a b => by
          have n1 := cmpP_neg (pieces a.1.path.data.toList) (pieces b.1.path.data.toList)
          unfold ltOf
          by_cases hlt : cmpP (pieces b.1.path.data.toList) (pieces a.1.path.data.toList) < 0
          · have : ¬ cmpP (pieces a.1.path.data.toList) (pieces b.1.path.data.toList) < 0 := by omega
            simp [this]
          · simp [hlt]) l
        have hnl : l.Nodup := by
          rw [← hl, List.map_map] at hnd
          exact (nodup_of_map hnd)
        have hnd2 : (l.mergeSort fun x y => !(Go.Proofs.ltOf (fun x y : {c : Ch // tab c.path = some c} => cmpP (pieces x.1.path.data.toList) (pieces y.1.path.data.toList))) y x).Nodup := (List.mergeSort_perm l _).nodup_iff.2 hnl
        refine (hp.and hnd2).imp ?_
        rintro a b ⟨h1, hne⟩
        simp only [Bool.not_eq_true'] at h1
        unfold ltOf at h1
        simp only [decide_eq_false_iff_not] at h1
        have n1 := cmpP_neg (pieces a.1.path.data.toList) (pieces b.1.path.data.toList)
        have r1 := cmpP_range (pieces a.1.path.data.toList) (pieces b.1.path.data.toList)
        have hne0 : cmpP (pieces a.1.path.data.toList) (pieces b.1.path.data.toList) ≠ 0 := fun e => hne (hone a b e)
        omega
      · rw [List.mem_map]
        constructor
        · rintro ⟨x, hx, rfl⟩
          rw [List.mem_mergeSort] at hx
          rw [← hl]; exact List.mem_map.2 ⟨x, hx, rfl⟩
        · intro hc
          rw [← hl] at hc
          obtain ⟨x, hx, rfl⟩ := List.mem_map.1 hc
          exact ⟨x, by rw [List.mem_mergeSort]; exact hx, rfl⟩
theorem foldl_take {α β : Type} (f : β → α → β) (z : β) (l : List α) (d : α) {i : Nat} (h : i < l.length) : (l.take (i + 1)).foldl f z = f ((l.take i).foldl f z) (l.getD i d) := by
  rw [List.take_succ_eq_append_getElem h, List.foldl_append, List.getD_eq_getElem?_getD, List.getElem?_eq_getElem h]; rfl
set_option maxRecDepth 100000 in
set_option maxHeartbeats 16000000 in
theorem diff_any (t : TypeId) (rv : Value) (G : Sw.Src) (hz : SrcSz G) (ia ib : ByteArray) (w : World) (hs : SrcAt w t rv G) (hm : MaxAt w) : Calls Tryz.prog 20 #[.iface t rv, .string ia, .string ib] w (DiffOut G ia ib w) := by
  obtain ⟨i0, hi0, hz0, hz1, hz2⟩ := info_parts Tryz.infoCh
  have HLA := hid (list_any t rv G hz ia w hs)
  have HS := hid hs
  have HM := hid hm
  clear hs hm
  have hmk : ∀ (T : TypeId) (W : World), (Instr.makeMap T none).run Tryz.prog W = .ok (.map (some W.heap.size)) (W.alloc (.map #[] 0)) := fun T W => run_makeMap T W
  have HNA := hid (listS_names G ia)
  have HNB := hid (listS_names G ib)
  obtain ⟨l1, e1, hl1⟩ : ∃ l e, listS G ia = (l, e) := ⟨_, _, rfl⟩
  obtain ⟨l2, e2, hl2⟩ : ∃ l e, listS G ib = (l, e) := ⟨_, _, rfl⟩
  have HL1 := hid hl1
  have HL2 := hid hl2
  rw [hl1] at HLA HNA
  rw [hl2] at HNB
  clear hl1
  go_enter Tryz.func20, Tryz.ntmps20
  go_wp2_with fail
  refine HLA.out.mono ?_; rintro e w1 ⟨a1, n1, c1, rfl, hE1, hb1, hf1, hn1⟩
  simp only at hE1 ⊢
  have HE1 := hid hE1
  have HB1 := hid hb1
  have hs1 : w.heap.size ≤ w1.heap.size := hb1.size
  have HLB := hid (list_any t rv G hz ib w1 (HS.out.later hb1))
  rw [hl2] at HLB
  clear hE1 hb1 hf1 HLA hl2
  by_cases he1 : e1 = 0
  · subst he1
    go_wp2_with fail
    refine HLB.out.mono ?_; rintro e w2 ⟨a2, n2, c2, rfl, hE2, hb2, hf2, hn2⟩
    simp only at hE2 ⊢
    have HE2 := hid hE2
    have HE1' := hid (HE1.out.later hb2)
    have HB2 : Hid (Below w.heap.size w w2) := HB1.out.trans (hb2.mono hs1)
    have hs2 : w.heap.size ≤ w2.heap.size := HB2.out.size
    clear hE2 hb2 hf2 HLB HE1 HB1 hs1
    by_cases he2 : e2 = 0
    · subst he2
      obtain ⟨m, hmd⟩ : ∃ m, w2.heap.size = m := ⟨_, rfl⟩
      have HMD := hid hmd
      have HC0 : Hid (ChMap (w2.alloc (.map #[] 0)) m 0 (fun _ => none)) := by rw [← hmd]; exact MapFn.made w2
      have HB3 : Hid (Below w.heap.size w (w2.alloc (.map #[] 0))) := HB2.out.alloc hs2 _
      have HE13 := hid (HE1'.out.later ((Below.refl _ _).alloc (Nat.le_refl _) (.map #[] 0)))
      have HE23 := hid (HE2.out.later ((Below.refl _ _).alloc (Nat.le_refl _) (.map #[] 0)))
      have HB23 : Hid (Below m w2 (w2.alloc (.map #[] 0))) := by rw [← hmd]; exact (Below.refl _ _).alloc (Nat.le_refl _) _
      rw [hmd] at hs2
      clear hmd
      go_upto_region 9 with fail
      rw [HMD.out]
      generalize (w2.alloc (.map #[] 0)) = w3 at HC0 HB3 HE13 HE23 HB23 ⊢
      go_loopw [41] (fun iv wr => ∃ i : Nat, i ≤ n1 ∧ iv = .int .i64 i ∧ Hid (ChMap wr m i ((l1.take i).foldl putA (fun _ => none))) ∧ Hid (Below m w2 wr)) (fun iv _ => n1 - (intOf iv).toNat)
      case atStart => exact ⟨0, Nat.zero_le _, rfl, HC0, HB23⟩
      case round =>
        obtain ⟨i, hi, rfl, HC, HB⟩ := hrel
        have hszr := HB.out.size
        rw [HMD.out] at hszr
        by_cases hlt : i < n1
        · have ci : (i : Int) < n1 := by omega
          have ci0 : (0 : Int) ≤ (i : Int) := by omega
          obtain ⟨hil0, -, h3⟩ := HE1'.out.later (by rw [HMD.out]; exact HB.out)
          obtain ⟨eb, eoff, rfl, hcell⟩ := h3.resolve_left (by omega)
          obtain ⟨q0, q1, q2⟩ := hcell i hlt
          have hil : i < l1.length := by rw [hil0]; exact hlt
          have HT : Hid ((l1.take (i + 1)).foldl putA (fun _ => none) = putA ((l1.take i).foldl putA (fun _ => none)) (l1.getD i ⟨ByteArray.empty, 0, ByteArray.empty⟩)) := foldl_take putA _ l1 _ hil
          have hok := HNA.out (l1.getD i ⟨ByteArray.empty, 0, ByteArray.empty⟩) (by rw [List.getD_eq_getElem?_getD, List.getElem?_eq_getElem hil]; exact List.getElem_mem hil)
          obtain ⟨z, hzz⟩ : ∃ z, l1.getD i ⟨ByteArray.empty, 0, ByteArray.empty⟩ = z := ⟨_, rfl⟩
          rw [hzz] at q0 q1 q2 HT hok
          obtain ⟨nm, kd, yd⟩ := z
          simp only at q0 q1 q2
          have hnm : nm.size ≤ maxLen := by have h := hok.2; have h : nm.size ≤ 100000 := h; unfold maxLen; omega
          clear hzz hcell h3 hil hil0 hok
          go_upto_region 11 with fail
          have HX1 : Hid (Blk (wr.alloc (.cells #[.string nm, .int .i64 kd, .string yd] 40)) wr.heap.size 40 #[.string nm, .int .i64 kd, .string yd]) := Blk.new wr _ _
          have HC1 : Hid (ChMap (wr.alloc (.cells #[.string nm, .int .i64 kd, .string yd] 40)) m i ((l1.take i).foldl putA (fun _ => none))) := HC.out.later ((Below.refl _ _).alloc (Nat.le_refl _) _)
          have HB1 : Hid (Below m w2 (wr.alloc (.cells #[.string nm, .int .i64 kd, .string yd] 40))) := HB.out.alloc hszr _
          have hs1 : m ≤ (wr.alloc (.cells #[.string nm, .int .i64 kd, .string yd] 40)).heap.size := by rw [World.size_alloc]; omega
          clear q0 q1 q2 HC HB
          generalize (wr.alloc (.cells #[.string nm, .int .i64 kd, .string yd] 40)) = w4 at HX1 HC1 HB1 hs1 ⊢
          generalize wr.heap.size = g4 at HX1 ⊢
          have k0 : w4.cell? ⟨g4, 0, none⟩ = some (.string nm) := Blk.cell HX1.out 0
          have k2 : w4.cell? ⟨g4, 2, none⟩ = some (.string yd) := Blk.cell HX1.out 2
          have him : i < maxLen := by unfold maxLen; omega
          go_wp2_with (first
            | (at_mapUpdate; refine wpList_mapFn_set rfl (.tmp 45) (.tmp 47) (.tmp 52) 118 rfl Tryz.underlying9 Tryz.underlying118 valC_inj HC1.out him nm hnm ⟨nm, yd, ByteArray.empty⟩ rfl rfl rfl ?_; intro w5 hm5 hg5; have HM5 := hid hm5; have HG5 := hid hg5; clear hm5 hg5)
            | go_in)
          have HM6 : Hid (ChMap w5 m (i + 1) ((l1.take (i + 1)).foldl putA (fun _ => none))) := by
            show ChMap _ _ _ _
            rw [HT.out]; exact HM5.out
          have HB6 : Hid (Below m w2 w5) := HB1.out.grown HG5.out hs1 (fun j hj => by cases hj; exact Nat.le_refl _)
          go_roundw
          case rel => first | exact ⟨i + 1, by omega, by go_num, HM6, HB6⟩ | ((repeat apply Exists.intro); exact ⟨⟨i + 1, by omega, by go_num, HM6, HB6⟩, rfl⟩)
          case measure => simp [intOf]; omega
        · obtain rfl : i = n1 := by omega
          have ci : ¬ (i : Int) < i := by omega
          have HCA : Hid (ChMap wr m i (l1.foldl putA (fun _ => none))) := by
            have h := HC.out
            rw [List.take_of_length_le (by rw [HE1'.out.1]; exact Nat.le_refl _)] at h; exact h
          clear HC
          go_upto_region 14 with fail
          have HBA := HB
          clear HB
          rename World => wA
          go_loopw [56] (fun iv wx => ∃ j : Nat, j ≤ n2 ∧ iv = .int .i64 j ∧ Hid (ChMap wx m (i + j) ((l2.take j).foldl putB (l1.foldl putA (fun _ => none)))) ∧ Hid (Below m w2 wx)) (fun iv _ => n2 - (intOf iv).toNat)
          case atStart => exact ⟨0, Nat.zero_le _, rfl, HCA, HBA⟩
          case round =>
            obtain ⟨j, hj, rfl, HC, HB⟩ := hrel
            have hszr := HB.out.size
            rw [HMD.out] at hszr
            by_cases hlt : j < n2
            · have ci : (j : Int) < n2 := by omega
              have ci0 : (0 : Int) ≤ (j : Int) := by omega
              obtain ⟨hil0, -, h3⟩ := HE2.out.later (by rw [HMD.out]; exact HB.out)
              obtain ⟨eb, eoff, rfl, hcell⟩ := h3.resolve_left (by omega)
              obtain ⟨q0, q1, q2⟩ := hcell j hlt
              have hil : j < l2.length := by rw [hil0]; exact hlt
              have HT : Hid ((l2.take (j + 1)).foldl putB (l1.foldl putA (fun _ => none)) = putB ((l2.take j).foldl putB (l1.foldl putA (fun _ => none))) (l2.getD j ⟨ByteArray.empty, 0, ByteArray.empty⟩)) := foldl_take putB _ l2 _ hil
              have hok := HNB.out (l2.getD j ⟨ByteArray.empty, 0, ByteArray.empty⟩) (by rw [List.getD_eq_getElem?_getD, List.getElem?_eq_getElem hil]; exact List.getElem_mem hil)
              obtain ⟨z, hzz⟩ : ∃ z, l2.getD j ⟨ByteArray.empty, 0, ByteArray.empty⟩ = z := ⟨_, rfl⟩
              rw [hzz] at q0 q1 q2 HT hok
              obtain ⟨nm, kd, yd⟩ := z
              simp only at q0 q1 q2
              have hnm : nm.size ≤ maxLen := by have h := hok.2; have h : nm.size ≤ 100000 := h; unfold maxLen; omega
              obtain ⟨f, hf⟩ : ∃ f, (l2.take j).foldl putB (l1.foldl putA (fun _ => none)) = f := ⟨_, rfl⟩
              rw [hf] at HT HC
              clear hzz hcell h3 hil hil0 hok hf
              go_upto_region 16 with fail
              have HX1 : Hid (Blk (wr.alloc (.cells #[.string nm, .int .i64 kd, .string yd] 40)) wr.heap.size 40 #[.string nm, .int .i64 kd, .string yd]) := Blk.new wr _ _
              have HC1 : Hid (ChMap (wr.alloc (.cells #[.string nm, .int .i64 kd, .string yd] 40)) m (i + j) f) := HC.out.later ((Below.refl _ _).alloc (Nat.le_refl _) _)
              have HB1 : Hid (Below m w2 (wr.alloc (.cells #[.string nm, .int .i64 kd, .string yd] 40))) := HB.out.alloc hszr _
              have hs1 : m ≤ (wr.alloc (.cells #[.string nm, .int .i64 kd, .string yd] 40)).heap.size := by rw [World.size_alloc]; omega
              clear q0 q1 q2 HC HB
              generalize (wr.alloc (.cells #[.string nm, .int .i64 kd, .string yd] 40)) = w4 at HX1 HC1 HB1 hs1 ⊢
              generalize wr.heap.size = g4 at HX1 ⊢
              have k0 : w4.cell? ⟨g4, 0, none⟩ = some (.string nm) := Blk.cell HX1.out 0
              have hlk := chMap_get1 HC1.out nm hnm
              obtain ⟨cc, hcc⟩ : ∃ cc, (f nm).getD noCh = cc := ⟨_, rfl⟩
              rw [hcc] at hlk
              have HCC := hid hcc
              clear hcc
              obtain ⟨pc, wc, ic⟩ := cc
              have ev : valC ⟨pc, wc, ic⟩ = .agg #[.string pc, .string wc, .string ic] := rfl
              rw [ev] at hlk
              clear ev
              go_upto_region 17 with fail
              have HX5 : Hid (Blk (w4.alloc (.cells #[.string pc, .string wc, .string ic] 50)) w4.heap.size 50 #[.string pc, .string wc, .string ic]) := Blk.new w4 _ _
              have HE5 : Hid (Blk (w4.alloc (.cells #[.string pc, .string wc, .string ic] 50)) g4 40 #[.string nm, .int .i64 kd, .string yd]) := Blk.alloc HX1.out _
              have HC5 : Hid (ChMap (w4.alloc (.cells #[.string pc, .string wc, .string ic] 50)) m (i + j) f) := HC1.out.later ((Below.refl _ _).alloc (Nat.le_refl _) _)
              have HB5 : Hid (Below m w2 (w4.alloc (.cells #[.string pc, .string wc, .string ic] 50))) := HB1.out.alloc hs1 _
              have hg4 : g4 < w4.heap.size := Blk.lt HX1.out
              have hm5 : m < w4.heap.size := HC1.out.lt
              have hs5 : m ≤ (w4.alloc (.cells #[.string pc, .string wc, .string ic] 50)).heap.size := by rw [World.size_alloc]; omega
              clear hlk k0 HX1 HC1 HB1 hs1
              generalize (w4.alloc (.cells #[.string pc, .string wc, .string ic] 50)) = w5 at HX5 HE5 HC5 HB5 hs5 ⊢
              generalize w4.heap.size = g5 at HX5 hg4 hm5 ⊢
              have k0 : w5.cell? ⟨g4, 0, none⟩ = some (.string nm) := Blk.cell HE5.out 0
              have k2 : w5.cell? ⟨g4, 2, none⟩ = some (.string yd) := Blk.cell HE5.out 2
              have d0 : w5.cell? ⟨g5, 0, none⟩ = some (.string pc) := Blk.cell HX5.out 0
              have d2 : w5.cell? ⟨g5, 2, none⟩ = some (.string ic) := Blk.cell HX5.out 2
              have f0 := Blk.frozen HX5.out 0
              have f2 := Blk.frozen HX5.out 2
              go_cut [] (fun wx => wx = ((w5.setCell ⟨g5, 0, none⟩ (.string nm)).setCell ⟨g5, 2, none⟩ (.string yd)).drew)
              case first =>
                go_region
                all_goals
                  go_wp2_with fail
                  go_meet
                  case rel => exact rfl
              case rest =>
                subst hcut
                have ho6 : Only (· = g5) w5 ((w5.setCell ⟨g5, 0, none⟩ (.string nm)).setCell ⟨g5, 2, none⟩ (.string yd)).drew := (((Only.refl (· = g5) w5).setCell (p := ⟨g5, 0, none⟩) (.inl rfl) _).setCell (p := ⟨g5, 2, none⟩) (.inl rfl) _).drew
                have HX6 : Hid (Blk ((w5.setCell ⟨g5, 0, none⟩ (.string nm)).setCell ⟨g5, 2, none⟩ (.string yd)).drew g5 50 #[.string nm, .string wc, .string yd]) := by
                  have := Blk.drew (Blk.set (Blk.set HX5.out 0 (.string nm)) 2 (.string yd))
                  show Blk _ _ _ _
                  simpa using this
                have HE6 := hid (HE5.out.only ho6 (fun (e : g4 = g5) => by omega))
                have HC6 := hid (HC5.out.only ho6 (fun (e : m = g5) => by omega))
                have HB6 : Hid (Below m w2 ((w5.setCell ⟨g5, 0, none⟩ (.string nm)).setCell ⟨g5, 2, none⟩ (.string yd)).drew) := HB5.out.trans (ho6.below (fun k (e : k = g5) => by omega) hs5)
                have hs6 : m ≤ ((w5.setCell ⟨g5, 0, none⟩ (.string nm)).setCell ⟨g5, 2, none⟩ (.string yd)).drew.heap.size := Nat.le_trans hs5 ho6.size
                clear k0 k2 d0 d2 f0 f2 ho6 HX5 HE5 HC5 HB5
                generalize ((w5.setCell ⟨g5, 0, none⟩ (.string nm)).setCell ⟨g5, 2, none⟩ (.string yd)).drew = w6 at HX6 HE6 HC6 HB6 hs6 ⊢
                have k0 : w6.cell? ⟨g4, 0, none⟩ = some (.string nm) := Blk.cell HE6.out 0
                have d0 : w6.cell? ⟨g5, 0, none⟩ = some (.string nm) := Blk.cell HX6.out 0
                have d1 : w6.cell? ⟨g5, 1, none⟩ = some (.string wc) := Blk.cell HX6.out 1
                have d2 : w6.cell? ⟨g5, 2, none⟩ = some (.string yd) := Blk.cell HX6.out 2
                have him : i + j < maxLen := by unfold maxLen; omega
                go_wp2_with (first
                  | (at_mapUpdate; refine wpList_mapFn_set rfl (.tmp 70) (.tmp 72) (.tmp 73) 118 rfl Tryz.underlying9 Tryz.underlying118 valC_inj HC6.out him nm hnm ⟨nm, wc, yd⟩ rfl rfl rfl ?_; intro w7 hm7 hg7; have HM7 := hid hm7; have HG7 := hid hg7; clear hm7 hg7)
                  | go_in)
                have HM8 : Hid (ChMap w7 m (i + (j + 1)) ((l2.take (j + 1)).foldl putB (l1.foldl putA (fun _ => none)))) := by
                  show ChMap _ _ _ _
                  rw [HT.out]
                  have h := HM7.out
                  have e : putB f ⟨nm, kd, yd⟩ = fun q => if q = nm then some ⟨nm, wc, yd⟩ else f q := by
                    funext q
                    unfold putB
                    simp only
                    rw [HCC.out]
                  rw [e]; exact h
                have HB8 : Hid (Below m w2 w7) := HB6.out.grown HG7.out hs6 (fun j hj => by cases hj; exact Nat.le_refl _)
                go_roundw
                case rel => first | exact ⟨j + 1, by omega, by go_num, HM8, HB8⟩ | ((repeat apply Exists.intro); exact ⟨⟨j + 1, by omega, by go_num, HM8, HB8⟩, rfl⟩)
                case measure => simp [intOf]; omega
            · obtain rfl : j = n2 := by omega
              have ci : ¬ (j : Int) < j := by omega
              have HCD : Hid (ChMap wr m (i + j) (tabD l1 l2)) := by
                have h := HC.out
                rw [List.take_of_length_le (by rw [HE2.out.1]; exact Nat.le_refl _)] at h; exact h
              clear HC
              obtain ⟨D0, ho0, hs0⟩ := HCD.out
              have HTB := hid (tabD_tab HNA.out HNB.out)
              obtain ⟨tab, htab⟩ : ∃ f, tabD l1 l2 = f := ⟨_, rfl⟩
              have HTAB := hid htab
              rw [htab] at hs0 HTB
              have HO0 := hid ho0
              have HS0 := hid hs0
              have hz0' : Maps.size D0 ≤ i + j := ho0.size_le
              have hmr : m < wr.heap.size := ho0.lt
              have HBw : Hid (Below w.heap.size w wr) := HB2.out.trans (HB.out.mono (by rw [← HMD.out] at hs2 ⊢; exact hs2))
              have hsw : w.heap.size ≤ wr.heap.size := HBw.out.size
              clear ho0 hs0 htab HCD HBA HB hszr HC0 HB3 HE13 HE23 HB23 HE1' HE2
              rename World => wB
              go_wp2_with (first
                | (at_range; refine wpList_range_own _ rfl _ 118 rfl 9 50 (Maps.string_keyed Tryz.underlying9) Tryz.underlying118 _ m (i + j) _ rfl HO0.out ?_; intro w0 hrg0 hg0 hsz0; have HR0 := hid hrg0; have HG0 := hid hg0; clear hrg0 hg0 hsz0)
                | go_in)
              try go_frame
              go_loopw [17] (fun v wx => ∃ (left : Lit → Bool) (cnt : Nat) (ss : List (List UInt8)) (O : List Ch), Hid (wx.ranges Tryz.prog 9 (elemR valC datC) m wB.heap.size (i + j) D0 left cnt) ∧ Hid (ss.length + cnt ≤ Maps.size D0) ∧
                Hid (wx.ownsRow wB.heap.size 50 3 v O.length (O.flatMap chCs)) ∧ Hid (Collected D0 left ss) ∧ Hid (Below wB.heap.size wB wx) ∧ Hid (∀ c : Ch, c ∈ O ↔ c.path.data.toList ∈ ss ∧ tab c.path = some c ∧ c.was ≠ c.is) ∧ Hid ((O.map (fun c : Ch => c.path)).Nodup) ∧ O.length ≤ ss.length) (fun _ wx => wx.rangeLeft m wB.heap.size)
              case atStart =>
                exact ⟨_, _, [], [], HR0, by show 0 + _ ≤ _; omega, World.ownsRow_nil _ _ _ _, Collected.start D0, (Below.refl _ _).grown HG0.out (Nat.le_refl _) (fun j hj => by cases hj), fun c => by simp, List.nodup_nil, Nat.le_refl _⟩
              case round =>
                obtain ⟨left, cnt, ss, O, HRG, HCS, HRW, HC, HB, HIN, HND, hOs⟩ := hrel
                obtain ⟨va, vc, rfl, hvc⟩ := own_slice' HRW.out
                have hszr := HB.out.size
                go_wp2_with (first
                  | (at_next; refine wpList_next_ranges _ rfl _ rfl 9 (Maps.string_keyed Tryz.underlying9) (elemR valC datC) encStr valC (fun key kl hk => by obtain ⟨x, hx, _⟩ := Maps.keyOf_str Tryz.underlying9 hk; exact ⟨x, hx⟩) (fun v y hv => by obtain ⟨c, rfl, _⟩ := elemR_inv hv; exact ⟨c, rfl⟩) m wB.heap.size (i + j) _ _ _ rfl HRG.out ?_ ?_)
                  | go_in)
                · intro hc0 hl0
                  have HMEM : Hid (∀ c : Ch, c ∈ O ↔ tab c.path = some c ∧ c.was ≠ c.is) := fun c => by
                    refine (HIN.out c).trans ⟨fun h => h.2, fun h => ⟨?_, h⟩⟩
                    refine (HC.out.2 _).2 ⟨?_, hl0 _⟩
                    have := (HS0.out c.path).1
                    rw [h.1] at this
                    exact this
                  have hO6 : O.length ≤ 1000000 := by have := HCS.out; omega
                  have HBW : Hid (Below w.heap.size w wr) := HBw.out.trans (HB.out.mono hsw)
                  have HSO := hid (sortCh_own HTB.out wB.heap.size O.length (.slice va O.length vc) O wr w HM.out HBW.out hsw (fun c hc => ((HMEM.out c).1 hc).1) HND.out HRW.out hO6 rfl)
                  clear hc0 hl0
                  go_wp2_with (go_at_call 58; refine HSO.out.mono ?_; rintro e w9 ⟨D, rfl, hrow, hg, hDl, hDp, hDm⟩)
                  go_ret2
                  have HB9 : Below w.heap.size w w9 := HBW.out.grown hg HBW.out.size (fun j hj => Nat.le_trans hsw (HRW.out.lt j hj).1)
                  refine ⟨va, O.length, vc, D, 0, rfl, ⟨hDl, hO6, ?_⟩, HB9, ?_⟩
                  · by_cases h0 : O.length = 0
                    · exact .inl h0
                    · rcases hrow.2 with ⟨h1, h2⟩ | ⟨g, cap, cur, h1, hb, hg2, hn1, hc1, hsz, htk⟩
                      · exact .inl h2
                      · cases h1
                        refine .inr ⟨g, 0, rfl, fun jj hjj => ?_⟩
                        have hjd : jj < D.length := by omega
                        obtain ⟨x0, x1, x2⟩ := chvals_get D jj hjd
                        have c0 := hrow.cellAt (jj * 3) (by omega)
                        have c1 := hrow.cellAt (jj * 3 + 1) (by omega)
                        have c2 := hrow.cellAt (jj * 3 + 2) (by omega)
                        rw [Nat.zero_add]
                        exact ⟨c0.trans x0, c1.trans x1, c2.trans x2⟩
                  · rw [HL1.out, HL2.out]
                    simp only [ne_eq, not_true_eq_false, if_false]
                    refine ⟨trivial, hDp, fun c => ?_⟩
                    rw [HTAB.out]
                    exact (hDm c).trans (HMEM.out c)
                · intro x c kk yd yp w4 cnt2 hkey hlk hv hat hrg2 hlt2 hg2 hs2' hen
                  obtain ⟨x', ex, rfl, _⟩ := Maps.keyOf_str Tryz.underlying9 hkey
                  obtain rfl : x = x' := encStr_inj ex
                  have hct : tab (bz x) = some c := by
                    obtain ⟨c', ec, ey⟩ := elemR_inv hv
                    have ecc : c = c' := valC_inj _ _ ec
                    subst ecc
                    have hk : kl (bz x) = .string x := by unfold kl; simp [bz]
                    obtain ⟨b1, b2⟩ := HS0.out (bz x)
                    rw [hk] at b1 b2
                    have hhas : Maps.has D0 (.string x) = true := Maps.has_true_of_atKey hat
                    rw [hhas] at b1
                    cases ht : tab (bz x) with
                    | none => rw [ht] at b1; cases b1
                    | some d =>
                      have h1 := b2 d ht (datC d)
                      have h2 := hat (datC d)
                      rw [h1] at h2
                      have h3 : datC d = datC c := h2.trans (Prod.mk.inj ey).1
                      rw [datC_inj _ _ h3]
                  have hcp := (HTB.out _ _ hct).1
                  have HCT := hid hct
                  have HCP := hid hcp
                  have HRW2 := hid (HRW.out.kept hg2 (Or.inr (row_ne_iter HRW.out HRG.out).symm))
                  have HRG2 := hid hrg2; have HLT := hid hlt2
                  have HC2 := hid (HC.out.step hlk hat)
                  have hw4 : wB.heap.size ≤ w4.heap.size := Nat.le_trans hszr hg2.size
                  have HB2' : Hid (Below wB.heap.size wB w4) := HB.out.grown hg2 hszr (fun j hj => by cases hj; exact Nat.le_refl _)
                  have hOl : O.length ≤ 100000 := by have := HCS.out; omega
                  have hxs : Hid (x ∉ ss) := fun hx => by
                    have := ((HC.out.2 x).1 hx).2
                    rw [hlk] at this; cases this
                  clear hs2' hrg2 hlt2 hg2 hlk hat hkey hv hct hcp HRW HB HC
                  obtain ⟨pc, wc, ic⟩ := c
                  have ev : valC ⟨pc, wc, ic⟩ = .agg #[.string pc, .string wc, .string ic] := rfl
                  rw [ev] at hen ⊢
                  clear ev
                  go_upto_region 24 with fail
                  have HX1 : Hid (Blk (w4.alloc (.cells #[.string pc, .string wc, .string ic] 50)) w4.heap.size 50 #[.string pc, .string wc, .string ic]) := Blk.new w4 _ _
                  have HRW3 : Hid ((w4.alloc (.cells #[.string pc, .string wc, .string ic] 50)).ownsRow wB.heap.size 50 3 (.slice va O.length vc) O.length (O.flatMap chCs)) := HRW2.out.alloc _
                  have HRG3 := hid (HRG2.out.alloc (.cells #[.string pc, .string wc, .string ic] 50))
                  have HB3' : Hid (Below wB.heap.size wB (w4.alloc (.cells #[.string pc, .string wc, .string ic] 50))) := HB2'.out.alloc hw4 _
                  have hs3 : wB.heap.size ≤ (w4.alloc (.cells #[.string pc, .string wc, .string ic] 50)).heap.size := by rw [World.size_alloc]; omega
                  clear HRW2 HRG2 HB2' hen
                  generalize (w4.alloc (.cells #[.string pc, .string wc, .string ic] 50)) = w5 at HX1 HRW3 HRG3 HB3' hs3 ⊢
                  generalize w4.heap.size = g5 at HX1 ⊢
                  have k0 : w5.cell? ⟨g5, 0, none⟩ = some (.string pc) := Blk.cell HX1.out 0
                  have k1 : w5.cell? ⟨g5, 1, none⟩ = some (.string wc) := Blk.cell HX1.out 1
                  have k2 : w5.cell? ⟨g5, 2, none⟩ = some (.string ic) := Blk.cell HX1.out 2
                  have hE : (wc.toList == ic.toList) = decide (wc = ic) := by
                    rw [ba_toList, ba_toList, Bool.eq_iff_iff, beq_iff_eq, decide_eq_true_eq]
                    exact ⟨fun e => ba_ext e, fun e => by rw [e]⟩
                  have HIN2 : Hid (∀ c : Ch, c ∈ (if wc = ic then O else O ++ [⟨pc, wc, ic⟩]) ↔ c.path.data.toList ∈ ss ++ [x] ∧ tab c.path = some c ∧ c.was ≠ c.is) := by
                    intro c
                    have hct := HCT.out
                    have hpx : pc = bz x := HCP.out
                    rw [List.mem_append, List.mem_singleton]
                    constructor
                    · intro h
                      split at h
                      · have := (HIN.out c).1 h; exact ⟨.inl this.1, this.2⟩
                      · rename_i hne
                        rcases List.mem_append.1 h with h | h
                        · have := (HIN.out c).1 h; exact ⟨.inl this.1, this.2⟩
                        · rw [List.mem_singleton] at h; subst h
                          refine ⟨.inr ?_, ?_, hne⟩
                          · show pc.data.toList = x
                            rw [hpx]; simp [bz]
                          · show tab pc = _
                            rw [hpx, hct, hpx]
                    · rintro ⟨h1 | h1, h2, h3⟩
                      · have := (HIN.out c).2 ⟨h1, h2, h3⟩
                        split
                        · exact this
                        · exact List.mem_append.2 (.inl this)
                      · have hcx : c.path = bz x := by rw [← h1, bz_bl]
                        rw [hcx, hct] at h2
                        cases h2
                        rw [if_neg h3]
                        exact List.mem_append.2 (.inr (List.mem_singleton.2 rfl))
                  have HND2 : Hid (((if wc = ic then O else O ++ [⟨pc, wc, ic⟩]).map (fun c : Ch => c.path)).Nodup) := by
                    show List.Nodup _
                    split
                    · exact HND.out
                    · rw [List.map_append]
                      refine List.nodup_append.2 ⟨HND.out, by simp, fun p hp q hq e => ?_⟩
                      subst e
                      obtain ⟨c, hc, rfl⟩ := List.mem_map.1 hp
                      rw [List.map_singleton, List.mem_singleton] at hq
                      have h1 := ((HIN.out c).1 hc).1
                      have hq : c.path = pc := hq
                      have hpx : pc = bz x := HCP.out
                      rw [hq, hpx] at h1
                      exact hxs.out (by simpa [bz] using h1)
                  have hcs2 := HCS.out
                  by_cases hne : wc = ic
                  · have e1 : (wc.toList == ic.toList) = true := by rw [hE]; simp [hne]
                    rw [if_pos hne] at HIN2 HND2
                    have hlw : wB.heap.size ≤ w5.heap.size := hs3
                    clear hE
                    subst hne
                    go_wp2_with fail
                    go_roundw
                    case rel => first | exact ⟨_, cnt2, ss ++ [x], O, HRG3, by show _ ≤ _; have := HLT.out; rw [List.length_append]; simp only [List.length_cons, List.length_nil]; omega, HRW3, HC2, HB3', HIN2, HND2, by rw [List.length_append]; omega⟩ | ((repeat apply Exists.intro); exact ⟨⟨_, cnt2, ss ++ [x], O, HRG3, by show _ ≤ _; have := HLT.out; rw [List.length_append]; simp only [List.length_cons, List.length_nil]; omega, HRW3, HC2, HB3', HIN2, HND2, by rw [List.length_append]; omega⟩, rfl⟩)
                    case measure => rw [HRG3.out.left_eq, HRG.out.left_eq]; exact HLT.out
                  · have e1 : (wc.toList == ic.toList) = false := by rw [hE]; simp [hne]
                    rw [if_neg hne] at HIN2 HND2
                    clear hE hne
                    go_wp2_with (first
                      | (at_builtin; refine wpList_append_own _ rfl (.tmp 86) (.tmp 88) 45 rfl wB.heap.size 50 i0 (.agg #[.string ⟨#[]⟩, .string ⟨#[]⟩, .string ⟨#[]⟩]) 3 48 Tryz.underlying45 hi0 hz0 hz1 hz2 rfl (by decide) (.slice va O.length vc) _ _ rfl (HRW3.out.alloc _) ⟨w5.heap.size, 0, none⟩ 1 1 [.string pc, .string wc, .string ic] rfl rfl (cellNew3 _ _ _ _ _) (one3 rfl rfl rfl) (by unfold maxLen; omega) (by omega) (by rw [World.size_alloc]; omega) ?_; intro v' w9 hown' hgrow _; have HOWN := hid hown'; have HGR := hid hgrow; clear hown' hgrow)
                      | go_in)
                    have HRG9 := hid ((HRG3.out.alloc _).kept HGR.out (fun e => by have := (HRW3.out.lt m e.symm).1; omega) (row_ne_iter HRW3.out HRG3.out))
                    have HO9 : Hid (w9.ownsRow wB.heap.size 50 3 v' (O ++ [(⟨pc, wc, ic⟩ : Ch)]).length ((O ++ [(⟨pc, wc, ic⟩ : Ch)]).flatMap chCs)) := by
                      have h := HOWN.out
                      rw [List.flatMap_append, List.length_append]
                      exact h
                    have HB9 : Hid (Below wB.heap.size wB w9) := below_grown1 HB3'.out HRW3.out _ hs3 HGR.out
                    go_roundw
                    case rel => first | exact ⟨_, cnt2, ss ++ [x], O ++ [⟨pc, wc, ic⟩], HRG9, by show _ ≤ _; have := HLT.out; rw [List.length_append]; simp only [List.length_cons, List.length_nil]; omega, HO9, HC2, HB9, HIN2, HND2, by rw [List.length_append, List.length_append]; exact Nat.succ_le_succ hOs⟩ | ((repeat apply Exists.intro); exact ⟨⟨_, cnt2, ss ++ [x], O ++ [⟨pc, wc, ic⟩], HRG9, by show _ ≤ _; have := HLT.out; rw [List.length_append]; simp only [List.length_cons, List.length_nil]; omega, HO9, HC2, HB9, HIN2, HND2, by rw [List.length_append, List.length_append]; exact Nat.succ_le_succ hOs⟩, rfl⟩)
                    case measure => rw [HRG9.out.left_eq, HRG.out.left_eq]; exact HLT.out
    · have HRES : Hid (DiffOut G ia ib w (.returned (.tuple #[.slice none 0 0, .int .i64 e2])) w2) := by
        refine ⟨none, 0, 0, [], e2, rfl, ⟨rfl, by omega, .inl rfl⟩, HB2.out, ?_⟩
        rw [HL1.out, HL2.out]
        simp [he2]
      go_wp2_with fail
      go_ret2
      exact HRES.out
  · have HRES : Hid (DiffOut G ia ib w (.returned (.tuple #[.slice none 0 0, .int .i64 e1])) w1) := by
      refine ⟨none, 0, 0, [], e1, rfl, ⟨rfl, by omega, .inl rfl⟩, HB1.out, ?_⟩
      rw [HL1.out]
      simp [he1]
    go_wp2_with fail
    go_ret2
    exact HRES.out
end Go.Proofs.YtlenfiiocmchdaaGreatDoor
/- awake(): the answers that the document fixes by number. -/
namespace Go.Proofs.YtlenfiiocmchdaaGreatDoor
open Go.RowKit Book Pap Ojt Sn
set_option linter.unusedVariables false
set_option linter.unusedSimpArgs false

theorem src_small {l : List Fi} (h : ∀ f ∈ l, f.data.size ≤ 1000000000) : SrcSz (getF l) := fun id t ht => by
  unfold getF at ht
  cases hf : l.find? (fun f => decide (f.path = id)) with
  | none => rw [hf] at ht; cases ht
  | some f =>
    rw [hf] at ht
    cases ht
    exact h f (List.mem_of_find?_eq_some hf)
theorem items_small {l : List ByteArray} (h : ∀ s ∈ l, s.size ≤ 1000000000) : SrcSz (getF (itemsS l)) := src_small (fun f hf => by
  unfold itemsS at hf
  obtain ⟨t, ht, rfl⟩ := List.mem_map.1 hf
  exact h t ht)
set_option maxRecDepth 100000 in
set_option maxHeartbeats 16000000 in
theorem awake_any (w : World) (hm : MaxAt w) : Calls Tryz.prog 10 #[] w fun e w' => e = .returned (.bool true) ∧ Below w.heap.size w w' := by
  have HM := hid hm
  have HB0 : Hid (Below w.heap.size w ((w.alloc (.cells #[.slice none 0 0] 31)).alloc (.cells #[.string ⟨#[98]⟩, .string ⟨#[50]⟩, .string ⟨#[97, 47, 120]⟩, .string ⟨#[49]⟩] 71))) := ((Below.refl _ _).alloc (Nat.le_refl _) _).alloc (by rw [World.size_alloc]; omega) _
  have HBK : Hid (BookAt ((w.alloc (.cells #[.slice none 0 0] 31)).alloc (.cells #[.string ⟨#[98]⟩, .string ⟨#[50]⟩, .string ⟨#[97, 47, 120]⟩, .string ⟨#[49]⟩] 71)) w.heap.size []) := ⟨none, 0, 0, Blk.alloc (Blk.new w _ _) _, rfl, by omega, .inl rfl⟩
  have HFS : Hid (FisAt ((w.alloc (.cells #[.slice none 0 0] 31)).alloc (.cells #[.string ⟨#[98]⟩, .string ⟨#[50]⟩, .string ⟨#[97, 47, 120]⟩, .string ⟨#[49]⟩] 71)) (some ⟨w.heap.size + 1, 0, none⟩) 2 awF) := by
    have hb : Blk ((w.alloc (.cells #[.slice none 0 0] 31)).alloc (.cells #[.string ⟨#[98]⟩, .string ⟨#[50]⟩, .string ⟨#[97, 47, 120]⟩, .string ⟨#[49]⟩] 71)) (w.heap.size + 1) 71 #[.string ⟨#[98]⟩, .string ⟨#[50]⟩, .string ⟨#[97, 47, 120]⟩, .string ⟨#[49]⟩] := by
      have := Blk.new (w.alloc (.cells #[.slice none 0 0] 31)) 71 #[.string ⟨#[98]⟩, .string ⟨#[50]⟩, .string ⟨#[97, 47, 120]⟩, .string ⟨#[49]⟩]
      rw [World.size_alloc] at this; exact this
    refine ⟨rfl, by omega, .inr ⟨w.heap.size + 1, 0, rfl, fun j hj => ?_⟩⟩
    rcases (by omega : j = 0 ∨ j = 1) with rfl | rfl
    · exact ⟨Blk.cell hb 0, Blk.cell hb 1⟩
    · exact ⟨Blk.cell hb 2, Blk.cell hb 3⟩
  have HCO := hid (commit_any 29 (.pointer (some ⟨w.heap.size, 0, none⟩)) (getF []) (fun id t h => by cases h) (some ⟨w.heap.size + 1, 0, none⟩) 2 2 awF none 0 0 [] ⟨#[110]⟩ _ (book_src _ _ _ HBK.out) HFS.out (fun f hf => by unfold awF at hf; simp only [List.mem_cons, List.not_mem_nil, or_false] at hf; rcases hf with rfl | rfl <;> (constructor <;> decide)) ⟨rfl, by omega, .inl rfl⟩ (by decide) (HM.out.later HB0.out))
  have e0 : commitS (getF []) awF [] ⟨#[110]⟩ = awR := rfl
  rw [e0] at HCO
  obtain ⟨⟨⟨L, I⟩, er⟩, hr⟩ : ∃ r, awR = r := ⟨_, rfl⟩
  have HER : Hid (er = 0) := by have := aw_err; rw [hr] at this; exact this
  have HLL : Hid (awL = L) := by show awR.1.1 = L; rw [hr]
  have HII : Hid (awI = I) := by show awR.1.2 = I; rw [hr]
  rw [hr] at HCO
  clear hr e0 hm
  go_enter Tryz.func10, Tryz.ntmps10
  go_wp2_with fail
  generalize ((w.alloc (.cells #[.slice none 0 0] 31)).alloc (.cells #[.string ⟨#[98]⟩, .string ⟨#[50]⟩, .string ⟨#[97, 47, 120]⟩, .string ⟨#[49]⟩] 71)) = w1 at HB0 HBK HFS HCO ⊢
  refine HCO.out.mono ?_; rintro e w2 ⟨hb2, v, rfl, ho2⟩
  have hl5 : L.length = 5 := by rw [← HLL.out]; exact aw_len
  simp only at ho2
  rw [hl5] at ho2
  obtain ⟨la, lc, rfl, hst⟩ := own_strs (l := L) (by rw [hl5]; exact ho2) (by omega)
  rw [hl5] at hst
  have HST := hid hst
  have HB2 : Hid (Below w.heap.size w w2) := HB0.out.trans (hb2.mono HB0.out.size)
  obtain ⟨lb, loff, rfl, hc⟩ := hst.2.2.resolve_left (by omega)
  have q0 := hc 0 (by omega)
  have q2 := hc 2 (by omega)
  have g0 : L.getD 0 ByteArray.empty = ⟨#[1, 49]⟩ := by rw [← HLL.out]; exact aw_0
  have g2 : L.getD 2 ByteArray.empty = ⟨#[1, 50]⟩ := by rw [← HLL.out]; exact aw_2
  rw [g0, Nat.add_zero] at q0
  rw [g2] at q2
  have HSZ : Hid (∀ s ∈ L, s.size ≤ 1000000000) := fun s hs => by rw [← HLL.out] at hs; have := aw_sz s hs; omega
  have HIT := hid (items_any (some ⟨lb, loff, none⟩) 5 lc L w2 hst (by omega) HSZ.out)
  have her := HER.out
  rw [hl5]
  subst her
  clear hst ho2 hb2 hc g0 g2 hl5 HCO HER HBK HFS HB0
  go_wp2_with (go_at_call 34; refine HIT.out.mono ?_; rintro e w3 ⟨ia, ic, rfl, ho3, hb3⟩; have HO3 := hid ho3; have HB3 : Hid (Below w.heap.size w w3) := (below_then HB2.out hb3); clear ho3 hb3)
  have HS4 : Hid (SrcAt (w3.alloc (.cells #[.slice ia 5 ic] 31)) 29 (.pointer (some ⟨w3.heap.size, 0, none⟩)) awG) := by
    obtain ⟨ia', ic', he, hF⟩ := own_items HO3.out (by omega)
    injection he with e1 e2 e3
    subst e1; subst e3
    have hbk : BookAt (w3.alloc (.cells #[.slice ia 5 ic] 31)) w3.heap.size (itemsS L) := ⟨ia, 5, ic, Blk.new w3 _ _, hF.later ((Below.refl _ _).alloc (Nat.le_refl _) _)⟩
    have h := book_src w3.heap.size (itemsS L) _ hbk
    have e : getF (itemsS L) = awG := by show _ = getF (itemsS awL); rw [HLL.out]
    rw [e] at h
    exact h
  have HB4 : Hid (Below w.heap.size w (w3.alloc (.cells #[.slice ia 5 ic] 31))) := HB3.out.alloc HB3.out.size _
  have HZG : Hid (SrcSz awG) := items_small (fun s hs => by have := aw_sz s hs; omega)
  clear HO3 HB3 HIT HB2 q0 q2 HST
  generalize (w3.alloc (.cells #[.slice ia 5 ic] 31)) = w4 at HS4 HB4 ⊢
  generalize w3.heap.size = bb at HS4 ⊢
  have hI : awI = I := HII.out
  -- Files
  have HFI := hid (files_any 29 (.pointer (some ⟨bb, 0, none⟩)) awG HZG.out awI w4 HS4.out)
  rw [aw_files, hI] at HFI
  refine HFI.out.mono ?_; rintro e w5 ⟨fa, fn, fc, rfl, hF, hb5, -, -, -⟩
  obtain rfl : fn = 2 := hF.1.symm
  have HF5 := hid hF
  have HB5 : Hid (Below w.heap.size w w5) := below_then HB4.out hb5
  have HS5 : Hid (SrcAt w5 29 (.pointer (some ⟨bb, 0, none⟩)) awG) := HS4.out.later hb5
  clear hF hb5 HFI HS4 HB4
  -- Find
  have HFD := hid (find_any 29 (.pointer (some ⟨bb, 0, none⟩)) awG HZG.out awI ⟨#[97, 47, 120]⟩ w5 HS5.out (by decide) (HM.out.later HB5.out))
  have hfd := aw_find
  obtain ⟨⟨⟨xn, xk, xi⟩, xe⟩, hx⟩ : ∃ r, findS awG awI ⟨#[97, 47, 120]⟩ = r := ⟨_, rfl⟩
  rw [hx] at HFD hfd
  obtain ⟨h1, h2⟩ := hfd
  simp only at h1 h2
  subst h1; subst h2
  rw [hI] at HFD
  clear hx
  go_wp2_with fail
  refine HFD.out.mono ?_; rintro e w6 ⟨rfl, hb6⟩
  simp only [entCs]
  have HF6 : Hid (FisAt w6 fa 2 [⟨⟨#[97, 47, 120]⟩, ⟨#[49]⟩⟩, ⟨⟨#[98]⟩, ⟨#[50]⟩⟩]) := HF5.out.later hb6
  have HB6 : Hid (Below w.heap.size w w6) := below_then HB5.out hb6
  have HS6 : Hid (SrcAt w6 29 (.pointer (some ⟨bb, 0, none⟩)) awG) := HS5.out.later hb6
  clear hb6 HFD HF5 HB5 HS5
  have hb7 : Below w6.heap.size w6 (w6.alloc (.cells #[.string ⟨#[120]⟩, .int .i64 xk, .string xi] 40)) := (Below.refl _ _).alloc (Nat.le_refl _) _
  have HX7 : Hid (Blk (w6.alloc (.cells #[.string ⟨#[120]⟩, .int .i64 xk, .string xi] 40)) w6.heap.size 40 #[.string ⟨#[120]⟩, .int .i64 xk, .string xi]) := Blk.new w6 _ _
  have HF7 := hid (HF6.out.later hb7)
  have HS7 := hid (HS6.out.later hb7)
  have HB7 := hid (below_then HB6.out hb7)
  clear hb7 HF6 HS6 HB6
  go_upto_region 7 with fail
  generalize (w6.alloc (.cells #[.string ⟨#[120]⟩, .int .i64 xk, .string xi] 40)) = w7 at HX7 HF7 HS7 HB7 ⊢
  generalize w6.heap.size = xb at HX7 ⊢
  -- Log
  have hlk := aw_look
  obtain ⟨⟨X, xe⟩, hx⟩ : ∃ r, lookK awG awI 3 21 = r := ⟨_, rfl⟩
  rw [hx] at hlk
  obtain ⟨h1, h2, h3⟩ := hlk
  simp only at h1 h2 h3
  subst h1
  have HLG := hid (slog0_any 29 (.pointer (some ⟨bb, 0, none⟩)) awG HZG.out awI X hx h2 h3 (by have := aw_id; unfold maxLen; omega) w7 HS7.out)
  rw [hI] at HLG
  clear hx h2 h3
  go_wp2_with fail
  refine HLG.out.mono ?_; rintro e w8 ⟨ka, kc, rfl, hK, hb8⟩
  have HK8 := hid hK
  have HX8 : Hid (Blk w8 xb 40 #[.string ⟨#[120]⟩, .int .i64 xk, .string xi]) := (hb8.block xb (Blk.lt HX7.out)).trans HX7.out
  have HF8 := hid (HF7.out.later hb8)
  have HS8 := hid (HS7.out.later hb8)
  have HB8 := hid (below_then HB7.out hb8)
  clear hK hb8 HX7 HF7 HS7 HB7 HLG
  -- Diff
  have HDI := hid (diff_any 29 (.pointer (some ⟨bb, 0, none⟩)) awG HZG.out awI awI w8 HS8.out (HM.out.later HB8.out))
  have HDE : Hid (∀ (D : List Ch) (er : Int), (if (listS awG awI).2 ≠ 0 then er = (listS awG awI).2 ∧ D = [] else if (listS awG awI).2 ≠ 0 then er = (listS awG awI).2 ∧ D = [] else er = 0 ∧ IsDiff (listS awG awI).1 (listS awG awI).1 D) → er = 0 ∧ D = []) := fun D er h => by
    rw [aw_list, if_neg (by simp), if_neg (by simp)] at h
    exact ⟨h.1, aw_diff h.2⟩
  unfold DiffOut at HDI
  rw [hI] at HDI HDE
  go_wp2_with fail
  refine HDI.out.mono ?_; rintro e w9 ⟨da, dn, dc, D, de, rfl, hD, hb9, hde⟩
  obtain ⟨rfl, rfl⟩ := HDE.out D de hde
  obtain rfl : dn = 0 := hD.1.symm
  have HK9 := hid (HK8.out.later hb9)
  have HX9 : Hid (Blk w9 xb 40 #[.string ⟨#[120]⟩, .int .i64 xk, .string xi]) := (hb9.block xb (Blk.lt HX8.out)).trans HX8.out
  have HF9 := hid (HF8.out.later hb9)
  have HS9 := hid (HS8.out.later hb9)
  have HB9 := hid (below_then HB8.out hb9)
  clear hD hb9 hde HK8 HX8 HF8 HS8 HB8 HDI HDE
  -- Files of nothing
  have HFN := hid (files_any 29 (.pointer (some ⟨bb, 0, none⟩)) awG HZG.out ⟨#[120]⟩ w9 HS9.out)
  obtain ⟨⟨ML, me⟩, hmr⟩ : ∃ r, filesS awG ⟨#[120]⟩ = r := ⟨_, rfl⟩
  have hme := aw_none
  rw [hmr] at HFN hme
  simp only at hme
  subst hme
  clear hmr
  go_wp2_with fail
  refine HFN.out.mono ?_; rintro e wx ⟨ma, mn, mc, rfl, -, hbx, -, -, -⟩
  have HKX := hid (HK9.out.later hbx)
  have HXX : Hid (Blk wx xb 40 #[.string ⟨#[120]⟩, .int .i64 xk, .string xi]) := (hbx.block xb (Blk.lt HX9.out)).trans HX9.out
  have HFX := hid (HF9.out.later hbx)
  have HBX := hid (below_then HB9.out hbx)
  clear hbx HK9 HX9 HF9 HS9 HB9 HFN
  obtain ⟨fb, foff, rfl, hfc⟩ := HFX.out.2.2.resolve_left (by omega)
  obtain ⟨kb, koff, rfl, hkc⟩ := HKX.out.2.2.resolve_left (by omega)
  obtain ⟨f0, f1⟩ := hfc 0 (by omega)
  have f0 : wx.cell? ⟨fb, foff, none⟩ = some (.string ⟨#[97, 47, 120]⟩) := f0
  have f1 : wx.cell? ⟨fb, foff + 1, none⟩ = some (.string ⟨#[49]⟩) := f1
  have k0 := hkc 0 (by omega)
  have k0 : wx.cell? ⟨kb, koff, none⟩ = some (.string I) := k0
  have x0 : wx.cell? ⟨xb, 0, none⟩ = some (.string ⟨#[120]⟩) := Blk.cell HXX.out 0
  clear hfc hkc HFX HKX HXX
  go_wp2_with fail
  go_ret
  exact ⟨rfl, HBX.out⟩
end Go.Proofs.YtlenfiiocmchdaaGreatDoor
/- The shelf's map of Txt under texts: find, Get, Put, Del, Len, Keys. -/
namespace Go.Proofs.YtlenfiiocmchdaaGreatDoor
open Go.RowKit
set_option linter.unusedVariables false

def encTxt : ByteArray → Value := Value.string
def MapIsTxt (w : World) (m : Nat) (ks vs : Value) (l : List ByteArray) (ps : List ByteArray) : Prop :=
  Blk w m 148 #[ks, vs] ∧ w.ownsRow 0 9 1 ks l.length (svals l) ∧ w.ownsRow 0 9 1 vs ps.length (ps.map encTxt) ∧ ps.length = l.length ∧ Rising l ∧ l.length ≤ 1000000 ∧ ∀ k, ks.ownBlock = some k → vs.ownBlock ≠ some k
theorem encTxt_one (l : List ByteArray) : ∀ u ∈ l.map encTxt, u.oneCell' = true := by
  intro u hu; obtain ⟨x, _, rfl⟩ := List.mem_map.1 hu; rfl

set_option maxHeartbeats 1000000 in
theorem findTxt (m : Nat) (ks vs : Value) (l : List ByteArray) (ps : List ByteArray) (x : ByteArray) (w : World) (h : MapIsTxt w m ks vs l ps) :
    Calls Tryz.prog 78 #[.pointer (some ⟨m, 0, none⟩), .string x] w fun e w' => e = .returned (.tuple #[.int .i64 (posOf l x : Nat), .bool (hasN l x)]) ∧ w = w' := by
  obtain ⟨h1, h2, h3, h4, h5, h6, h7⟩ := h
  obtain ⟨ka, kc, rfl, hS⟩ := own_strs h2 (by omega)
  have c0 := h1.cell 0
  simp at c0
  have CB := hid (bs_names ka l.length kc l x w hS (by omega) h5)
  clear h1 h2 h3 h4 h5 hS
  go_enter Tryz.func78, Tryz.ntmps78
  go_wp2_with (go_at_call 126; refine CB.out.mono ?_; rintro e w' ⟨rfl, rfl⟩)
  go_ret2
  exact ⟨rfl, rfl⟩
/-- what is found -/
def getVTxt (l : List ByteArray) (ps : List ByteArray) (x : ByteArray) : ByteArray := if hasN l x = true then ps.getD (posOf l x) (⟨#[]⟩) else (⟨#[]⟩)
set_option maxHeartbeats 1000000 in
theorem getTxt (m : Nat) (ks vs : Value) (l : List ByteArray) (ps : List ByteArray) (x : ByteArray) (w : World) (h : MapIsTxt w m ks vs l ps) :
    Calls Tryz.prog 38 #[.pointer (some ⟨m, 0, none⟩), .string x] w fun e w' => e = .returned (.tuple #[encTxt (getVTxt l ps x), .bool (hasN l x)]) ∧ w = w' := by
  have CF := hid (findTxt m ks vs l ps x w h)
  obtain ⟨h1, h2, h3, h4, h5, h6, h7⟩ := h
  have hm := posOf_mem h5 x
  obtain ⟨va, vc, rfl, hvn⟩ := own_slice h3
  have c1 := h1.cell 1
  simp at c1
  obtain ⟨P, hP⟩ : ∃ P, posOf l x = P := ⟨_, rfl⟩
  unfold getVTxt
  rw [hP] at CF hm ⊢
  cases hh : hasN l x
  · rw [hh] at CF
    rw [if_neg (by simp)]
    clear h1 h2 h3 h4 h5 hm hh hP
    unfold encTxt
    go_enter Tryz.func38, Tryz.ntmps38
    go_wp2_with (go_at_call 78; refine CF.out.mono ?_; rintro e w' ⟨rfl, rfl⟩)
    go_ret2
    exact ⟨rfl, rfl⟩
  · rw [hh] at CF
    rw [if_pos rfl]
    have hlt := (hm.2 (hasN_iff.1 hh)).1
    have hcl := fun g => h3.cells (g := g)
    rcases h3.2 with ⟨e1, e2⟩ | ⟨g, cap, cur, e1, _, _, _⟩
    · omega
    · injection e1 with e2 e3 e4
      subst e2 e4
      have hc := hcl g rfl P (encTxt (ps.getD P (⟨#[]⟩))) (by rw [List.getElem?_map, List.getD_eq_getElem?_getD, List.getElem?_eq_getElem (by omega)]; rfl)
      rw [Addr.add_lit, Nat.zero_add] at hc
      obtain ⟨v, hv⟩ : ∃ v, ps.getD P (⟨#[]⟩) = v := ⟨_, rfl⟩
      rw [hv] at hc ⊢
      unfold encTxt at hc ⊢
      have hPl : P < ps.length := by omega
      clear h1 h2 h3 h4 h5 hm hh hP hcl hv
      go_enter Tryz.func38, Tryz.ntmps38
      go_wp2_with (go_at_call 78; refine CF.out.mono ?_; rintro e w' ⟨rfl, rfl⟩)
      go_ret2
      exact ⟨rfl, rfl⟩
theorem lenTxt (m : Nat) (ks vs : Value) (l : List ByteArray) (ps : List ByteArray) (w : World) (h : MapIsTxt w m ks vs l ps) :
    Calls Tryz.prog 40 #[.pointer (some ⟨m, 0, none⟩)] w fun e w' => e = .returned (.int .i64 l.length) ∧ w = w' := by
  obtain ⟨h1, h2, h3, h4, h5, h6, h7⟩ := h
  obtain ⟨ka, kc, rfl, hS⟩ := own_strs h2 (by omega)
  have c0 := h1.cell 0
  simp at c0
  clear h1 h2 h3 h4 h5 hS
  go_enter Tryz.func40, Tryz.ntmps40
  go_wp2_with fail
  go_ret
  exact ⟨rfl, rfl⟩
/-- what a map's values are behind Put, behind Del -/
def putVTxt (l : List ByteArray) (ps : List ByteArray) (x : ByteArray) (v : ByteArray) : List ByteArray := if hasN l x = true then ps.set (posOf l x) v else ps.take (posOf l x) ++ v :: ps.drop (posOf l x)
def delVTxt (l : List ByteArray) (ps : List ByteArray) (x : ByteArray) : List ByteArray := if hasN l x = true then ps.take (posOf l x) ++ ps.drop (posOf l x + 1) else ps
theorem putN_lenTxt (l : List ByteArray) (ps : List ByteArray) (x : ByteArray) (v : ByteArray) (h : ps.length = l.length) : (putVTxt l ps x v).length = (putN l x).length := by
  have := posOf_le l x
  unfold putVTxt putN
  split
  · simp [h]
  · simp [h]
theorem delN_lenTxt (l : List ByteArray) (ps : List ByteArray) (x : ByteArray) (h : ps.length = l.length) : (delVTxt l ps x).length = (delN l x).length := by
  unfold delVTxt delN
  split <;> simp [h]

set_option maxHeartbeats 2000000 in
theorem delTxt_has (m : Nat) (ks vs : Value) (l : List ByteArray) (ps : List ByteArray) (x : ByteArray) (w : World) (h : MapIsTxt w m ks vs l ps) (hh : hasN l x = true) :
    Calls Tryz.prog 39 #[.pointer (some ⟨m, 0, none⟩), .string x] w fun e w' => e = .returned (.bool true) ∧ ∃ ks' vs', MapIsTxt w' m ks' vs' (delN l x) (delVTxt l ps x) ∧ Only (MapF m ks vs) w w' ∧ (∀ k, MapF m ks' vs' k → MapF m ks vs k) := by
  have CF := hid (findTxt m ks vs l ps x w h)
  obtain ⟨h1, h2, h3, h4, h5, h6, h7⟩ := h
  have hm := (posOf_mem h5 x).2 (hasN_iff.1 hh)
  have hris := delN_rising h5 x
  have hlen := delN_lenTxt l ps x h4
  have eN : delN l x = l.take (posOf l x) ++ l.drop (posOf l x + 1) := by unfold delN; rw [if_pos hh]
  have eV : delVTxt l ps x = ps.take (posOf l x) ++ ps.drop (posOf l x + 1) := by unfold delVTxt; rw [if_pos hh]
  rw [hh] at CF
  obtain ⟨P, hP⟩ : ∃ P, posOf l x = P := ⟨_, rfl⟩
  rw [hP] at CF hm eN eV
  have hlN : (delN l x).length = l.length - 1 := by rw [eN]; simp; omega
  have f0 := h1.frozen 0
  have f1 := h1.frozen 1
  have c0 := h1.cell 0
  have c1 := h1.cell 1
  simp at c0 c1
  have C1 := hid (delStr ks l.length P (svals l) w h2 (svals_one l) (by omega) (by omega))
  have d1 := own_blk_ne h2 h1 (by decide)
  have d2 := own_blk_ne h3 h1 (by decide)
  have d3 : ∀ k, ks.ownBlock = some k → vs.ownBlock ≠ some k := h7
  have G2 := hid h2; have G3 := hid h3; have G1 := hid h1
  have EN := hid eN; have EV := hid eV; have HR := hid hris; have HL := hid hlen; have HLN := hid hlN
  have hPl : P < l.length := hm.1
  have hPp : P < ps.length := by omega
  have hps : ps.length ≤ 1000000 := by omega
  obtain ⟨ka, kc, rfl, hkc⟩ := own_slice h2
  obtain ⟨va, vc, rfl, hvc⟩ := own_slice h3
  clear h1 h2 h3 h4 h5 hm hris hlen eN eV hh hP hlN
  have K1 := hid d1; have K2 := hid d2; have K3 := hid d3
  clear d1 d2 d3
  go_enter Tryz.func39, Tryz.ntmps39
  go_wp2_with fail
  refine CF.out.mono ?_; rintro e w' ⟨rfl, rfl⟩
  go_wp2_with fail
  refine C1.out.mono ?_; rintro e w1 ⟨k', rfl, o1, g1, b1⟩
  have B1 : Blk w1 m 148 #[.slice ka l.length kc, .slice va ps.length vc] := G1.out.grown g1 (fun e => K1.out e.symm)
  have V1 : w1.ownsRow 0 9 1 (.slice va ps.length vc) ps.length (ps.map encTxt) := G3.out.kept g1 (by
    cases hv : (Value.slice va ps.length vc).ownBlock with
    | none => exact .inl rfl
    | some k => exact .inr (fun e => K3.out k e.symm hv))
  obtain ⟨ka', kc', rfl, hkc'⟩ := own_slice o1
  have c0' := B1.cell 0
  have c1' := B1.cell 1
  have f0' := B1.frozen 0
  have f1' := B1.frozen 1
  simp at c0' c1'
  clear c0 c1 f0 f1
  have B2 := B1.set 0 (.slice ka' (l.length - 1) kc')
  have O2 : Only (· = m) w1 (w1.setCell ⟨m, 0, none⟩ (.slice ka' (l.length - 1) kc')) := (Only.refl (· = m) w1).setCell (p := ⟨m, 0, none⟩) (.inl rfl) _
  have V2 : (w1.setCell ⟨m, 0, none⟩ (.slice ka' (l.length - 1) kc')).ownsRow 0 9 1 (.slice va ps.length vc) ps.length (ps.map encTxt) := own_only V1 O2 (fun k hk e => by subst e; exact K2.out hk)
  have N2 : (w1.setCell ⟨m, 0, none⟩ (.slice ka' (l.length - 1) kc')).ownsRow 0 9 1 (.slice ka' (l.length - 1) kc') (l.length - 1) ((svals l).take P ++ (svals l).drop (P + 1)) := own_only o1 O2 (fun k hk e => by subst e; rw [b1] at hk; exact K1.out hk)
  have Z2 : (w1.setCell ⟨m, 0, none⟩ (.slice ka' (l.length - 1) kc')).heap.size = w1.heap.size := by simp [World.setCell]
  have C2 := hid (delStr _ ps.length P (ps.map encTxt) _ V2 (encTxt_one ps) hPp (by omega))
  have H2 := hid B2; have HN2 := hid N2; have HV2 := hid V2; have HG1 := hid g1; have HB1 := hid b1; have HO2 := hid O2
  clear B1 B2 O2 V1 V2 N2 o1 Z2 g1 b1
  go_wp2_with fail
  refine C2.out.mono ?_; rintro e w3 ⟨v', rfl, o3, g3, b3⟩
  obtain ⟨va', vc', rfl, hvc'⟩ := own_slice o3
  have B3 : Blk w3 m 148 #[.slice ka' (l.length - 1) kc', .slice va ps.length vc] := by
    have := H2.out.grown g3 (fun e => K2.out e.symm)
    simpa using this
  have c0 := B3.cell 0
  have c1 := B3.cell 1
  have f0 := B3.frozen 0
  have f1 := B3.frozen 1
  simp at c0 c1
  have HFIN : Hid (∃ ks' vs', MapIsTxt (w3.setCell ⟨m, 1, none⟩ (.slice va' (ps.length - 1) vc')) m ks' vs' (delN l x) (delVTxt l ps x) ∧ Only (MapF m (.slice ka l.length kc) (.slice va ps.length vc)) w (w3.setCell ⟨m, 1, none⟩ (.slice va' (ps.length - 1) vc')) ∧ (∀ k, MapF m ks' vs' k → MapF m (.slice ka l.length kc) (.slice va ps.length vc) k)) := by
    refine ⟨.slice ka' (l.length - 1) kc', .slice va' (ps.length - 1) vc', ⟨?_, ?_, ?_, HL.out, HR.out, by rw [HLN.out]; omega, ?_⟩, ?_, ?_⟩
    · have := B3.set 1 (.slice va' (ps.length - 1) vc')
      simpa using this
    · have h1 : w3.ownsRow 0 9 1 (.slice ka' (l.length - 1) kc') (l.length - 1) ((svals l).take P ++ (svals l).drop (P + 1)) := HN2.out.kept g3 (by
        cases hv : (Value.slice ka' (l.length - 1) kc').ownBlock with
        | none => exact .inl rfl
        | some k => exact .inr (fun e => by rw [HB1.out] at hv; exact K3.out k hv e.symm))
      have h2 := own_only h1 ((Only.refl (· = m) w3).setCell (p := ⟨m, 1, none⟩) (.inl rfl) (.slice va' (ps.length - 1) vc')) (fun k hk e => by subst e; rw [HB1.out] at hk; exact K1.out hk)
      rw [HLN.out, EN.out]
      unfold svals at h2 ⊢
      rw [List.map_append, List.map_take, List.map_drop]
      exact h2
    · have h2 := own_only o3 ((Only.refl (· = m) w3).setCell (p := ⟨m, 1, none⟩) (.inl rfl) (.slice va' (ps.length - 1) vc')) (fun k hk e => by subst e; rw [b3] at hk; exact K2.out hk)
      have e1 : (delVTxt l ps x).length = ps.length - 1 := by rw [EV.out]; simp; omega
      rw [e1, EV.out, List.map_append, List.map_take, List.map_drop]
      exact h2
    · intro k hk hk'
      rw [HB1.out] at hk; rw [b3] at hk'; exact K3.out k hk hk'
    · have q1 := (Only.refl (MapF m (.slice ka l.length kc) (.slice va ps.length vc)) w).grown HG1.out (fun k hk => .inl (.inr (.inl hk)))
      have q2 := q1.setCell (p := ⟨m, 0, none⟩) (.inl (.inl rfl)) (.slice ka' (l.length - 1) kc')
      have q3 := q2.grown g3 (fun k hk => .inl (.inr (.inr hk)))
      exact q3.setCell (p := ⟨m, 1, none⟩) (.inl (.inl rfl)) _
    · rintro k (h | h | h)
      · exact .inl h
      · rw [HB1.out] at h; exact .inr (.inl h)
      · rw [b3] at h; exact .inr (.inr h)
  clear o3 g3 b3 B3
  go_wp2_with fail
  go_ret
  exact ⟨rfl, HFIN.out⟩

set_option maxHeartbeats 1000000 in
theorem delTxt_no (m : Nat) (ks vs : Value) (l : List ByteArray) (ps : List ByteArray) (x : ByteArray) (w : World) (h : MapIsTxt w m ks vs l ps) (hh : hasN l x = false) :
    Calls Tryz.prog 39 #[.pointer (some ⟨m, 0, none⟩), .string x] w fun e w' => e = .returned (.bool false) ∧ w = w' := by
  have CF := hid (findTxt m ks vs l ps x w h)
  rw [hh] at CF
  clear h
  go_enter Tryz.func39, Tryz.ntmps39
  go_wp2_with (go_at_call 78; refine CF.out.mono ?_; rintro e w' ⟨rfl, rfl⟩)
  go_ret
  exact ⟨rfl, rfl⟩
theorem delTxt_any (m : Nat) (ks vs : Value) (l : List ByteArray) (ps : List ByteArray) (x : ByteArray) (w : World) (h : MapIsTxt w m ks vs l ps) :
    Calls Tryz.prog 39 #[.pointer (some ⟨m, 0, none⟩), .string x] w fun e w' => e = .returned (.bool (hasN l x)) ∧ ∃ ks' vs', MapIsTxt w' m ks' vs' (delN l x) (delVTxt l ps x) ∧ Only (MapF m ks vs) w w' ∧ (∀ k, MapF m ks' vs' k → MapF m ks vs k) := by
  cases hh : hasN l x
  · refine (delTxt_no m ks vs l ps x w h hh).mono ?_
    rintro e w' ⟨rfl, rfl⟩
    have e1 : delN l x = l := by unfold delN; rw [if_neg (by simp [hh])]
    have e2 : delVTxt l ps x = ps := by unfold delVTxt; rw [if_neg (by simp [hh])]
    rw [e1, e2]
    exact ⟨rfl, ks, vs, h, Only.refl _ _, fun _ h => h⟩
  · exact delTxt_has m ks vs l ps x w h hh

set_option maxHeartbeats 2000000 in
theorem putTxt_has (m : Nat) (ks vs : Value) (l : List ByteArray) (ps : List ByteArray) (x : ByteArray) (y : ByteArray) (w : World) (h : MapIsTxt w m ks vs l ps) (hh : hasN l x = true) :
    Calls Tryz.prog 36 #[.pointer (some ⟨m, 0, none⟩), .string x, encTxt y] w fun e w' => e = .returned (.bool false) ∧ MapIsTxt w' m ks vs (putN l x) (putVTxt l ps x y) ∧ Only (MapF m ks vs) w w' := by
  have CF := hid (findTxt m ks vs l ps x w h)
  have h0 := h
  obtain ⟨h1, h2, h3, h4, h5, h6, h7⟩ := h
  have hm := (posOf_mem h5 x).2 (hasN_iff.1 hh)
  have eN : putN l x = l := by unfold putN; rw [if_pos hh]
  have eV : putVTxt l ps x y = ps.set (posOf l x) y := by unfold putVTxt; rw [if_pos hh]
  rw [eN, eV]
  rw [hh] at CF
  obtain ⟨P, hP⟩ : ∃ P, posOf l x = P := ⟨_, rfl⟩
  rw [hP] at CF hm ⊢
  rcases h3.2 with ⟨rfl, e2⟩ | ⟨g, cap, cur, rfl, hb, hg, hnc, hcm, hsz, htk⟩
  · omega
  · unfold maxLen at hcm
    rw [Nat.mul_one] at hsz htk
    have B3 : Blk w g 9 cur := hg
    have c1 := h1.cell 1
    simp at c1
    have hgm : g ≠ m := B3.ne h1 (by decide)
    have cg : w.cell? ⟨g, P, none⟩ = some (encTxt (ps.getD P (⟨#[]⟩))) := by
      rw [B3.cell, ← Array.getElem?_toList, ← List.getElem?_take_of_lt (j := ps.length) (by omega), htk, List.getElem?_map, List.getD_eq_getElem?_getD, List.getElem?_eq_getElem (by omega)]; rfl
    have fg := B3.frozen P
    have HFIN : Hid (MapIsTxt (w.setCell ⟨g, P, none⟩ (encTxt y)) m ks (.slice (some ⟨g, 0, none⟩) ps.length cap) l (ps.set P y) ∧ Only (MapF m ks (.slice (some ⟨g, 0, none⟩) ps.length cap)) w (w.setCell ⟨g, P, none⟩ (encTxt y))) := by
      have O : Only (· = g) w (w.setCell ⟨g, P, none⟩ (encTxt y)) := (Only.refl (· = g) w).setCell (p := ⟨g, P, none⟩) (.inl rfl) _
      refine ⟨⟨h1.only O (fun e => hgm e.symm), own_only h2 O (fun k hk e => by subst e; exact h7 _ hk rfl), ?_, by simp [h4], h5, h6, h7⟩, O.mono (fun i hi => .inr (.inr (by rw [hi]; rfl)))⟩
      refine ⟨by simp, .inr ⟨g, cap, _, by rw [List.length_set], hb, B3.set P _, by simpa using hnc, by unfold maxLen; omega, by simp [hsz], ?_⟩⟩
      rw [List.length_set, Nat.mul_one, Array.toList_setIfInBounds, List.take_set, htk, List.map_set]
    obtain ⟨v0, hv0⟩ : ∃ v0, ps.getD P (⟨#[]⟩) = v0 := ⟨_, rfl⟩
    rw [hv0] at cg
    have hPl : P < ps.length := by omega
    unfold encTxt at cg HFIN ⊢
    clear h0 h1 h2 h3 h4 h5 hm hh hP hg htk hsz B3 hv0 hgm eN eV hb
    go_enter Tryz.func36, Tryz.ntmps36
    go_wp2_with (go_at_call 78; refine CF.out.mono ?_; rintro e w' ⟨rfl, rfl⟩)
    go_ret
    exact ⟨rfl, HFIN.out⟩

set_option maxHeartbeats 2000000 in
theorem putTxt_no (m : Nat) (ks vs : Value) (l : List ByteArray) (ps : List ByteArray) (x : ByteArray) (y : ByteArray) (w : World) (h : MapIsTxt w m ks vs l ps) (hh : hasN l x = false) (hl : l.length < 1000000) :
    Calls Tryz.prog 36 #[.pointer (some ⟨m, 0, none⟩), .string x, encTxt y] w fun e w' => e = .returned (.bool true) ∧ ∃ ks' vs', MapIsTxt w' m ks' vs' (putN l x) (putVTxt l ps x y) ∧ Only (MapF m ks vs) w w' ∧ (∀ k, MapF m ks' vs' k → MapF m ks vs k ∨ w.heap.size ≤ k) := by
  have CF := hid (findTxt m ks vs l ps x w h)
  obtain ⟨h1, h2, h3, h4, h5, h6, h7⟩ := h
  have hris := putN_rising h5 x
  have hlen := putN_lenTxt l ps x y h4
  have hple := posOf_le l x
  have eN : putN l x = l.take (posOf l x) ++ x :: l.drop (posOf l x) := by unfold putN; rw [if_neg (by simp [hh])]
  have eV : putVTxt l ps x y = ps.take (posOf l x) ++ y :: ps.drop (posOf l x) := by unfold putVTxt; rw [if_neg (by simp [hh])]
  rw [hh] at CF
  obtain ⟨P, hP⟩ : ∃ P, posOf l x = P := ⟨_, rfl⟩
  rw [hP] at CF hple eN eV
  have hlN : (putN l x).length = l.length + 1 := by rw [eN]; simp; omega
  have c0 := h1.cell 0
  have c1 := h1.cell 1
  have f0 := h1.frozen 0
  have f1 := h1.frozen 1
  simp at c0 c1
  have hml := h1.lt
  have A1 : Blk (w.alloc (.cells #[.string x] 9)) w.heap.size 9 #[.string x] := Blk.new w _ _
  have C1 := hid (insStr ks l.length P (svals l) (.string x) w.heap.size _ (h2.alloc _) (svals_one l) rfl hple (by omega) A1 (fun e => by have := own_lt h2 e; omega))
  have hkl : ∀ k, ks.ownBlock = some k → k < w.heap.size := fun k hk => own_lt h2 hk
  have K6 := hid hkl
  clear hkl
  have d1 := own_blk_ne h2 h1 (by decide)
  have d2 := own_blk_ne h3 h1 (by decide)
  have d3 : ∀ k, ks.ownBlock = some k → vs.ownBlock ≠ some k := h7
  have hvl : ∀ k, vs.ownBlock = some k → k < w.heap.size := fun k hk => own_lt h3 hk
  have G1 := hid h1; have G2 := hid h2; have G3 := hid h3
  have EN := hid eN; have EV := hid eV; have HR := hid hris; have HL := hid hlen; have HLN := hid hlN
  have hPp : P ≤ ps.length := by omega
  have hps : ps.length < 1000000 := by omega
  have K1 := hid d1; have K2 := hid d2; have K3 := hid d3; have K4 := hid hvl; have K5 := hid hml
  obtain ⟨ka, kc, rfl, hkc⟩ := own_slice h2
  obtain ⟨va, vc, rfl, hvc⟩ := own_slice h3
  clear h1 h2 h3 h4 h5 h6 hris hlen eN eV hh hP hlN d1 d2 d3 hvl A1
  unfold encTxt
  go_enter Tryz.func36, Tryz.ntmps36
  go_wp2_with fail
  refine CF.out.mono ?_; rintro e w' ⟨rfl, rfl⟩
  go_wp2_with fail
  refine C1.out.mono ?_; rintro e w1 ⟨k', rfl, o1, g1, b1⟩
  obtain ⟨ka', kc', rfl, hkc'⟩ := own_slice o1
  have B1 : Blk w1 m 148 #[.slice ka l.length kc, .slice va ps.length vc] := (G1.out.alloc _).grown g1 (fun e => K1.out e.symm)
  have V1 : w1.ownsRow 0 9 1 (.slice va ps.length vc) ps.length (ps.map encTxt) := (G3.out.alloc _).kept g1 (by
    cases hv : (Value.slice va ps.length vc).ownBlock with
    | none => exact .inl rfl
    | some k => exact .inr (fun e => K3.out k e.symm hv))
  have S1 : Hid (w.heap.size ≤ w1.heap.size) := by have := g1.size; simp at this; unfold Hid; omega
  clear c0 c1 f0 f1 hml
  have c0 := B1.cell 0
  have c1 := B1.cell 1
  have f0 := B1.frozen 0
  have f1 := B1.frozen 1
  simp at c0 c1
  have hml1 := B1.lt
  obtain ⟨w2, hw2⟩ : ∃ w2, w2 = w1.setCell ⟨m, 0, none⟩ (.slice ka' (l.length + 1) kc') := ⟨_, rfl⟩
  have O2 : Only (· = m) w1 w2 := by rw [hw2]; exact (Only.refl (· = m) w1).setCell (p := ⟨m, 0, none⟩) (.inl rfl) _
  have B2 : Blk w2 m 148 #[.slice ka' (l.length + 1) kc', .slice va ps.length vc] := by
    have := B1.set 0 (.slice ka' (l.length + 1) kc')
    rw [hw2]; simpa using this
  have kne : ∀ k, (Value.slice ka' (l.length + 1) kc').ownBlock = some k → k ≠ m := fun k hk e => by
    subst e
    rcases b1 with b1 | b1
    · rw [b1] at hk; exact K1.out hk
    · rw [b1] at hk; injection hk with hk; simp at hk; have := K5.out; omega
  have N2 : w2.ownsRow 0 9 1 (.slice ka' (l.length + 1) kc') (l.length + 1) ((svals l).take P ++ .string x :: (svals l).drop P) := own_only o1 O2 kne
  have V2 : w2.ownsRow 0 9 1 (.slice va ps.length vc) ps.length (ps.map encTxt) := own_only V1 O2 (fun k hk e => by subst e; exact K2.out hk)
  have Z2 : w2.heap.size = w1.heap.size := by rw [hw2]; simp [World.setCell]
  have A2 : Blk (w2.alloc (.cells #[encTxt y] 9)) w2.heap.size 9 #[encTxt y] := Blk.new w2 _ _
  have C2 := hid (insStr _ ps.length P (ps.map encTxt) (encTxt y) w2.heap.size _ (V2.alloc _) (encTxt_one ps) rfl hPp (by omega) A2 (fun e => by have := own_lt V2 e; omega))
  have H2 := hid B2; have HN2 := hid N2; have HV2 := hid V2; have HG1 := hid g1; have HB1 := hid b1; have HO2 := hid O2; have HW2 := hid hw2; have HZ2 := hid Z2; have HKN := hid kne
  have HSEP : Hid (∀ k, (Value.slice ka' (l.length + 1) kc').ownBlock = some k → (Value.slice va ps.length vc).ownBlock ≠ some k) := fun k hk hk' => by
    rcases b1 with b1 | b1
    · rw [b1] at hk; exact K3.out k hk hk'
    · rw [b1] at hk; injection hk with hk; simp at hk; have := K4.out k hk'; omega
  clear B1 B2 O2 V1 V2 N2 o1 Z2 g1 b1 A2 kne hw2
  unfold encTxt at C2
  go_wp2_with fail
  rw [← HW2.out, ← HZ2.out]
  refine C2.out.mono ?_; rintro e w3 ⟨v', rfl, o3, g3, b3⟩
  obtain ⟨va', vc', rfl, hvc'⟩ := own_slice o3
  have B3 : Blk w3 m 148 #[.slice ka' (l.length + 1) kc', .slice va ps.length vc] := (H2.out.alloc _).grown g3 (fun e => K2.out e.symm)
  clear c0 c1 f0 f1 hml1
  have c0 := B3.cell 0
  have c1 := B3.cell 1
  have f0 := B3.frozen 0
  have f1 := B3.frozen 1
  simp at c0 c1
  have HFIN : Hid (∃ ks' vs', MapIsTxt (w3.setCell ⟨m, 1, none⟩ (.slice va' (ps.length + 1) vc')) m ks' vs' (putN l x) (putVTxt l ps x y) ∧ Only (MapF m (.slice ka l.length kc) (.slice va ps.length vc)) w (w3.setCell ⟨m, 1, none⟩ (.slice va' (ps.length + 1) vc')) ∧ (∀ k, MapF m ks' vs' k → MapF m (.slice ka l.length kc) (.slice va ps.length vc) k ∨ w.heap.size ≤ k)) := by
    have vne : ∀ k, (Value.slice va' (ps.length + 1) vc').ownBlock = some k → k ≠ m := fun k hk e => by
      subst e
      rcases b3 with b3 | b3
      · rw [b3] at hk; exact K2.out hk
      · rw [b3] at hk; injection hk with hk; simp at hk; have := H2.out.lt; omega
    have O4 : Only (· = m) w3 (w3.setCell ⟨m, 1, none⟩ (.slice va' (ps.length + 1) vc')) := (Only.refl (· = m) w3).setCell (p := ⟨m, 1, none⟩) (.inl rfl) _
    refine ⟨.slice ka' (l.length + 1) kc', .slice va' (ps.length + 1) vc', ⟨?_, ?_, ?_, HL.out, HR.out, by rw [HLN.out]; omega, ?_⟩, ?_, ?_⟩
    · have := B3.set 1 (.slice va' (ps.length + 1) vc')
      simpa using this
    · have h1 : w3.ownsRow 0 9 1 (.slice ka' (l.length + 1) kc') (l.length + 1) ((svals l).take P ++ .string x :: (svals l).drop P) := (HN2.out.alloc _).kept g3 (by
        cases hv : (Value.slice ka' (l.length + 1) kc').ownBlock with
        | none => exact .inl rfl
        | some k => exact .inr (fun e => HSEP.out k hv e.symm))
      have h2 := own_only h1 O4 HKN.out
      rw [HLN.out, EN.out]
      unfold svals at h2 ⊢
      rw [List.map_append, List.map_cons, List.map_take, List.map_drop]
      exact h2
    · have h2 := own_only o3 O4 vne
      have e1 : (putVTxt l ps x y).length = ps.length + 1 := by rw [EV.out]; simp; omega
      rw [e1, EV.out, List.map_append, List.map_cons, List.map_take, List.map_drop]
      exact h2
    · intro k hk hk'
      rcases b3 with b3 | b3
      · rw [b3] at hk'; exact HSEP.out k hk hk'
      · rw [b3] at hk'; injection hk' with hk'; simp at hk'; have := own_lt HN2.out hk; omega
    · have q0 := (Only.refl (MapF m (.slice ka l.length kc) (.slice va ps.length vc)) w).alloc (.cells #[.string x] 9)
      have q1 := q0.grown HG1.out (fun k hk => .inl (.inr (.inl hk)))
      have q2 : Only (MapF m (.slice ka l.length kc) (.slice va ps.length vc)) w w2 := q1.trans HO2.out (fun i hi => .inl (.inl hi))
      have q3 := (q2.alloc (.cells #[encTxt y] 9)).grown g3 (fun k hk => .inl (.inr (.inr hk)))
      exact q3.setCell (p := ⟨m, 1, none⟩) (.inl (.inl rfl)) _
    · rintro k (h | h | h)
      · exact .inl (.inl h)
      · rcases HB1.out with b1 | b1
        · rw [b1] at h; exact .inl (.inr (.inl h))
        · rw [b1] at h; injection h with h; simp at h; exact .inr (by omega)
      · rcases b3 with b3 | b3
        · rw [b3] at h; exact .inl (.inr (.inr h))
        · rw [b3] at h; injection h with h; simp at h; have := S1.out; have := HZ2.out; exact .inr (by omega)
  clear o3 g3 b3 B3
  go_wp2_with fail
  go_ret
  exact ⟨rfl, HFIN.out⟩
theorem putTxt_any (m : Nat) (ks vs : Value) (l : List ByteArray) (ps : List ByteArray) (x : ByteArray) (y : ByteArray) (w : World) (h : MapIsTxt w m ks vs l ps) (hl : l.length < 1000000) :
    Calls Tryz.prog 36 #[.pointer (some ⟨m, 0, none⟩), .string x, encTxt y] w fun e w' => e = .returned (.bool (!hasN l x)) ∧ ∃ ks' vs', MapIsTxt w' m ks' vs' (putN l x) (putVTxt l ps x y) ∧ Only (MapF m ks vs) w w' ∧ (∀ k, MapF m ks' vs' k → MapF m ks vs k ∨ w.heap.size ≤ k) := by
  cases hh : hasN l x
  · exact putTxt_no m ks vs l ps x y w h hh hl
  · refine (putTxt_has m ks vs l ps x y w h hh).mono ?_
    rintro e w' ⟨rfl, h1, h2⟩
    exact ⟨rfl, ks, vs, h1, h2, fun _ h => .inl h⟩
end Go.Proofs.YtlenfiiocmchdaaGreatDoor
/- The shelf's map of texts under texts, plain: as a table of what is found. -/
namespace Go.Proofs.YtlenfiiocmchdaaGreatDoor
open Go.RowKit
set_option linter.unusedVariables false
set_option linter.unusedSimpArgs false

/-- what a map holds under a key -/
def getO (l ps : List ByteArray) (q : ByteArray) : Option ByteArray := if hasN l q = true then some (ps.getD (posOf l q) ⟨#[]⟩) else none
theorem rising_nodup {l : List ByteArray} (h : Rising l) : l.Nodup := h.imp (fun {a b} h e => by subst e; rw [lt_irr] at h; cases h)
theorem getO_iff {l ps : List ByteArray} (hr : Rising l) (hl : ps.length = l.length) {q v : ByteArray} : getO l ps q = some v ↔ (q, v) ∈ l.zip ps := by
  have hm := posOf_mem hr q
  unfold getO
  constructor
  · intro h
    split at h
    · rename_i hh
      obtain ⟨h1, h2⟩ := hm.2 (hasN_iff.1 hh)
      have h3 : posOf l q < ps.length := by omega
      rw [List.getD_eq_getElem?_getD, List.getElem?_eq_getElem h1] at h2
      rw [List.getD_eq_getElem?_getD, List.getElem?_eq_getElem h3] at h
      have h2 : l[posOf l q] = q := h2
      have h : ps[posOf l q] = v := Option.some.inj h
      have h4 : posOf l q < (l.zip ps).length := by rw [List.length_zip]; omega
      have h5 := List.getElem_mem h4
      rw [List.getElem_zip] at h5
      rw [h2, h] at h5
      exact h5
    · cases h
  · intro h
    obtain ⟨i, hi, he⟩ := List.getElem_of_mem h
    rw [List.length_zip] at hi
    rw [List.getElem_zip] at he
    have e1 : l[i] = q := congrArg Prod.fst he
    have e2 : ps[i] = v := congrArg Prod.snd he
    have hq : q ∈ l := e1 ▸ List.getElem_mem _
    rw [if_pos (hasN_iff.2 hq)]
    obtain ⟨h1, h2⟩ := hm.2 hq
    rw [List.getD_eq_getElem?_getD, List.getElem?_eq_getElem h1] at h2
    have h2 : l[posOf l q] = q := h2
    have hx : posOf l q = i := by
      rcases Nat.lt_trichotomy (posOf l q) i with h | h | h
      · exact absurd (h2.trans e1.symm) (List.pairwise_iff_getElem.1 (rising_nodup hr) _ _ _ _ h)
      · exact h
      · exact absurd (e1.trans h2.symm) (List.pairwise_iff_getElem.1 (rising_nodup hr) _ _ _ _ h)
    rw [hx, List.getD_eq_getElem?_getD, List.getElem?_eq_getElem (by omega), ← e2]; rfl
theorem zip_cut {α β : Type} (l : List α) (ps : List β) (p : Nat) : l.zip ps = (l.take p).zip (ps.take p) ++ (l.drop p).zip (ps.drop p) := by
  induction p generalizing l ps with
  | zero => simp
  | succ p ih =>
    cases l with
    | nil => simp
    | cons a l =>
      cases ps with
      | nil => simp
      | cons b ps => simp only [List.zip_cons_cons, List.take_succ_cons, List.drop_succ_cons, List.cons_append]; rw [ih l ps]
theorem put_zip {l ps : List ByteArray} (hr : Rising l) (hl : ps.length = l.length) (x y q v : ByteArray) : (q, v) ∈ (putN l x).zip (putVTxt l ps x y) ↔ (q = x ∧ v = y) ∨ (q ≠ x ∧ (q, v) ∈ l.zip ps) := by
  have hm := posOf_mem hr x
  have hple := posOf_le l x
  obtain ⟨p, hp⟩ : ∃ p, posOf l x = p := ⟨_, rfl⟩
  unfold putN putVTxt
  cases hh : hasN l x
  · rw [if_neg (by simp), if_neg (by simp), hp]
    have hx := hasN_no.1 hh
    have e : (l.take p ++ x :: l.drop p).zip (ps.take p ++ y :: ps.drop p) = (l.take p).zip (ps.take p) ++ (x, y) :: (l.drop p).zip (ps.drop p) := by
      rw [List.zip_append (by rw [List.length_take, List.length_take]; omega)]; rfl
    rw [e, zip_cut l ps p]
    simp only [List.mem_append, List.mem_cons, Prod.mk.injEq]
    have n1 : (q, v) ∈ (l.take p).zip (ps.take p) → q ≠ x := fun h e => hx (e ▸ List.mem_of_mem_take (List.of_mem_zip h).1)
    have n2 : (q, v) ∈ (l.drop p).zip (ps.drop p) → q ≠ x := fun h e => hx (e ▸ List.mem_of_mem_drop (List.of_mem_zip h).1)
    constructor
    · rintro (h | h | h)
      · exact .inr ⟨n1 h, .inl h⟩
      · exact .inl h
      · exact .inr ⟨n2 h, .inr h⟩
    · rintro (h | ⟨_, h | h⟩)
      · exact .inr (.inl h)
      · exact .inl h
      · exact .inr (.inr h)
  · rw [if_pos rfl, if_pos rfl, hp]
    obtain ⟨h1, h2⟩ := hm.2 (hasN_iff.1 hh)
    rw [hp] at h1 h2
    rw [List.getD_eq_getElem?_getD, List.getElem?_eq_getElem h1] at h2
    have h2 : l[p] = x := h2
    have hpp : p < ps.length := by omega
    have e : l.zip (ps.set p y) = (l.take p).zip (ps.take p) ++ (x, y) :: (l.drop (p + 1)).zip (ps.drop (p + 1)) := by
      rw [zip_cut l (ps.set p y) p, List.take_set_of_le (Nat.le_refl _), List.drop_eq_getElem_cons h1, List.drop_eq_getElem_cons (l := ps.set p y) (by simpa using hpp), h2]
      simp [List.drop_set_of_lt]
    have e2 : l.zip ps = (l.take p).zip (ps.take p) ++ (x, ps[p]) :: (l.drop (p + 1)).zip (ps.drop (p + 1)) := by
      rw [zip_cut l ps p, List.drop_eq_getElem_cons h1, List.drop_eq_getElem_cons hpp, h2]; rfl
    have hnd := rising_nodup hr
    have hsplit : l = l.take p ++ x :: l.drop (p + 1) := by
      rw [← h2, ← List.drop_eq_getElem_cons h1, List.take_append_drop]
    rw [hsplit] at hnd
    obtain ⟨d1, d2, d3⟩ := List.nodup_append.1 hnd
    have n1 : (q, v) ∈ (l.take p).zip (ps.take p) → q ≠ x := fun h => d3 q (List.of_mem_zip h).1 x (List.mem_cons_self ..)
    have n2 : (q, v) ∈ (l.drop (p + 1)).zip (ps.drop (p + 1)) → q ≠ x := fun h e => (List.nodup_cons.1 d2).1 (e ▸ (List.of_mem_zip h).1)
    rw [e, e2]
    simp only [List.mem_append, List.mem_cons, Prod.mk.injEq]
    constructor
    · rintro (h | h | h)
      · exact .inr ⟨n1 h, .inl h⟩
      · exact .inl h
      · exact .inr ⟨n2 h, .inr (.inr h)⟩
    · rintro (h | ⟨h0, h | h | h⟩)
      · exact .inr (.inl h)
      · exact .inl h
      · exact absurd h.1 h0
      · exact .inr (.inr h)
theorem del_zip {l ps : List ByteArray} (hr : Rising l) (hl : ps.length = l.length) (x q v : ByteArray) : (q, v) ∈ (delN l x).zip (delVTxt l ps x) ↔ q ≠ x ∧ (q, v) ∈ l.zip ps := by
  have hm := posOf_mem hr x
  have hple := posOf_le l x
  obtain ⟨p, hp⟩ : ∃ p, posOf l x = p := ⟨_, rfl⟩
  unfold delN delVTxt
  cases hh : hasN l x
  · rw [if_neg (by simp), if_neg (by simp)]
    have hx := hasN_no.1 hh
    exact ⟨fun h => ⟨fun e => hx (e ▸ (List.of_mem_zip h).1), h⟩, fun h => h.2⟩
  · rw [if_pos rfl, if_pos rfl, hp]
    obtain ⟨h1, h2⟩ := hm.2 (hasN_iff.1 hh)
    rw [hp] at h1 h2
    rw [List.getD_eq_getElem?_getD, List.getElem?_eq_getElem h1] at h2
    have h2 : l[p] = x := h2
    have hpp : p < ps.length := by omega
    have e : (l.take p ++ l.drop (p + 1)).zip (ps.take p ++ ps.drop (p + 1)) = (l.take p).zip (ps.take p) ++ (l.drop (p + 1)).zip (ps.drop (p + 1)) := by
      rw [List.zip_append (by rw [List.length_take, List.length_take]; omega)]
    have e2 : l.zip ps = (l.take p).zip (ps.take p) ++ (x, ps[p]) :: (l.drop (p + 1)).zip (ps.drop (p + 1)) := by
      rw [zip_cut l ps p, List.drop_eq_getElem_cons h1, List.drop_eq_getElem_cons hpp, h2]; rfl
    have hnd := rising_nodup hr
    have hsplit : l = l.take p ++ x :: l.drop (p + 1) := by
      rw [← h2, ← List.drop_eq_getElem_cons h1, List.take_append_drop]
    rw [hsplit] at hnd
    obtain ⟨d1, d2, d3⟩ := List.nodup_append.1 hnd
    have n1 : (q, v) ∈ (l.take p).zip (ps.take p) → q ≠ x := fun h => d3 q (List.of_mem_zip h).1 x (List.mem_cons_self ..)
    have n2 : (q, v) ∈ (l.drop (p + 1)).zip (ps.drop (p + 1)) → q ≠ x := fun h e => (List.nodup_cons.1 d2).1 (e ▸ (List.of_mem_zip h).1)
    rw [e, e2]
    simp only [List.mem_append, List.mem_cons, Prod.mk.injEq]
    constructor
    · rintro (h | h)
      · exact ⟨n1 h, .inl h⟩
      · exact ⟨n2 h, .inr (.inr h)⟩
    · rintro ⟨h0, h | h | h⟩
      · exact .inl h
      · exact absurd h.1 h0
      · exact .inr h
theorem getO_put {l ps : List ByteArray} (hr : Rising l) (hl : ps.length = l.length) (x y : ByteArray) : getO (putN l x) (putVTxt l ps x y) = fun q => if q = x then some y else getO l ps q := by
  funext q
  refine Option.ext fun v => ?_
  rw [getO_iff (putN_rising hr x) (putN_lenTxt l ps x y hl), put_zip hr hl]
  by_cases hq : q = x
  · rw [if_pos hq]
    simp only [hq, true_and, ne_eq, not_true_eq_false, false_and, or_false, Option.some.injEq]
    exact eq_comm
  · rw [if_neg hq, getO_iff hr hl]
    simp [hq]
theorem getO_del {l ps : List ByteArray} (hr : Rising l) (hl : ps.length = l.length) (x : ByteArray) : getO (delN l x) (delVTxt l ps x) = fun q => if q = x then none else getO l ps q := by
  funext q
  refine Option.ext fun v => ?_
  rw [getO_iff (delN_rising hr x) (delN_lenTxt l ps x hl), del_zip hr hl]
  by_cases hq : q = x
  · rw [if_pos hq]; simp [hq]
  · rw [if_neg hq, getO_iff hr hl]; simp [hq]
theorem getV_O (l ps : List ByteArray) (q : ByteArray) : getVTxt l ps q = (getO l ps q).getD ByteArray.empty := by
  unfold getVTxt getO
  split <;> rfl
theorem has_O (l ps : List ByteArray) (q : ByteArray) : hasN l q = (getO l ps q).isSome := by
  unfold getO
  cases hasN l q <;> simp
theorem getO_keys {l ps : List ByteArray} (q : ByteArray) : q ∈ l ↔ (getO l ps q).isSome = true := by
  rw [← has_O, hasN_iff]
end Go.Proofs.YtlenfiiocmchdaaGreatDoor
