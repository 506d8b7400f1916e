/- Texts in a row: LwT, RoS, LwX. -/
import Derived.Test.YtmpjdoiogbbcoaaGreatDoorMgK
/- Layer 15's laws: facts and texts that are the same (facts, ref10.Texts); the reference's Log; of. -/
namespace Go.Proofs.YtmpjdoiogbbcoaaGreatDoor
open Go.RowKit Book Pap Ojt Sn
set_option linter.unusedVariables false
set_option linter.unusedSimpArgs false

set_option maxRecDepth 100000 in
set_option maxHeartbeats 4000000 in
theorem texts_same (a b : Option Addr) (n m c d : Nat) (l : List ByteArray) (w : World) (hx : StrsAt w a n l) (hy : StrsAt w b m l) (hn : n ≤ 1000000) :
  Calls Tryz.prog 14 #[.slice a n c, .slice b m d] w fun e w' => e = .returned (.bool true) ∧ Below w.heap.size w w' ∧ ∃ q, w' = w.drewN q := by
 have hnm : m = n := by rw [← hx.1, ← hy.1]
 subst hnm
 have HX := hid hx; have HY := hid hy
 clear hx hy
 have cne : ((m : Int) != m) = false := by simp
 go_enter Tryz.func14, Tryz.ntmps14
 go_wp2_with fail
 go_loopw [5] (fun iv wr => ∃ (i q : Nat), i ≤ m ∧ iv = .int .i64 i ∧ w.drewN q = wr) (fun iv _ => m - (intOf iv).toNat)
 case atStart => exact ⟨0, 0, Nat.zero_le _, rfl, rfl⟩
 case round =>
  obtain ⟨i, q, hi, rfl, rfl⟩ := hrel
  by_cases hlt : i < m
  ·have ci : (i : Int) < m := by omega
   have ci0 : (0 : Int) ≤ (i : Int) := by omega
   obtain ⟨-, -, h3⟩ := HX.out
   obtain ⟨-, -, h4⟩ := HY.out
   obtain ⟨xb, xo, rfl, hc⟩ := h3.resolve_left (by omega)
   obtain ⟨yb, yo, rfl, hd⟩ := h4.resolve_left (by omega)
   have q0 : (w.drewN q).cell? ⟨xb, xo + i, none⟩ = some (.string (l.getD i ByteArray.empty)) := hc i hlt
   have q1 : (w.drewN q).cell? ⟨yb, yo + i, none⟩ = some (.string (l.getD i ByteArray.empty)) := hd i hlt
   obtain ⟨x, hx⟩ : ∃ x, l.getD i ByteArray.empty = x := ⟨_, rfl⟩
   rw [hx] at q0 q1
   have HB : Hid (∀ p : Nat, World.drewN (World.drewN w q) p = World.drewN w (q + p)) := fun p => World.drewN_drewN ..
   clear hc hd h3 h4 hx
   generalize hwv : w.drewN q = wv at q0 q1 HB ⊢
   clear hwv
   go_wp2_with fail
   go_quiet (fail)
   rw [HB.out]
   go_wp2_with fail
   go_roundw
   case rel => first | exact ⟨i + 1, _, by omega, by go_num, by first | rfl | trivial⟩ | ((repeat apply Exists.intro); exact ⟨⟨i + 1, _, by omega, by go_num, by first | rfl | trivial⟩, rfl⟩)
   case measure => simp [intOf]; omega
  ·have hin : m = i := by omega
   subst hin
   have ci : ¬ (m : Int) < m := by omega
   go_wp2_with fail
   go_ret
   exact ⟨rfl, below_drewN (Below.refl _ w) q, q, rfl⟩
set_option maxRecDepth 100000 in
set_option maxHeartbeats 8000000 in
theorem facts_same (a b : Option Addr) (n m c d : Nat) (fs gs : List Fc) (L : List Fa) (w : World) (hx : FcsAt w a n fs) (hy : FcsAt w b m gs) (hfx : FaAt w fs L) (hfy : FaAt w gs L) (hps : ∀ x ∈ L, x.ps.length ≤ 1000000) :
  Calls Tryz.prog 11 #[.slice a n c, .slice b m d] w fun e w' => e = .returned (.bool true) ∧ Below w.heap.size w w' := by
 have hnm : m = n := by rw [← hx.1, ← hy.1, hfx.1, hfy.1]
 subst hnm
 have hn6 := hx.2.1
 have HX := hid hx; have HY := hid hy; have HFX := hid hfx; have HFY := hid hfy; have HPS := hid hps
 clear hx hy hfx hfy hps
 have cne : ((m : Int) != m) = false := by simp
 go_enter Tryz.func11, Tryz.ntmps11
 go_wp2_with fail
 go_loopw [5] (fun iv wr => ∃ (i q : Nat), i ≤ m ∧ iv = .int .i64 i ∧ w.drewN q = wr) (fun iv _ => m - (intOf iv).toNat)
 case atStart => exact ⟨0, 0, Nat.zero_le _, rfl, rfl⟩
 case round =>
  obtain ⟨i, q, hi, rfl, rfl⟩ := hrel
  by_cases hlt : i < m
  ·have ci : (i : Int) < m := by omega
   have ci0 : (0 : Int) ≤ (i : Int) := by omega
   obtain ⟨hxl, -, h3⟩ := HX.out
   obtain ⟨hyl, -, h4⟩ := HY.out
   obtain ⟨xb, xo, rfl, hc⟩ := h3.resolve_left (by omega)
   obtain ⟨yb, yo, rfl, hd⟩ := h4.resolve_left (by omega)
   obtain ⟨k0, k1, k2⟩ := hc i hlt
   obtain ⟨l0, l1, l2⟩ := hd i hlt
   obtain ⟨a0, a1, a2⟩ := HFX.out.2 i (by omega)
   obtain ⟨b0, b1, b2⟩ := HFY.out.2 i (by omega)
   have hiL : i < L.length := by have := HFX.out.1; omega
   have hps1 := HPS.out (L.getD i noFa) (by rw [List.getD_eq_getElem?_getD, List.getElem?_eq_getElem hiL]; exact List.getElem_mem hiL)
   rw [a0] at k0
   rw [a1] at k1
   rw [b0] at l0
   rw [b1] at l1
   obtain ⟨X, hX⟩ : ∃ X, L.getD i noFa = X := ⟨_, rfl⟩
   rw [hX] at k0 k1 l0 l1 a2 b2 hps1
   obtain ⟨⟨fi, fh, fa, fn, fc⟩, hF⟩ : ∃ f, fs.getD i noFc = f := ⟨_, rfl⟩
   obtain ⟨⟨gi, gh, ga, gn, gc⟩, hG⟩ : ∃ f, gs.getD i noFc = f := ⟨_, rfl⟩
   rw [hF] at k2 a2
   rw [hG] at l2 b2
   simp only at k2 a2 l2 b2
   have q0 : (w.drewN q).cell? ⟨xb, xo + i * 3, none⟩ = some (.string X.id) := k0
   have q1 : (w.drewN q).cell? ⟨xb, xo + i * 3 + 1, none⟩ = some (.int .i64 X.h) := k1
   have q2 : (w.drewN q).cell? ⟨xb, xo + i * 3 + 2, none⟩ = some (.slice fa fn fc) := k2
   have r0 : (w.drewN q).cell? ⟨yb, yo + i * 3, none⟩ = some (.string X.id) := l0
   have r1 : (w.drewN q).cell? ⟨yb, yo + i * 3 + 1, none⟩ = some (.int .i64 X.h) := l1
   have r2 : (w.drewN q).cell? ⟨yb, yo + i * 3 + 2, none⟩ = some (.slice ga gn gc) := l2
   have HB : Hid (∀ p : Nat, World.drewN (World.drewN w q) p = World.drewN w (q + p)) := fun p => World.drewN_drewN ..
   have HTX : Hid (∀ p : Nat, Calls Tryz.prog 14 #[.slice fa fn fc, .slice ga gn gc] (World.drewN (World.drewN w q) p) fun e w' => e = .returned (.bool true) ∧ ∃ m, w' = World.drewN (World.drewN (World.drewN w q) p) m) := fun p => (texts_same fa ga fn gn fc gc X.ps (World.drewN (World.drewN w q) p) a2 b2 (by have := a2.1; omega)).mono (fun e w' h => ⟨h.1, h.2.2⟩)
   have cne2 : (X.h != X.h) = false := by simp
   have cne3 : (X.id.toList != X.id.toList) = false := by simp
   clear hc hd h3 h4 hX hF hG k0 k1 k2 l0 l1 l2 a0 a1 a2 b0 b1 b2 hps1 hxl hyl hiL
   generalize hwv : w.drewN q = wv at q0 q1 q2 r0 r1 r2 HB HTX ⊢
   clear hwv
   go_wp2_with fail
   go_quiet (first | (go_at_call 14; exact Calls.quiet_of (HTX.out _)))
   rw [HB.out]
   go_wp2_with fail
   go_roundw
   case rel => first | exact ⟨i + 1, _, by omega, by go_num, by first | rfl | trivial⟩ | ((repeat apply Exists.intro); exact ⟨⟨i + 1, _, by omega, by go_num, by first | rfl | trivial⟩, rfl⟩)
   case measure => simp [intOf]; omega
  ·have hin : m = i := by omega
   subst hin
   have ci : ¬ (m : Int) < m := by omega
   go_wp2_with fail
   go_ret
   exact ⟨rfl, below_drewN (Below.refl _ w) q⟩
set_option maxRecDepth 100000 in
set_option maxHeartbeats 8000000 in
theorem r15log_any (a : Option Addr) (n c : Nat) (l0 : List Fi) (hz : SrcSz (getF l0)) (id : ByteArray) (U : List ByteArray) (hU : Univ (getF l0) id U) (w : World) (hF : FisAt w a n l0) :
  Calls Tryz.prog 13 #[.slice a n c, .string id] w (LogOut w (SLogIs (getF l0) id)) := by
 have HF := hid (rfacts_any a n c l0 hz id U hU w hF)
 have HU := hid hU
 clear hF hU
 obtain ⟨G, hG⟩ : ∃ G, getF l0 = G := ⟨_, rfl⟩
 rw [hG] at HF HU ⊢
 clear hG
 go_enter Tryz.func13, Tryz.ntmps13
 go_wp2_with fail
 refine HF.out.mono ?_; rintro e w1 ⟨er, L, a, n, c, fs, hfi, rfl, hfc, hfa, hb1⟩
 have HB1 := hid hb1
 by_cases h0 : er = 0
 ·subst h0
  have hl : ∃ l, Rising l ∧ (∀ q, q ∈ l ↔ Rch G id q) ∧ L = l.map (faOf G) := by
   rcases hfi with ⟨_, h, _⟩ | ⟨_, _, h⟩
   ·cases h
   ·rcases h with ⟨h, _⟩ | ⟨_, h⟩
    ·exact absurd rfl h
    ·exact h
  obtain ⟨l, hr, hmem, rfl⟩ := hl
  have hn : n ≤ 500000 := by
   have h1 := nodup_le (rising_nodup hr) (m := U) (fun q hq => HU.out.1 q ((hmem q).1 hq))
   have h2 := HU.out.2.1
   have h3 := hfa.1
   have h4 := hfc.1
   rw [List.length_map] at h3; omega
  have HL := hid (rlog11_any G id l hmem hr a n c hn fs (fun q => (obF_good G q).1) (fun q => (obF_good G q).2.2) w1 hfc hfa)
  have HFI := hid hfi
  clear hfi hfc hfa hb1 HF hmem
  go_wp2_with fail
  refine HL.out.mono ?_; rintro e w2 ⟨er2, S, sa, sn, sc, hli, rfl, hst, hb2⟩
  have HST := hid hst
  have HB2 : Hid (Below w.heap.size w w2) := below_then HB1.out hb2
  have HLI : Hid (SLogIs G id er2 S) := ⟨0, _, HFI.out, .inr ⟨rfl, hli⟩⟩
  clear hst hb2 hli HL
  go_wp2_with fail
  go_ret2
  exact ⟨er2, S, _, _, _, HLI.out, rfl, HST.out, HB2.out⟩
 ·have HLI : Hid (SLogIs G id er []) := ⟨er, L, hfi, .inl ⟨h0, rfl, rfl⟩⟩
  have h1 : (er != 0) = true := by simp [h0]
  have h2 : decide (er = 0) = false := decide_eq_false h0
  have h3 : (er == 0) = false := by simp [h0]
  clear hfi hfc hfa hb1 HF h0
  go_wp2_with fail
  go_ret2
  exact ⟨er, [], none, 0, 0, HLI.out, rfl, ⟨rfl, by omega, .inl rfl⟩, HB1.out⟩
/-- the id of a path in a list; empty: there is none -/
def ofL (l : List Ent) (p : ByteArray) : ByteArray := match l.find? (fun e => decide (e.name = p)) with
 | some e => e.id
 | none => ByteArray.empty
set_option maxRecDepth 100000 in
set_option maxHeartbeats 4000000 in
theorem rof_any (a : Option Addr) (n c : Nat) (l : List Ent) (p : ByteArray) (hn : n ≤ 1000000) (w : World) (h : EntsAt w a n l) :
  Calls Tryz.prog 34 #[.slice a n c, .string p] w fun e w' => e = .returned (.string (ofL l p)) ∧ w = w' := by
 have HS := hid h
 have HL := hid h.1
 clear h
 go_enter Tryz.func34, Tryz.ntmps34
 go_wp2_with fail
 go_loopw [5] (fun iv wr => ∃ i : Nat, i ≤ n ∧ iv = .int .i64 i ∧ w = wr ∧ Hid (ofL l p = ofL (l.drop i) p)) (fun iv _ => n - (intOf iv).toNat)
 case atStart => exact ⟨0, Nat.zero_le _, rfl, rfl, rfl⟩
 case round =>
  obtain ⟨i, hi, rfl, rfl, HN⟩ := hrel
  by_cases hlt : i < n
  ·have ci : (i : Int) < n := by omega
   have ci0 : (0 : Int) ≤ (i : Int) := by omega
   obtain ⟨-, -, h3⟩ := HS.out
   obtain ⟨b, off, rfl, hc⟩ := h3.resolve_left (by omega)
   obtain ⟨q0, q1, q2⟩ := hc i hlt
   have hil : i < l.length := by rw [HL.out]; exact hlt
   have hd : l.drop i = l.getD i ⟨ByteArray.empty, 0, ByteArray.empty⟩ :: l.drop (i + 1) := by rw [List.drop_eq_getElem_cons hil, List.getD_eq_getElem?_getD, List.getElem?_eq_getElem hil]; rfl
   obtain ⟨y, hy⟩ : ∃ y, l.getD i ⟨ByteArray.empty, 0, ByteArray.empty⟩ = y := ⟨_, rfl⟩
   rw [hy] at q0 q1 q2 hd
   rw [hd] at HN
   clear hy hc h3 hd
   by_cases he : y.name = p
   ·have HR : Hid (ofL l p = y.id) := by
     show _ = _
     rw [HN.out]; unfold ofL; rw [List.find?_cons_of_pos (by simp [he])]
    have e1 : (y.name.toList == p.toList) = true := by rw [he]; simp
    clear he
    go_wp2_with fail
    go_ret
    rw [HR.out]
    exact ⟨rfl, rfl⟩
   ·have HN2 : Hid (ofL l p = ofL (l.drop (i + 1)) p) := by
     show _ = _
     rw [HN.out]; unfold ofL; rw [List.find?_cons_of_neg (by simp [he])]
    have e1 : (y.name.toList == p.toList) = false := by
     rw [ba_toList, ba_toList, beq_eq_false_iff_ne]
     exact fun e => he (ba_ext e)
    clear he
    go_wp2_with fail
    go_roundw
    case rel => first | exact ⟨i + 1, by omega, by go_num, by first | rfl | trivial, HN2⟩ | ((repeat apply Exists.intro); exact ⟨⟨i + 1, by omega, by go_num, by first | rfl | trivial, HN2⟩, rfl⟩)
    case measure => simp [intOf]; omega
  ·have hin : n = i := by omega
   subst hin
   have ci : ¬ (n : Int) < n := by omega
   have HR : Hid (ofL l p = ByteArray.empty) := by
    show _ = _
    rw [HN.out, List.drop_of_length_le (by rw [HL.out]; exact Nat.le_refl _)]; rfl
   go_wp2_with fail
   go_ret
   rw [HR.out]
   exact ⟨rfl, rfl⟩
end Go.Proofs.YtmpjdoiogbbcoaaGreatDoor
/- The reference's layer 15: at which paths two commits differ: Diff (the walk). -/
namespace Go.Proofs.YtmpjdoiogbbcoaaGreatDoor
open Go.RowKit Book Pap Ojt Sn
set_option linter.unusedVariables false
set_option linter.unusedSimpArgs false

def cvals (l : List Ch) : List Value := l.flatMap chCs
theorem cvals_append (a b : List Ch) : cvals (a ++ b) = cvals a ++ cvals b := List.flatMap_append
def befC (f y : Ch) : Bool := decide (compareR f.path.data.toList y.path.data.toList < 0)
def pathsR (l m : List Ent) : List ByteArray := l.map (·.name) ++ (m.filter (fun y => decide (ofL l y.name = ByteArray.empty))).map (·.name)
def chR (l m : List Ent) (p : ByteArray) : Ch := ⟨p, ofL l p, ofL m p⟩
def stepR (l m : List Ent) (O : List Ch) (p : ByteArray) : List Ch := if ofL l p = ofL m p then O else insG befC O (chR l m p)
def diffR (l m : List Ent) (ps : List ByteArray) : List Ch := ps.foldl (stepR l m) []
theorem diffR_snoc (l m : List Ent) (ps : List ByteArray) (p : ByteArray) : diffR l m (ps ++ [p]) = stepR l m (diffR l m ps) p := by unfold diffR; rw [List.foldl_append]; rfl
theorem own_noneC (w : World) : (w.alloc (.cells #[] 34)).ownsRow w.heap.size 34 3 (.slice (some ⟨w.heap.size, 0, none⟩) 0 0) 0 (cvals []) :=
 ⟨rfl, .inr ⟨w.heap.size, 0, #[], rfl, Nat.le_refl _, by show (w.heap.push _)[w.heap.size]? = _; simp, Nat.le_refl _, by unfold maxLen; omega, rfl, rfl⟩⟩
def RDiffIs (r1 r2 : List Ent × Int) (er : Int) (D : List Ch) : Prop := if r1.2 ≠ 0 then er = r1.2 ∧ D = [] else if r2.2 ≠ 0 then er = r2.2 ∧ D = [] else er = 0 ∧ D = diffR r1.1 r2.1 (pathsR r1.1 r2.1)
def RDiffOut (G : Sw.Src) (a b : ByteArray) (w : World) (e : Ending) (w' : World) : Prop :=
 ∃ p n c D er, e = .returned (.tuple #[.slice p n c, .int .i64 er]) ∧ ChsAt w' p n D ∧ Below w.heap.size w w' ∧ RDiffIs (listS G a) (listS G b) er D
def PSz (ps : List ByteArray) : Prop := ∀ p ∈ ps, p.size ≤ 1048576
theorem diffR_sz {l m : List Ent} {ps : List ByteArray} (h : PSz ps) : ∀ y ∈ diffR l m ps, y.path.size ≤ 1048576 := by
 have key : ∀ (qs : List ByteArray) (O : List Ch), PSz qs → (∀ y ∈ O, y.path.size ≤ 1048576) → ∀ y ∈ qs.foldl (stepR l m) O, y.path.size ≤ 1048576 := by
  intro qs
  induction qs with
  | nil => intro O _ hO; exact hO
  | cons q r ih =>
   intro O hq hO
   refine ih _ (fun p hp => hq p (List.mem_cons_of_mem _ hp)) (fun y hy => ?_)
   unfold stepR at hy
   split at hy
   ·exact hO y hy
   ·rcases (insG_mem _ _ _ _).1 hy with rfl | hy
    ·exact hq q (List.mem_cons_self ..)
    ·exact hO y hy
 exact key ps [] h (fun y hy => by cases hy)
theorem diffR_len (l m : List Ent) (ps : List ByteArray) : (diffR l m ps).length ≤ ps.length := by
 have key : ∀ (qs : List ByteArray) (O : List Ch), (qs.foldl (stepR l m) O).length ≤ O.length + qs.length := by
  intro qs
  induction qs with
  | nil => intro O; simp
  | cons q r ih =>
   intro O
   rw [List.foldl_cons, List.length_cons]
   have h1 := ih (stepR l m O q)
   have h2 : (stepR l m O q).length ≤ O.length + 1 := by
    unfold stepR
    split
    ·omega
    ·rw [insG_len]; exact Nat.le_refl _
   omega
 have := key ps []
 simpa [diffR] using this
theorem pathsR_sz {l m : List Ent} (hl : OkBlobs l) (hm : OkBlobs m) : PSz (pathsR l m) := by
 intro p hp
 unfold pathsR at hp
 rcases List.mem_append.1 hp with hp | hp
 ·obtain ⟨y, hy, rfl⟩ := List.mem_map.1 hp
  have := (hl y hy).2; omega
 ·obtain ⟨y, hy, rfl⟩ := List.mem_map.1 hp
  have := (hm y (List.mem_filter.1 hy).1).2; omega
set_option maxRecDepth 100000 in
set_option maxHeartbeats 16000000 in
theorem rdiff_any (a : Option Addr) (n c : Nat) (l0 : List Fi) (hz : SrcSz (getF l0)) (ia ib : ByteArray) (w : World) (hF : FisAt w a n l0) :
  Calls Tryz.prog 8 #[.slice a n c, .string ia, .string ib] w (RDiffOut (getF l0) ia ib w) := by
 obtain ⟨i0, hi0, hz0, hz1, hz2⟩ := info_parts Tryz.infoCh
 obtain ⟨is0, his0, hzs0, hzs1, hzs2⟩ := info_parts Tryz.infoS
 have HLA := hid (rlist_any a n c l0 hz ia w hF)
 have HLB := hid (fun W (hW : Below w.heap.size w W) => rlist_any a n c l0 hz ib W (hF.later hW))
 obtain ⟨G, hG⟩ : ∃ G, getF l0 = G := ⟨_, rfl⟩
 rw [hG] at HLA HLB ⊢
 have HNA := hid (listS_names G ia)
 have HNB := hid (listS_names G ib)
 unfold RDiffOut
 obtain ⟨L, e1, hl1⟩ : ∃ l e, listS G ia = (l, e) := ⟨_, _, rfl⟩
 obtain ⟨M, e2, hl2⟩ : ∃ l e, listS G ib = (l, e) := ⟨_, _, rfl⟩
 rw [hl1] at HLA HNA ⊢
 rw [hl2] at HLB HNB ⊢
 clear hl1 hl2 hF hz hG
 simp only at HNA HNB ⊢
 go_enter Tryz.func8, Tryz.ntmps8
 go_wp2_with fail
 refine HLA.out.mono ?_; rintro e w1 ⟨xa, xn, xc, rfl, hE1, hb1, -, hn1⟩
 have HE1 := hid hE1; have HB1 := hid hb1
 have HXN := hid hE1.1
 clear hE1 hb1 HLA
 by_cases h0 : e1 = 0
 case neg =>
  have h1 : (e1 != 0) = true := by simp [h0]
  have h2 : decide (e1 = 0) = false := decide_eq_false h0
  have h3 : (e1 == 0) = false := by simp [h0]
  have HR : Hid (RDiffIs (L, e1) (M, e2) e1 []) := by unfold Hid RDiffIs; rw [if_pos h0]; exact ⟨rfl, rfl⟩
  clear h0
  go_wp2_with fail
  go_ret2
  exact ⟨none, 0, 0, [], e1, rfl, ⟨rfl, by omega, .inl rfl⟩, HB1.out, HR.out⟩
 case pos =>
 subst h0
 have HLB1 := hid (HLB.out w1 HB1.out)
 go_wp2_with fail
 refine HLB1.out.mono ?_; rintro e w2 ⟨ya, yn, yc, rfl, hE2, hb2, -, hn2⟩
 have HE2 := hid hE2; have HB2 := hid (below_then HB1.out hb2)
 have HYN := hid hE2.1
 have HE1' := hid (HE1.out.later hb2)
 clear hE2 hb2 HLB HLB1 HB1 HE1
 by_cases h0 : e2 = 0
 case neg =>
  have h1 : (e2 != 0) = true := by simp [h0]
  have h2 : decide (e2 = 0) = false := decide_eq_false h0
  have h3 : (e2 == 0) = false := by simp [h0]
  have HR : Hid (RDiffIs (L, 0) (M, e2) e2 []) := by unfold Hid RDiffIs; rw [if_neg (by simp), if_pos h0]; exact ⟨rfl, rfl⟩
  clear h0
  go_wp2_with fail
  go_ret2
  exact ⟨none, 0, 0, [], e2, rfl, ⟨rfl, by omega, .inl rfl⟩, HB2.out, HR.out⟩
 case pos =>
 subst h0
 have hs2 := HB2.out.size
 have HO3 : Hid ((w2.alloc (.cells #[] 9)).ownsRow w2.heap.size 9 1 (.slice (some ⟨w2.heap.size, 0, none⟩) 0 0) 0 (svals ((L.map (·.name)).take 0))) := own_noneS1 w2
 have HB3 : Hid (Below w2.heap.size w2 (w2.alloc (.cells #[] 9))) := (Below.refl _ _).alloc (Nat.le_refl _) _
 go_upto_block 0 with fail
 generalize (w2.alloc (.cells #[] 9)) = w3 at HO3 HB3 ⊢
 generalize hg3 : w2.heap.size = g3 at HO3 HB3 hs2 ⊢
 have HG3 := hid hg3
 clear hg3
 go_cut [11, 12] from 39 to 52 (fun pv iv wx => ∃ (pa : Option Addr) (pc : Nat), pv = .slice pa xn pc ∧ Hid (wx.ownsRow g3 9 1 (.slice pa xn pc) xn (svals (L.map (·.name)))) ∧ Hid (Below g3 w2 wx))
 case first =>
  go_wp2_with fail
  go_loopw [11, 12] (fun pv iv wr => ∃ (i : Nat) (pa : Option Addr) (pc : Nat), i ≤ xn ∧ pv = .slice pa i pc ∧ iv = .int .i64 i ∧ Hid (wr.ownsRow g3 9 1 (.slice pa i pc) i (svals ((L.map (·.name)).take i))) ∧ Hid (Below g3 w2 wr)) (fun _ iv _ => xn - (intOf iv).toNat)
  case atStart => exact ⟨0, _, 0, Nat.zero_le _, rfl, rfl, HO3, HB3⟩
  case round =>
   obtain ⟨i, pa, pc, hi, rfl, rfl, HO, HB⟩ := hrel
   have HBW : Hid (Below w2.heap.size w2 wr) := by rw [HG3.out]; exact HB.out
   have hgw : g3 ≤ wr.heap.size := by have := HB.out.size; rw [HG3.out] at this; exact this
   by_cases hlt : i < xn
   ·have ci : (i : Int) < xn := by omega
    have ci0 : (0 : Int) ≤ (i : Int) := by omega
    obtain ⟨-, -, h3⟩ := HE1'.out.later HBW.out
    obtain ⟨eb, eoff, rfl, hcell⟩ := h3.resolve_left (by omega)
    obtain ⟨q0, -, -⟩ := hcell i hlt
    have HT : Hid (svals ((L.map (·.name)).take (i + 1)) = svals ((L.map (·.name)).take i) ++ [.string (L.getD i ⟨ByteArray.empty, 0, ByteArray.empty⟩).name]) := by
     have hil : i < (L.map (·.name)).length := by rw [List.length_map, HXN.out]; exact hlt
     have hil2 : i < L.length := by rw [HXN.out]; exact hlt
     show _ = _
     rw [List.take_succ_eq_append_getElem hil]
     unfold svals
     rw [List.map_append, List.getElem_map, List.getD_eq_getElem?_getD, List.getElem?_eq_getElem hil2]; rfl
    obtain ⟨x, hx⟩ : ∃ x, (L.getD i ⟨ByteArray.empty, 0, ByteArray.empty⟩).name = x := ⟨_, rfl⟩
    rw [hx] at q0 HT
    clear hcell h3 hx
    go_wp2_with (at_builtin; refine wpList_append_own _ rfl (.tmp 45) (.tmp 51) 40 rfl g3 9 is0 (.string ⟨#[]⟩) 1 16 Tryz.underlying40 his0 hzs0 hzs1 hzs2 rfl (by decide) (.slice pa i pc) _ _ rfl (HO.out.alloc _) ⟨wr.heap.size, 0, none⟩ 1 1 [.string x] rfl rfl (cellNew1 _ _ _) (one_bytes rfl) (by unfold maxLen; omega) (by omega) (by rw [World.size_alloc]; omega) ?_; intro v' w9 hown' hgrow _; have HOWN := hid hown'; have HGR := hid hgrow; clear hown' hgrow)
    obtain ⟨va', vc', rfl, hvc'⟩ := own_slice' HOWN.out
    have HO9 : Hid (w9.ownsRow g3 9 1 (.slice va' (i + 1) vc') (i + 1) (svals ((L.map (·.name)).take (i + 1)))) := by
     rw [HT.out]; exact HOWN.out
    have HB9 : Hid (Below g3 w2 w9) := below_grown1 HB.out HO.out _ hgw HGR.out
    go_roundw
    case rel => first | exact ⟨i + 1, va', vc', by omega, rfl, by go_num, HO9, HB9⟩ | ((repeat apply Exists.intro); exact ⟨⟨i + 1, va', vc', by omega, rfl, by go_num, HO9, HB9⟩, rfl⟩)
    case measure => simp [intOf]; omega
   ·have hin : xn = i := by omega
    subst hin
    have ci : ¬ (xn : Int) < xn := by omega
    have HO9 : Hid (wr.ownsRow g3 9 1 (.slice pa xn pc) xn (svals (L.map (·.name)))) := by
     have h := HO.out
     rw [List.take_of_length_le (by rw [List.length_map, HXN.out]; exact Nat.le_refl _)] at h; exact h
    go_wp2_with fail
    go_meet
    case rel => exact ⟨pa, pc, rfl, HO9, HB⟩
 case rest =>
  obtain ⟨pa, pc, rfl, HOP, HBP⟩ := hcut
  rename World => w4
  have HB24 : Hid (Below w2.heap.size w2 w4) := by rw [HG3.out]; exact HBP.out
  go_upto_block 2 with fail
  go_cut [11, 13] from 53 to 74 (fun pv iv wx => ∃ (pa : Option Addr) (pc : Nat), pv = .slice pa (pathsR L M).length pc ∧ Hid (wx.ownsRow g3 9 1 (.slice pa (pathsR L M).length pc) (pathsR L M).length (svals (pathsR L M))) ∧ Hid (Below g3 w2 wx))
  case first =>
   go_wp2_with fail
   go_loopw [11, 13] (fun pv iv wr => ∃ (i : Nat) (Q : List ByteArray) (pa : Option Addr) (pc : Nat), i ≤ yn ∧ pv = .slice pa Q.length pc ∧ iv = .int .i64 i ∧ Hid (Q = L.map (·.name) ++ ((M.take i).filter (fun y => decide (ofL L y.name = ByteArray.empty))).map (·.name)) ∧ Hid (wr.ownsRow g3 9 1 (.slice pa Q.length pc) Q.length (svals Q)) ∧ Hid (Below g3 w2 wr)) (fun _ iv _ => yn - (intOf iv).toNat)
   case atStart => exact ⟨0, L.map (·.name), pa, pc, Nat.zero_le _, by rw [List.length_map, HXN.out], rfl, by unfold Hid; simp, by rw [List.length_map, HXN.out]; exact HOP, HBP⟩
   case round =>
    obtain ⟨i, Q, pa, pc, hi, rfl, rfl, HQE, HO, HB⟩ := hrel
    have HBW : Hid (Below w2.heap.size w2 wr) := by rw [HG3.out]; exact HB.out
    have hgw : g3 ≤ wr.heap.size := by have := HB.out.size; rw [HG3.out] at this; exact this
    have hQl : Q.length ≤ 100000 := by
     rw [HQE.out, List.length_append, List.length_map, List.length_map, HXN.out]
     have := List.length_filter_le (fun y : Ent => decide (ofL L y.name = ByteArray.empty)) (M.take i)
     rw [List.length_take] at this; omega
    by_cases hlt : i < yn
    ·have ci : (i : Int) < yn := by omega
     have ci0 : (0 : Int) ≤ (i : Int) := by omega
     have hEM := HE2.out.later HBW.out
     obtain ⟨-, -, h3⟩ := hEM
     obtain ⟨eb, eoff, rfl, hcell⟩ := h3.resolve_left (by omega)
     obtain ⟨q0, -, -⟩ := hcell i hlt
     have hiM : i < M.length := by rw [HYN.out]; exact hlt
     have HT : Hid (M.take (i + 1) = M.take i ++ [M.getD i ⟨ByteArray.empty, 0, ByteArray.empty⟩]) := by
      show _ = _
      rw [List.take_succ_eq_append_getElem hiM, List.getD_eq_getElem?_getD, List.getElem?_eq_getElem hiM]; rfl
     obtain ⟨y, hy⟩ : ∃ y, M.getD i ⟨ByteArray.empty, 0, ByteArray.empty⟩ = y := ⟨_, rfl⟩
     rw [hy] at q0 HT
     have HOF := hid (rof_any xa xn xc L y.name (by omega) wr (HE1'.out.later HBW.out))
     clear hcell h3 hy hiM
     by_cases hem : ofL L y.name = ByteArray.empty
     ·have HQ2 : Hid (Q ++ [y.name] = L.map (·.name) ++ ((M.take (i + 1)).filter (fun y => decide (ofL L y.name = ByteArray.empty))).map (·.name)) := by
       show _ = _
       rw [HT.out, List.filter_append, List.map_append, HQE.out, List.filter_cons_of_pos (by simp [hem])]; simp
      have hnl : (ofL L y.name).toList = [] := by rw [hem]; exact bstr_nil rfl
      have e1 : ((ofL L y.name).toList == []) = true := by rw [hnl]; rfl
      have e2 : (ofL L y.name).toList.isEmpty = true := by rw [hnl]; rfl
      have e3 : ((ofL L y.name).toList == (⟨#[]⟩ : ByteArray).toList) = true := by rw [hnl, show (⟨#[]⟩ : ByteArray).toList = [] from bstr_nil rfl]; rfl
      clear hnl
      generalize ofL L y.name = ov at HOF e1 e2 e3
      clear hem
      go_wp2_with (first
       | (go_at_call 34; refine HOF.out.mono ?_; rintro e w' ⟨rfl, rfl⟩)
       | (at_builtin; refine wpList_append_own _ rfl (.tmp 67) (.tmp 73) 40 rfl g3 9 is0 (.string ⟨#[]⟩) 1 16 Tryz.underlying40 his0 hzs0 hzs1 hzs2 rfl (by decide) (.slice pa Q.length pc) _ _ rfl (HO.out.alloc _) ⟨_, 0, none⟩ 1 1 [.string y.name] rfl rfl (cellNew1 _ _ _) (one_bytes rfl) (by unfold maxLen; omega) (by omega) (by rw [World.size_alloc]; omega) ?_; intro v' w9 hown' hgrow _; have HOWN := hid hown'; have HGR := hid hgrow; clear hown' hgrow))
      obtain ⟨va', vc', rfl, hvc'⟩ := own_slice' HOWN.out
      have HLQ : Hid (Q.length + 1 = (Q ++ [y.name]).length) := by unfold Hid; simp
      have HO9 : Hid (w9.ownsRow g3 9 1 (.slice va' (Q ++ [y.name]).length vc') (Q ++ [y.name]).length (svals (Q ++ [y.name]))) := by
       have h := HOWN.out
       rw [← HLQ.out]
       unfold svals at h ⊢
       rw [List.map_append]; exact h
      have HB9 : Hid (Below g3 w2 w9) := below_grown1 HB.out HO.out _ hgw HGR.out
      go_roundw
      case rel => first | exact ⟨i + 1, _, va', vc', by omega, by rw [HLQ.out], by go_num, HQ2, HO9, HB9⟩ | ((repeat apply Exists.intro); exact ⟨⟨i + 1, _, va', vc', by omega, by rw [HLQ.out], by go_num, HQ2, HO9, HB9⟩, rfl⟩)
      case measure => simp [intOf]; omega
     ·have HQ2 : Hid (Q = L.map (·.name) ++ ((M.take (i + 1)).filter (fun y => decide (ofL L y.name = ByteArray.empty))).map (·.name)) := by
       show _ = _
       rw [HT.out, List.filter_append, List.map_append, HQE.out, List.filter_cons_of_neg (by simp [hem])]; simp
      have hne : ¬ (ofL L y.name).toList = [] := fun e => hem (ba_ext (by rw [← ba_toList, e]; rfl))
      have e1 : ((ofL L y.name).toList == []) = false := by rw [beq_eq_false_iff_ne]; exact hne
      have e2 : (ofL L y.name).toList.isEmpty = false := by cases h : (ofL L y.name).toList with
       | nil => exact absurd h hne
       | cons _ _ => rfl
      have e3 : ((ofL L y.name).toList == (⟨#[]⟩ : ByteArray).toList) = false := by rw [show (⟨#[]⟩ : ByteArray).toList = [] from bstr_nil rfl, beq_eq_false_iff_ne]; exact hne
      generalize ofL L y.name = ov at HOF e1 e2 e3 hne
      clear hem
      go_wp2_with (go_at_call 34; refine HOF.out.mono ?_; rintro e w' ⟨rfl, rfl⟩)
      go_roundw
      case rel => first | exact ⟨i + 1, Q, pa, pc, by omega, rfl, by go_num, HQ2, HO, HB⟩ | ((repeat apply Exists.intro); exact ⟨⟨i + 1, Q, pa, pc, by omega, rfl, by go_num, HQ2, HO, HB⟩, rfl⟩)
      case measure => simp [intOf]; omega
    ·have hin : yn = i := by omega
     subst hin
     have ci : ¬ (yn : Int) < yn := by omega
     have HQP : Hid (Q = pathsR L M) := by
      show _ = _
      rw [HQE.out, List.take_of_length_le (by rw [HYN.out]; exact Nat.le_refl _)]; rfl
     go_wp2_with fail
     go_meet
     case rel => exact ⟨pa, pc, by rw [HQP.out], by rw [← HQP.out]; exact HO, HB⟩
  case rest =>
   obtain ⟨pa, pc, rfl, HOP, HBP⟩ := hcut
   rename World => w5
   have HPZ := hid (pathsR_sz HNA.out HNB.out)
   have hPl : (pathsR L M).length ≤ 10000 := by
    unfold pathsR
    rw [List.length_append, List.length_map, List.length_map, HXN.out]
    have := List.length_filter_le (fun y : Ent => decide (ofL L y.name = ByteArray.empty)) M
    rw [HYN.out] at this; omega
   obtain ⟨P, hP⟩ : ∃ P, pathsR L M = P := ⟨_, rfl⟩
   rw [hP] at HOP HPZ hPl ⊢
   have HPE := hid hP
   clear hP HB24
   have HB25 : Hid (Below w2.heap.size w2 w5) := by rw [HG3.out]; exact HBP.out
   have HPS5 : Hid (StrsAt w5 pa P.length P) := by
    obtain ⟨a9, c9, e9, h9⟩ := own_strs HOP.out (by omega)
    injection e9 with e91 _ _
    rw [e91]; exact h9
   have HOC : Hid ((w5.alloc (.cells #[] 34)).ownsRow w5.heap.size 34 3 (.slice (some ⟨w5.heap.size, 0, none⟩) 0 0) 0 (cvals [])) := own_noneC w5
   have HBC : Hid (Below w5.heap.size w5 (w5.alloc (.cells #[] 34))) := (Below.refl _ _).alloc (Nat.le_refl _) _
   have HLX := hid (HE1'.out.later HB25.out)
   have HLY := hid (HE2.out.later HB25.out)
   have HW5 := hid (below_then HB2.out HB25.out)
   clear HOP HBP HO3 HB3 HG3 HE1' HE2 HB2 HB25 hs2
   go_upto_block 4 with fail
   generalize (w5.alloc (.cells #[] 34)) = w6 at HOC HBC ⊢
   generalize hg5 : w5.heap.size = g5 at HOC HBC ⊢
   have HG5 := hid hg5
   clear hg5
   go_wp2_with fail
   go_loopw [14, 15] (fun ov iv wr => ∃ (i : Nat) (O : List Ch) (oa : Option Addr) (oc : Nat), i ≤ P.length ∧ ov = .slice oa O.length oc ∧ iv = .int .i64 i ∧ Hid (O = diffR L M (P.take i)) ∧ Hid (wr.ownsRow g5 34 3 (.slice oa O.length oc) O.length (cvals O)) ∧ Hid (Below g5 w5 wr)) (fun _ iv _ => P.length - (intOf iv).toNat)
   case atStart => exact ⟨0, [], _, 0, Nat.zero_le _, rfl, rfl, rfl, HOC, HBC⟩
   case round =>
    obtain ⟨i, O, oa, oc, hi, rfl, rfl, HOE, HOR, HBR⟩ := hrel
    have HBW : Hid (Below w5.heap.size w5 wr) := by rw [HG5.out]; exact HBR.out
    by_cases hlt : i < P.length
    ·have ci : (i : Int) < P.length := by omega
     have ci0 : (0 : Int) ≤ (i : Int) := by omega
     obtain ⟨-, -, h3⟩ := HPS5.out.later HBW.out
     obtain ⟨pb, poff, rfl, hcell⟩ := h3.resolve_left (by omega)
     have q0 := hcell i hlt
     have HTK : Hid (diffR L M (P.take (i + 1)) = stepR L M O (P.getD i ByteArray.empty)) := by
      show _ = _
      rw [List.take_succ_eq_append_getElem hlt, diffR_snoc, HOE.out, List.getD_eq_getElem?_getD, List.getElem?_eq_getElem hlt]; rfl
     have hpz : (P.getD i ByteArray.empty).size ≤ 1048576 := HPZ.out _ (by rw [List.getD_eq_getElem?_getD, List.getElem?_eq_getElem hlt]; exact List.getElem_mem hlt)
     obtain ⟨x, hx⟩ : ∃ x, P.getD i ByteArray.empty = x := ⟨_, rfl⟩
     rw [hx] at q0 HTK hpz
     have HOFX : Hid (∀ W, Below wr.heap.size wr W → Calls Tryz.prog 34 #[.slice xa xn xc, .string x] W fun e w' => e = .returned (.string (ofL L x)) ∧ W = w') := fun W hW => rof_any xa xn xc L x (by omega) W (HLX.out.later (below_then HBW.out hW))
     have HOFY : Hid (∀ W, Below wr.heap.size wr W → Calls Tryz.prog 34 #[.slice ya yn yc, .string x] W fun e w' => e = .returned (.string (ofL M x)) ∧ W = w') := fun W hW => rof_any ya yn yc M x (by omega) W (HLY.out.later (below_then HBW.out hW))
     have HOZ : Hid (∀ y ∈ O, y.path.size ≤ 1048576) := by
      show ∀ y ∈ O, _
      rw [HOE.out]
      exact diffR_sz (fun p hp => HPZ.out p (List.mem_of_mem_take hp))
     have hOl : O.length ≤ 10000 := by
      have h1 := diffR_len L M (P.take i)
      rw [← HOE.out, List.length_take] at h1; omega
     have HTB := hid (World.block_lt_of_cell? wr _ q0)
     have HFZ := hid hpz
     clear hcell h3 hx hpz
     go_upto_region 21 with fail
     go_cut [16] from 76 to 141 (fun cv wx => ∃ fb, cv = .pointer (some ⟨fb, 0, none⟩) ∧ Hid (Blk wx fb 34 #[.string x, .string (ofL L x), .string (ofL M x)] ∧ Below wr.heap.size wr wx))
     case first =>
      have hs0 : wr.cell? ⟨pb, poff + i, none⟩ = some (.string x) := q0
      have HCELL : Hid (∀ W, Below wr.heap.size wr W → W.cell? ⟨pb, poff + i, none⟩ = some (.string x)) := fun W hW => (hW.cell (p := ⟨pb, poff + i, none⟩) HTB.out).trans q0
      have hne0 := World.new_ne wr ⟨pb, poff + i, none⟩ hs0
      go_region_held3 (fun v => v.cell? ⟨pb, poff + i, none⟩ = some (.string x)) ((first | exact hs0 | exact HCELL.out _ (by first | exact Below.refl _ _ | exact (Below.refl _ _).drew | exact (Below.refl _ wr).alloc (Nat.le_refl _) _ | exact ((Below.refl _ wr).alloc (Nat.le_refl _) _).drew | exact (Below.refl _ wr).drew.alloc (Nat.le_refl _) _) | go_keep)) ((first
       | (go_at_call 34; refine Calls.mono (by with_reducible exact HOFX.out _ (by first | exact Below.refl _ _ | exact (Below.refl _ _).drew | exact (Below.refl _ wr).alloc (Nat.le_refl _) _ | exact ((Below.refl _ wr).alloc (Nat.le_refl _) _).drew | exact (Below.refl _ wr).drew.alloc (Nat.le_refl _) _)) ?_; rintro e w' ⟨rfl, rfl⟩)
       | (go_at_call 34; refine Calls.mono (by with_reducible exact HOFY.out _ (by first | exact Below.refl _ _ | exact (Below.refl _ _).drew | exact (Below.refl _ wr).alloc (Nat.le_refl _) _ | exact ((Below.refl _ wr).alloc (Nat.le_refl _) _).drew | exact (Below.refl _ wr).drew.alloc (Nat.le_refl _) _)) ?_; rintro e w' ⟨rfl, rfl⟩)))
      all_goals go_wp2_with fail
      all_goals go_meet
      all_goals exact ⟨_, rfl, Blk.new wr _ _, ((Below.refl _ wr).alloc (Nat.le_refl _) _).drew⟩
     case rest =>
      obtain ⟨fb, rfl, HFB⟩ := hcut
      rename World => wo
      have hgw : g5 ≤ wr.heap.size := by have := HBR.out.size; rw [HG5.out] at this; exact this
      have HB8 : Hid (Below wr.heap.size wr wo) := HFB.out.2
      have HBR8 : Hid (Below g5 w5 wo) := HBR.out.trans (HB8.out.mono hgw)
      have HOR8 : Hid (wo.ownsRow g5 34 3 (.slice oa O.length oc) O.length (cvals O)) := own_below HOR.out HB8.out
      by_cases heq : ofL L x = ofL M x
      ·have HTK2 : Hid (O = diffR L M (P.take (i + 1))) := by
        show _ = _
        rw [HTK.out]; unfold stepR; rw [if_pos heq]
       have c1 : wo.cell? ⟨fb, 1, none⟩ = some (.string (ofL L x)) := Blk.cell HFB.out.1 1
       have c2 : wo.cell? ⟨fb, 2, none⟩ = some (.string (ofL M x)) := Blk.cell HFB.out.1 2
       have e1 : ((ofL L x).toList == (ofL M x).toList) = true := by rw [heq]; simp
       generalize ofL L x = s1 at c1 e1
       generalize ofL M x = s2 at c2 e1
       clear heq HOFX HOFY HFB q0 HTB HFZ
       go_wp2_with fail
       go_roundw
       case rel => first | exact ⟨i + 1, O, oa, oc, by omega, rfl, by go_num, HTK2, HOR8, HBR8⟩ | ((repeat apply Exists.intro); exact ⟨⟨i + 1, O, oa, oc, by omega, rfl, by go_num, HTK2, HOR8, HBR8⟩, rfl⟩)
       case measure => simp [intOf]; omega
      ·obtain ⟨f, hf⟩ : ∃ f : Ch, f = chR L M x := ⟨_, rfl⟩
       have HFE := hid hf
       have HTK2 : Hid (insG befC O f = diffR L M (P.take (i + 1))) := by
        show _ = _
        rw [HTK.out]; unfold stepR; rw [if_neg heq, HFE.out]
       have HF8 : Hid (Blk wo fb 34 #[.string f.path, .string f.was, .string f.is]) := by rw [HFE.out]; exact HFB.out.1
       have HFZ2 : Hid (f.path.size ≤ 1048576) := by rw [HFE.out]; exact HFZ.out
       have e1 : (f.was.toList == f.is.toList) = false := by
        rw [ba_toList, ba_toList, beq_eq_false_iff_ne]
        intro e
        refine heq ?_
        have := ba_ext e
        rw [HFE.out] at this; exact this
       replace HFZ := HFZ2
       clear hf heq HOFX HOFY HFB q0 HTB HFZ2 HFE
       have HO : Hid (wo.ownsRow g5 34 3 (.slice oa O.length oc) O.length (cvals O)) := HOR8
       have HN1 : Hid ((wo.alloc (.cells #[] 34)).ownsRow wo.heap.size 34 3 (.slice (some ⟨wo.heap.size, 0, none⟩) 0 0) 0 (cvals [])) := own_noneC wo
       have HB2 : Hid (Below wo.heap.size wo (wo.alloc (.cells #[] 34))) := (Below.refl _ _).alloc (Nat.le_refl _) _
       have HQ0 := hid (Blk.cell HF8.out 0)
       have HQ1 := hid (Blk.cell HF8.out 1)
       have HQ2 := hid (Blk.cell HF8.out 2)
       have HPB : Hid (g5 ≤ wo.heap.size) := Nat.le_trans hgw HB8.out.size
       have c1 : wo.cell? ⟨fb, 1, none⟩ = some (.string f.was) := HQ1.out
       have c2 : wo.cell? ⟨fb, 2, none⟩ = some (.string f.is) := HQ2.out
       go_upto_block 6 with fail
       clear c1 c2 e1
       generalize (wo.alloc (.cells #[] 34)) = w9 at HN1 HB2 ⊢
       generalize hg2 : wo.heap.size = g2 at HN1 HB2 HPB ⊢
       have HG2 := hid hg2
       clear hg2
       go_cut [17, 18, 19] from 76 to 141 (fun nv dv kv wx => ∃ (N : List Ch) (dn : Bool) (na : Option Addr) (nc : Nat), nv = .slice na N.length nc ∧ dv = .bool dn ∧ Hid (wx.ownsRow g2 34 3 (.slice na N.length nc) N.length (cvals N)) ∧ Hid (Below g2 wo wx) ∧ Hid (MidG befC O f O.length N dn))
       case first =>
        go_wp2_with fail
        go_loopw [19, 17, 18] (fun kv nv dv wx => ∃ (k : Nat) (N : List Ch) (dn : Bool), k ≤ O.length ∧ kv = .int .i64 k ∧ dv = .bool dn ∧ Hid (wx.ownsRow g2 34 3 nv N.length (cvals N)) ∧ Hid (Below g2 wo wx) ∧ Hid (MidG befC O f k N dn)) (fun kv _ _ _ => O.length - (intOf kv).toNat)
        case atStart => exact ⟨0, [], false, Nat.zero_le _, rfl, rfl, HN1, HB2, MidG.zero _ O f⟩
        case round =>
         obtain ⟨k, N, dn, hk, rfl, rfl, HN, HX, HMD⟩ := hrel
         obtain ⟨na, nc, rfl, hnc⟩ := own_slice' HN.out
         have HXW : Hid (Below wo.heap.size wo wr) := by rw [HG2.out]; exact HX.out
         have hgx : g2 ≤ wr.heap.size := by have := HX.out.size; rw [HG2.out] at this; exact this
         have hNl := HMD.out.len
         have f0 : wr.cell? ⟨fb, 0, none⟩ = some (.string f.path) := (HXW.out.cell (p := ⟨fb, 0, none⟩) (World.block_lt_of_cell? _ _ HQ0.out)).trans HQ0.out
         have f1 : wr.cell? ⟨fb, 1, none⟩ = some (.string f.was) := (HXW.out.cell (p := ⟨fb, 1, none⟩) (World.block_lt_of_cell? _ _ HQ1.out)).trans HQ1.out
         have f2 : wr.cell? ⟨fb, 2, none⟩ = some (.string f.is) := (HXW.out.cell (p := ⟨fb, 2, none⟩) (World.block_lt_of_cell? _ _ HQ2.out)).trans HQ2.out
         by_cases hkl : k < O.length
         ·have ck : (k : Int) < O.length := by omega
          have ck0 : (0 : Int) ≤ (k : Int) := by omega
          have HOx := own_below HO.out HXW.out
          obtain ⟨og, oc2, e1, -, -⟩ := HOx.form (by omega)
          injection e1 with e1 _ e2
          subst e1 e2
          have x0 := HOx.cellAt (k * 3 + 0) (by omega)
          have x1 := HOx.cellAt (k * 3 + 1) (by omega)
          have x2 := HOx.cellAt (k * 3 + 2) (by omega)
          obtain ⟨y0, y1, y2⟩ := chvals_get O k hkl
          rw [Nat.add_zero] at x0
          rw [show (cvals O)[k * 3]? = _ from y0] at x0
          rw [show (cvals O)[k * 3 + 1]? = _ from y1] at x1
          rw [show (cvals O)[k * 3 + 2]? = _ from y2] at x2
          clear y0 y1 y2
          have HD : Hid (O.drop k = O.getD k noCh :: O.drop (k + 1)) := by
           show _ = _
           rw [List.drop_eq_getElem_cons hkl, List.getD_eq_getElem?_getD, List.getElem?_eq_getElem hkl]; rfl
          have hyO : O.getD k noCh ∈ O := by rw [List.getD_eq_getElem?_getD, List.getElem?_eq_getElem hkl]; exact List.getElem_mem hkl
          obtain ⟨y, hy⟩ : ∃ y, O.getD k noCh = y := ⟨_, rfl⟩
          rw [hy] at x0 x1 x2 HD hyO
          replace x0 : wr.cell? ⟨og, k * 3, none⟩ = some (.string y.path) := x0
          have HX0 := hid x0
          have HF0 := hid f0
          replace x1 : wr.cell? ⟨og, k * 3 + 1, none⟩ = some (.string y.was) := x1
          have HX1 := hid x1
          have HF1 := hid f1
          replace x2 : wr.cell? ⟨og, k * 3 + 2, none⟩ = some (.string y.is) := x2
          have HX2 := hid x2
          have HF2 := hid f2
          have hog : og < g2 := by have h := (HO.out.lt og rfl).2; rw [HG2.out] at h; exact h
          have hyz := HOZ.out y hyO
          have HC : Hid (∀ z : After wr, Calls Tryz.prog 35 #[.string f.path, .string y.path] z.val fun e w' => e = .returned (.int .i64 (compareR f.path.data.toList y.path.data.toList)) ∧ Below z.val.heap.size z.val w') := fun z => rcompare_any f.path y.path z.val HFZ.out hyz
          have EF0 : ∀ z : After wr, z.val.cell? ⟨fb, 0, none⟩ = some (.string f.path) := fun z => (z.below.cell (p := ⟨fb, 0, none⟩) (World.block_lt_of_cell? _ _ HF0.out)).trans HF0.out
          have EX0 : ∀ z : After wr, z.val.cell? ⟨og, k * 3, none⟩ = some (.string y.path) := fun z => (z.below.cell (p := ⟨og, k * 3, none⟩) (World.block_lt_of_cell? _ _ HX0.out)).trans HX0.out
          have EF1 : ∀ z : After wr, z.val.cell? ⟨fb, 1, none⟩ = some (.string f.was) := fun z => (z.below.cell (p := ⟨fb, 1, none⟩) (World.block_lt_of_cell? _ _ HF1.out)).trans HF1.out
          have EX1 : ∀ z : After wr, z.val.cell? ⟨og, k * 3 + 1, none⟩ = some (.string y.was) := fun z => (z.below.cell (p := ⟨og, k * 3 + 1, none⟩) (World.block_lt_of_cell? _ _ HX1.out)).trans HX1.out
          have EF2 : ∀ z : After wr, z.val.cell? ⟨fb, 2, none⟩ = some (.string f.is) := fun z => (z.below.cell (p := ⟨fb, 2, none⟩) (World.block_lt_of_cell? _ _ HF2.out)).trans HF2.out
          have EX2 : ∀ z : After wr, z.val.cell? ⟨og, k * 3 + 2, none⟩ = some (.string y.is) := fun z => (z.below.cell (p := ⟨og, k * 3 + 2, none⟩) (World.block_lt_of_cell? _ _ HX2.out)).trans HX2.out
          clear hy HOx HXW hyO
          cases dn
          ·by_cases hcm : befC f y = true
           ·have HMN := hid (HMD.out.hit HD.out hcm)
            have hcz : compareR f.path.data.toList y.path.data.toList < 0 := of_decide_eq_true hcm
            generalize compareR f.path.data.toList y.path.data.toList = cr at HC hcz
            go_wp2_with fail
            refine wp_region_after (by kernel_rfl) (by kernel_rfl) ?_
            repeat (go_big_quiet_step ((first | (go_at_call 35; with_reducible exact calls_after (HC.out _)))))
            refine wpQuiet_nil ?_
            intro _ hw'
            obtain ⟨z, rfl⟩ := hw'
            have HZW : Hid (Below wr.heap.size wr z.val) := z.below
            generalize z.val = wz at HZW ⊢
            clear z EF0 EF1 EF2 EX0 EX1 EX2 HC
            have HNz : Hid (wz.ownsRow g2 34 3 (.slice na N.length nc) N.length (cvals N)) := own_below HN.out HZW.out
            have HXz : Hid (Below g2 wo wz) := HX.out.trans (HZW.out.mono hgx)
            have f0' : wz.cell? ⟨fb, 0, none⟩ = some (.string f.path) := (HZW.out.cell (p := ⟨fb, 0, none⟩) (World.block_lt_of_cell? _ _ HF0.out)).trans HF0.out
            have x0' : wz.cell? ⟨og, k * 3, none⟩ = some (.string y.path) := (HZW.out.cell (p := ⟨og, k * 3, none⟩) (World.block_lt_of_cell? _ _ HX0.out)).trans HX0.out
            have f1' : wz.cell? ⟨fb, 1, none⟩ = some (.string f.was) := (HZW.out.cell (p := ⟨fb, 1, none⟩) (World.block_lt_of_cell? _ _ HF1.out)).trans HF1.out
            have x1' : wz.cell? ⟨og, k * 3 + 1, none⟩ = some (.string y.was) := (HZW.out.cell (p := ⟨og, k * 3 + 1, none⟩) (World.block_lt_of_cell? _ _ HX1.out)).trans HX1.out
            have f2' : wz.cell? ⟨fb, 2, none⟩ = some (.string f.is) := (HZW.out.cell (p := ⟨fb, 2, none⟩) (World.block_lt_of_cell? _ _ HF2.out)).trans HF2.out
            have x2' : wz.cell? ⟨og, k * 3 + 2, none⟩ = some (.string y.is) := (HZW.out.cell (p := ⟨og, k * 3 + 2, none⟩) (World.block_lt_of_cell? _ _ HX2.out)).trans HX2.out
            have hgz : g2 ≤ wz.heap.size := by have := HXz.out.size; rw [HG2.out] at this; exact this
            clear f0 f1 f2 x0 x1 x2 HF0 HF1 HF2 HX0 HX1 HX2 HZW
            go_upto_region 31 with (at_builtin; refine wpList_append_own _ rfl (.tmp 124) (.tmp 126) 25 rfl g2 34 i0 (.agg #[.string ⟨#[]⟩, .string ⟨#[]⟩, .string ⟨#[]⟩]) 3 48 Tryz.underlying25 hi0 hz0 hz1 hz2 rfl (by decide) (.slice na N.length nc) _ _ rfl (HNz.out.alloc _) ⟨wz.heap.size, 0, none⟩ 1 1 [.string f.path, .string f.was, .string f.is] rfl rfl (cellBlk3 (Blk.new _ _ _)) (one3 rfl rfl rfl) (by unfold maxLen; omega) (by omega) (by rw [World.size_alloc]; omega) ?_; intro v' w9 hown' hgrow _; have HOWN := hid hown'; have HGR := hid hgrow; clear hown' hgrow)
            obtain ⟨na', nc', rfl, hnc'⟩ := own_slice' HOWN.out
            have HN9 : Hid (w9.ownsRow g2 34 3 (.slice na' (N.length + 1) nc') (N.length + 1) (cvals (N ++ [f]))) := by
             have h := HOWN.out
             rw [cvals_append]; exact h
            have HS9 : Hid (Below g2 wz w9) := ((Below.refl g2 wz).alloc hgz _).grown HGR.out (by rw [World.size_alloc]; omega) (fun j hj => (HNz.out.lt j hj).1)
            have HX9 : Hid (Below g2 wo w9) := HXz.out.trans HS9.out
            have c0 : w9.cell? ⟨og, k * 3, none⟩ = some (.string y.path) := (HS9.out.cell (p := ⟨og, k * 3, none⟩) hog).trans x0'
            have c1 : w9.cell? ⟨og, k * 3 + 1, none⟩ = some (.string y.was) := (HS9.out.cell (p := ⟨og, k * 3 + 1, none⟩) hog).trans x1'
            have c2 : w9.cell? ⟨og, k * 3 + 2, none⟩ = some (.string y.is) := (HS9.out.cell (p := ⟨og, k * 3 + 2, none⟩) hog).trans x2'
            have hg9 : g2 ≤ w9.heap.size := by have := HX9.out.size; rw [HG2.out] at this; exact this
            clear f0' f1' f2' x0' x1' x2' HOWN HGR HNz HXz HS9
            rename World => wy
            go_wp2_with (at_builtin; refine wpList_append_own _ rfl (.tmp 128) (.tmp 133) 25 rfl g2 34 i0 (.agg #[.string ⟨#[]⟩, .string ⟨#[]⟩, .string ⟨#[]⟩]) 3 48 Tryz.underlying25 hi0 hz0 hz1 hz2 rfl (by decide) (.slice na' (N.length + 1) nc') _ _ rfl (HN9.out.alloc _) ⟨wy.heap.size, 0, none⟩ 1 1 [.string y.path, .string y.was, .string y.is] rfl rfl (cellBlk3 (Blk.new _ _ _)) (one3 rfl rfl rfl) (by unfold maxLen; omega) (by omega) (by rw [World.size_alloc]; omega) ?_; intro v' w9 hown' hgrow _; have HOWN := hid hown'; have HGR := hid hgrow; clear hown' hgrow)
            obtain ⟨nb, nd, rfl, hnd⟩ := own_slice' HOWN.out
            have HNN : Hid (w9.ownsRow g2 34 3 (.slice nb ((N.length + 1) + 1) nd) ((N ++ [f]) ++ [y]).length (cvals ((N ++ [f]) ++ [y]))) := by
             have h := HOWN.out
             have e : ((N ++ [f]) ++ [y]).length = (N.length + 1) + 1 := by simp
             rw [e, cvals_append]; exact h
            have HXX : Hid (Below g2 wo w9) := (HX9.out.alloc (by omega) _).grown HGR.out (by rw [World.size_alloc]; omega) (fun j hj => (HN9.out.lt j hj).1)
            go_roundw
            case rel => first | exact ⟨k + 1, _, true, by omega, by go_num, rfl, HNN, HXX, HMN⟩ | ((repeat apply Exists.intro); exact ⟨⟨k + 1, _, true, by omega, by go_num, rfl, HNN, HXX, HMN⟩, rfl⟩)
            case measure => simp [intOf]; omega
           ·have hcm2 : befC f y = false := Bool.not_eq_true _ ▸ hcm
            have HMN := hid (HMD.out.miss HD.out hcm2)
            have hcz : ¬ compareR f.path.data.toList y.path.data.toList < 0 := fun h => hcm (decide_eq_true h)
            generalize compareR f.path.data.toList y.path.data.toList = cr at HC hcz
            go_wp2_with fail
            refine wp_region_after (by kernel_rfl) (by kernel_rfl) ?_
            repeat (go_big_quiet_step ((first | (go_at_call 35; with_reducible exact calls_after (HC.out _)))))
            refine wpQuiet_nil ?_
            intro _ hw'
            obtain ⟨z, rfl⟩ := hw'
            have HZW : Hid (Below wr.heap.size wr z.val) := z.below
            generalize z.val = wz at HZW ⊢
            clear z EF0 EF1 EF2 EX0 EX1 EX2 HC
            have HNz : Hid (wz.ownsRow g2 34 3 (.slice na N.length nc) N.length (cvals N)) := own_below HN.out HZW.out
            have HXz : Hid (Below g2 wo wz) := HX.out.trans (HZW.out.mono hgx)
            have f0' : wz.cell? ⟨fb, 0, none⟩ = some (.string f.path) := (HZW.out.cell (p := ⟨fb, 0, none⟩) (World.block_lt_of_cell? _ _ HF0.out)).trans HF0.out
            have x0' : wz.cell? ⟨og, k * 3, none⟩ = some (.string y.path) := (HZW.out.cell (p := ⟨og, k * 3, none⟩) (World.block_lt_of_cell? _ _ HX0.out)).trans HX0.out
            have f1' : wz.cell? ⟨fb, 1, none⟩ = some (.string f.was) := (HZW.out.cell (p := ⟨fb, 1, none⟩) (World.block_lt_of_cell? _ _ HF1.out)).trans HF1.out
            have x1' : wz.cell? ⟨og, k * 3 + 1, none⟩ = some (.string y.was) := (HZW.out.cell (p := ⟨og, k * 3 + 1, none⟩) (World.block_lt_of_cell? _ _ HX1.out)).trans HX1.out
            have f2' : wz.cell? ⟨fb, 2, none⟩ = some (.string f.is) := (HZW.out.cell (p := ⟨fb, 2, none⟩) (World.block_lt_of_cell? _ _ HF2.out)).trans HF2.out
            have x2' : wz.cell? ⟨og, k * 3 + 2, none⟩ = some (.string y.is) := (HZW.out.cell (p := ⟨og, k * 3 + 2, none⟩) (World.block_lt_of_cell? _ _ HX2.out)).trans HX2.out
            have hgz : g2 ≤ wz.heap.size := by have := HXz.out.size; rw [HG2.out] at this; exact this
            clear f0 f1 f2 x0 x1 x2 HF0 HF1 HF2 HX0 HX1 HX2 HZW
            go_wp2_with (at_builtin; refine wpList_append_own _ rfl (.tmp 128) (.tmp 133) 25 rfl g2 34 i0 (.agg #[.string ⟨#[]⟩, .string ⟨#[]⟩, .string ⟨#[]⟩]) 3 48 Tryz.underlying25 hi0 hz0 hz1 hz2 rfl (by decide) (.slice na N.length nc) _ _ rfl (HNz.out.alloc _) ⟨wz.heap.size, 0, none⟩ 1 1 [.string y.path, .string y.was, .string y.is] rfl rfl (cellBlk3 (Blk.new _ _ _)) (one3 rfl rfl rfl) (by unfold maxLen; omega) (by omega) (by rw [World.size_alloc]; omega) ?_; intro v' w9 hown' hgrow _; have HOWN := hid hown'; have HGR := hid hgrow; clear hown' hgrow)
            obtain ⟨nb, nd, rfl, hnd⟩ := own_slice' HOWN.out
            have HNN : Hid (w9.ownsRow g2 34 3 (.slice nb (N.length + 1) nd) (N ++ [y]).length (cvals (N ++ [y]))) := by
             have h := HOWN.out
             have e : (N ++ [y]).length = N.length + 1 := by simp
             rw [e, cvals_append]; exact h
            have HXX : Hid (Below g2 wo w9) := (HXz.out.alloc (by omega) _).grown HGR.out (by rw [World.size_alloc]; omega) (fun j hj => (HNz.out.lt j hj).1)
            go_roundw
            case rel => first | exact ⟨k + 1, _, false, by omega, by go_num, rfl, HNN, HXX, HMN⟩ | ((repeat apply Exists.intro); exact ⟨⟨k + 1, _, false, by omega, by go_num, rfl, HNN, HXX, HMN⟩, rfl⟩)
            case measure => simp [intOf]; omega
          ·have HMN := hid (HMD.out.done HD.out)
           go_wp2_with fail
           refine wp_region_after (by kernel_rfl) (by kernel_rfl) ?_
           repeat (go_big_quiet_step ((first | (go_at_call 35; with_reducible exact calls_after (HC.out _)))))
           refine wpQuiet_nil ?_
           intro _ hw'
           obtain ⟨z, rfl⟩ := hw'
           have HZW : Hid (Below wr.heap.size wr z.val) := z.below
           generalize z.val = wz at HZW ⊢
           clear z EF0 EF1 EF2 EX0 EX1 EX2 HC
           have HNz : Hid (wz.ownsRow g2 34 3 (.slice na N.length nc) N.length (cvals N)) := own_below HN.out HZW.out
           have HXz : Hid (Below g2 wo wz) := HX.out.trans (HZW.out.mono hgx)
           have f0' : wz.cell? ⟨fb, 0, none⟩ = some (.string f.path) := (HZW.out.cell (p := ⟨fb, 0, none⟩) (World.block_lt_of_cell? _ _ HF0.out)).trans HF0.out
           have x0' : wz.cell? ⟨og, k * 3, none⟩ = some (.string y.path) := (HZW.out.cell (p := ⟨og, k * 3, none⟩) (World.block_lt_of_cell? _ _ HX0.out)).trans HX0.out
           have f1' : wz.cell? ⟨fb, 1, none⟩ = some (.string f.was) := (HZW.out.cell (p := ⟨fb, 1, none⟩) (World.block_lt_of_cell? _ _ HF1.out)).trans HF1.out
           have x1' : wz.cell? ⟨og, k * 3 + 1, none⟩ = some (.string y.was) := (HZW.out.cell (p := ⟨og, k * 3 + 1, none⟩) (World.block_lt_of_cell? _ _ HX1.out)).trans HX1.out
           have f2' : wz.cell? ⟨fb, 2, none⟩ = some (.string f.is) := (HZW.out.cell (p := ⟨fb, 2, none⟩) (World.block_lt_of_cell? _ _ HF2.out)).trans HF2.out
           have x2' : wz.cell? ⟨og, k * 3 + 2, none⟩ = some (.string y.is) := (HZW.out.cell (p := ⟨og, k * 3 + 2, none⟩) (World.block_lt_of_cell? _ _ HX2.out)).trans HX2.out
           have hgz : g2 ≤ wz.heap.size := by have := HXz.out.size; rw [HG2.out] at this; exact this
           clear f0 f1 f2 x0 x1 x2 HF0 HF1 HF2 HX0 HX1 HX2 HZW
           go_wp2_with (at_builtin; refine wpList_append_own _ rfl (.tmp 128) (.tmp 133) 25 rfl g2 34 i0 (.agg #[.string ⟨#[]⟩, .string ⟨#[]⟩, .string ⟨#[]⟩]) 3 48 Tryz.underlying25 hi0 hz0 hz1 hz2 rfl (by decide) (.slice na N.length nc) _ _ rfl (HNz.out.alloc _) ⟨wz.heap.size, 0, none⟩ 1 1 [.string y.path, .string y.was, .string y.is] rfl rfl (cellBlk3 (Blk.new _ _ _)) (one3 rfl rfl rfl) (by unfold maxLen; omega) (by omega) (by rw [World.size_alloc]; omega) ?_; intro v' w9 hown' hgrow _; have HOWN := hid hown'; have HGR := hid hgrow; clear hown' hgrow)
           obtain ⟨nb, nd, rfl, hnd⟩ := own_slice' HOWN.out
           have HNN : Hid (w9.ownsRow g2 34 3 (.slice nb (N.length + 1) nd) (N ++ [y]).length (cvals (N ++ [y]))) := by
            have h := HOWN.out
            have e : (N ++ [y]).length = N.length + 1 := by simp
            rw [e, cvals_append]; exact h
           have HXX : Hid (Below g2 wo w9) := (HXz.out.alloc (by omega) _).grown HGR.out (by rw [World.size_alloc]; omega) (fun j hj => (HNz.out.lt j hj).1)
           go_roundw
           case rel => first | exact ⟨k + 1, _, true, by omega, by go_num, rfl, HNN, HXX, HMN⟩ | ((repeat apply Exists.intro); exact ⟨⟨k + 1, _, true, by omega, by go_num, rfl, HNN, HXX, HMN⟩, rfl⟩)
           case measure => simp [intOf]; omega
         ·obtain rfl : k = O.length := by omega
          have ck : ¬ (O.length : Int) < O.length := by omega
          clear f0 f1 f2 HXW
          go_wp2_with fail
          go_meet
          case rel => exact ⟨N, dn, na, nc, rfl, rfl, HN, HX, HMD⟩
       case rest =>
        obtain ⟨N, dn, na, nc, rfl, rfl, HN, HX, HMD⟩ := hcut
        rename World => wn
        have HXW : Hid (Below wo.heap.size wo wn) := by rw [HG2.out]; exact HX.out
        have f0 : wn.cell? ⟨fb, 0, none⟩ = some (.string f.path) := (HXW.out.cell (p := ⟨fb, 0, none⟩) (World.block_lt_of_cell? _ _ HQ0.out)).trans HQ0.out
        have f1 : wn.cell? ⟨fb, 1, none⟩ = some (.string f.was) := (HXW.out.cell (p := ⟨fb, 1, none⟩) (World.block_lt_of_cell? _ _ HQ1.out)).trans HQ1.out
        have f2 : wn.cell? ⟨fb, 2, none⟩ = some (.string f.is) := (HXW.out.cell (p := ⟨fb, 2, none⟩) (World.block_lt_of_cell? _ _ HQ2.out)).trans HQ2.out
        have hgx : g2 ≤ wn.heap.size := by have := HX.out.size; rw [HG2.out] at this; exact this
        have hNl := HMD.out.len
        go_upto_if 136 with fail
        go_cut [17] from 76 to 141 (fun nv wx => ∃ (nb : Option Addr) (nd : Nat), nv = .slice nb (O.length + 1) nd ∧ Hid (wx.ownsRow g2 34 3 (.slice nb (O.length + 1) nd) (O.length + 1) (cvals (insG befC O f))) ∧ Hid (Below g2 wo wx))
        case first =>
         cases dn
         ·have HE := hid (HMD.out.end_not (Nat.le_refl _))
          have hNk : N.length = O.length := HMD.out.2
          go_wp2_with (at_builtin; refine wpList_append_own _ rfl (.tmp 137) (.tmp 139) 25 rfl g2 34 i0 (.agg #[.string ⟨#[]⟩, .string ⟨#[]⟩, .string ⟨#[]⟩]) 3 48 Tryz.underlying25 hi0 hz0 hz1 hz2 rfl (by decide) (.slice na N.length nc) _ _ rfl (HN.out.alloc _) ⟨wn.heap.size, 0, none⟩ 1 1 [.string f.path, .string f.was, .string f.is] rfl rfl (cellBlk3 (Blk.new _ _ _)) (one3 rfl rfl rfl) (by unfold maxLen; omega) (by omega) (by rw [World.size_alloc]; omega) ?_; intro v' w9 hown' hgrow _; have HOWN := hid hown'; have HGR := hid hgrow; clear hown' hgrow)
          obtain ⟨nb, nd, rfl, hnd⟩ := own_slice' HOWN.out
          have HNN : Hid (w9.ownsRow g2 34 3 (.slice nb (O.length + 1) nd) (O.length + 1) (cvals (insG befC O f))) := by
           have h := HOWN.out
           rw [hNk] at h
           rw [HE.out, cvals_append]; exact h
          have HXX : Hid (Below g2 wo w9) := (HX.out.alloc (by omega) _).grown HGR.out (by rw [World.size_alloc]; omega) (fun j hj => (HN.out.lt j hj).1)
          have HNK := hid hNk
          clear hNk f0 f1 f2
          go_meet
          case rel => exact ⟨nb, nd, by rw [HNK.out], HNN, HXX⟩
         ·have HE := hid (HMD.out.end_done (Nat.le_refl _))
          have hNk : N.length = O.length + 1 := HMD.out.2
          have HNN : Hid (wn.ownsRow g2 34 3 (.slice na (O.length + 1) nc) (O.length + 1) (cvals (insG befC O f))) := by
           have h := HN.out
           rw [hNk] at h
           rw [HE.out]; exact h
          have HNK := hid hNk
          clear hNk f0 f1 f2
          go_wp2_with fail
          go_meet
          case rel => exact ⟨na, nc, by rw [HNK.out], HNN, HX⟩
        case rest =>
         obtain ⟨nb, nd, rfl, HNN, HXY⟩ := hcut
         rename World => wp
         have HXP : Hid (Below wo.heap.size wo wp) := by rw [HG2.out]; exact HXY.out
         have HLE : Hid (O.length + 1 = (insG befC O f).length) := (insG_len _ _ _).symm
         have HOR9 : Hid (wp.ownsRow g5 34 3 (.slice nb (insG befC O f).length nd) (insG befC O f).length (cvals (insG befC O f))) := by
          have h := own_mono HNN.out HPB.out
          rw [HLE.out] at h; exact h
         have HBR9 : Hid (Below g5 w5 wp) := HBR8.out.trans (HXP.out.mono (by have h1 := HPB.out; have h2 := HG2.out; omega))
         clear f0 f1 f2 HN HX HMD HXW hgx hNl
         go_wp2_with fail
         go_roundw
         case rel => first | exact ⟨i + 1, insG befC O f, nb, nd, by omega, by rw [HLE.out], by go_num, HTK2, HOR9, HBR9⟩ | ((repeat apply Exists.intro); exact ⟨⟨i + 1, insG befC O f, nb, nd, by omega, by rw [HLE.out], by go_num, HTK2, HOR9, HBR9⟩, rfl⟩)
         case measure => simp [intOf]; omega
    ·have hin : P.length = i := by omega
     subst hin
     have ci : ¬ (P.length : Int) < P.length := by omega
     have HR : Hid (RDiffIs (L, 0) (M, 0) 0 O) := by
      unfold Hid RDiffIs
      rw [if_neg (by simp), if_neg (by simp)]
      refine ⟨rfl, ?_⟩
      simp only
      rw [HOE.out, HPE.out, List.take_of_length_le (Nat.le_refl _)]
     have HCH : Hid (ChsAt wr oa O.length O) := by
      have hOl : O.length ≤ 10000 := by
       have h1 := diffR_len L M (P.take P.length)
       rw [← HOE.out, List.length_take] at h1; omega
      refine ⟨rfl, by omega, ?_⟩
      rcases Nat.eq_zero_or_pos O.length with h0 | h0
      ·exact .inl h0
      ·obtain ⟨g, d, e1, _, _⟩ := HOR.out.form (by omega)
       injection e1 with e11 _ _
       refine .inr ⟨g, 0, e11, fun j hj => ?_⟩
       subst e11
       have c0 := HOR.out.cellAt (j * 3) (by omega)
       have c1 := HOR.out.cellAt (j * 3 + 1) (by omega)
       have c2 := HOR.out.cellAt (j * 3 + 2) (by omega)
       obtain ⟨y0, y1, y2⟩ := chvals_get O j hj
       rw [show (cvals O)[j * 3]? = _ from y0] at c0
       rw [show (cvals O)[j * 3 + 1]? = _ from y1] at c1
       rw [show (cvals O)[j * 3 + 2]? = _ from y2] at c2
       rw [Nat.zero_add]
       exact ⟨c0, c1, c2⟩
     have HBF := hid (below_then HW5.out HBW.out)
     go_wp2_with fail
     go_ret2
     exact ⟨_, _, _, O, 0, rfl, HCH.out, HBF.out, HR.out⟩
end Go.Proofs.YtmpjdoiogbbcoaaGreatDoor
/- What a commit lists, in every source: each name once, each id whole; the reference's Diff tells what two commits differ in (plain). -/
namespace Go.Proofs.YtmpjdoiogbbcoaaGreatDoor
open Go.RowKit Book Pap Ojt Sn
set_option linter.unusedVariables false
set_option linter.unusedSimpArgs false

theorem rising_of : ∀ {l : List ByteArray}, risingB l = true → Rising l
 | [], _ => List.Pairwise.nil
 | [a], _ => List.pairwise_singleton _ _
 | a :: b :: r, h => by
  unfold risingB at h
  rw [Bool.and_eq_true] at h
  have ih := rising_of h.2
  refine List.pairwise_cons.2 ⟨fun x hx => ?_, ih⟩
  rcases List.mem_cons.1 hx with rfl | hx
  ·exact h.1
  ·exact lt_trans h.1 ((List.pairwise_cons.1 ih).1 x hx)
theorem rising_once {l : List ByteArray} (h : Rising l) : l.Nodup := h.imp (fun {a b} h e => by subst e; rw [lt_irr] at h; cases h)
theorem tree_once {x : Ob} (h : good x = true) (hk : x.kind = 2) : (x.ents.map (·.name)).Nodup := by
 unfold good at h
 rw [if_neg (by omega), if_pos hk] at h
 unfold Ojt.goodTree at h
 simp only [Bool.and_eq_true, decide_eq_true_eq] at h
 exact rising_once (rising_of h.2.2)
theorem mapL_inj : ∀ {l m : List ByteArray}, l.map (fun s => s.data.toList) = m.map (fun s => s.data.toList) → l = m
 | [], [], _ => rfl
 | [], b :: m, h => by cases h
 | a :: l, [], h => by cases h
 | a :: l, b :: m, h => by
  rw [List.map_cons, List.map_cons] at h
  injection h with h1 h2
  rw [ba_ext h1, mapL_inj h2]
theorem pathOf_inj {l m : List ByteArray} (hl : l ≠ []) (hm : m ≠ []) (gl : ∀ n ∈ l, goodL n.data.toList = true) (gm : ∀ n ∈ m, goodL n.data.toList = true) (h : pathOf l = pathOf m) : l = m := by
 have e : joinL (l.map fun s => s.data.toList) = joinL (m.map fun s => s.data.toList) := by
  have := congrArg (fun s : ByteArray => s.data.toList) h
  unfold pathOf bz at this
  simpa using this
 have p1 := pieces_join (l.map fun s => s.data.toList) (fun e => hl (List.map_eq_nil_iff.1 e)) (fun x hx => by
  obtain ⟨n, hn, rfl⟩ := List.mem_map.1 hx
  exact good_free (gl n hn))
 have p2 := pieces_join (m.map fun s => s.data.toList) (fun e => hm (List.map_eq_nil_iff.1 e)) (fun x hx => by
  obtain ⟨n, hn, rfl⟩ := List.mem_map.1 hx
  exact good_free (gm n hn))
 rw [e, p2] at p1
 exact (mapL_inj p1).symm
/-- a blob below a folder: the rest of its path, kind, id -/
abbrev Bl := List ByteArray × Int × ByteArray
def blE (above : List ByteArray) (p : Bl) : Ent := ⟨pathOf (above ++ p.1), p.2.1, p.2.2⟩
/-- what was met below a folder -/
def News (above : List ByteArray) (s s' : Wk) (ok : ByteArray → Prop) : Prop :=
 ∃ N : List Bl, s'.blobs = s.blobs ++ N.map (blE above) ∧ (N.map (·.1)).Nodup ∧ ∀ p ∈ N, (∃ h r, p.1 = h :: r ∧ ok h) ∧ (∀ n ∈ p.1, goodL n.data.toList = true) ∧ p.2.2.size = 32
theorem News.nil {above : List ByteArray} {s s' : Wk} {ok : ByteArray → Prop} (h : s'.blobs = s.blobs) : News above s s' ok := ⟨[], by simpa using h, List.nodup_nil, fun p hp => by cases hp⟩
theorem News.one {above : List ByteArray} {s s' : Wk} {n : ByteArray} {k : Int} {i : ByteArray} (h : s'.blobs = s.blobs ++ [⟨pathOf (above ++ [n]), k, i⟩]) (hg : goodL n.data.toList = true) (hi : i.size = 32) : News above s s' (fun h => h = n) :=
 ⟨[([n], k, i)], h, by simp, fun p hp => by
  rw [List.mem_singleton] at hp; subst hp
  exact ⟨⟨n, [], rfl, rfl⟩, fun x hx => by rw [List.mem_singleton.1 hx]; exact hg, hi⟩⟩
theorem News.down {above : List ByteArray} {s s' : Wk} {n : ByteArray} (h : News (above ++ [n]) s s' (fun _ => True)) (hg : goodL n.data.toList = true) : News above s s' (fun h => h = n) := by
 obtain ⟨N, h1, h2, h3⟩ := h
 refine ⟨N.map (fun p => (n :: p.1, p.2)), ?_, ?_, fun p hp => ?_⟩
 ·rw [h1, List.map_map]
  congr 1
  refine List.map_congr_left (fun p hp => ?_)
  show blE (above ++ [n]) p = blE above (n :: p.1, p.2)
  unfold blE
  rw [List.append_assoc]; rfl
 ·rw [List.map_map]
  have e : ((fun p : Bl => p.1) ∘ fun p : Bl => (n :: p.1, p.2)) = (fun l => n :: l) ∘ (fun p : Bl => p.1) := rfl
  rw [e, ← List.map_map]
  unfold List.Nodup at h2 ⊢
  rw [List.pairwise_map]
  exact h2.imp (fun {a b} hab e => hab (by injection e))
 ·obtain ⟨q, hq, rfl⟩ := List.mem_map.1 hp
  obtain ⟨-, g2, g3⟩ := h3 q hq
  refine ⟨⟨n, q.1, rfl, rfl⟩, fun x hx => ?_, g3⟩
  rcases List.mem_cons.1 hx with rfl | hx
  ·exact hg
  ·exact g2 x hx
theorem News.cat {above : List ByteArray} {s t u : Wk} {n : ByteArray} {ok : ByteArray → Prop} (h : News above s t (fun h => h = n)) (k : News above t u ok) (hn : ¬ ok n) : News above s u (fun h => h = n ∨ ok h) := by
 obtain ⟨N, h1, h2, h3⟩ := h
 obtain ⟨M, k1, k2, k3⟩ := k
 refine ⟨N ++ M, by rw [k1, h1, List.map_append, List.append_assoc], ?_, fun p hp => ?_⟩
 ·rw [List.map_append]
  refine List.nodup_append.2 ⟨h2, k2, fun a ha b hb e => ?_⟩
  obtain ⟨p, hp, rfl⟩ := List.mem_map.1 ha
  obtain ⟨q, hq, rfl⟩ := List.mem_map.1 hb
  obtain ⟨⟨x, r, e1, rfl⟩, -, -⟩ := h3 p hp
  obtain ⟨⟨y, r', e2, hy⟩, -, -⟩ := k3 q hq
  rw [e1, e2] at e
  injection e with e3 _
  exact hn (by rw [e3]; exact hy)
 ·rcases List.mem_append.1 hp with hp | hp
  ·obtain ⟨⟨x, r, e1, e2⟩, g2, g3⟩ := h3 p hp
   exact ⟨⟨x, r, e1, .inl e2⟩, g2, g3⟩
  ·obtain ⟨⟨x, r, e1, e2⟩, g2, g3⟩ := k3 p hp
   exact ⟨⟨x, r, e1, .inr e2⟩, g2, g3⟩
theorem News.mono {above : List ByteArray} {s s' : Wk} {ok ok' : ByteArray → Prop} (h : News above s s' ok) (hi : ∀ x, ok x → ok' x) : News above s s' ok' := by
 obtain ⟨N, h1, h2, h3⟩ := h
 refine ⟨N, h1, h2, fun p hp => ?_⟩
 obtain ⟨⟨x, r, e1, e2⟩, g2, g3⟩ := h3 p hp
 exact ⟨⟨x, r, e1, hi x e2⟩, g2, g3⟩
theorem overE_new {rec : ByteArray → List ByteArray → Wk → Wk × Int} (hr : ∀ id above s, News above s (rec id above s).1 (fun _ => True)) (above : List ByteArray) :
  ∀ (es : List Ent) (s : Wk), (∀ e ∈ es, goodEnt e = true) → (es.map (·.name)).Nodup → News above s (overE rec above es s).1 (fun h => h ∈ es.map (·.name))
 | [], s, _, _ => News.nil rfl
 | y :: r, s, he, hn => by
  obtain ⟨g1, -, -, g4⟩ := goodEnt_facts (he y (List.mem_cons_self ..))
  rw [List.map_cons] at hn
  obtain ⟨n1, n2⟩ := List.nodup_cons.1 hn
  have ih := fun s => overE_new hr above r s (fun e h => he e (List.mem_cons_of_mem _ h)) n2
  have wide : ∀ x, (x = y.name ∨ x ∈ r.map (·.name)) → x ∈ (y :: r).map (·.name) := fun x hx => by rw [List.map_cons, List.mem_cons]; exact hx
  unfold overE
  split
  ·exact News.nil rfl
  ·split
   ·exact News.nil rfl
   ·split
    ·have h1 : News above s (rec y.id (above ++ [y.name]) { s with met := s.met + 1 }).1 (fun h => h = y.name) := by
      have := (hr y.id (above ++ [y.name]) { s with met := s.met + 1 }).down g1
      exact this
     split
     ·exact h1.mono (fun x hx => wide x (.inl hx))
     ·exact (h1.cat (ih _) n1).mono wide
    ·have h1 : News above s ⟨s.met + 1, s.blobs ++ [⟨pathOf (above ++ [y.name]), y.kind, y.id⟩]⟩ (fun h => h = y.name) := News.one rfl g1 g4
     exact (h1.cat (ih _) n1).mono wide
theorem overS_new (G : Sw.Src) : ∀ (d : Nat) (id : ByteArray) (above : List ByteArray) (s : Wk), News above s (overS G d id above s).1 (fun _ => True)
 | 0, id, above, s => News.nil rfl
 | d + 1, id, above, s => by
  unfold overS
  split
  ·exact News.nil rfl
  ·rename_i h0
   obtain ⟨x, er, hlk⟩ : ∃ x er, lookK G id 2 21 = (x, er) := ⟨_, _, rfl⟩
   rw [hlk] at h0 ⊢
   have h0 : er = 0 := by simpa using h0
   subst h0
   obtain ⟨hg, hk⟩ := lookK_ok hlk (by decide)
   obtain ⟨-, h2⟩ := good_tree hg hk
   exact (overE_new (fun id above s => overS_new G d id above s) above _ s h2 (tree_once hg hk)).mono (fun _ _ => trivial)
theorem listS_once (G : Sw.Src) (id : ByteArray) : ((listS G id).1.map (·.name)).Nodup ∧ Full (listS G id).1 := by
 unfold listS
 split
 ·exact ⟨by simp, fun y hy => by cases hy⟩
 ·split
  ·exact ⟨by simp, fun y hy => by cases hy⟩
  ·obtain ⟨N, h1, h2, h3⟩ := overS_new G 66 (lookK G id 3 12).1.tree [] ⟨0, []⟩
   simp only [List.nil_append] at h1
   simp only
   rw [h1]
   constructor
   ·rw [List.map_map]
    unfold List.Nodup at h2 ⊢
    rw [List.pairwise_map] at h2 ⊢
    refine List.Pairwise.imp_of_mem (fun {a b} ha hb hab e => hab ?_) h2
    obtain ⟨⟨x, r, e1, -⟩, g1, -⟩ := h3 a ha
    obtain ⟨⟨y, r', e2, -⟩, g2, -⟩ := h3 b hb
    refine pathOf_inj (by rw [e1]; simp) (by rw [e2]; simp) g1 g2 ?_
    exact e
   ·intro y hy
    obtain ⟨p, hp, rfl⟩ := List.mem_map.1 hy
    exact (h3 p hp).2.2
/-! the reference's differences -/
theorem ofL_was (l : List Ent) (p : ByteArray) : ofL l p = wasOf l p := by
 unfold ofL wasOf idl
 cases l.find? (fun e => decide (e.name = p)) <;> rfl
theorem diffR_mem (l m : List Ent) (ps : List ByteArray) (c : Ch) : c ∈ diffR l m ps ↔ ∃ p ∈ ps, ofL l p ≠ ofL m p ∧ c = chR l m p := by
 have key : ∀ (qs : List ByteArray) (O : List Ch), c ∈ qs.foldl (stepR l m) O ↔ c ∈ O ∨ ∃ p ∈ qs, ofL l p ≠ ofL m p ∧ c = chR l m p := by
  intro qs
  induction qs with
  | nil => intro O; simp
  | cons q r ih =>
   intro O
   rw [List.foldl_cons, ih]
   have hs : c ∈ stepR l m O q ↔ c ∈ O ∨ (ofL l q ≠ ofL m q ∧ c = chR l m q) := by
    unfold stepR
    split
    ·rename_i h
     exact ⟨.inl, fun h' => h'.elim (fun h => h) (fun h' => absurd h h'.1)⟩
    ·rename_i h
     rw [insG_mem]
     exact ⟨fun h' => h'.elim (fun e => .inr ⟨h, e⟩) .inl, fun h' => h'.elim .inr (fun e => .inl e.2)⟩
   rw [hs]
   constructor
   ·rintro ((h | h) | ⟨p, hp, h⟩)
    ·exact .inl h
    ·exact .inr ⟨q, List.mem_cons_self .., h⟩
    ·exact .inr ⟨p, List.mem_cons_of_mem _ hp, h⟩
   ·rintro (h | ⟨p, hp, h⟩)
    ·exact .inl (.inl h)
    ·rcases List.mem_cons.1 hp with rfl | hp
     ·exact .inl (.inr h)
     ·exact .inr ⟨p, hp, h⟩
 have := key ps []
 simpa [diffR] using this
def upC (x y : Ch) : Prop := cmpP (pieces x.path.data.toList) (pieces y.path.data.toList) = -1
theorem befC_is {f y : Ch} (hf : OkName f.path) (hy : OkName y.path) : compareR f.path.data.toList y.path.data.toList = cmpP (pieces f.path.data.toList) (pieces y.path.data.toList) := by
 unfold compareR; rw [if_pos ⟨hf.1, hy.1⟩]
theorem diffR_up (l m : List Ent) (ps : List ByteArray) (hn : ps.Nodup) (ho : ∀ p ∈ ps, OkName p) : (diffR l m ps).Pairwise upC := by
 have key : ∀ (qs : List ByteArray) (O : List Ch), O.Pairwise upC → (∀ y ∈ O, OkName y.path ∧ y.path ∉ qs) → qs.Nodup → (∀ p ∈ qs, OkName p) → (qs.foldl (stepR l m) O).Pairwise upC := by
  intro qs
  induction qs with
  | nil => intro O h _ _ _; exact h
  | cons q r ih =>
   intro O h hO hq ho
   obtain ⟨q1, q2⟩ := List.nodup_cons.1 hq
   have hoq := ho q (List.mem_cons_self ..)
   rw [List.foldl_cons]
   have hO' : ∀ y ∈ O, OkName y.path ∧ y.path ∉ r := fun y hy => ⟨(hO y hy).1, fun hm => (hO y hy).2 (List.mem_cons_of_mem _ hm)⟩
   unfold stepR
   split
   ·exact ih O h hO' q2 (fun p hp => ho p (List.mem_cons_of_mem _ hp))
   ·refine ih _ (insG_pw befC _ O h (fun y hy hb => ?_) (fun y hy hb => ?_) (fun a b d h1 h2 => cmpP_trans _ _ _ h1 h2)) (fun y hy => ?_) q2 (fun p hp => ho p (List.mem_cons_of_mem _ hp))
    ·have h1 := of_decide_eq_true hb
     rw [befC_is (f := chR l m q) hoq (hO y hy).1] at h1
     show cmpP (pieces (chR l m q).path.data.toList) (pieces y.path.data.toList) = -1
     rcases cmpP_range (pieces (chR l m q).path.data.toList) (pieces y.path.data.toList) with e | e | e
     ·exact e
     ·omega
     ·omega
    ·have h1 : ¬ _ := of_decide_eq_false hb
     rw [befC_is (f := chR l m q) hoq (hO y hy).1] at h1
     show cmpP (pieces y.path.data.toList) (pieces (chR l m q).path.data.toList) = -1
     rw [cmpP_neg (pieces (chR l m q).path.data.toList) (pieces y.path.data.toList)]
     rcases cmpP_range (pieces (chR l m q).path.data.toList) (pieces y.path.data.toList) with e | e | e
     ·omega
     ·exfalso
      have e2 : (chR l m q).path = y.path := ba_ext (pieces_inj (cmpP_zero _ _ e))
      exact (hO y hy).2 (by rw [← e2]; exact List.mem_cons_self ..)
     ·omega
    ·rcases (insG_mem _ _ _ _).1 hy with rfl | hy
     ·exact ⟨hoq, q1⟩
     ·exact hO' y hy
 exact key ps [] List.Pairwise.nil (fun y hy => by cases hy) hn ho
theorem rdiff_is {l m : List Ent} (hl : (l.map (·.name)).Nodup) (hm : (m.map (·.name)).Nodup) (fl : Full l) (ol : OkBlobs l) (om : OkBlobs m) : IsDiff l m (diffR l m (pathsR l m)) := by
 have hpo : ∀ p ∈ pathsR l m, OkName p := fun p hp => by
  unfold pathsR at hp
  rcases List.mem_append.1 hp with hp | hp
  ·obtain ⟨y, hy, rfl⟩ := List.mem_map.1 hp
   exact ol y hy
  ·obtain ⟨y, hy, rfl⟩ := List.mem_map.1 hp
   exact om y (List.mem_filter.1 hy).1
 have hpn : (pathsR l m).Nodup := by
  unfold pathsR
  refine List.nodup_append.2 ⟨hl, ?_, fun a ha b hb e => ?_⟩
  ·exact (List.Sublist.map _ List.filter_sublist).nodup hm
  ·subst e
   obtain ⟨y, hy, rfl⟩ := List.mem_map.1 ha
   obtain ⟨z, hz, e⟩ := List.mem_map.1 hb
   have h1 := of_decide_eq_true (List.mem_filter.1 hz).2
   rw [e, ofL_was] at h1
   unfold wasOf at h1
   rw [idl_some hl hy] at h1
   have h2 := fl y hy
   have h3 : y.id = ByteArray.empty := h1
   rw [h3] at h2
   cases h2
 refine ⟨diffR_up l m _ hpn hpo, fun c => ?_⟩
 rw [tab_iff hl hm c, diffR_mem]
 constructor
 ·rintro ⟨p, hp, h, rfl⟩
  exact ⟨ofL_was l p, ofL_was m p, h⟩
 ·rintro ⟨h1, h2, h3⟩
  have e1 : ofL l c.path = c.was := by rw [ofL_was]; exact h1.symm
  have e2 : ofL m c.path = c.is := by rw [ofL_was]; exact h2.symm
  refine ⟨c.path, ?_, by rw [e1, e2]; exact h3, by unfold chR; rw [e1, e2]⟩
  unfold pathsR
  rw [List.mem_append]
  by_cases hc : c.path ∈ l.map (·.name)
  ·exact .inl hc
  ·right
   have g1 : wasOf l c.path = ByteArray.empty := by unfold wasOf; rw [idl_none.2 hc]; rfl
   have hcm : c.path ∈ m.map (·.name) := Classical.not_not.1 (fun hh => by
    have g2 : wasOf m c.path = ByteArray.empty := by unfold wasOf; rw [idl_none.2 hh]; rfl
    exact h3 (by rw [h1, h2, g1, g2]))
   obtain ⟨y, hy, e⟩ := List.mem_map.1 hcm
   exact List.mem_map.2 ⟨y, List.mem_filter.2 ⟨hy, by rw [e, ofL_was, g1]; simp⟩, e⟩
/-- both tell the same differences -/
theorem rdiff_one {G : Sw.Src} {a b : ByteArray} {D : List Ch} (h : IsDiff (listS G a).1 (listS G b).1 D) : D = diffR (listS G a).1 (listS G b).1 (pathsR (listS G a).1 (listS G b).1) :=
 h.one (rdiff_is (listS_once G a).1 (listS_once G b).1 (listS_once G a).2 (listS_names G a) (listS_names G b))
end Go.Proofs.YtmpjdoiogbbcoaaGreatDoor
