/- Texts in a row: ShaA, ShaE, ShaF, SnB, SnT, SnU, SnF, PathWalkC. -/
import Derived.Test.YtmpjdoiogbbcoaaGreatDoorMgD
import Derived.StillTailTactics
import Derived.Deep.RegionHeld3
import Derived.Deep.LoopGhost
import Derived.Outline
import Derived.Deep.AppendLies
import Derived.Deep.DeepCutAuto
import Derived.Deep.CutBlock
import Derived.Deep.DeepFit
import Derived.WalkLawsBesides
import Derived.Laws.Concat
/- The digest's walk: bytes added. -/
namespace Go.Proofs.YtmpjdoiogbbcoaaGreatDoor
open Go.RowKit Sha
set_option linter.unusedVariables false

/-- a hash's ten cells -/
def hcs (s : S8) (v : Value) (n : Nat) : Array Value := #[.int .u32 s.a, .int .u32 s.b, .int .u32 s.c, .int .u32 s.d, .int .u32 s.e, .int .u32 s.f, .int .u32 s.g, .int .u32 s.h, v, .int .u64 n]
/-- a rest of bytes: it may lie in the midst of its block -/
def RestAt (w : World) (a : Option Addr) (n c : Nat) (l : List UInt8) : Prop :=
 n = l.length ∧ n ≤ c ∧ c ≤ maxLen ∧ (n = 0 ∨ ∃ g off, a = some ⟨g, off, none⟩ ∧ BytesAt w g off l)
theorem RestAt.below {w w' : World} {a : Option Addr} {n c : Nat} {l : List UInt8} (h : RestAt w a n c l) (hb : Below w.heap.size w w') : RestAt w' a n c l := by
 obtain ⟨h1, h2, h3, h4⟩ := h
 refine ⟨h1, h2, h3, ?_⟩
 by_cases h0 : n = 0
 ·exact .inl h0
 ·obtain ⟨g, off, ha, hB⟩ := h4.resolve_left h0
  refine .inr ⟨g, off, ha, hB.below hb ?_⟩
  exact World.block_lt_of_cell? w _ (hB 0 (by omega))
theorem own_rest {w : World} {B : Nat} {v : Value} {l : List UInt8} (h : w.ownsRow B 5 1 v l.length (bvals l)) : ∃ a c, v = .slice a l.length c ∧ RestAt w a l.length c l := by
 rcases h.2 with ⟨rfl, h0⟩ | ⟨g, cap, cur, rfl, hb, hg, hn, hc, hsz, htk⟩
 ·have h0' : l.length = 0 := h0
  rw [h0']
  exact ⟨none, 0, rfl, h0'.symm, by omega, by unfold maxLen; omega, .inl rfl⟩
 ·refine ⟨_, _, rfl, rfl, hn, hc, .inr ⟨g, 0, rfl, fun j hj => ?_⟩⟩
  rw [Nat.zero_add]
  have h1 := h.cellAt j (by omega)
  rw [h1]; simp [bvals, List.getElem?_eq_getElem hj]
theorem own_slc {w : World} {B e s n : Nat} {v : Value} {xs : List Value} (h : w.ownsRow B e s v n xs) : ∃ a c, v = .slice a n c ∧ n ≤ c := by
 rcases h.2 with ⟨rfl, h0⟩ | ⟨g, cap, cur, rfl, hb, hg, hn, r⟩
 ·exact ⟨none, 0, by rw [h0], by omega⟩
 ·exact ⟨_, _, rfl, hn⟩
theorem absorb_step {f : Nat} {h : S8} {l : List UInt8} (hl : ¬ l.length < 64) (hf : l.length ≤ f) : absorb f h l = absorb (f - 1) (mixL h (l.take 64)) (l.drop 64) := by
  cases f with
  | zero => omega
  | succ f => conv => lhs; unfold absorb
              rw [if_neg hl]; rfl
theorem absorb_end {f : Nat} {h : S8} {l : List UInt8} (hl : l.length < 64) : absorb f h l = (h, l) := by
 cases f with
 | zero => rfl
 | succ f => unfold absorb; rw [if_pos hl]
theorem hcs_set8 {w : World} {b : Nat} {st : S8} {v : Value} {n : Nat} (M : S8) (v2 : Value) (h : Blk w b 281 (hcs st v n)) : Blk (((((((((w.setCell ⟨b, 0, none⟩ (.int .u32 M.a)).setCell ⟨b, 1, none⟩ (.int .u32 M.b)).setCell ⟨b, 2, none⟩ (.int .u32 M.c)).setCell ⟨b, 3, none⟩ (.int .u32 M.d)).setCell ⟨b, 4, none⟩ (.int .u32 M.e)).setCell ⟨b, 5, none⟩ (.int .u32 M.f)).setCell ⟨b, 6, none⟩ (.int .u32 M.g)).setCell ⟨b, 7, none⟩ (.int .u32 M.h)).setCell ⟨b, 8, none⟩ v2) b 281 (hcs M v2 n) := by
 have := ((((((((h.set 0 (.int .u32 M.a)).set 1 (.int .u32 M.b)).set 2 (.int .u32 M.c)).set 3 (.int .u32 M.d)).set 4 (.int .u32 M.e)).set 5 (.int .u32 M.f)).set 6 (.int .u32 M.g)).set 7 (.int .u32 M.h)).set 8 v2
 simpa [hcs] using this
theorem only_set8 {w : World} {b : Nat} (M : S8) (v2 : Value) : Only (· = b) w (((((((((w.setCell ⟨b, 0, none⟩ (.int .u32 M.a)).setCell ⟨b, 1, none⟩ (.int .u32 M.b)).setCell ⟨b, 2, none⟩ (.int .u32 M.c)).setCell ⟨b, 3, none⟩ (.int .u32 M.d)).setCell ⟨b, 4, none⟩ (.int .u32 M.e)).setCell ⟨b, 5, none⟩ (.int .u32 M.f)).setCell ⟨b, 6, none⟩ (.int .u32 M.g)).setCell ⟨b, 7, none⟩ (.int .u32 M.h)).setCell ⟨b, 8, none⟩ v2) :=
 (((((((((Only.refl (· = b) w).setCell (p := ⟨b, 0, none⟩) (.inl rfl) _).setCell (p := ⟨b, 1, none⟩) (.inl rfl) _).setCell (p := ⟨b, 2, none⟩) (.inl rfl) _).setCell (p := ⟨b, 3, none⟩) (.inl rfl) _).setCell (p := ⟨b, 4, none⟩) (.inl rfl) _).setCell (p := ⟨b, 5, none⟩) (.inl rfl) _).setCell (p := ⟨b, 6, none⟩) (.inl rfl) _).setCell (p := ⟨b, 7, none⟩) (.inl rfl) _).setCell (p := ⟨b, 8, none⟩) (.inl rfl) _
theorem shanew_any (w : World) : Calls Tryz.prog 170 #[] w fun e w' => ∃ b, e = .returned (.pointer (some ⟨b, 0, none⟩)) ∧ w.heap.size ≤ b ∧ Blk w' b 281 (hcs first (.slice none 0 0) 0) ∧ Below w.heap.size w w' := by
 have HF : Hid (∀ w, Calls Tryz.prog 210 #[] w fun e w' => e = .returned (s8v first) ∧ Below w.heap.size w w') := by
  intro w
  go_enter Tryz.func210, Tryz.ntmps210
  go_wp2_with fail
  exact bodyPost_ret (v := s8v first) (by simp [results, Tryz.results210, go_sem, s8v, first]) rfl ⟨rfl, (Below.refl _ _).alloc (Nat.le_refl _) _⟩
 unfold s8v at HF
 go_enter Tryz.func170, Tryz.ntmps170
 go_wp2_with fail
 refine (HF.out _).mono ?_; rintro e w1 ⟨rfl, b1⟩
 have B1 := hid b1
 clear b1
 go_wp2_with fail
 go_ret
 exact ⟨_, rfl, B1.out.size, Blk.new w1 281 (hcs first (.slice none 0 0) 0), B1.out.alloc B1.out.size _⟩
set_option maxRecDepth 100000 in
set_option maxHeartbeats 4000000 in
theorem shaadd_any (B b : Nat) (st : S8) (v : Value) (l : List UInt8) (cnt : Nat) (s : ByteArray) (w : World) (hB : B ≤ b) (hh : Blk w b 281 (hcs st v cnt)) (hv : w.ownsRow B 5 1 v l.length (bvals l)) (hl : st.Lt) (hc : cnt ≤ 1000000000) (hs : s.size ≤ 1000000000) (hll : l.length ≤ 1000000000) (hBw : B ≤ w.heap.size) :
  Calls Tryz.prog 171 #[.pointer (some ⟨b, 0, none⟩), .string s] w fun e w' => e = .returned (.tuple #[]) ∧ ∃ a n c, Blk w' b 281 (hcs (absorb (l ++ s.data.toList).length st (l ++ s.data.toList)).1 (.slice a n c) (cnt + s.size)) ∧ RestAt w' a n c (absorb (l ++ s.data.toList).length st (l ++ s.data.toList)).2 ∧ Below B w w' := by
 have hne := own_blk_ne hv hh (by decide)
 have HV := hid hv; have HH := hid hh; have HLT := hid hl; have HNE := hid hne
 obtain ⟨va, vc, rfl, hR⟩ := own_rest hv
 obtain ⟨R, hR2⟩ : ∃ R, absorb (l ++ s.data.toList).length st (l ++ s.data.toList) = R := ⟨_, rfl⟩
 have HR := hid hR2
 rw [hR2]
 clear hv hne hR2 hR hl
 have c8 := Blk.cell hh 8
 have c9 := Blk.cell hh 9
 have f8 := Blk.frozen hh 8
 have f9 := Blk.frozen hh 9
 simp [hcs] at c8 c9
 have ew : IntKind.u64.wrap (s.size : Int) = s.size := by rw [IntKind.wrap_u64]; omega
 have ew2 : IntKind.u64.wrap ((cnt : Int) + (s.size : Int)) = ((cnt + s.size : Nat) : Int) := by rw [IntKind.wrap_u64]; omega
 have HBB : l.length + s.size ≤ 140737488355328 := by omega
 clear hh
 go_enter Tryz.func171, Tryz.ntmps171
 have H9 : Hid (Blk (w.setCell ⟨b, 9, none⟩ (.int .u64 ((cnt : Int) + (s.size : Int)))) b 281 (hcs st (.slice va l.length vc) (cnt + s.size))) := Blk.set HH.out 9 (.int .u64 ((cnt : Int) + (s.size : Int)))
 have O9 : Hid (Only (· = b) w (w.setCell ⟨b, 9, none⟩ (.int .u64 ((cnt : Int) + (s.size : Int))))) := (Only.refl (· = b) w).setCell (p := ⟨b, 9, none⟩) (.inl rfl) _
 have HO9 : Hid ((w.setCell ⟨b, 9, none⟩ (.int .u64 ((cnt : Int) + (s.size : Int)))).ownsRow 0 5 1 (.slice va l.length vc) l.length (bvals l)) := by
  have h := own_only HV.out O9.out (fun k hk e => by subst e; exact HNE.out hk)
  refine ⟨h.1, h.2.imp id ?_⟩
  rintro ⟨g', cap, cur, e1, hb, r⟩
  exact ⟨g', cap, cur, e1, Nat.zero_le _, r⟩
 have HBV : Hid (∀ k, (Value.slice va l.length vc).ownBlock = some k → B ≤ k) := fun k hk => (HV.out.lt k hk).1
 go_wp2_with (refine wpList_append_str rfl (.tmp 20) (.tmp 21) rfl (.slice va l.length vc) l s (by rfl) (by rfl) HO9.out HBB ?_; intro v' w2 hown hgrow hat; obtain ⟨a', c', rfl, hac⟩ := own_slc hown; clear hac; have c8' := Blk.cell (Blk.grown H9.out hgrow (fun e => HNE.out e.symm)) 8; have f8' := Blk.frozen (Blk.grown H9.out hgrow (fun e => HNE.out e.symm)) 8; simp [hcs] at c8'; have HOWN := hid hown; have HG2 := hid hgrow; have HAT := hid hat; clear hown hgrow hat)
 have B2 := Blk.grown H9.out HG2.out (fun e => HNE.out e.symm)
 have B3 : Hid (Blk (w2.setCell ⟨b, 8, none⟩ (.slice a' (l ++ s.data.toList).length c')) b 281 (hcs st (.slice a' (l ++ s.data.toList).length c') (cnt + s.size))) := Blk.set B2 8 _
 have O2 : Only (fun k => k = b ∨ (Value.slice va l.length vc).ownBlock = some k) w (w2.setCell ⟨b, 8, none⟩ (.slice a' (l ++ s.data.toList).length c')) :=
  ((O9.out.mono (fun i hi => .inl hi)).grown HG2.out (fun k hk => .inl (.inr hk))).setCell (p := ⟨b, 8, none⟩) (.inl (.inl rfl)) _
 have L3 : Hid (Below B w (w2.setCell ⟨b, 8, none⟩ (.slice a' (l ++ s.data.toList).length c'))) := O2.below (fun k hk => hk.elim (fun e => by omega) (HBV.out k)) hBw
 have V3 : (w2.setCell ⟨b, 8, none⟩ (.slice a' (l ++ s.data.toList).length c')).ownsRow 0 5 1 (.slice a' (l ++ s.data.toList).length c') (l ++ s.data.toList).length (bvals (l ++ s.data.toList)) := own_only HOWN.out ((Only.refl (· = b) w2).setCell (p := ⟨b, 8, none⟩) (.inl rfl) _) (fun k hk e => by
  subst e; exact own_blk_ne HOWN.out B2 (by decide) hk)
 have HR3 : Hid (RestAt (w2.setCell ⟨b, 8, none⟩ (.slice a' (l ++ s.data.toList).length c')) a' (l ++ s.data.toList).length c' (l ++ s.data.toList)) := by
  obtain ⟨a2, c2, he, R3⟩ := own_rest V3
  injection he with h1 h2 h3
  subst h1 h3
  exact R3
 have HLL : Hid ((l ++ s.data.toList).length = l.length + s.size) := by show _ = _; rw [List.length_append, Array.length_toList]; rfl
 have HNB : Hid ((Value.slice a' (l ++ s.data.toList).length c').ownBlock ≠ some b) := own_blk_ne HOWN.out B2 (by decide)
 clear B2 O2 V3 c8 c9 f8 f9 c8' f8' H9 O9 HO9 HBV HOWN HG2 HAT HV HH HNE ew ew2 HBB
 rw [HLL.out] at HR3 B3 L3
 generalize w2.setCell ⟨b, 8, none⟩ (.slice a' (l.length + s.size) c') = w3 at B3 L3 HR3 ⊢
 rw [← HLL.out] at HR3 B3
 obtain ⟨l0, hl0⟩ : ∃ l0, l ++ s.data.toList = l0 := ⟨_, rfl⟩
 rw [hl0] at HR HR3 HLL B3 HNB
 clear hl0
 have hl0 : l0.length ≤ 2000000000 := by have := HLL.out; omega
 go_loopg [] l0.length (fun gf wx => ∃ (st' : S8) (a : Option Addr) (c f : Nat) (l' : List UInt8), l'.length ≤ gf ∧ l'.length ≤ 2000000000 ∧ Hid (absorb f st' l' = R) ∧ Hid (l'.length ≤ f) ∧ Hid (st'.Lt) ∧ Hid (Blk wx b 281 (hcs st' (.slice a l'.length c) (cnt + s.size))) ∧ Hid (RestAt wx a l'.length c l') ∧ Hid (Below B w wx) ∧ Hid ((Value.slice a l'.length c).ownBlock ≠ some b))
 case atStart => exact ⟨st, a', c', l0.length, l0, Nat.le_refl _, hl0, HR, Nat.le_refl _, HLT, B3, HR3, L3, HNB⟩
 case round =>
  obtain ⟨st', a, c, f, l', hgf, hl2, HA, HF, HLT', HBx, HRx, HLx, HNBx⟩ := hrel
  clear B3 HR3 L3 HLT HR HNB
  have c8 := Blk.cell HBx.out 8
  have f8 := Blk.frozen HBx.out 8
  simp [hcs] at c8
  by_cases hlt : l'.length < 64
  ·have g1 : ¬ (64 : Int) ≤ l'.length := by omega
   go_wp2_with fail
   go_end0
   exact ⟨rfl, a, l'.length, c, by rw [← HA.out, absorb_end hlt]; exact HBx.out, by rw [← HA.out, absorb_end hlt]; exact HRx.out, HLx.out⟩
  ·have g1 : (64 : Int) ≤ l'.length := by omega
   have g2 : (64 : Nat) ≤ l'.length := by omega
   obtain ⟨e1, e2, e3, e4⟩ := HRx.out
   obtain ⟨g, off, rfl, hby⟩ := e4.resolve_left (by omega)
   have HBY := hid hby
   clear e1 e4 hby
   unfold maxLen at e3
   have k1 : (64 : Int) ≤ (c : Int) := by omega
   have c0 := Blk.cell HBx.out 0
   have c1 := Blk.cell HBx.out 1
   have c2 := Blk.cell HBx.out 2
   have c3 := Blk.cell HBx.out 3
   have c4 := Blk.cell HBx.out 4
   have c5 := Blk.cell HBx.out 5
   have c6 := Blk.cell HBx.out 6
   have c7 := Blk.cell HBx.out 7
   simp [hcs] at c0 c1 c2 c3 c4 c5 c6 c7
   have HT : Hid ((l'.take 64).length = 64) := by show _ = _; rw [List.length_take]; omega
   have hBY64 : BytesAt wr g off (l'.take 64) := by
    intro j hj
    have hj' : j < 64 := by rw [HT.out] at hj; exact hj
    rw [HBY.out j (by omega), List.getD_eq_getElem?_getD, List.getD_eq_getElem?_getD, List.getElem?_take_of_lt hj']
   have HM : Hid (∀ n, Calls Tryz.prog 211 #[.agg #[.int .u32 st'.a, .int .u32 st'.b, .int .u32 st'.c, .int .u32 st'.d, .int .u32 st'.e, .int .u32 st'.f, .int .u32 st'.g, .int .u32 st'.h], .slice (some ⟨g, off, none⟩) 64 c] (wr.drewN n) fun e w' => e = .returned (s8v (mixL st' (l'.take 64))) ∧ Below wr.heap.size wr w') := fun n =>
    (mix_any st' HLT'.out g off c (l'.take 64) (wr.drewN n) hBY64 HT.out (by omega) e3).mono fun e w' h => ⟨h.1, (below_drewN (Below.refl _ wr) n).trans h.2⟩
   have hbw : b < wr.heap.size := Blk.lt HBx.out
   unfold s8v at HM
   obtain ⟨M, hM⟩ : ∃ M, mixL st' (l'.take 64) = M := ⟨_, rfl⟩
   have HMM := hid hM
   rw [hM] at HM
   clear hM hBY64
   go_wp2_with fail
   go_region_with (go_at_call 211; refine (HM.out 1).mono ?_; rintro e w4 ⟨rfl, hb4⟩; have HB4 := hid hb4; have B4 := (HBx.out.below hb4 hbw); have d0 := Blk.cell B4 0; have d1 := Blk.cell B4 1; have d2 := Blk.cell B4 2; have d3 := Blk.cell B4 3; have d4 := Blk.cell B4 4; have d5 := Blk.cell B4 5; have d6 := Blk.cell B4 6; have d7 := Blk.cell B4 7; have d8 := Blk.cell B4 8; simp [hcs] at d0 d1 d2 d3 d4 d5 d6 d7 d8; have z0 := Blk.frozen B4 0; have z1 := Blk.frozen B4 1; have z2 := Blk.frozen B4 2; have z3 := Blk.frozen B4 3; have z4 := Blk.frozen B4 4; have z5 := Blk.frozen B4 5; have z6 := Blk.frozen B4 6; have z7 := Blk.frozen B4 7; have z8 := Blk.frozen B4 8; have HB4B := hid B4; clear hb4 B4 c0 c1 c2 c3 c4 c5 c6 c7 c8)
   all_goals
    have hbl' : b ≠ g := fun e => HNBx.out (by rw [e]; rfl)
    have hgw : g < wr.heap.size := World.block_lt_of_cell? wr _ (HBY.out 0 (by omega))
    have HDL : Hid ((l'.drop 64).length = l'.length - 64) := List.length_drop ..
    have HAA : Hid (absorb (f - 1) M (l'.drop 64) = R) := by
     show _ = _
     rw [← HMM.out, ← HA.out, absorb_step hlt HF.out]
    have HML : Hid M.Lt := by rw [← HMM.out]; exact mixL_Lt _ _
    have HFF : Hid ((l'.drop 64).length ≤ f - 1) := by rw [HDL.out]; have := HF.out; show _ ≤ _; omega
    have HOS := fun v2 => only_set8 (w := w4) (b := b) M v2
    have HBel : Hid (∀ W, Only (· = b) w4 W → Below B w W) := fun W h => (HLx.out.trans (HB4.out.mono (Nat.le_trans hBw HLx.out.size))).trans (h.below (B := B) (fun i e => by have e : i = b := e; omega) (Nat.le_trans (Nat.le_trans hBw HLx.out.size) HB4.out.size))
    have HBYW : Hid (∀ W, Only (· = b) w4 W → BytesAt W g (off + 64) (l'.drop 64)) := by
     intro W h j hj
     have hj' : 64 + j < l'.length := by rw [HDL.out] at hj; omega
     have h1 := HBY.out (64 + j) hj'
     have h2 : w4.cell? ⟨g, off + (64 + j), none⟩ = _ := (HB4.out.cell (p := ⟨g, off + (64 + j), none⟩) hgw).trans h1
     have h3 := h.cell h2 (fun e => hbl' e.symm)
     rw [← Nat.add_assoc] at h3
     rw [h3]
     congr 3
     rw [List.getD_eq_getElem?_getD, List.getD_eq_getElem?_getD, List.getElem?_drop]
    by_cases hcap : c = 64
    ·have hl64 : l'.length = 64 := by omega
     have HNIL : Hid (l'.drop 64 = []) := List.drop_eq_nil_of_le (by omega)
     go_wp2_with fail
     go_roundg (gk - 64)
     case measure => omega
     case rel => exact ⟨M, some ⟨g, off, none⟩, 0, f - 1, [], Nat.zero_le _, Nat.zero_le _, by rw [← HNIL.out]; exact HAA, Nat.zero_le _, HML, hcs_set8 M _ HB4B.out, ⟨rfl, Nat.le_refl _, Nat.zero_le _, .inl rfl⟩, HBel.out _ (only_set8 M _), fun e => hbl' (Option.some.inj e).symm⟩
    ·go_wp2_with fail
     go_roundg (gk - 64)
     case measure => omega
     case rel => exact ⟨M, some ⟨g, off + 64, none⟩, c - 64, f - 1, l'.drop 64, by rw [HDL.out]; omega, by rw [HDL.out]; omega, HAA, HFF, HML, by rw [HDL.out]; exact hcs_set8 M _ HB4B.out, ⟨rfl, by rw [HDL.out]; omega, by unfold maxLen; omega, .inr ⟨g, off + 64, rfl, HBYW.out _ (only_set8 M _)⟩⟩, HBel.out _ (only_set8 M _), fun e => hbl' (Option.some.inj e).symm⟩
end Go.Proofs.YtmpjdoiogbbcoaaGreatDoor
/- The digest's walk: the end, and the whole. -/
namespace Go.Proofs.YtmpjdoiogbbcoaaGreatDoor
open Go.RowKit Sha
set_option linter.unusedVariables false

theorem own_of_blk {w : World} {B g : Nat} {T : TypeId} {cs : Array Value} (h : Blk w g T cs) (hB : B ≤ g) (hm : cs.size ≤ 1000000) : w.ownsRow B T 1 (.slice (some ⟨g, 0, none⟩) cs.size cs.size) cs.size cs.toList :=
 ⟨by simp, .inr ⟨g, cs.size, cs, rfl, hB, h, Nat.le_refl _, by unfold maxLen; omega, by simp, by rw [Nat.mul_one]; exact List.take_of_length_le (by simp)⟩⟩
def tailA (k : Nat) : List UInt8 := 0x80 :: List.replicate k 0
theorem tailA_len (k : Nat) : (tailA k).length = 1 + k := by simp [tailA]; omega
theorem tailA_succ (k : Nat) : tailA (k + 1) = tailA k ++ [0] := by
 unfold tailA; rw [List.replicate_succ']; rfl
def tailB (n k : Nat) : List UInt8 := tailA (zerosN n) ++ (List.range k).map (fun i => UInt8.ofNat (n * 8 / 256 ^ (7 - i)))
theorem tailB_succ (n k : Nat) : tailB n (k + 1) = tailB n k ++ [UInt8.ofNat (n * 8 / 256 ^ (7 - k))] := by
 unfold tailB; rw [List.range_succ, List.map_append, ← List.append_assoc]; rfl
theorem tailB_len (n k : Nat) : (tailB n k).length = 1 + zerosN n + k := by unfold tailB; rw [List.length_append, tailA_len]; simp
theorem zerosN_lt (n : Nat) : zerosN n < 64 := Nat.mod_lt _ (by omega)
theorem zeros_test {n k : Nat} (h : k ≤ zerosN n) : (n + (1 + k)) % 64 = 56 ↔ k = zerosN n := by
 unfold zerosN at *
 omega
set_option maxRecDepth 100000 in
set_option maxHeartbeats 4000000 in
theorem shatail_any (n : Nat) (hn : n ≤ 1000000000) (w : World) : Calls Tryz.prog 212 #[.int .u64 n] w fun e w' => e = .returned (.string (bx (tailL n))) ∧ Below w.heap.size w w' := by
 obtain ⟨i0, hi, hz0, hz1, hz2⟩ := info_parts Tryz.infoB
 have HEND : Hid (tailB n 8 = tailL n) := rfl
 have hzl := zerosN_lt n
 go_enter Tryz.func212, Tryz.ntmps212
 go_wp2_with fail
 go_loopw [3] (fun v wr => ∃ k : Nat, k ≤ zerosN n ∧ Hid (wr.ownsRow w.heap.size 5 1 v (tailA k).length (bvals (tailA k))) ∧ Hid (Below w.heap.size w wr)) (fun v _ => match v with | .slice _ m _ => 200 - m | _ => 0)
 case atStart => exact ⟨0, Nat.zero_le _, own_of_blk (Blk.new w 5 #[.int .u8 128]) (Nat.le_refl _) (by simp), (Below.refl _ _).alloc (Nat.le_refl _) _⟩
 case round =>
  obtain ⟨k, hk, HOWN, HBEL⟩ := hrel
  obtain ⟨va, vc, rfl, hvc⟩ := own_slc HOWN.out
  have hl := tailA_len k
  have hsz := HBEL.out.size
  obtain ⟨m, hm⟩ : ∃ m, (tailA k).length = m := ⟨_, rfl⟩
  have HM := hid hm
  have hmk : m = 1 + k := by omega
  have HMK := hid hmk
  rw [hm] at HOWN hvc ⊢
  have hm9 : m ≤ 100 := by omega
  clear hm hl hmk
  by_cases hlt : k < zerosN n
  ·have ht : ¬ (n + m) % 64 = 56 := by rw [HMK.out, zeros_test hk]; omega
   have ht1 : ¬ (((n : Int) + (m : Int)) % 64 = 56) := by omega
   have ht2 : (((n : Int) + (m : Int)) % 64 == 56) = false := by rw [beq_eq_false_iff_ne]; exact ht1
   have ht3 : (((n : Int) + (m : Int)) % 64 != 56) = true := by rw [bne, ht2]; rfl
   clear ht
   go_wp2_with (first
    | (at_builtin; refine wpList_append_own _ rfl (.tmp 13) (.tmp 14) 59 rfl w.heap.size 5 i0 (.int .u8 0) 1 1 Tryz.underlying59 hi hz0 hz1 hz2 rfl (by decide) (.slice va m vc) _ _ rfl (HOWN.out.alloc _) ⟨wr.heap.size, 0, none⟩ 1 1 [.int .u8 0] rfl rfl (cellNew1 _ _ _) (one_bytes rfl) (by unfold maxLen; omega) (by omega) (by simp; omega) ?_; intro v' w1 hown' hgrow _; have HOWN' := hid hown'; have HGR := hid hgrow; clear hown' hgrow))
   obtain ⟨va', vc', rfl, hvc'⟩ := own_slc HOWN'.out
   have HRL : Hid (w1.ownsRow w.heap.size 5 1 (.slice va' (m + 1) vc') (tailA (k + 1)).length (bvals (tailA (k + 1)))) := by
    have h := HOWN'.out
    rw [tailA_succ, bvals_append, List.length_append, HM.out]
    exact h
   have HBL : Hid (Below w.heap.size w w1) := below_grown1 HBEL.out HOWN.out _ hsz HGR.out
   go_roundw
   case rel => exact ⟨k + 1, by omega, HRL, HBL⟩
   case measure => simp; omega
  ·obtain rfl : k = zerosN n := by omega
   have ht : (n + m) % 64 = 56 := by rw [HMK.out, zeros_test hk]
   have ht1 : ((n : Int) + (m : Int)) % 64 = 56 := by omega
   have ht2 : (((n : Int) + (m : Int)) % 64 == 56) = true := by rw [beq_iff_eq]; exact ht1
   have ht3 : (((n : Int) + (m : Int)) % 64 != 56) = false := by rw [bne, ht2]; rfl
   clear ht
   go_wp2_with fail
   clear ht1 ht2 ht3
   obtain ⟨wo, rfl⟩ : ∃ wo : World, wo = wr := ⟨_, rfl⟩
   have HB0 : Hid (wo.ownsRow w.heap.size 5 1 (.slice va m vc) (tailB n 0).length (bvals (tailB n 0))) := by
    show World.ownsRow _ _ _ _ _ _ _
    have e : tailB n 0 = tailA (zerosN n) := by unfold tailB; simp
    rw [e, HM.out]; exact HOWN.out
   go_loopw [4, 3] (fun iv v wx => ∃ k : Nat, k ≤ 8 ∧ iv = .int .i64 (56 - 8 * (k : Int)) ∧ Hid (wx.ownsRow w.heap.size 5 1 v (tailB n k).length (bvals (tailB n k))) ∧ Hid (Below w.heap.size w wx)) (fun iv _ _ => (intOf iv + 8).toNat)
   case atStart => exact ⟨0, by omega, rfl, HB0, HBEL⟩
   case round =>
    obtain ⟨k, hk8, rfl, HO, HB⟩ := hrel
    clear HB0 HOWN HBEL hvc
    obtain ⟨va, vc, rfl, hvc⟩ := own_slc HO.out
    have hl := tailB_len n k
    have hsz := HB.out.size
    obtain ⟨m2, hm2⟩ : ∃ m, (tailB n k).length = m := ⟨_, rfl⟩
    have HM2 := hid hm2
    rw [hm2] at HO hvc ⊢
    have hm9 : m2 ≤ 100 := by omega
    clear hm2 hl
    by_cases hlt : k < 8
    ·have HS : Hid (∀ D : Nat, D = 256 ^ (7 - k) → ∀ (w1 : World) (v' : Value) (y : Int), w1.ownsRow w.heap.size 5 1 v' (m2 + 1) (bvals (tailB n k) ++ [.int .u8 y]) → y = ((n * 8 / D : Nat) : Int) % 256 → Hid (w1.ownsRow w.heap.size 5 1 v' (tailB n (k + 1)).length (bvals (tailB n (k + 1))))) := by
      intro D hD w1 v' y h hy
      show World.ownsRow _ _ _ _ _ _ _
      rw [tailB_succ, bvals_append, List.length_append, HM2.out, ← hD]
      have e : bvals [UInt8.ofNat (n * 8 / D)] = [.int .u8 y] := by
       rw [hy]; unfold bvals; simp [UInt8.toNat_ofNat']
      rw [e]; exact h
     have hn8 : (0 : Int) ≤ (n : Int) * 8 := by omega
     obtain rfl | rfl | rfl | rfl | rfl | rfl | rfl | rfl : k = 0 ∨ k = 1 ∨ k = 2 ∨ k = 3 ∨ k = 4 ∨ k = 5 ∨ k = 6 ∨ k = 7 := by omega
     ·rw [show (56 - 8 * ((0 : Nat) : Int)) = 56 from rfl]
      go_wp2_with (first
       | (at_builtin; refine wpList_append_own _ rfl (.tmp 20) (.tmp 26) 59 rfl w.heap.size 5 i0 (.int .u8 0) 1 1 Tryz.underlying59 hi hz0 hz1 hz2 rfl (by decide) (.slice va m2 vc) _ _ rfl (HO.out.alloc _) ⟨wr.heap.size, 0, none⟩ 1 1 [_] rfl rfl (cellNew1 _ _ _) (one_bytes rfl) (by unfold maxLen; omega) (by omega) (by simp; omega) ?_; intro v' w1 hown' hgrow _; have HOWN' := hid hown'; have HGR := hid hgrow; clear hown' hgrow))
      obtain ⟨va', vc', rfl, hvc'⟩ := own_slc HOWN'.out
      have HRL := HS.out 72057594037927936 (by decide) w1 _ _ HOWN'.out (by omega)
      have HBL : Hid (Below w.heap.size w w1) := below_grown1 HB.out HO.out _ hsz HGR.out
      go_roundw
      case rel => first | exact ⟨0 + 1, by omega, rfl, HRL, HBL⟩ | ((repeat apply Exists.intro); exact ⟨⟨0 + 1, by omega, rfl, HRL, HBL⟩, rfl⟩)
      case measure => simp [intOf]
     ·rw [show (56 - 8 * ((1 : Nat) : Int)) = 48 from rfl]
      go_wp2_with (first
       | (at_builtin; refine wpList_append_own _ rfl (.tmp 20) (.tmp 26) 59 rfl w.heap.size 5 i0 (.int .u8 0) 1 1 Tryz.underlying59 hi hz0 hz1 hz2 rfl (by decide) (.slice va m2 vc) _ _ rfl (HO.out.alloc _) ⟨wr.heap.size, 0, none⟩ 1 1 [_] rfl rfl (cellNew1 _ _ _) (one_bytes rfl) (by unfold maxLen; omega) (by omega) (by simp; omega) ?_; intro v' w1 hown' hgrow _; have HOWN' := hid hown'; have HGR := hid hgrow; clear hown' hgrow))
      obtain ⟨va', vc', rfl, hvc'⟩ := own_slc HOWN'.out
      have HRL := HS.out 281474976710656 (by decide) w1 _ _ HOWN'.out (by omega)
      have HBL : Hid (Below w.heap.size w w1) := below_grown1 HB.out HO.out _ hsz HGR.out
      go_roundw
      case rel => first | exact ⟨1 + 1, by omega, rfl, HRL, HBL⟩ | ((repeat apply Exists.intro); exact ⟨⟨1 + 1, by omega, rfl, HRL, HBL⟩, rfl⟩)
      case measure => simp [intOf]
     ·rw [show (56 - 8 * ((2 : Nat) : Int)) = 40 from rfl]
      go_wp2_with (first
       | (at_builtin; refine wpList_append_own _ rfl (.tmp 20) (.tmp 26) 59 rfl w.heap.size 5 i0 (.int .u8 0) 1 1 Tryz.underlying59 hi hz0 hz1 hz2 rfl (by decide) (.slice va m2 vc) _ _ rfl (HO.out.alloc _) ⟨wr.heap.size, 0, none⟩ 1 1 [_] rfl rfl (cellNew1 _ _ _) (one_bytes rfl) (by unfold maxLen; omega) (by omega) (by simp; omega) ?_; intro v' w1 hown' hgrow _; have HOWN' := hid hown'; have HGR := hid hgrow; clear hown' hgrow))
      obtain ⟨va', vc', rfl, hvc'⟩ := own_slc HOWN'.out
      have HRL := HS.out 1099511627776 (by decide) w1 _ _ HOWN'.out (by omega)
      have HBL : Hid (Below w.heap.size w w1) := below_grown1 HB.out HO.out _ hsz HGR.out
      go_roundw
      case rel => first | exact ⟨2 + 1, by omega, rfl, HRL, HBL⟩ | ((repeat apply Exists.intro); exact ⟨⟨2 + 1, by omega, rfl, HRL, HBL⟩, rfl⟩)
      case measure => simp [intOf]
     ·rw [show (56 - 8 * ((3 : Nat) : Int)) = 32 from rfl]
      go_wp2_with (first
       | (at_builtin; refine wpList_append_own _ rfl (.tmp 20) (.tmp 26) 59 rfl w.heap.size 5 i0 (.int .u8 0) 1 1 Tryz.underlying59 hi hz0 hz1 hz2 rfl (by decide) (.slice va m2 vc) _ _ rfl (HO.out.alloc _) ⟨wr.heap.size, 0, none⟩ 1 1 [_] rfl rfl (cellNew1 _ _ _) (one_bytes rfl) (by unfold maxLen; omega) (by omega) (by simp; omega) ?_; intro v' w1 hown' hgrow _; have HOWN' := hid hown'; have HGR := hid hgrow; clear hown' hgrow))
      obtain ⟨va', vc', rfl, hvc'⟩ := own_slc HOWN'.out
      have HRL := HS.out 4294967296 (by decide) w1 _ _ HOWN'.out (by omega)
      have HBL : Hid (Below w.heap.size w w1) := below_grown1 HB.out HO.out _ hsz HGR.out
      go_roundw
      case rel => first | exact ⟨3 + 1, by omega, rfl, HRL, HBL⟩ | ((repeat apply Exists.intro); exact ⟨⟨3 + 1, by omega, rfl, HRL, HBL⟩, rfl⟩)
      case measure => simp [intOf]
     ·rw [show (56 - 8 * ((4 : Nat) : Int)) = 24 from rfl]
      go_wp2_with (first
       | (at_builtin; refine wpList_append_own _ rfl (.tmp 20) (.tmp 26) 59 rfl w.heap.size 5 i0 (.int .u8 0) 1 1 Tryz.underlying59 hi hz0 hz1 hz2 rfl (by decide) (.slice va m2 vc) _ _ rfl (HO.out.alloc _) ⟨wr.heap.size, 0, none⟩ 1 1 [_] rfl rfl (cellNew1 _ _ _) (one_bytes rfl) (by unfold maxLen; omega) (by omega) (by simp; omega) ?_; intro v' w1 hown' hgrow _; have HOWN' := hid hown'; have HGR := hid hgrow; clear hown' hgrow))
      obtain ⟨va', vc', rfl, hvc'⟩ := own_slc HOWN'.out
      have HRL := HS.out 16777216 (by decide) w1 _ _ HOWN'.out (by omega)
      have HBL : Hid (Below w.heap.size w w1) := below_grown1 HB.out HO.out _ hsz HGR.out
      go_roundw
      case rel => first | exact ⟨4 + 1, by omega, rfl, HRL, HBL⟩ | ((repeat apply Exists.intro); exact ⟨⟨4 + 1, by omega, rfl, HRL, HBL⟩, rfl⟩)
      case measure => simp [intOf]
     ·rw [show (56 - 8 * ((5 : Nat) : Int)) = 16 from rfl]
      go_wp2_with (first
       | (at_builtin; refine wpList_append_own _ rfl (.tmp 20) (.tmp 26) 59 rfl w.heap.size 5 i0 (.int .u8 0) 1 1 Tryz.underlying59 hi hz0 hz1 hz2 rfl (by decide) (.slice va m2 vc) _ _ rfl (HO.out.alloc _) ⟨wr.heap.size, 0, none⟩ 1 1 [_] rfl rfl (cellNew1 _ _ _) (one_bytes rfl) (by unfold maxLen; omega) (by omega) (by simp; omega) ?_; intro v' w1 hown' hgrow _; have HOWN' := hid hown'; have HGR := hid hgrow; clear hown' hgrow))
      obtain ⟨va', vc', rfl, hvc'⟩ := own_slc HOWN'.out
      have HRL := HS.out 65536 (by decide) w1 _ _ HOWN'.out (by omega)
      have HBL : Hid (Below w.heap.size w w1) := below_grown1 HB.out HO.out _ hsz HGR.out
      go_roundw
      case rel => first | exact ⟨5 + 1, by omega, rfl, HRL, HBL⟩ | ((repeat apply Exists.intro); exact ⟨⟨5 + 1, by omega, rfl, HRL, HBL⟩, rfl⟩)
      case measure => simp [intOf]
     ·rw [show (56 - 8 * ((6 : Nat) : Int)) = 8 from rfl]
      go_wp2_with (first
       | (at_builtin; refine wpList_append_own _ rfl (.tmp 20) (.tmp 26) 59 rfl w.heap.size 5 i0 (.int .u8 0) 1 1 Tryz.underlying59 hi hz0 hz1 hz2 rfl (by decide) (.slice va m2 vc) _ _ rfl (HO.out.alloc _) ⟨wr.heap.size, 0, none⟩ 1 1 [_] rfl rfl (cellNew1 _ _ _) (one_bytes rfl) (by unfold maxLen; omega) (by omega) (by simp; omega) ?_; intro v' w1 hown' hgrow _; have HOWN' := hid hown'; have HGR := hid hgrow; clear hown' hgrow))
      obtain ⟨va', vc', rfl, hvc'⟩ := own_slc HOWN'.out
      have HRL := HS.out 256 (by decide) w1 _ _ HOWN'.out (by omega)
      have HBL : Hid (Below w.heap.size w w1) := below_grown1 HB.out HO.out _ hsz HGR.out
      go_roundw
      case rel => first | exact ⟨6 + 1, by omega, rfl, HRL, HBL⟩ | ((repeat apply Exists.intro); exact ⟨⟨6 + 1, by omega, rfl, HRL, HBL⟩, rfl⟩)
      case measure => simp [intOf]
     ·rw [show (56 - 8 * ((7 : Nat) : Int)) = 0 from rfl]
      go_wp2_with (first
       | (at_builtin; refine wpList_append_own _ rfl (.tmp 20) (.tmp 26) 59 rfl w.heap.size 5 i0 (.int .u8 0) 1 1 Tryz.underlying59 hi hz0 hz1 hz2 rfl (by decide) (.slice va m2 vc) _ _ rfl (HO.out.alloc _) ⟨wr.heap.size, 0, none⟩ 1 1 [_] rfl rfl (cellNew1 _ _ _) (one_bytes rfl) (by unfold maxLen; omega) (by omega) (by simp; omega) ?_; intro v' w1 hown' hgrow _; have HOWN' := hid hown'; have HGR := hid hgrow; clear hown' hgrow))
      obtain ⟨va', vc', rfl, hvc'⟩ := own_slc HOWN'.out
      have HRL := HS.out 1 (by decide) w1 _ _ HOWN'.out (by omega)
      have HBL : Hid (Below w.heap.size w w1) := below_grown1 HB.out HO.out _ hsz HGR.out
      go_roundw
      case rel => first | exact ⟨7 + 1, by omega, rfl, HRL, HBL⟩ | ((repeat apply Exists.intro); exact ⟨⟨7 + 1, by omega, rfl, HRL, HBL⟩, rfl⟩)
      case measure => simp [intOf]
    ·obtain rfl : k = 8 := by omega
     rw [show (56 - 8 * ((8 : Nat) : Int)) = -8 from rfl]
     have hconv : (convert 59 9 (.slice va m2 vc)).run Tryz.prog wr = .ok (.string (bx (tailL n))) wr := by
      rw [← HEND.out]
      exact conv_own (l := tailB n 8) (by rw [HM2.out]; exact HO.out)
     go_wp2_with fail
     go_ret
     exact ⟨rfl, HB.out⟩
/-- a row copied onto nothing -/
theorem rest_cells {w : World} {a : Option Addr} {n c : Nat} {l : List UInt8} (h : RestAt w a n c l) : ∀ j u, (bvals l)[j]? = some u → ∀ x, a = some x → w.cell? (x.add j) = some u := by
 intro j u hj x hx
 obtain ⟨h1, h2, h3, h4⟩ := h
 have hjl : j < l.length := by
  have := (List.getElem?_eq_some_iff.1 hj).1; rwa [bvals_length] at this
 obtain ⟨g, off, ha, hb⟩ := h4.resolve_left (by omega)
 rw [ha] at hx
 cases hx
 rw [Addr.add_lit, hb j hjl, ← hj]
 unfold bvals
 rw [List.getElem?_map, List.getD_eq_getElem?_getD, List.getElem?_eq_getElem hjl]; rfl
end Go.Proofs.YtmpjdoiogbbcoaaGreatDoor
/- The digest's walk: its end, and the whole. -/
namespace Go.Proofs.YtmpjdoiogbbcoaaGreatDoor
open Go.RowKit Sha
set_option linter.unusedVariables false

def words8 (s : S8) : List Nat := [s.a, s.b, s.c, s.d, s.e, s.f, s.g, s.h]
def outP (s : S8) (k : Nat) : List UInt8 := ((words8 s).take k).flatMap word4
theorem outP_all (s : S8) : outP s 8 = outL s := by unfold outP words8 outL; simp
theorem outP_succ (s : S8) (k : Nat) (hk : k < 8) : outP s (k + 1) = outP s k ++ word4 ((words8 s).getD k 0) := by
 unfold outP
 have hl : k < (words8 s).length := hk
 rw [List.take_succ_eq_append_getElem hl, List.flatMap_append, List.getD_eq_getElem?_getD, List.getElem?_eq_getElem hl]; simp
theorem absorb_rest : ∀ (f : Nat) (h : S8) (l : List UInt8), l.length ≤ f → (absorb f h l).2.length < 64
 | 0, h, l, hf => by show l.length < 64; omega
 | f + 1, h, l, hf => by
  unfold absorb
  split
  ·assumption
  ·exact absorb_rest f _ _ (by rw [List.length_drop]; omega)
theorem words8_lt {s : S8} (h : s.Lt) (k : Nat) : (words8 s).getD k 0 < 4294967296 := by
 obtain ⟨a, b, c, d, e, f, g, h⟩ := h
 refine getD_lt _ ?_ k
 intro x hx
 simp [words8] at hx
 rcases hx with rfl | rfl | rfl | rfl | rfl | rfl | rfl | rfl <;> assumption
theorem s8_get (s : S8) (k : Nat) (hk : k < 8) : (s8c s)[k]? = some (.int .u32 ((words8 s).getD k 0 : Nat)) := by
 obtain rfl | rfl | rfl | rfl | rfl | rfl | rfl | rfl : k = 0 ∨ k = 1 ∨ k = 2 ∨ k = 3 ∨ k = 4 ∨ k = 5 ∨ k = 6 ∨ k = 7 := by omega
 all_goals rfl
theorem bvals_word4 (x : Nat) (hx : x < 4294967296) (y0 y1 y2 y3 : Int) (h0 : y0 = (x : Int) / 16777216) (h1 : y1 = (x : Int) / 65536 % 256) (h2 : y2 = (x : Int) / 256 % 256) (h3 : y3 = (x : Int) % 256) : bvals (word4 x) = [.int .u8 y0, .int .u8 y1, .int .u8 y2, .int .u8 y3] := by
 unfold bvals word4
 simp only [List.map_cons, List.map_nil, UInt8.toNat_ofNat']
 rw [h0, h1, h2, h3]
 congr 2
 ·omega
theorem cellNew4 (w : World) (x0 x1 x2 x3 : Value) (t : TypeId) : ∀ j u, [x0, x1, x2, x3][j]? = some u → (w.alloc (.cells #[x0, x1, x2, x3] t)).cell? ((⟨w.heap.size, 0, none⟩ : Addr).add j) = some u := by
 intro j u h
 rw [Addr.add_lit, Nat.zero_add, (Blk.new w t #[x0, x1, x2, x3]).cell]
 rw [← h]; simp
theorem one4 {P : Value → Prop} {a b c d : Value} (ha : P a) (hb : P b) (hc : P c) (hd : P d) : ∀ u ∈ [a, b, c, d], P u := by
 intro u hu; simp at hu; rcases hu with rfl | rfl | rfl | rfl <;> assumption
set_option maxRecDepth 100000 in
set_option maxHeartbeats 4000000 in
theorem shaend_any (b : Nat) (st : S8) (a : Option Addr) (n c : Nat) (l : List UInt8) (cnt : Nat) (w : World) (hh : Blk w b 281 (hcs st (.slice a n c) cnt)) (hr : RestAt w a n c l) (hl : st.Lt) (hll : l.length < 64) (hc : cnt ≤ 1000000000) :
  Calls Tryz.prog 172 #[.pointer (some ⟨b, 0, none⟩)] w fun e w' => e = .returned (.string (bx (endL st l cnt))) ∧ Below w.heap.size w w' := by
 obtain ⟨i0, hi, hz0, hz1, hz2⟩ := info_parts Tryz.infoB
 have hb0 := Blk.lt hh
 have HH := hid hh; have HR := hid hr; have HLT := hid hl
 obtain ⟨r1, r2, r3, r4⟩ := hr
 subst r1
 have c0 := Blk.cell hh 0
 have c1 := Blk.cell hh 1
 have c2 := Blk.cell hh 2
 have c3 := Blk.cell hh 3
 have c4 := Blk.cell hh 4
 have c5 := Blk.cell hh 5
 have c6 := Blk.cell hh 6
 have c7 := Blk.cell hh 7
 have c8 := Blk.cell hh 8
 simp [hcs] at c0 c1 c2 c3 c4 c5 c6 c7 c8
 clear hh hl
 have h64 : (l.length : Int) ≤ 64 := by omega
 obtain ⟨E, hE⟩ : ∃ E, endL st l cnt = E := ⟨_, rfl⟩
 have HE := hid hE
 rw [hE]; clear hE
 go_enter Tryz.func172, Tryz.ntmps172
 go_wp2_with fail
 go_upto_region 3 with fail
 go_cut [3] (fun s3 wx => ∃ (p : Nat) (v : Value), s3 = .pointer (some ⟨p, 0, none⟩) ∧ Hid (w.heap.size ≤ p) ∧ Hid (Blk wx p 281 (hcs st v 0)) ∧ Hid (wx.ownsRow w.heap.size 5 1 v l.length (bvals l)) ∧ Hid (Blk wx b 281 (hcs st (.slice a l.length c) cnt)) ∧ Hid (Below w.heap.size w wx))
 case first =>
  by_cases h0 : l.length = 0
  ·obtain rfl : l = [] := List.length_eq_zero_iff.1 h0
   have HNIL : Hid (∀ wx : World, wx.ownsRow w.heap.size 5 1 (.slice none 0 0) 0 (bvals [])) := fun wx => World.ownsRow_nil _ _ _ _
   have HBX : Hid (∀ o : Obj, Blk (w.drew.alloc o) b 281 (hcs st (.slice a 0 c) cnt)) := fun o => Blk.alloc (Blk.drew HH.out) o
   simp only [List.length_nil] at *
   clear r4 h64 h0
   cases a
   all_goals
    go_region_with (fail)
    all_goals
     go_wp2_with fail
     go_meet
     case rel =>
      refine ⟨_, .slice none 0 0, rfl, Nat.le_refl _, Blk.new w.drew 281 (hcs st (.slice none 0 0) 0), HNIL.out _, HBX.out _, ((Below.refl w.heap.size w).drew).alloc (Nat.le_refl _) _⟩
  ·obtain ⟨g0, off, rfl, hby⟩ := r4.resolve_left h0
   have HNEWS : Hid (∀ w', Below w.heap.size w w' → ∀ j u, (bvals l)[j]? = some u → w'.cell? ((⟨g0, off, none⟩ : Addr).add j) = some u) := fun w' hb j u hj => rest_cells (HR.out.below hb) j u hj _ rfl
   have h0' : 0 < l.length := by omega
   have HONE : Hid (∀ u ∈ bvals l, u.oneCell' = true) := fun u hu => by unfold bvals at hu; obtain ⟨x, _, rfl⟩ := List.mem_map.1 hu; rfl
   have HLN : Hid ((bvals l).length = l.length * 1) := by show _ = _; rw [bvals_length]; omega
   clear hby r4 h0
   go_region_law (first
    | (go_loud (refine step_append_lies _ (by rfl) (.const (.slice none 0 0)) (.tmp 16) 59 (by rfl) w.heap.size 5 i0 (.int .u8 0) 1 1 Tryz.underlying59 hi hz0 hz1 hz2 rfl (by decide) (.slice none 0 0) 0 [] (by rfl) (World.ownsRow_nil _ _ _ _) ⟨g0, off, none⟩ l.length c (bvals l) (by rfl) HLN.out (HNEWS.out _ (Below.refl _ _).drew) HONE.out h0' (by unfold maxLen; omega) (by omega) (Nat.le_refl _) w.heap.size (by rfl) ?_; intro g1 cap1 w1 hown hgrow hat hlt; have B1 := Blk.grown (Blk.drew HH.out) hgrow (by intro e; cases e); have d0 := Blk.cell B1 0; have d1 := Blk.cell B1 1; have d2 := Blk.cell B1 2; have d3 := Blk.cell B1 3; have d4 := Blk.cell B1 4; have d5 := Blk.cell B1 5; have d6 := Blk.cell B1 6; have d7 := Blk.cell B1 7; have d9 := Blk.cell B1 9; simp [hcs] at d0 d1 d2 d3 d4 d5 d6 d7 d9; have HB1 := hid B1; have HOWN := hid hown; have HGR := hid hgrow; have HG1 : Hid (w.heap.size ≤ g1) := (hat.elim (fun e => by cases e) (fun e => Nat.le_of_eq e.symm)); have HG2 := hid hlt; clear B1 hown hgrow hat hlt)))
   all_goals
    go_wp2_with fail
    go_meet
    case rel =>
     have hz : 0 + l.length = l.length := Nat.zero_add _
     refine ⟨_, _, rfl, Nat.le_of_lt (Nat.lt_of_le_of_lt HG1.out HG2.out), Blk.new w1 281 (hcs st (.slice (some ⟨g1, 0, none⟩) l.length cap1) 0), ?_, HB1.out.alloc _, ?_⟩
     ·have h := HOWN.out.alloc (.cells (hcs st (.slice (some ⟨g1, 0, none⟩) l.length cap1) 0) 281)
      rw [hz] at h; exact h
     ·exact (((Below.refl w.heap.size w).drew).grown HGR.out (Nat.le_refl _) (fun k hk => by cases hk)).alloc (Nat.le_trans HG1.out (Nat.le_of_lt HG2.out)) _
 case rest =>
  obtain ⟨p, v, rfl, hp, HP, HV, HBB, HBL⟩ := hcut
  clear c0 c1 c2 c3 c4 c5 c6 c7 c8 r4 h64
  have hpw : p < wc.heap.size := Blk.lt HP.out
  have hwb : w.heap.size ≤ wc.heap.size := HBL.out.size
  have c9 := Blk.cell HBB.out 9
  simp [hcs] at c9
  have HT := hid (shatail_any cnt hc)
  have HTL : Hid ((bx (tailL cnt)).size ≤ 1000) := by
   show _ ≤ _
   have := tailB_len cnt 8
   have hz := zerosN_lt cnt
   rw [bx_size]
   have e : tailL cnt = tailB cnt 8 := rfl
   rw [e, this]; omega
  have HBX : Hid ((bx (tailL cnt)).data.toList = tailL cnt) := bx_list _
  obtain ⟨T, hT⟩ : ∃ T, bx (tailL cnt) = T := ⟨_, rfl⟩
  rw [hT] at HT HTL HBX
  clear hT
  go_wp2_with fail
  refine (HT.out _).mono ?_; rintro e w2 ⟨rfl, hb2⟩
  have HP2 : Hid (Blk w2 p 281 (hcs st v 0)) := HP.out.below hb2 hpw
  have HV2 : Hid (w2.ownsRow w.heap.size 5 1 v l.length (bvals l)) := own_below HV.out hb2
  have HBL2 : Hid (Below w.heap.size w w2) := below_then HBL.out (by exact hb2) |> fun h => h
  have hw2 : w.heap.size ≤ w2.heap.size := HBL2.out.size
  clear hb2
  go_wp2_with fail
  refine (shaadd_any w.heap.size p st v l 0 T w2 hp.out HP2.out HV2.out HLT.out (by omega) (by have := HTL.out; omega) (by omega) hw2).mono ?_
  rintro e w3 ⟨rfl, a3, n3, c3, hB3, hR3, hL3⟩
  have HB3 := hid hB3
  have HBL3 : Hid (Below w.heap.size w w3) := HBL2.out.trans hL3
  clear hB3 hR3 hL3 HP2 HV2 HBL2 HBB HV HP HBL
  obtain ⟨R, hR⟩ : ∃ R, (absorb (l ++ T.data.toList).length st (l ++ T.data.toList)).1 = R := ⟨_, rfl⟩
  have HRL : Hid R.Lt := by show S8.Lt _; rw [← hR]; exact absorb_Lt _ _ _ HLT.out
  have HEE : Hid (E = outP R 8) := by
   show _ = _
   rw [outP_all, ← HE.out, ← hR, HBX.out]; rfl
  rw [hR] at HB3
  clear hR
  have c0 := Blk.cell HB3.out 0
  have c1 := Blk.cell HB3.out 1
  have c2 := Blk.cell HB3.out 2
  have c3 := Blk.cell HB3.out 3
  have c4 := Blk.cell HB3.out 4
  have c5 := Blk.cell HB3.out 5
  have c6 := Blk.cell HB3.out 6
  have c7 := Blk.cell HB3.out 7
  simp [hcs] at c0 c1 c2 c3 c4 c5 c6 c7
  have HIX : Hid (∀ k : Nat, k < 8 → ∀ w, (Instr.index 278 (.agg (s8c R)) (.int .i64 k)).run Tryz.prog w = .ok (.int .u32 ((words8 R).getD k 0 : Nat)) w) := fun k hk w => index_words Tryz.underlying278 _ k hk _ (s8_get R k hk) w
  unfold s8c at HIX
  have HWL : Hid (∀ k, (words8 R).getD k 0 < 4294967296) := words8_lt HRL.out
  go_wp2_with fail
  clear c0 c1 c2 c3 c4 c5 c6 c7
  go_loopw [31, 4] (fun kv v wr => ∃ k : Nat, k ≤ 8 ∧ kv = .int .i64 k ∧ Hid (wr.ownsRow w.heap.size 5 1 v (4 * k) (bvals (outP R k))) ∧ Hid (Below w.heap.size w wr)) (fun kv _ _ => 8 - (intOf kv).toNat)
  case atStart => exact ⟨0, by omega, rfl, World.ownsRow_nil _ _ _ _, HBL3⟩
  case round =>
   obtain ⟨k, hk, rfl, HO, HB⟩ := hrel
   obtain ⟨va, vc, rfl, hvc⟩ := own_slc HO.out
   have hsz := HB.out.size
   by_cases hlt : k < 8
   ·have ck : (k : Int) < 8 := by omega
    have hix := HIX.out k hlt
    have hxl := HWL.out k
    have hsucc : Hid (outP R (k + 1) = outP R k ++ word4 ((words8 R).getD k 0)) := outP_succ R k hlt
    obtain ⟨x, hx⟩ : ∃ x, (words8 R).getD k 0 = x := ⟨_, rfl⟩
    rw [hx] at hix hxl hsucc
    clear hx
    have hk4 : 4 * k ≤ 100 := by omega
    go_wp2_with (first
     | (at_builtin; refine wpList_append_own _ rfl (.tmp 34) (.tmp 46) 59 rfl w.heap.size 5 i0 (.int .u8 0) 1 1 Tryz.underlying59 hi hz0 hz1 hz2 rfl (by decide) (.slice va (4 * k) vc) _ _ rfl (HO.out.alloc _) ⟨wr.heap.size, 0, none⟩ 4 4 [_, _, _, _] rfl rfl (cellNew4 _ _ _ _ _ _) (one4 rfl rfl rfl rfl) (by unfold maxLen; omega) (by omega) (by simp; omega) ?_; intro v' w1 hown' hgrow _; have HOWN' := hid hown'; have HGR := hid hgrow; clear hown' hgrow))
    obtain ⟨va', vc', rfl, hvc'⟩ := own_slc HOWN'.out
    have HRL : Hid (w1.ownsRow w.heap.size 5 1 (.slice va' (4 * k + 4) vc') (4 * (k + 1)) (bvals (outP R (k + 1)))) := by
     have h := HOWN'.out
     rw [hsucc.out, bvals_append, bvals_word4 x hxl _ _ _ _ rfl rfl rfl rfl]
     exact h
    have HBL : Hid (Below w.heap.size w w1) := below_grown1 HB.out HO.out _ hsz HGR.out
    go_roundw
    case rel => first | exact ⟨k + 1, by omega, by go_num, HRL, HBL⟩ | ((repeat apply Exists.intro); exact ⟨⟨k + 1, by omega, by go_num, HRL, HBL⟩, rfl⟩)
    case measure => simp [intOf]; omega
   ·obtain rfl : k = 8 := by omega
    have HO8 : Hid (wr.ownsRow w.heap.size 5 1 (.slice va 32 vc) (outP R 8).length (bvals (outP R 8))) := HO.out
    have hconv : (convert 59 9 (.slice va 32 vc)).run Tryz.prog wr = .ok (.string (bx E)) wr := by
     rw [HEE.out]; exact conv_own (l := outP R 8) HO8.out
    simp only [Nat.reduceMul]
    go_wp2_with fail
    go_ret
    exact ⟨rfl, HB.out⟩
/-- the digest of a text -/
theorem shasum_any (s : ByteArray) (hs : s.size ≤ 1000000000) (w : World) : Calls Tryz.prog 106 #[.string s] w fun e w' => e = .returned (.string (bx (shaL s.data.toList))) ∧ Below w.heap.size w w' := by
 have HE : Hid (shaL s.data.toList = endL (absorb s.data.toList.length first s.data.toList).1 (absorb s.data.toList.length first s.data.toList).2 s.size) := by
  show _ = _
  have : s.data.toList.length = s.size := Array.length_toList
  unfold shaL; rw [this]
 rw [HE.out]; clear HE
 go_enter Tryz.func106, Tryz.ntmps106
 go_wp2_with fail
 refine (shanew_any _).mono ?_; rintro e w1 ⟨b, rfl, hb, hB1, hL1⟩
 have HB := hid hb; have HB1 := hid hB1; have HL1 := hid hL1
 clear hb hB1 hL1
 go_wp2_with fail
 refine (shaadd_any w.heap.size b first _ [] 0 s w1 HB.out HB1.out (World.ownsRow_nil _ _ _ _) first_Lt (by omega) hs (by simp) HL1.out.size).mono ?_
 rintro e w2 ⟨rfl, a2, n2, c2, hB2, hR2, hL2⟩
 have HL2 : Hid (Below w.heap.size w w2) := HL1.out.trans hL2
 have HB2 := hid hB2; have HR2 := hid hR2
 clear hB2 hR2 hL2
 have HLL : Hid ((absorb s.data.toList.length first s.data.toList).2.length < 64) := absorb_rest _ _ _ (Nat.le_refl _)
 go_wp2_with fail
 refine (shaend_any b _ a2 n2 c2 _ _ w2 HB2.out HR2.out (absorb_Lt _ _ _ first_Lt) HLL.out (by omega)).mono ?_
 rintro e w3 ⟨rfl, hL3⟩
 have HL3 : Hid (Below w.heap.size w w3) := below_then HL2.out hL3
 clear hL3
 go_wp2_with fail
 go_ret
 exact ⟨by simp, HL3.out⟩
theorem objid_any (s : ByteArray) (hs : s.size ≤ 1000000000) (w : World) : Calls Tryz.prog 60 #[.string s] w fun e w' => e = .returned (.string (bx (shaL s.data.toList))) ∧ Below w.heap.size w w' := by
 have HS := hid (fun w => shasum_any s hs w)
 obtain ⟨T, hT⟩ : ∃ T, bx (shaL s.data.toList) = T := ⟨_, rfl⟩
 rw [hT] at HS ⊢
 clear hT
 go_enter Tryz.func60, Tryz.ntmps60
 go_wp2_with fail
 refine (HS.out _).mono ?_; rintro e w1 ⟨rfl, hL1⟩
 have HL1 := hid hL1
 clear hL1
 go_wp2_with fail
 go_ret
 exact ⟨rfl, HL1.out⟩
end Go.Proofs.YtmpjdoiogbbcoaaGreatDoor
/- Objects laid down: lay. -/
namespace Go.Proofs.YtmpjdoiogbbcoaaGreatDoor
open Go.RowKit Book Pap Ojt Sn
set_option linter.unusedVariables false
set_option linter.unusedSimpArgs false

/-- what is under each text's name -/
def idsF (L : List ByteArray) : ByteArray → Option ByteArray := fun s => if hasN L s = true then some (Sw.idOf s) else none
/-- a builder in memory -/
def BuAt (B : Nat) (w : World) (b m : Nat) (v : Value) (L : List ByteArray) : Prop :=
 Blk w b 134 #[v, .map (some m)] ∧ w.ownsRow B 9 1 v L.length (svals L) ∧ StrMap w m L.length (idsF L) ∧ B ≤ b ∧ B ≤ m
def BF (b m : Nat) (v : Value) : Nat → Prop := fun k => k = b ∨ k = m ∨ v.ownBlock = some k
theorem encR_P (x : Ob) : (encR x).1 = encP x := by
 unfold encR encP
 split <;> rfl
theorem encP_size (x : Ob) : (encP x).size ≤ 100000 := by
 unfold encP
 split
 ·rename_i h
  show (bz (encL x)).size ≤ _
  have e : (bz (encL x)).size = (encL x).length := by unfold bz; simp [ByteArray.size]
  rw [e]
  rcases good_kind h with hk | hk | hk
  ·have := good_blob h hk
   unfold encL; rw [if_pos hk]
   have := bx_data x.data
   simp only [List.length_cons]; omega
  ·obtain ⟨h1, h2⟩ := good_tree h hk
   have e2 : encL x = preT x.ents x.ents.length := by unfold encL preT; rw [if_neg (by omega), if_pos hk, List.take_length]
   rw [e2]
   have := preT_len x.ents h2 x.ents.length h1
   omega
  ·obtain ⟨h1, h2, h3, h4, h5, h6⟩ := good_commit h hk
   have hfl : (x.pars.flatMap (fun p => p.data.toList)).length = 32 * x.pars.length := by
    have key : ∀ l : List ByteArray, (∀ p ∈ l, p.size = 32) → (l.flatMap (fun p => p.data.toList)).length = 32 * l.length := by
     intro l
     induction l with
     | nil => intro _; rfl
     | cons y r ih =>
      intro h
      rw [List.flatMap_cons, List.length_append, ih (fun q hq => h q (List.mem_cons_of_mem _ hq)), bx_data, h y (List.mem_cons_self ..), List.length_cons]; omega
    exact key _ h2
   unfold encL
   rw [if_neg (by omega), if_neg (by omega)]
   have a1 := bx_data x.tree
   have a2 := textL_lenE x.note.data.toList
   have a3 := bx_data x.note
   have a4 : (numL x.pars.length).length = 4 := rfl
   have a5 : (numL x.height.toNat).length = 4 := rfl
   simp only [List.cons_append, List.length_cons, List.length_append]
   omega
 ·show (0 : Nat) ≤ 100000; omega
/-- what lay leaves -/
def LayOut (B : Nat) (w : World) (b m : Nat) (v : Value) (r : List ByteArray × ByteArray) (e : Ending) (w' : World) : Prop :=
 ∃ v', e = .returned (.string r.2) ∧ BuAt B w' b m v' r.1 ∧ Only (BF b m v) w w' ∧ ∀ k, v'.ownBlock = some k → v.ownBlock = some k ∨ w.heap.size ≤ k
theorem BuAt.below {B : Nat} {w w' : World} {b m : Nat} {v : Value} {L : List ByteArray} (h : BuAt B w b m v L) (hb : Below w.heap.size w w') : BuAt B w' b m v L :=
 ⟨(hb.block b (Blk.lt h.1)).trans h.1, own_below h.2.1 hb, h.2.2.1.later hb, h.2.2.2⟩
theorem map_row_ne {α : Type} {P : Program} {k : TypeId} {val : α → Value} {dat : α → DataW Unit} {w : World} {m n : Nat} {f : ByteArray → Option α} {B e q sz : Nat} {v : Value} {xs : List Value} (h : MapFn P k val dat w m n f) (ho : w.ownsRow B e sz v q xs) : v.ownBlock ≠ some m := by
 intro e1
 obtain ⟨D, ⟨es, clock, hb', _⟩, _⟩ := h
 rcases ho.2 with ⟨hn, _⟩ | ⟨g', cap, cur, hv, _, hbk, _⟩
 ·rw [hn] at e1; simp [Value.ownBlock] at e1
 ·rw [hv] at e1
  have e2 : g' = m := by simpa [Value.ownBlock] using e1
  subst e2; rw [hbk] at hb'; cases hb'
theorem map_blk_ne {α : Type} {P : Program} {k : TypeId} {val : α → Value} {dat : α → DataW Unit} {w : World} {m n : Nat} {f : ByteArray → Option α} {b : Nat} {t : TypeId} {cs : Array Value} (h : MapFn P k val dat w m n f) (ho : Blk w b t cs) : b ≠ m := by
 intro e1
 obtain ⟨D, ⟨es, clock, hb', _⟩, _⟩ := h
 unfold Blk at ho
 rw [← e1, ho] at hb'; cases hb'
theorem idsF_snoc (L : List ByteArray) (s : ByteArray) : idsF (L ++ [s]) = fun q => if q = s then some (Sw.idOf s) else idsF L q := by
 funext q
 unfold idsF
 by_cases h : q = s
 ·subst h
  have : hasN (L ++ [q]) q = true := hasN_iff.2 (List.mem_append.2 (.inr (List.mem_singleton.2 rfl)))
  rw [if_pos this, if_pos rfl]
 ·rw [if_neg h]
  have : hasN (L ++ [s]) q = hasN L q := by
   cases hh : hasN L q
   ·rw [hasN_no] at hh ⊢
    intro hm
    rcases List.mem_append.1 hm with hm | hm
    ·exact hh hm
    ·exact h (List.mem_singleton.1 hm)
   ·rw [hasN_iff] at hh ⊢
    exact List.mem_append.2 (.inl hh)
  rw [this]
set_option maxRecDepth 100000 in
set_option maxHeartbeats 8000000 in
theorem lay_any (B b m : Nat) (v : Value) (L : List ByteArray) (x : Ob) (ev pv : Value) (w : World) (hU : BuAt B w b m v L) (hO : ObAt w ev pv x) (hn : ObN x) (hcp : ∀ a n c, pv = .slice a n c → n ≤ c) (hL : L.length ≤ 100000) :
  Calls Tryz.prog 57 #[.pointer (some ⟨b, 0, none⟩), .agg (obCs x ev pv)] w (LayOut B w b m v (layS L x)) := by
 obtain ⟨i0, hi0, hz0, hz1, hz2⟩ := info_parts Tryz.infoS
 have hE := encode_any x ev pv (w.alloc (.cells (obCs x ev pv) 98)) (hO.later ((Below.refl _ _).alloc (Nat.le_refl _) _)) hn hcp
 rw [encR_P] at hE
 obtain ⟨s, hs⟩ : ∃ s, encP x = s := ⟨_, rfl⟩
 obtain ⟨er, her⟩ : ∃ er, (encR x).2 = er := ⟨_, rfl⟩
 have hsz : s.size ≤ 100000 := by rw [← hs]; exact encP_size x
 rw [hs, her] at hE
 have HE := hid hE
 have HLY : Hid (layS L x = (if hasN L s = true then L else L ++ [s], Sw.idOf s)) := by
  show _ = _
  unfold layS; rw [hs]
 clear hE hs her hn hcp
 obtain ⟨ea, en, ec, pa, pn, pc, rfl, -, rfl, -⟩ := hO
 have hU1 : BuAt B (w.alloc (.cells (obCs x (.slice ea en ec) (.slice pa pn pc)) 98)) b m v L := hU.below ((Below.refl _ _).alloc (Nat.le_refl _) _)
 have HX1 : Hid (Blk (w.alloc (.cells (obCs x (.slice ea en ec) (.slice pa pn pc)) 98)) w.heap.size 98 (obCs x (.slice ea en ec) (.slice pa pn pc))) := Blk.new w _ _
 have HL1 : Hid (Below w.heap.size w (w.alloc (.cells (obCs x (.slice ea en ec) (.slice pa pn pc)) 98))) := (Below.refl _ _).alloc (Nat.le_refl _) _
 have HU1 := hid hU1
 unfold obCs at HX1 HL1 HU1 HE ⊢
 clear hU1
 have HVL : Hid (∀ k, v.ownBlock = some k → k < w.heap.size) := fun k hk => own_lt hU.2.1 hk
 have hbl := Blk.lt hU.1
 have hml := hU.2.2.1.lt
 obtain ⟨va, vc, hvv, hvc⟩ := own_slice' hU.2.1
 subst hvv
 clear hU
 go_enter Tryz.func57, Tryz.ntmps57
 go_upto_region 1 with fail
 generalize (w.alloc (.cells #[.int .i64 x.kind, .string x.data, .slice ea en ec, .string x.tree, .slice pa pn pc, .int .i64 x.height, .string x.note] 98)) = w1 at HX1 HL1 HU1 HE ⊢
 obtain ⟨g, hg⟩ : ∃ g, w.heap.size = g := ⟨_, rfl⟩
 have HG := hid hg
 rw [hg] at HX1 HL1 HVL hbl hml ⊢
 clear hg
 have k0 : w1.cell? ⟨g, 0, none⟩ = some (.int .i64 x.kind) := Blk.cell HX1.out 0
 have k1 : w1.cell? ⟨g, 1, none⟩ = some (.string x.data) := Blk.cell HX1.out 1
 have k2 : w1.cell? ⟨g, 2, none⟩ = some (.slice ea en ec) := Blk.cell HX1.out 2
 have k3 : w1.cell? ⟨g, 3, none⟩ = some (.string x.tree) := Blk.cell HX1.out 3
 have k4 : w1.cell? ⟨g, 4, none⟩ = some (.slice pa pn pc) := Blk.cell HX1.out 4
 have k5 : w1.cell? ⟨g, 5, none⟩ = some (.int .i64 x.height) := Blk.cell HX1.out 5
 have k6 : w1.cell? ⟨g, 6, none⟩ = some (.string x.note) := Blk.cell HX1.out 6
 have hg1 := Blk.lt HX1.out
 go_wp2_with fail
 refine HE.out.mono ?_; rintro e w2 ⟨rfl, hb2⟩
 have HU2 := hid (HU1.out.below hb2)
 have HB2 : Hid (Below g w w2) := HL1.out.trans (hb2.mono (Nat.le_of_lt hg1))
 clear k0 k1 k2 k3 k4 k5 k6 hb2 HX1 HL1 HU1 HE hg1
 obtain ⟨u1, u2, u3, u4, u5⟩ := HU2.out
 have q1 : w2.cell? ⟨b, 1, none⟩ = some (.map (some m)) := Blk.cell u1 1
 have hsm : s.size ≤ maxLen := by unfold maxLen; omega
 have hmax : L.length < maxLen := by unfold maxLen; omega
 have hlk := strMap_get2 u3 s hsm
 clear u1 u2 u3
 cases hh : hasN L s
 ·have e1 : idsF L s = none := by unfold idsF; rw [hh]; rfl
  rw [e1] at hlk
  simp only [Option.getD_none, Option.isSome_none] at hlk
  have HLY2 : Hid (layS L x = (L ++ [s], Sw.idOf s)) := by
   show _ = _
   rw [HLY.out, hh]; rfl
  have HID := hid (fun W => objid_any s (by omega) W)
  obtain ⟨idv, hidv⟩ : ∃ i, bx (Sha.shaL s.data.toList) = i := ⟨_, rfl⟩
  rw [hidv] at HID
  have HIV : Hid (Sw.idOf s = idv) := hidv
  clear hidv hh e1 HLY
  go_wp2_with fail
  refine (HID.out _).mono ?_; rintro e w3 ⟨rfl, hb3⟩
  have HU3 := hid (HU2.out.below hb3)
  have hw2 : g ≤ w2.heap.size := by
   have := HB2.out.size
   have := HG.out
   omega
  have HB3 : Hid (Below g w w3) := HB2.out.trans (hb3.mono hw2)
  clear hlk q1 hb3 HB2 HU2
  obtain ⟨u1, u2, u3, -, -⟩ := HU3.out
  have q1 : w3.cell? ⟨b, 1, none⟩ = some (.map (some m)) := Blk.cell u1 1
  have HU1' := hid u1; have HU2' := hid u2; have HU3' := hid u3
  clear u1 u2 u3
  go_wp2_with (first
   | (at_mapUpdate; refine wpList_mapFn_set rfl (.tmp 30) (.tmp 31) (.tmp 32) 132 rfl Tryz.underlying9 Tryz.underlying132 valS_inj HU3'.out hmax s hsm idv rfl rfl rfl ?_; intro w4 hm4 hg4; have HM4 := hid hm4; have HG4 := hid hg4; clear hm4 hg4; have HO4 : Hid (Only (· = m) w3 w4) := (⟨HG4.out.os, HG4.out.tape, HG4.out.output, HG4.out.size, fun k hk hne => HG4.out.block k hk (fun e => hne (by cases e; rfl))⟩); have HK4 : Hid (Blk w4 b 134 #[.slice va L.length vc, .map (some m)]) := (HU1'.out.only HO4.out (fun e => map_blk_ne HU3'.out HU1'.out e)); have HW4 : Hid (w4.ownsRow B 9 1 (.slice va L.length vc) L.length (svals L)) := (own_only HU2'.out HO4.out (fun k hk e => map_row_ne HU3'.out HU2'.out (by rw [hk]; exact congrArg some e))); have q0 : w4.cell? ⟨b, 0, none⟩ = some (.slice va L.length vc) := Blk.cell HK4.out 0; have f0 := Blk.frozen HK4.out 0; have hs4 : B ≤ w4.heap.size := Nat.le_trans u4 (Nat.le_of_lt (Blk.lt HK4.out)))
   | (at_builtin; refine wpList_append_own_at _ rfl (.tmp 37) (.tmp 39) 40 rfl B 9 i0 (.string ⟨#[]⟩) 1 16 Tryz.underlying40 hi0 hz0 hz1 hz2 rfl (by decide) (.slice va L.length vc) _ _ rfl (HW4.out.alloc _) ⟨w4.heap.size, 0, none⟩ 1 1 [.string s] rfl rfl (cellNew1 _ _ _) (one_bytes rfl) (by unfold maxLen; omega) (by omega) (by rw [World.size_alloc]; omega) ?_; intro v' w5 hown' hg5 _ hat5; obtain ⟨va', vc', hvv', hvc'⟩ := own_slice' hown'; subst hvv'; have HOWN := hid hown'; have HG5 := hid hg5; have HAT := hid hat5; clear hown' hg5 hat5; have HK5 : Hid (Blk w5 b 134 #[.slice va L.length vc, .map (some m)]) := (HK4.out.alloc _).grown HG5.out (fun e => own_blk_ne HW4.out HK4.out (by decide) e.symm); have q0' : w5.cell? ⟨b, 0, none⟩ = some (.slice va L.length vc) := Blk.cell HK5.out 0; have f0' := Blk.frozen HK5.out 0)
   | go_in)
  have HK6 : Hid (Blk (w5.setCell ⟨b, 0, none⟩ (.slice va' (L.length + 1) vc')) b 134 #[.slice va' (L.length + 1) vc', .map (some m)]) := Blk.set HK5.out 0 _
  have HO6 : Hid (Only (BF b m (.slice va L.length vc)) w (w5.setCell ⟨b, 0, none⟩ (.slice va' (L.length + 1) vc'))) := by
   have o1 : Only (BF b m (.slice va L.length vc)) w w4 := (Only.of_below (by rw [HG.out]; exact HB3.out) _).then (HO4.out.mono (fun k e => .inr (.inl e)))
   exact ((o1.alloc _).grown HG5.out (fun k hk => .inl (.inr (.inr hk)))).setCell (p := ⟨b, 0, none⟩) (.inl (.inl rfl)) _
  have HFIN : Hid (BuAt B (w5.setCell ⟨b, 0, none⟩ (.slice va' (L.length + 1) vc')) b m (.slice va' (L.length + 1) vc') (L ++ [s])) := by
   have hob : Only (· = b) w5 (w5.setCell ⟨b, 0, none⟩ (.slice va' (L.length + 1) vc')) := (Only.refl (· = b) w5).setCell (p := ⟨b, 0, none⟩) (.inl rfl) _
   have hmb : m ≠ b := fun e => map_blk_ne HM4.out HK4.out e.symm
   refine ⟨HK6.out, ?_, ?_, u4, u5⟩
   ·have h := own_only HOWN.out hob (fun k hk e => own_blk_ne HOWN.out HK5.out (by decide) (e ▸ hk))
    rw [svals_append, List.length_append]; exact h
   ·have hm5 : StrMap w5 m (L.length + 1) (idsF (L ++ [s])) := by
     rw [idsF_snoc, HIV.out]
     have h4 : StrMap (w4.alloc (.cells #[.string s] 9)) m (L.length + 1) (fun q => if q = s then some idv else idsF L q) := MapFn.later HM4.out ((Below.refl _ _).alloc (Nat.le_refl _) _)
     exact h4.kept HG5.out (fun e => map_row_ne HM4.out HW4.out e.symm)
    rw [List.length_append]
    exact hm5.only hob (fun e => hmb e)
  go_wp2_with fail
  go_ret
  rw [HLY2.out, HIV.out]
  refine ⟨_, rfl, HFIN.out, HO6.out, fun k hk => ?_⟩
  rcases HAT.out with e | e
  ·exact .inl (by rw [← e]; exact hk)
  ·right
   rw [hk] at e
   have e : k = (w4.alloc (.cells #[.string s] 9)).heap.size := by cases e; rfl
   rw [e, World.size_alloc]
   have h1 := HO6.out.size
   have h2 : w.heap.size ≤ w4.heap.size := by
    have := HB3.out.size
    have h3 := HO4.out.size
    exact Nat.le_trans this h3
   exact Nat.le_succ_of_le h2
 ·have e1 : idsF L s = some (Sw.idOf s) := by unfold idsF; rw [hh]; rfl
  rw [e1] at hlk
  simp only [Option.getD_some, Option.isSome_some] at hlk
  have HLY2 : Hid (layS L x = (L, Sw.idOf s)) := by
   show _ = _
   rw [HLY.out, hh]; rfl
  obtain ⟨idv, hidv⟩ : ∃ i, Sw.idOf s = i := ⟨_, rfl⟩
  rw [hidv] at hlk HLY2
  clear hh e1 HLY hidv
  go_wp2_with fail
  go_ret
  rw [HLY2.out]
  exact ⟨_, rfl, HU2.out, Only.of_below (by rw [HG.out]; exact HB2.out) _, fun k hk => .inl hk⟩
end Go.Proofs.YtmpjdoiogbbcoaaGreatDoor
/- Folders laid down: tree. -/
namespace Go.Proofs.YtmpjdoiogbbcoaaGreatDoor
open Go.RowKit Book Pap Ojt Sn
set_option linter.unusedVariables false
set_option linter.unusedSimpArgs false

/-- no name is a file and a folder -/
def FitD : Nat → List Fl → Prop
 | 0, _ => True
 | d + 1, fs => (∀ n, leafs fs n ≠ none → sub n fs = []) ∧ (∀ n, FitD d (sub n fs)) ∧ ∀ n ∈ namesF fs, n.size ≤ 9223372036854775807
theorem layS_len (L : List ByteArray) (x : Ob) : L.length ≤ (layS L x).1.length := by
 unfold layS
 simp only
 split
 ·exact Nat.le_refl _
 ·rw [List.length_append]; omega
theorem nameS_len {rec : List Fl → List ByteArray → List ByteArray × ByteArray} (hr : ∀ fs L, L.length ≤ (rec fs L).1.length) (fs : List Fl) (L : List ByteArray) (n : ByteArray) : L.length ≤ (nameS rec fs L n).1.length := by
 unfold nameS
 split
 ·exact layS_len _ _
 ·exact hr _ _
theorem entsS_len {rec : List Fl → List ByteArray → List ByteArray × ByteArray} (hr : ∀ fs L, L.length ≤ (rec fs L).1.length) (fs : List Fl) : ∀ (ns : List ByteArray) (L : List ByteArray) (E : List Ent), L.length ≤ (entsS rec fs ns L E).1.length
 | [], L, E => Nat.le_refl _
 | n :: r, L, E => Nat.le_trans (nameS_len hr fs L n) (entsS_len hr fs r _ _)
theorem treeS_len : ∀ (d : Nat) (fs : List Fl) (L : List ByteArray), L.length ≤ (treeS d fs L).1.length
 | 0, fs, L => Nat.le_refl _
 | d + 1, fs, L => Nat.le_trans (entsS_len (treeS_len d) fs _ L []) (layS_len _ _)
theorem nameS_leaf {rec : List Fl → List ByteArray → List ByteArray × ByteArray} {fs : List Fl} {L : List ByteArray} {n : ByteArray} (h : sub n fs = []) : nameS rec fs L n = ((layS L (blobOf ((leafs fs n).getD ByteArray.empty))).1, ⟨n, 1, (layS L (blobOf ((leafs fs n).getD ByteArray.empty))).2⟩) := by
 unfold nameS; rw [if_pos h]
theorem nameS_dir {rec : List Fl → List ByteArray → List ByteArray × ByteArray} {fs : List Fl} {L : List ByteArray} {n : ByteArray} (h : sub n fs ≠ []) : nameS rec fs L n = ((rec (sub n fs) L).1, ⟨n, 2, (rec (sub n fs) L).2⟩) := by
 unfold nameS; rw [if_neg h]
theorem BuAt.only {G : Nat → Prop} {B : Nat} {w w' : World} {b m : Nat} {v : Value} {L : List ByteArray} (h : BuAt B w b m v L) (ho : Only G w w') (hb : ¬ G b) (hm : ¬ G m) (hv : ∀ k, v.ownBlock = some k → ¬ G k) : BuAt B w' b m v L :=
 ⟨h.1.only ho hb, own_only h.2.1 ho hv, h.2.2.1.only ho hm, h.2.2.2⟩
theorem putN_len (l : List ByteArray) (y : ByteArray) : (putN l y).length ≤ l.length + 1 := by
 unfold putN
 split
 ·omega
 ·rw [List.length_append, List.length_cons, List.length_take, List.length_drop]; omega
theorem setOf_len : ∀ (l acc : List ByteArray), (l.foldl putN acc).length ≤ acc.length + l.length
 | [], acc => Nat.le_refl _
 | y :: l, acc => by
  have h1 := setOf_len l (putN acc y)
  have h2 := putN_len acc y
  rw [List.foldl_cons, List.length_cons]; omega
theorem namesF_len (fs : List Fl) : (namesF fs).length ≤ fs.length := by
 unfold namesF
 have h1 := setOf_len (fs.filterMap headOf) []
 have h2 := List.length_filterMap_le headOf fs
 simp only [List.length_nil, Nat.zero_add] at h1
 exact Nat.le_trans h1 h2
/-- in a round of tree: the entry's block, the object's, its entries, the builder -/
def TrAt (B b m x0 e0 : Nat) (w2 : World) (v vi : Value) (Li : List ByteArray) (ea : Option Addr) (ec i : Nat) (E : List Ent) (W : World) (cs : Array Value) : Prop :=
 Blk W e0 76 cs ∧ Blk W x0 98 (obCs (treeOf E) (.slice ea i ec) (.slice none 0 0)) ∧ W.ownsRow w2.heap.size 76 3 (.slice ea i ec) i (evals E) ∧ BuAt B W b m vi Li ∧
 Only (fun k => BF b m v k ∨ k = x0) w2 W ∧ (∀ k, vi.ownBlock = some k → (v.ownBlock = some k ∨ w2.heap.size ≤ k) ∧ k ≠ e0) ∧ (∀ k, (Value.slice ea i ec).ownBlock = some k → k ≠ e0) ∧
 (b < x0 ∧ m < x0 ∧ (∀ k, v.ownBlock = some k → k < x0) ∧ x0 < w2.heap.size ∧ w2.heap.size ≤ e0)
theorem own_ne2 {w : World} {B B' : Nat} {e e' : TypeId} {size size' n n' : Nat} {v v' : Value} {xs xs' : List Value} (h : w.ownsRow B e size v n xs) (h' : w.ownsRow B' e' size' v' n' xs') (hne : e ≠ e') {k : Nat} (hk : v.ownBlock = some k) : v'.ownBlock ≠ some k := by
 rcases h.2 with ⟨rfl, _⟩ | ⟨g', cap, cur, rfl, _, hh, _⟩
 ·simp [Value.ownBlock] at hk
 ·have : g' = k := by simpa [Value.ownBlock] using hk
  subst this
  exact own_blk_ne h' (cs := cur) (t := e) hh (fun e => hne e.symm)
theorem TrAt.set {B b m x0 e0 : Nat} {w2 : World} {v vi : Value} {Li : List ByteArray} {ea : Option Addr} {ec i : Nat} {E : List Ent} {W : World} {cs : Array Value} (h : TrAt B b m x0 e0 w2 v vi Li ea ec i E W cs) (j : Nat) (u : Value) :
  TrAt B b m x0 e0 w2 v vi Li ea ec i E (W.setCell ⟨e0, j, none⟩ u) (cs.setIfInBounds j u) := by
 obtain ⟨h1, h2, h3, h4, h5, h6, h7, g1, g2, g3, g4, g5⟩ := h
 have ho : Only (· = e0) W (W.setCell ⟨e0, j, none⟩ u) := (Only.refl (· = e0) W).setCell (p := ⟨e0, j, none⟩) (.inl rfl) _
 exact ⟨h1.set j u, h2.only ho (fun (e : x0 = e0) => by omega), own_only h3 ho (fun k hk e => h7 k hk e), h4.only ho (fun (e : b = e0) => by omega) (fun (e : m = e0) => by omega) (fun k hk e => (h6 k hk).2 e),
  h5.setCell (p := ⟨e0, j, none⟩) (.inr g5) _, h6, h7, g1, g2, g3, g4, g5⟩
theorem TrAt.lay {B b m x0 e0 : Nat} {w2 : World} {v vi : Value} {Li : List ByteArray} {ea : Option Addr} {ec i : Nat} {E : List Ent} {W : World} {cs : Array Value} (h : TrAt B b m x0 e0 w2 v vi Li ea ec i E W cs) {r : List ByteArray × ByteArray} {e : Ending} {W' : World} (o : LayOut B W b m vi r e W') :
  ∃ v', e = .returned (.string r.2) ∧ TrAt B b m x0 e0 w2 v v' r.1 ea ec i E W' cs := by
 obtain ⟨h1, h2, h3, h4, h5, h6, h7, g1, g2, g3, g4, g5⟩ := h
 obtain ⟨v', rfl, hu, ho, hv⟩ := o
 have hx : ¬ BF b m vi x0 := by
  rintro (e | e | e)
  ·omega
  ·omega
  ·rcases (h6 _ e).1 with h | h
   ·have := g3 _ h; omega
   ·omega
 have he : ¬ BF b m vi e0 := by
  rintro (e | e | e)
  ·omega
  ·omega
  ·exact (h6 _ e).2 rfl
 refine ⟨v', rfl, h1.only ho he, h2.only ho hx, own_only h3 ho ?_, hu, h5.trans ho ?_, fun k hk => ?_, h7, g1, g2, g3, g4, g5⟩
 ·rintro k hk (e | e | e)
  ·have := (h3.lt k hk).1; omega
  ·have := (h3.lt k hk).1; omega
  ·exact own_ne2 h3 h4.2.1 (by decide) hk e
 ·rintro k (e | e | e)
  ·exact .inl (.inl (.inl e))
  ·exact .inl (.inl (.inr (.inl e)))
  ·rcases (h6 _ e).1 with h | h
   ·exact .inl (.inl (.inr (.inr h)))
   ·exact .inr h
 ·rcases hv k hk with h | h
  ·exact h6 k h
  ·have h8 := h1.lt
   have h9 := h5.size
   exact ⟨.inr (by omega), by omega⟩
theorem TrAt.app {B b m x0 e0 : Nat} {w2 : World} {v vi : Value} {Li : List ByteArray} {ea : Option Addr} {ec i : Nat} {E : List Ent} {W W2 : World} {cs : Array Value} (h : TrAt B b m x0 e0 w2 v vi Li ea ec i E W cs) (o : Obj) {ea' : Option Addr} {ec' : Nat} {y : Ent}
  (hg : (W.alloc o).grownBy W2 (Value.slice ea i ec).ownBlock) (hr : W2.ownsRow w2.heap.size 76 3 (.slice ea' (i + 1) ec') (i + 1) (evals (E ++ [y]))) (hx : Blk W2 x0 98 (obCs (treeOf E) (.slice ea i ec) (.slice none 0 0))) :
  Blk (W2.setCell ⟨x0, 2, none⟩ (.slice ea' (i + 1) ec')) x0 98 (obCs (treeOf (E ++ [y])) (.slice ea' (i + 1) ec') (.slice none 0 0)) ∧ (W2.setCell ⟨x0, 2, none⟩ (.slice ea' (i + 1) ec')).ownsRow w2.heap.size 76 3 (.slice ea' (i + 1) ec') (i + 1) (evals (E ++ [y])) ∧
  BuAt B (W2.setCell ⟨x0, 2, none⟩ (.slice ea' (i + 1) ec')) b m vi Li ∧ Only (fun k => BF b m v k ∨ k = x0) w2 (W2.setCell ⟨x0, 2, none⟩ (.slice ea' (i + 1) ec')) ∧ ∀ k, vi.ownBlock = some k → v.ownBlock = some k ∨ w2.heap.size ≤ k := by
 obtain ⟨h1, h2, h3, h4, h5, h6, h7, g1, g2, g3, g4, g5⟩ := h
 have ho : Only (· = x0) W2 (W2.setCell ⟨x0, 2, none⟩ (.slice ea' (i + 1) ec')) := (Only.refl (· = x0) W2).setCell (p := ⟨x0, 2, none⟩) (.inl rfl) _
 have hg' : Only (fun k => (Value.slice ea i ec).ownBlock = some k) W W2 := ((Only.refl _ _).alloc o).grown hg (fun k hk => .inl hk)
 have hxv : ∀ k, vi.ownBlock = some k → k ≠ x0 := fun k hk e => by
  subst e
  rcases (h6 _ hk).1 with h | h
  ·have := g3 _ h; omega
  ·omega
 refine ⟨?_, own_only hr ho (fun k hk e => own_blk_ne hr hx (by decide) (by rw [hk]; exact congrArg some e)), (h4.only hg' (own_blk_ne h3 h4.1 (by decide)) (map_row_ne h4.2.2.1 h3) (fun k hk e => own_ne2 h3 h4.2.1 (by decide) e hk)).only ho (fun (e : b = x0) => by omega) (fun (e : m = x0) => by omega) (fun k hk e => hxv k hk e), ?_, fun k hk => (h6 k hk).1⟩
 ·have := hx.set 2 (.slice ea' (i + 1) ec')
  show Blk _ _ _ _
  simpa [obCs, treeOf] using this
 ·exact (((h5.alloc o).grown hg (fun k hk => .inr (h3.lt k hk).1))).setCell (p := ⟨x0, 2, none⟩) (.inl (.inr rfl)) _
set_option maxRecDepth 100000 in
set_option maxHeartbeats 16000000 in
theorem tree_any (B b m : Nat) : ∀ (d : Nat) (fs : List Fl) (F : Nat → Prop) (bf : Nat) (L : List ByteArray) (v : Value) (w : World),
  FoAt d w F bf fs → FitD d fs → fs.length ≤ 1000 → BuAt B w b m v L → (∀ k, F k → ¬ BF b m v k) → B ≤ w.heap.size → (treeS d fs L).1.length ≤ 100000 →
  Calls Tryz.prog 101 #[.pointer (some ⟨b, 0, none⟩), .pointer (some ⟨bf, 0, none⟩)] w (LayOut B w b m v (treeS d fs L)) := by
 intro d
 induction d with
 | zero => intro fs F bf L v w h; exact h.elim
 | succ d ih =>
  intro fs F bf L v w hF hfit hfl hU hsep hBw hfin
  have IH := hid ih
  clear ih
  obtain ⟨i0, hi0, hz0, hz1, hz2⟩ := info_parts Tryz.infoEnt
  have HF := hid hF; have HFT := hid hfit; have HU := hid hU; have HSEP := hid hsep
  have HTR : Hid (treeS (d + 1) fs L = layS (entsS (treeS d) fs (namesF fs) L []).1 (treeOf (entsS (treeS d) fs (namesF fs) L []).2)) := rfl
  have HEL : Hid ((entsS (treeS d) fs (namesF fs) L []).1.length ≤ 100000) := Nat.le_trans (layS_len _ _) hfin
  have hbl : b < w.heap.size := Blk.lt hU.1
  have hml : m < w.heap.size := hU.2.2.1.lt
  have HVL : Hid (∀ k, v.ownBlock = some k → k < w.heap.size) := fun k hk => own_lt hU.2.1 hk
  have hBb := hU.2.2.2.1
  have hBm := hU.2.2.2.2
  have HX1 : Hid (Blk (w.alloc (.cells (obCs (treeOf []) (.slice none 0 0) (.slice none 0 0)) 98)) w.heap.size 98 (obCs (treeOf []) (.slice none 0 0) (.slice none 0 0))) := Blk.new w _ _
  have HL1 : Hid (Below w.heap.size w (w.alloc (.cells (obCs (treeOf []) (.slice none 0 0) (.slice none 0 0)) 98))) := (Below.refl _ _).alloc (Nat.le_refl _) _
  have e0 : obCs (treeOf []) (.slice none 0 0) (.slice none 0 0) = #[.int .i64 2, .string ⟨#[]⟩, .slice none 0 0, .string ⟨#[]⟩, .slice none 0 0, .int .i64 0, .string ⟨#[]⟩] := rfl
  rw [e0] at HX1 HL1
  clear e0 hF hfit hU hsep hfin
  go_enter Tryz.func101, Tryz.ntmps101
  go_upto_region 2 with fail
  obtain ⟨x0, hx0⟩ : ∃ g, w.heap.size = g := ⟨_, rfl⟩
  have HX0 := hid hx0
  rw [hx0] at HX1 HL1 HVL hbl hml hBw ⊢
  clear hx0
  generalize (w.alloc (.cells #[.int .i64 2, .string ⟨#[]⟩, .slice none 0 0, .string ⟨#[]⟩, .slice none 0 0, .int .i64 0, .string ⟨#[]⟩] 98)) = w1 at HX1 HL1 ⊢
  have hx1 := Blk.lt HX1.out
  have HNM := hid (names_any d bf fs F w1 (HF.out.only (Only.of_below (by rw [HX0.out]; exact HL1.out) NoF) (fun _ _ e => e)) HFT.out.1 hfl)
  go_wp2_with fail
  refine HNM.out.mono ?_; rintro e w2 ⟨na, nn, nc, rfl, hst, hb2, hfr, hnc⟩
  have HX2 : Hid (Blk w2 x0 98 (obCs (treeOf []) (.slice none 0 0) (.slice none 0 0))) := (hb2.block x0 hx1).trans HX1.out
  have HL2 : Hid (Below x0 w w2) := HL1.out.trans (hb2.mono (Nat.le_of_lt hx1))
  have HST := hid hst; have HFR := hid hfr
  have HNN := hid hst.1
  have hnn63 := hst.2.1
  have hsz2 : x0 < w2.heap.size := Nat.lt_of_lt_of_le hx1 hb2.size
  have hx1' : x0 + 1 ≤ w1.heap.size := hx1
  clear hst hb2 hfr HNM HX1 HL1 hnc
  have HNZ : Hid (∀ k, (Value.slice na nn nc).ownBlock = some k → k < w2.heap.size → ¬ (BF b m v k ∨ k = x0)) := fun k hk hl hf => by
   have h1 := HFR.out k hk
   rcases hf with (hf | hf | hf) | hf
   ·omega
   ·omega
   ·have := HVL.out k hf; omega
   ·omega
  go_wp2_with fail
  go_loopw [14] (fun iv wr => ∃ (i : Nat) (vi : Value) (Li : List ByteArray) (E : List Ent) (ea : Option Addr) (ec : Nat), i ≤ nn ∧ iv = .int .i64 i ∧ Hid (E.length = i) ∧ Hid (Blk wr x0 98 (obCs (treeOf E) (.slice ea i ec) (.slice none 0 0))) ∧ Hid (wr.ownsRow w2.heap.size 76 3 (.slice ea i ec) i (evals E)) ∧ Hid (BuAt B wr b m vi Li) ∧ Hid (Only (fun k => BF b m v k ∨ k = x0) w2 wr) ∧ Hid (∀ k, vi.ownBlock = some k → v.ownBlock = some k ∨ w2.heap.size ≤ k) ∧ Hid (entsS (treeS d) fs (namesF fs) L [] = entsS (treeS d) fs ((namesF fs).drop i) Li E)) (fun iv _ => nn - (intOf iv).toNat)
  case atStart => exact ⟨0, v, L, [], none, 0, Nat.zero_le _, rfl, rfl, HX2, World.ownsRow_nil _ _ _ _, (HU.out.below (by rw [HX0.out]; exact HL2.out)), Only.refl _ _, fun k hk => .inl hk, rfl⟩
  case round =>
   obtain ⟨i, vi, Li, E, ea, ec, hi, rfl, HEL2, HXr, HER, HUr, HO2, HV, HE⟩ := hrel
   have hszr := HO2.out.size
   have HOW : Hid (∀ W, Only (fun k => BF b m v k ∨ k = x0) w2 W → Only (BF b m v) w W) := fun W hO => (Only.of_below (by rw [HX0.out]; exact HL2.out) _).trans hO (fun k hk => hk.imp (fun e => e) (fun e => by rw [HX0.out]; omega))
   have HVI : Hid (∀ k, vi.ownBlock = some k → k < wr.heap.size) := fun k hk => own_lt HUr.out.2.1 hk
   by_cases hlt : i < nn
   ·have ci : (i : Int) < nn := by omega
    have ci0 : (0 : Int) ≤ (i : Int) := by omega
    have hstr : StrsAt wr na nn (namesF fs) := StrsAt.only (c := nc) HST.out HO2.out HNZ.out
    obtain ⟨-, -, h3⟩ := hstr
    obtain ⟨nb, noff, rfl, hcell⟩ := h3.resolve_left (by omega)
    have q0 := hcell i hlt
    have hil : i < (namesF fs).length := by rw [HNN.out]; exact hlt
    have hmem : (namesF fs).getD i ByteArray.empty ∈ namesF fs := by rw [List.getD_eq_getElem?_getD, List.getElem?_eq_getElem hil]; exact List.getElem_mem hil
    have HT : Hid ((namesF fs).drop i = (namesF fs).getD i ByteArray.empty :: (namesF fs).drop (i + 1)) := by
     show _ = _
     rw [List.drop_eq_getElem_cons hil, List.getD_eq_getElem?_getD, List.getElem?_eq_getElem hil]; rfl
    obtain ⟨n, hns⟩ : ∃ z, (namesF fs).getD i ByteArray.empty = z := ⟨_, rfl⟩
    rw [hns] at q0 HT hmem
    have hnz : n.size ≤ maxLen := HFT.out.2.2 n hmem
    have HE1 : Hid (entsS (treeS d) fs (namesF fs) L [] = entsS (treeS d) fs ((namesF fs).drop (i + 1)) (nameS (treeS d) fs Li n).1 (E ++ [(nameS (treeS d) fs Li n).2])) := by
     show _ = _
     rw [HE.out, HT.out]; rfl
    have HNL : Hid ((nameS (treeS d) fs Li n).1.length ≤ 100000) := by
     have h1 := HEL.out
     rw [HE1.out] at h1
     exact Nat.le_trans (entsS_len (treeS_len d) fs _ _ _) h1
    clear hns HT hmem h3 hcell HE hil
    go_upto_region 5 with fail
    obtain ⟨e0, he0⟩ : ∃ e, wr.heap.size = e := ⟨_, rfl⟩
    have HE0 := hid he0
    have HN1 : Hid (Blk (wr.alloc (.cells #[.string n, .int .i64 2, .string ⟨#[]⟩] 76)) e0 76 #[.string n, .int .i64 2, .string ⟨#[]⟩]) := by
     have := Blk.new wr 76 #[.string n, .int .i64 2, .string ⟨#[]⟩]; rw [he0] at this; exact this
    have HX1 : Hid (Blk (wr.alloc (.cells #[.string n, .int .i64 2, .string ⟨#[]⟩] 76)) x0 98 (obCs (treeOf E) (.slice ea i ec) (.slice none 0 0))) := HXr.out.alloc _
    have HER1 : Hid ((wr.alloc (.cells #[.string n, .int .i64 2, .string ⟨#[]⟩] 76)).ownsRow w2.heap.size 76 3 (.slice ea i ec) i (evals E)) := HER.out.alloc _
    have HU1 : Hid (BuAt B (wr.alloc (.cells #[.string n, .int .i64 2, .string ⟨#[]⟩] 76)) b m vi Li) := HUr.out.below ((Below.refl _ _).alloc (Nat.le_refl _) _)
    have HO1 : Hid (Only (fun k => BF b m v k ∨ k = x0) w2 (wr.alloc (.cells #[.string n, .int .i64 2, .string ⟨#[]⟩] 76))) := HO2.out.alloc _
    have hz1 : (wr.alloc (.cells #[.string n, .int .i64 2, .string ⟨#[]⟩] 76)).heap.size = e0 + 1 := by rw [World.size_alloc, he0]
    rw [he0] at HVI hszr
    have HERL0 : Hid (∀ k, (Value.slice ea i ec).ownBlock = some k → k ≠ e0) := fun k hk => by
     have h := (HER.out.lt k hk).2
     omega
    clear HXr HER HUr HO2 he0
    obtain ⟨we, hwe⟩ : ∃ we, (wr.alloc (.cells #[.string n, .int .i64 2, .string ⟨#[]⟩] 76)) = we := ⟨_, rfl⟩
    rw [hwe] at HN1 HX1 HER1 HU1 HO1 hz1
    have HWE := hid hwe
    have HZ1 := hid hz1
    clear hz1
    have HFO := hid (HF.out.only (HOW.out we HO1.out) HSEP.out)
    obtain ⟨mf, md, N, kid, KF, h1, h2, h3, h4, h5, ⟨hFb, hFf, hFd⟩, h6, h7, h8, h9⟩ := HFO.out
    have kb1 : we.cell? ⟨bf, 1, none⟩ = some (.map (some md)) := Blk.cell h1 1
    have hlk := ptrMap_get1 h3 n hnz
    have hgv : ((kid n).map some).getD none = kid n := by cases kid n <;> rfl
    rw [hgv] at hlk
    have H1 := hid h1; have H2 := hid h2; have H7 := hid (h7 n); have H8 := hid (h8 n)
    clear h1 h2 h3 h4 h5 h6 h7 h8 h9 hgv HFO
    rw [← hwe] at kb1 hlk
    clear hwe q0
    obtain ⟨kn, hkn⟩ : ∃ z, kid n = z := ⟨_, rfl⟩
    rw [hkn] at hlk
    have H78 : Hid ((kn = none ↔ sub n fs = []) ∧ ∀ c, kn = some c → FoAt d we (KF n) c (sub n fs) ∧ ∀ k, KF n k → F k) := ⟨by rw [← hkn]; exact H7.out, fun c hc => ⟨(H8.out c (hkn.trans hc)).1, fun k hk => ((H8.out c (hkn.trans hc)).2 k hk).1⟩⟩
    clear H7 H8 hkn
    have HLF := hid (H2.out)
    clear H2
    have HERL : Hid (∀ k, (Value.slice ea i ec).ownBlock = some k → k ≠ e0) := HERL0
    clear HERL0
    go_upto_region 7 with fail
    rw [HWE.out, HE0.out]
    go_cut [27] (fun s27 wx => s27 = .bool kn.isSome ∧ we = wx)
    case first =>
     cases kn with
     | none =>
      rw [show valP none = .pointer none from rfl]
      go_wp2_with fail
      go_meet
      case rel => exact ⟨rfl, rfl⟩
     | some c0 =>
      rw [show valP (some c0) = .pointer (some ⟨c0, 0, none⟩) from rfl]
      go_wp2_with fail
      go_meet
      case rel => exact ⟨rfl, rfl⟩
    case rest =>
    obtain ⟨rfl, rfl⟩ := hcut
    go_upto_if 27 with fail
    have hbx : b < x0 := hbl
    have hmx : m < x0 := hml
    have HTA : Hid (TrAt B b m x0 e0 w2 v vi Li ea ec i E we #[.string n, .int .i64 2, .string ⟨#[]⟩]) :=
     ⟨HN1.out, HX1.out, HER1.out, HU1.out, HO1.out, fun k hk => ⟨HV.out k hk, by have := HVI.out k hk; omega⟩, HERL.out, hbx, hmx, HVL.out, hsz2, hszr⟩
    go_cut [8] (fun s8 wx => s8 = .pointer (some ⟨e0, 0, none⟩) ∧ ∃ (v1 : Value) (L1 : List ByteArray) (kd : Int) (id : ByteArray), Hid (nameS (treeS d) fs Li n = (L1, ⟨n, kd, id⟩)) ∧ Hid (TrAt B b m x0 e0 w2 v v1 L1 ea ec i E wx #[.string n, .int .i64 kd, .string id]))
    case first =>
     clear kb1 HER1 HU1 HO1 HX1 HN1
     cases kn with
     | some c0 =>
      rw [show valP (some c0) = .pointer (some ⟨c0, 0, none⟩) from rfl]
      have hsn : sub n fs ≠ [] := fun e => by have := H78.out.1.2 e; cases this
      have hlen := HNL.out
      rw [nameS_dir hsn] at hlen
      have HC : Hid (Calls Tryz.prog 101 #[.pointer (some ⟨b, 0, none⟩), .pointer (some ⟨c0, 0, none⟩)] we (LayOut B we b m vi (treeS d (sub n fs) Li))) :=
       IH.out (sub n fs) (KF n) c0 Li vi we (H78.out.2 c0 rfl).1 (HFT.out.2.1 n) (Nat.le_trans (List.length_filterMap_le _ _) hfl) HTA.out.2.2.2.1 (fun k hk hb => by
        have hF := (H78.out.2 c0 rfl).2 k hk
        have hl := HF.out.lt k hF
        rcases hb with e | e | e
        ·exact HSEP.out k hF (.inl e)
        ·exact HSEP.out k hF (.inr (.inl e))
        ·rcases HV.out k e with h | h
         ·exact HSEP.out k hF (.inr (.inr h))
         ·have := HX0.out; omega) (by have := HZ1.out; omega) hlen
      have HNM1 := hid (nameS_dir (rec := treeS d) (L := Li) hsn)
      clear hlen hsn hlk
      go_wp2_with fail
      refine HC.out.mono ?_; rintro e w3 ho3
      obtain ⟨v3, rfl, ht3⟩ := HTA.out.lay ho3
      have HT3 := hid ht3
      have k2 : w3.cell? ⟨e0, 2, none⟩ = some (.string ⟨#[]⟩) := Blk.cell ht3.1 2
      have f2 := Blk.frozen ht3.1 2
      clear ho3 ht3 HC
      go_wp2_with fail
      go_meet
      case rel => exact ⟨rfl, _, _, _, _, HNM1, HT3.out.set 2 _⟩
     | none =>
      have hsn : sub n fs = [] := H78.out.1.1 rfl
      have hlen := HNL.out
      rw [nameS_leaf hsn] at hlen
      have HNM1 := hid (nameS_leaf (rec := treeS d) (L := Li) hsn)
      obtain ⟨tx, htx⟩ : ∃ t, (leafs fs n).getD ByteArray.empty = t := ⟨_, rfl⟩
      rw [htx] at hlen HNM1
      have hta := HTA.out.set 1 (.int .i64 1)
      have HT1 : Hid (TrAt B b m x0 e0 w2 v vi Li ea ec i E (we.setCell ⟨e0, 1, none⟩ (.int .i64 1)) #[.string n, .int .i64 1, .string ⟨#[]⟩]) := by
       show TrAt _ _ _ _ _ _ _ _ _ _ _ _ _ _ _
       simpa using hta
      have ho1 : Only (· = e0) we (we.setCell ⟨e0, 1, none⟩ (.int .i64 1)) := (Only.refl (· = e0) we).setCell (p := ⟨e0, 1, none⟩) (.inl rfl) _
      have hbf0 : bf < e0 := by have := HF.out.lt bf hFb; have := HX0.out; omega
      have hmf0 : mf < e0 := by have := HF.out.lt mf hFf; have := HX0.out; omega
      have k0 : (we.setCell ⟨e0, 1, none⟩ (.int .i64 1)).cell? ⟨bf, 0, none⟩ = some (.map (some mf)) := Blk.cell (H1.out.only ho1 (fun (e : bf = e0) => by omega)) 0
      have hlk2 := strMap_get1 (HLF.out.only ho1 (fun (e : mf = e0) => by omega)) n hnz
      have e1 : (leafs fs n).getD ⟨#[]⟩ = tx := htx
      rw [e1] at hlk2
      have k1 : we.cell? ⟨e0, 1, none⟩ = some (.int .i64 2) := Blk.cell HTA.out.1 1
      have f1 := Blk.frozen HTA.out.1 1
      have HLA : Hid (Calls Tryz.prog 57 #[.pointer (some ⟨b, 0, none⟩), .agg #[.int .i64 1, .string tx, .slice none 0 0, .string ⟨#[]⟩, .slice none 0 0, .int .i64 0, .string ⟨#[]⟩]] (we.setCell ⟨e0, 1, none⟩ (.int .i64 1)) (LayOut B (we.setCell ⟨e0, 1, none⟩ (.int .i64 1)) b m vi (layS Li (blobOf tx)))) :=
       lay_any B b m vi Li (blobOf tx) (.slice none 0 0) (.slice none 0 0) _ HT1.out.2.2.2.1 ⟨none, 0, 0, none, 0, 0, rfl, ⟨rfl, by omega, .inl rfl⟩, rfl, ⟨rfl, by omega, .inl rfl⟩⟩ ⟨by show (-9223372036854775808 : Int) ≤ 1 ∧ (1 : Int) ≤ _; omega, by show (-9223372036854775808 : Int) ≤ 0 ∧ (0 : Int) ≤ _; omega, Nat.zero_le _⟩ (fun a n c e => by cases e; exact Nat.le_refl _) (Nat.le_trans (layS_len _ _) hlen)
      clear hta ho1 htx e1 hlen
      go_wp2_with fail
      refine HLA.out.mono ?_; rintro e w3 ho3
      obtain ⟨v3, rfl, ht3⟩ := HT1.out.lay ho3
      have HT3 := hid ht3
      have k2 : w3.cell? ⟨e0, 2, none⟩ = some (.string ⟨#[]⟩) := Blk.cell ht3.1 2
      have f2 := Blk.frozen ht3.1 2
      clear ho3 ht3 HLA k0 k1 f1 hlk hlk2
      go_wp2_with fail
      go_meet
      case rel => exact ⟨rfl, _, _, _, _, HNM1, HT3.out.set 2 _⟩
    case rest =>
     obtain ⟨rfl, v1, L1, kd, id, HNM, HTB⟩ := hcut
     clear kb1 HER1 HU1 HO1 HX1 HN1 HTA hlk H78 HLF H1 HWE HZ1 HE0
     have hsw : w2.heap.size ≤ wc.heap.size := HTB.out.2.2.2.2.1.size
     have c0 : wc.cell? ⟨e0, 0, none⟩ = some (.string n) := Blk.cell HTB.out.1 0
     have c1 : wc.cell? ⟨e0, 1, none⟩ = some (.int .i64 kd) := Blk.cell HTB.out.1 1
     have c2 : wc.cell? ⟨e0, 2, none⟩ = some (.string id) := Blk.cell HTB.out.1 2
     have kx : wc.cell? ⟨x0, 2, none⟩ = some (.slice ea i ec) := Blk.cell HTB.out.2.1 2
     have him : i < 1000000 := by
      have h1 := HNN.out
      have h2 := namesF_len fs
      omega
     go_wp2_with (first
      | (at_builtin; refine wpList_append_own_at _ rfl (.tmp 44) (.tmp 46) 83 rfl w2.heap.size 76 i0 (.agg #[.string ⟨#[]⟩, .int .i64 0, .string ⟨#[]⟩]) 3 40 Tryz.underlying83 hi0 hz0 hz1 hz2 rfl (by decide) (.slice ea i ec) _ _ rfl (HTB.out.2.2.1.alloc _) ⟨wc.heap.size, 0, none⟩ 1 1 [.string n, .int .i64 kd, .string id] rfl rfl (cellNew3 _ _ _ _ _) (one3 rfl rfl rfl) (by unfold maxLen; omega) (by omega) (by rw [World.size_alloc]; omega) ?_; intro v' w5 hown' hg5 _ hat5; obtain ⟨va', vc', hvv', hvc'⟩ := own_slice' hown'; subst hvv'; have HOWN := hid hown'; have HG5 := hid hg5; clear hown' hg5 hat5; have HK5 : Hid (Blk w5 x0 98 (obCs (treeOf E) (.slice ea i ec) (.slice none 0 0))) := (HTB.out.2.1.alloc _).grown HG5.out (fun e => own_blk_ne HTB.out.2.2.1 HTB.out.2.1 (by decide) e.symm); have q0' : w5.cell? ⟨x0, 2, none⟩ = some (.slice ea i ec) := Blk.cell HK5.out 2; have f0' := Blk.frozen HK5.out 2)
      | go_in)
     have hgr : (wc.alloc (.cells #[.string n, .int .i64 kd, .string id] 76)).grownBy w5 (Value.slice ea i ec).ownBlock := HG5.out
     have hrow : w5.ownsRow w2.heap.size 76 3 (.slice va' (i + 1) vc') (i + 1) (evals (E ++ [⟨n, kd, id⟩])) := by
      have h := HOWN.out
      rw [evals_append]; exact h
     obtain ⟨r1, r2, r3, r4, r5⟩ := HTB.out.app _ hgr hrow HK5.out
     have HE3 : Hid (entsS (treeS d) fs (namesF fs) L [] = entsS (treeS d) fs ((namesF fs).drop (i + 1)) L1 (E ++ [⟨n, kd, id⟩])) := by
      have h := HE1.out
      rw [HNM.out] at h
      exact h
     have HEL3 : Hid ((E ++ [(⟨n, kd, id⟩ : Ent)]).length = i + 1) := by show _ = _; rw [List.length_append, HEL2.out]; rfl
     refine ⟨⟨i + 1, v1, L1, E ++ [⟨n, kd, id⟩], va', vc', by omega, by go_num, HEL3, hid r1, hid r2, hid r3, hid r4, hid r5, HE3⟩, ?_⟩
     simp [intOf]; omega
   ·obtain rfl : i = nn := by omega
    have HFI : Hid (entsS (treeS d) fs (namesF fs) L [] = (Li, E)) := by
     have h := HE.out
     rw [List.drop_eq_nil_of_le (by rw [HNN.out]; exact Nat.le_refl _)] at h
     exact h
    have ci : ¬ (i : Int) < i := by omega
    have hsw : w2.heap.size ≤ wr.heap.size := hszr
    have HX0r := HXr
    have k0 : wr.cell? ⟨x0, 0, none⟩ = some (.int .i64 2) := Blk.cell HXr.out 0
    have k1 : wr.cell? ⟨x0, 1, none⟩ = some (.string ⟨#[]⟩) := Blk.cell HXr.out 1
    have k2 : wr.cell? ⟨x0, 2, none⟩ = some (.slice ea i ec) := Blk.cell HXr.out 2
    have k3 : wr.cell? ⟨x0, 3, none⟩ = some (.string ⟨#[]⟩) := Blk.cell HXr.out 3
    have k4 : wr.cell? ⟨x0, 4, none⟩ = some (.slice none 0 0) := Blk.cell HXr.out 4
    have k5 : wr.cell? ⟨x0, 5, none⟩ = some (.int .i64 0) := Blk.cell HXr.out 5
    have k6 : wr.cell? ⟨x0, 6, none⟩ = some (.string ⟨#[]⟩) := Blk.cell HXr.out 6
    have hlen : Li.length ≤ 100000 := by have h := HEL.out; rw [HFI.out] at h; exact h
    have hE1 : E.length = i := HEL2.out
    have hi6 : i ≤ 1000 := by
     have h1 := HNN.out
     have h2 := namesF_len fs
     omega
    have hent : EntsAt wr ea i E := by
     have h : wr.ownsRow w2.heap.size 76 3 (.slice ea i ec) E.length (evals E) := by rw [hE1]; exact HER.out
     obtain ⟨a, c, e, h⟩ := own_ents h (by omega)
     rw [hE1] at e h
     cases e; exact h
    have hec : i ≤ ec := by
     have h := own_slice' HER.out
     obtain ⟨a, c, e, h⟩ := h
     cases e; exact h
    have HLA : Hid (Calls Tryz.prog 57 #[.pointer (some ⟨b, 0, none⟩), .agg #[.int .i64 2, .string ⟨#[]⟩, .slice ea i ec, .string ⟨#[]⟩, .slice none 0 0, .int .i64 0, .string ⟨#[]⟩]] wr (LayOut B wr b m vi (layS Li (treeOf E)))) :=
     lay_any B b m vi Li (treeOf E) (.slice ea i ec) (.slice none 0 0) _ HUr.out ⟨ea, i, ec, none, 0, 0, rfl, hent, rfl, ⟨rfl, by omega, .inl rfl⟩⟩ ⟨by show (-9223372036854775808 : Int) ≤ 2 ∧ (2 : Int) ≤ _; omega, by show (-9223372036854775808 : Int) ≤ 0 ∧ (0 : Int) ≤ _; omega, by show E.length ≤ _; omega⟩ (fun a n c e => by cases e; exact Nat.le_refl _) hlen
    have HT2 : Hid (treeS (d + 1) fs L = layS Li (treeOf E)) := by
     show _ = _
     rw [HTR.out, HFI.out]
    clear hent hE1 hec hlen HX0r
    go_wp2_with fail
    refine HLA.out.mono ?_; rintro e w9 ⟨v9, rfl, hu9, ho9, hv9⟩
    have HU9 := hid hu9; have HO9 := hid ho9; have HV9 := hid hv9
    clear hu9 ho9 hv9 HLA
    go_wp2_with fail
    go_ret
    rw [HT2.out]
    refine ⟨_, rfl, HU9.out, (HOW.out _ HO2.out).trans HO9.out ?_, fun k hk => ?_⟩
    ·rintro k (e | e | e)
     ·exact .inl (.inl e)
     ·exact .inl (.inr (.inl e))
     ·rcases HV.out k e with h | h
      ·exact .inl (.inr (.inr h))
      ·right; have := HX0.out; omega
    ·have hx := HX0.out
     rcases HV9.out k hk with h | h
     ·rcases HV.out k h with h | h
      ·exact .inl h
      ·right; omega
     ·right; omega
end Go.Proofs.YtmpjdoiogbbcoaaGreatDoor
/- Folders laid down: no name is a file and a folder; how many objects there are (plain). -/
namespace Go.Proofs.YtmpjdoiogbbcoaaGreatDoor
open Go.RowKit Book Pap Ojt Sn
set_option linter.unusedVariables false
set_option linter.unusedSimpArgs false

/-- no file's names stand ahead of another one's -/
def Off (x y : List ByteArray) : Prop := ¬ x <+: y ∧ ¬ y <+: x
def AptL (fs : List Fl) : Prop := (∀ f ∈ fs, f.1 ≠ []) ∧ fs.Pairwise (fun f g => Off f.1 g.1)
theorem pw_mem {α : Type} {R : α → α → Prop} (hs : ∀ a b, R a b → R b a) : ∀ {l : List α}, l.Pairwise R → ∀ {a b : α}, a ∈ l → b ∈ l → a ≠ b → R a b
 | [], _, _, _, h, _, _ => by cases h
 | x :: l, hp, a, b, ha, hb, hne => by
  obtain ⟨h1, h2⟩ := List.pairwise_cons.1 hp
  rcases List.mem_cons.1 ha with ea | ha'
  ·rcases List.mem_cons.1 hb with eb | hb'
   ·exact absurd (ea.trans eb.symm) hne
   ·rw [ea]; exact h1 b hb'
  ·rcases List.mem_cons.1 hb with eb | hb'
   ·rw [eb]; exact hs _ _ (h1 a ha')
   ·exact pw_mem hs h2 ha' hb' hne
theorem subOf_some {n : ByteArray} {f g : Fl} (h : subOf n f = some g) : f.1 = n :: g.1 ∧ g.1 ≠ [] ∧ f.2 = g.2 := by
 obtain ⟨l, d⟩ := f
 rcases l with _ | ⟨a, _ | ⟨b, r⟩⟩
 ·simp [subOf] at h
 ·simp [subOf] at h
 ·simp only [subOf] at h
  split at h
  ·rename_i e; subst e; cases h; exact ⟨rfl, by simp, rfl⟩
  ·cases h
theorem mem_sub {n : ByteArray} {fs : List Fl} {g : Fl} (h : g ∈ sub n fs) : ∃ f ∈ fs, f.1 = n :: g.1 ∧ g.1 ≠ [] ∧ f.2 = g.2 := by
 obtain ⟨f, hf, he⟩ := List.mem_filterMap.1 h
 exact ⟨f, hf, subOf_some he⟩
theorem leafs_some : ∀ (fs : List Fl) (n : ByteArray), leafs fs n ≠ none → ∃ f ∈ fs, f.1 = [n] := by
 intro fs n
 unfold leafs
 suffices h : ∀ (l : List Fl) (g : Option ByteArray), l.foldl (fun g f => if f.1 = [n] then some f.2 else g) g ≠ none → g ≠ none ∨ ∃ f ∈ l, f.1 = [n] by
  intro h1
  rcases h fs none h1 with h | h
  ·exact absurd rfl h
  ·exact h
 intro l
 induction l with
 | nil => intro g h; exact .inl h
 | cons f r ih =>
  intro g h
  rw [List.foldl_cons] at h
  rcases ih _ h with h1 | ⟨q, hq, he⟩
  ·by_cases hf : f.1 = [n]
   ·exact .inr ⟨f, List.mem_cons_self .., hf⟩
   ·rw [if_neg hf] at h1; exact .inl h1
  ·exact .inr ⟨q, List.mem_cons_of_mem _ hq, he⟩
theorem AptL.sub {fs : List Fl} (h : AptL fs) (n : ByteArray) : AptL (sub n fs) := by
 refine ⟨fun f hf => ?_, ?_⟩
 ·obtain ⟨g, _, _, h2, _⟩ := mem_sub hf; exact h2
 ·unfold Sn.sub
  refine List.Pairwise.filterMap _ (fun a a' hr b hb b' hb' => ?_) h.2
  obtain ⟨e1, -, -⟩ := subOf_some hb
  obtain ⟨e2, -, -⟩ := subOf_some hb'
  rw [e1, e2] at hr
  exact ⟨fun hp => hr.1 (List.cons_prefix_cons.2 ⟨rfl, hp⟩), fun hp => hr.2 (List.cons_prefix_cons.2 ⟨rfl, hp⟩)⟩
theorem AptL.lone {fs : List Fl} (h : AptL fs) (n : ByteArray) (hl : leafs fs n ≠ none) : Sn.sub n fs = [] := by
 obtain ⟨f, hf, he⟩ := leafs_some fs n hl
 cases hs : Sn.sub n fs with
 | nil => rfl
 | cons g r =>
  obtain ⟨q, hq, h1, h2, _⟩ := mem_sub (n := n) (fs := fs) (g := g) (by rw [hs]; exact List.mem_cons_self ..)
  have hne : f ≠ q := fun e => by
   subst e
   rw [he] at h1
   injection h1 with _ h1
   exact h2 h1.symm
  have := pw_mem (R := fun f g : Fl => Off f.1 g.1) (fun a b h => ⟨h.2, h.1⟩) h.2 hf hq hne
  exact absurd (by rw [he, h1]; exact List.cons_prefix_cons.2 ⟨rfl, List.nil_prefix⟩) this.1
theorem mem_names {fs : List Fl} {n : ByteArray} : n ∈ namesF fs ↔ ∃ f ∈ fs, f.1.head? = some n := by
 unfold namesF
 rw [Sw.setOf_mem, List.mem_filterMap]; rfl
theorem fitD_of : ∀ (d : Nat) (fs : List Fl), AptL fs → (∀ f ∈ fs, ∀ n ∈ f.1, n.size ≤ 9223372036854775807) → FitD d fs
 | 0, _, _, _ => trivial
 | d + 1, fs, h, hz => by
  refine ⟨fun n hl => h.lone n hl, fun n => fitD_of d _ (h.sub n) (fun f hf m hm => ?_), fun n hn => ?_⟩
  ·obtain ⟨g, hg, h1, _⟩ := mem_sub hf
   exact hz g hg m (by rw [h1]; exact List.mem_cons_of_mem _ hm)
  ·obtain ⟨f, hf, he⟩ := mem_names.1 hn
   exact hz f hf n (List.mem_of_mem_head? he)
/-! how many -/
def wt (fs : List Fl) : Nat := (fs.map (fun f => f.1.length)).sum
def wn (n : ByteArray) (fs : List Fl) : Nat := (fs.map (fun f => if f.1.head? = some n then f.1.length else 0)).sum
theorem wt_sub (n : ByteArray) : ∀ fs : List Fl, wt (Sn.sub n fs) + (Sn.sub n fs).length ≤ wn n fs
 | [] => Nat.le_refl _
 | f :: r => by
  have ih := wt_sub n r
  unfold Sn.sub at *
  rw [List.filterMap_cons]
  have e : wn n (f :: r) = (if f.1.head? = some n then f.1.length else 0) + wn n r := rfl
  rw [e]
  cases h : subOf n f with
  | none => simp only; omega
  | some g =>
   obtain ⟨h1, -, -⟩ := subOf_some h
   have h2 : f.1.head? = some n := by rw [h1]; rfl
   rw [if_pos h2, h1]
   have e2 : wt (g :: List.filterMap (subOf n) r) = g.1.length + wt (List.filterMap (subOf n) r) := rfl
   simp only [List.length_cons]
   rw [e2]; omega
theorem wn_pos {n : ByteArray} : ∀ {fs : List Fl}, (∃ f ∈ fs, f.1.head? = some n) → 1 ≤ wn n fs
 | [], h => by obtain ⟨f, hf, _⟩ := h; cases hf
 | f :: r, h => by
  have e : wn n (f :: r) = (if f.1.head? = some n then f.1.length else 0) + wn n r := rfl
  rw [e]
  by_cases hf : f.1.head? = some n
  ·rw [if_pos hf]
   have : f.1 ≠ [] := fun e => by rw [e] at hf; cases hf
   have := List.length_pos_iff.2 this
   omega
  ·obtain ⟨q, hq, he⟩ := h
   rcases List.mem_cons.1 hq with rfl | hq
   ·exact absurd he hf
   ·have := wn_pos (fs := r) ⟨q, hq, he⟩; omega
theorem wn_off {n m : ByteArray} (h : m ≠ n) : ∀ fs : List Fl, wn m fs = wn m (fs.filter fun f => decide (f.1.head? ≠ some n))
 | [] => rfl
 | f :: r => by
  have ih := wn_off h r
  have e : wn m (f :: r) = (if f.1.head? = some m then f.1.length else 0) + wn m r := rfl
  rw [e]
  by_cases hf : f.1.head? = some n
  ·rw [List.filter_cons_of_neg (by simp [hf]), if_neg (by rw [hf]; intro e; cases e; exact h rfl), ih]; omega
  ·rw [List.filter_cons_of_pos (by simp [hf]), ih]; rfl
theorem wn_split (n : ByteArray) : ∀ fs : List Fl, wn n fs + wt (fs.filter fun f => decide (f.1.head? ≠ some n)) = wt fs
 | [] => rfl
 | f :: r => by
  have ih := wn_split n r
  have e : wn n (f :: r) = (if f.1.head? = some n then f.1.length else 0) + wn n r := rfl
  have e2 : wt (f :: r) = f.1.length + wt r := rfl
  rw [e, e2]
  by_cases hf : f.1.head? = some n
  ·rw [List.filter_cons_of_neg (by simp [hf]), if_pos hf]; omega
  ·rw [List.filter_cons_of_pos (by simp [hf]), if_neg hf]
   have e3 : ∀ l : List Fl, wt (f :: l) = f.1.length + wt l := fun _ => rfl
   rw [e3]; omega
theorem sum_wn : ∀ (ns : List ByteArray) (fs : List Fl), ns.Nodup → (ns.map (fun n => wn n fs)).sum ≤ wt fs
 | [], fs, _ => Nat.zero_le _
 | n :: r, fs, h => by
  obtain ⟨h1, h2⟩ := List.nodup_cons.1 h
  have ih := sum_wn r (fs.filter fun f => decide (f.1.head? ≠ some n)) h2
  have e : (r.map (fun m => wn m fs)) = r.map (fun m => wn m (fs.filter fun f => decide (f.1.head? ≠ some n))) := by
   apply List.map_congr_left
   intro m hm
   exact wn_off (n := n) (m := m) (fun e => h1 (e ▸ hm)) fs
  rw [List.map_cons, List.sum_cons, e]
  have := wn_split n fs
  omega
theorem layS_le (L : List ByteArray) (x : Ob) : (layS L x).1.length ≤ L.length + 1 := by
 unfold layS
 simp only
 split
 ·omega
 ·rw [List.length_append]; exact Nat.le_refl _
theorem entsS_cnt {rec : List Fl → List ByteArray → List ByteArray × ByteArray} (hr : ∀ fs L, (rec fs L).1.length ≤ L.length + wt fs + 1) (fs : List Fl) : ∀ (ns : List ByteArray) (L : List ByteArray) (E : List Ent), (∀ n ∈ ns, 1 ≤ wn n fs) → (entsS rec fs ns L E).1.length ≤ L.length + (ns.map (fun n => wn n fs)).sum
 | [], L, E, _ => Nat.le_refl _
 | n :: r, L, E, h => by
  have h1 := h n (List.mem_cons_self ..)
  have ih := entsS_cnt hr fs r (nameS rec fs L n).1 (E ++ [(nameS rec fs L n).2]) (fun m hm => h m (List.mem_cons_of_mem _ hm))
  have h2 : (nameS rec fs L n).1.length ≤ L.length + wn n fs := by
   by_cases hs : Sn.sub n fs = []
   ·rw [nameS_leaf hs]
    have := layS_le L (blobOf ((leafs fs n).getD ByteArray.empty))
    simp only; omega
   ·rw [nameS_dir hs]
    have h3 := hr (Sn.sub n fs) L
    have h4 := wt_sub n fs
    have h5 := List.length_pos_iff.2 hs
    simp only; omega
  show (entsS rec fs r _ _).1.length ≤ _
  rw [List.map_cons, List.sum_cons]; omega
theorem namesF_nodup (fs : List Fl) : (namesF fs).Nodup := by
 unfold namesF
 refine List.Pairwise.imp ?_ (Sw.setOf_rising (fs.filterMap headOf))
 intro a b h e
 subst e
 exact absurd h (by simp [lt_irr])
theorem treeS_cnt : ∀ (d : Nat) (fs : List Fl) (L : List ByteArray), (treeS d fs L).1.length ≤ L.length + wt fs + 1
 | 0, fs, L => by show L.length ≤ _; omega
 | d + 1, fs, L => by
  have h1 := entsS_cnt (treeS_cnt d) fs (namesF fs) L [] (fun n hn => wn_pos (mem_names.1 hn))
  have h2 := sum_wn (namesF fs) fs (namesF_nodup fs)
  have h3 := layS_le (entsS (treeS d) fs (namesF fs) L []).1 (treeOf (entsS (treeS d) fs (namesF fs) L []).2)
  show (layS _ _).1.length ≤ _
  omega
/-! files as a folder's -/
def flOf (f : Fi) : Fl := ((pieces f.path.data.toList).map bz, f.data)
theorem wt_le {k : Nat} : ∀ (fs : List Fl), (∀ f ∈ fs, f.1.length ≤ k) → wt fs ≤ fs.length * k
 | [], _ => Nat.zero_le _
 | f :: r, h => by
  have ih := wt_le r (fun g hg => h g (List.mem_cons_of_mem _ hg))
  have h1 := h f (List.mem_cons_self ..)
  have e : wt (f :: r) = f.1.length + wt r := rfl
  rw [e, List.length_cons, Nat.succ_mul]; omega
end Go.Proofs.YtmpjdoiogbbcoaaGreatDoor
/- What stands at a path: Find. -/
namespace Go.Proofs.YtmpjdoiogbbcoaaGreatDoor
open Go.RowKit Book Pap Ojt Sn
set_option linter.unusedVariables false
set_option linter.unusedSimpArgs false

theorem find1_any (nm : ByteArray) (kd : Int) (yd : ByteArray) (n : ByteArray) (bn : Nat) (w : World) (hc : w.cell? ⟨bn, 0, none⟩ = some (.string n)) : Calls Tryz.prog 72 #[.agg #[.string nm, .int .i64 kd, .string yd], .pointer (some ⟨bn, 0, none⟩)] w fun e w' => e = .returned (.bool (decide (nm = n))) ∧ Below w.heap.size w w' := by
 have hB : Below w.heap.size w (w.alloc (.cells #[.string nm, .int .i64 kd, .string yd] 76)) := (Below.refl _ _).alloc (Nat.le_refl _) _
 have hc1 : (w.alloc (.cells #[.string nm, .int .i64 kd, .string yd] 76)).cell? ⟨bn, 0, none⟩ = some (.string n) := (hB.cell (World.block_lt_of_cell? w _ hc)).trans hc
 have hE : (nm.toList == n.toList) = decide (nm = n) := by
  by_cases h : nm = n
  ·subst h; simp
  ·rw [bstr_ne h]; simp [h]
 have HE := hid hE
 have HB := hid hB
 clear hE hB hc
 go_enter Tryz.func72, Tryz.ntmps72
 go_wp2_with fail
 go_ret
 exact ⟨by rw [← HE.out]; rfl, HB.out⟩
/-- the first entry of a name -/
def idxE (l : List Ent) (n : ByteArray) : Int := if l.findIdx (fun e => decide (e.name = n)) < l.length then (l.findIdx (fun e => decide (e.name = n)) : Int) else -1
theorem idxE_hit {l : List Ent} {n : ByteArray} {k : Nat} (hk : k < l.length) (h : ∀ j, j < k → decide ((l.getD j noEnt).name = n) = false) (hp : decide ((l.getD k noEnt).name = n) = true) : idxE l n = (k : Int) := by
 have hg : ∀ j, (hj : j < l.length) → l.getD j noEnt = l[j] := fun j hj => by rw [List.getD_eq_getElem?_getD, List.getElem?_eq_getElem hj]; rfl
 have hf : l.findIdx (fun e => decide (e.name = n)) = k := by
  rw [List.findIdx_eq hk]
  refine ⟨by have := hp; rw [hg k hk] at this; exact this, fun j hj => ?_⟩
  have := h j hj; rw [hg j (by omega)] at this; exact this
 unfold idxE
 rw [hf, if_pos hk]
theorem idxE_miss {l : List Ent} {n : ByteArray} (h : ∀ j, j < l.length → decide ((l.getD j noEnt).name = n) = false) : idxE l n = -1 := by
 unfold idxE
 rw [if_neg]
 intro ha
 have h1 := List.findIdx_getElem (w := ha)
 have h2 := h _ ha
 have hg : l.getD (l.findIdx (fun e => decide (e.name = n))) noEnt = l[l.findIdx (fun e => decide (e.name = n))] := by rw [List.getD_eq_getElem?_getD, List.getElem?_eq_getElem ha]; rfl
 rw [hg] at h2
 rw [h2] at h1
 cases h1
theorem find_idxE (l : List Ent) (n : ByteArray) : l.find? (fun e => decide (e.name = n)) = if 0 ≤ idxE l n then some (l.getD (idxE l n).toNat noEnt) else none := by
 unfold idxE
 by_cases h : l.findIdx (fun e => decide (e.name = n)) < l.length
 ·rw [if_pos h, if_pos (by omega), Int.toNat_natCast, List.find?_eq_getElem?_findIdx, List.getD_eq_getElem?_getD, List.getElem?_eq_getElem h]; rfl
 ·rw [if_neg h, if_neg (by omega), List.find?_eq_none]
  intro x hx
  have := List.findIdx_eq_length.1 (Nat.le_antisymm List.findIdx_le_length (Nat.le_of_not_lt h)) x hx
  simpa using this
set_option maxRecDepth 100000 in
set_option maxHeartbeats 4000000 in
theorem indexE_any (a : Option Addr) (en c bn : Nat) (l : List Ent) (n : ByteArray) (w : World) (hE : EntsAt w a en l) (hbn : w.cell? ⟨bn, 0, none⟩ = some (.string n)) :
  Calls Tryz.prog 71 #[.slice a en c, .func (.func 72) #[] #[.pointer (some ⟨bn, 0, none⟩)]] w fun e w' => e = .returned (.int .i64 (idxE l n)) ∧ Below w.heap.size w w' := by
 have HE := hid hE
 have HL := hid hE.1
 have hm := hE.2.1
 have HBN : Hid (∀ W, Below w.heap.size w W → W.cell? ⟨bn, 0, none⟩ = some (.string n)) := fun W hW => (hW.cell (World.block_lt_of_cell? w _ hbn)).trans hbn
 have eg : ∀ args W, (callFunc 72 args).run Tryz.prog W = .ok (.enter 72 args) W := enters_of Tryz.func72 (by kernel_rfl) rfl
 clear hE hbn
 go_enter Tryz.func71, Tryz.ntmps71
 go_wp2
 go_loopw [8] (fun i wr => ∃ k : Nat, k ≤ en ∧ i = .int .i64 k ∧ Below w.heap.size w wr ∧ Hid (∀ j, j < k → decide ((l.getD j noEnt).name = n) = false)) (fun i _ => en - (intOf i).toNat)
 case atStart => exact ⟨0, by omega, rfl, Below.refl _ _, fun j hj => absurd hj (Nat.not_lt_zero _)⟩
 case round =>
  obtain ⟨k, hk, rfl, hbel, HK⟩ := hrel
  have HLW := hid hbel
  clear hbel
  by_cases hlt : k < en
  ·obtain ⟨-, -, h3⟩ := HE.out.later HLW.out
   obtain ⟨b, off, rfl, hc⟩ := h3.resolve_left (by omega)
   obtain ⟨q0, q1, q2⟩ := hc k hlt
   have ck : (k : Int) < en := by omega
   obtain ⟨z, hz⟩ : ∃ z, l.getD k ⟨ByteArray.empty, 0, ByteArray.empty⟩ = z := ⟨_, rfl⟩
   rw [hz] at q0 q1 q2
   have HZ : Hid (l.getD k noEnt = z) := hz
   obtain ⟨nm, kd, yd⟩ := z
   simp only at q0 q1 q2
   have CS := hid (find1_any nm kd yd n bn wr (HBN.out wr HLW.out))
   clear hz hc h3
   cases hp : decide (nm = n)
   ·have HP : Hid (decide ((l.getD k noEnt).name = n) = false) := by show _ = _; rw [HZ.out]; exact hp
    rw [hp] at CS
    clear hp
    go_wp2_with (first | (go_at_call 72; refine CS.out.mono ?_; rintro e w1 ⟨rfl, hb1⟩))
    go_roundw
    case rel => exact ⟨k + 1, by omega, by go_num, below_then HLW.out hb1, fun j hj => by rcases Nat.lt_or_eq_of_le (Nat.le_of_lt_succ hj) with h | h; exact HK.out j h; subst h; exact HP.out⟩
    case measure => simp [intOf]; omega
   ·have HR : Hid (idxE l n = (k : Int)) := idxE_hit (by rw [HL.out]; exact hlt) HK.out (by rw [HZ.out]; exact hp)
    rw [hp] at CS
    clear hp
    go_wp2_with (first | (go_at_call 72; refine CS.out.mono ?_; rintro e w1 ⟨rfl, hb1⟩))
    go_ret
    exact ⟨ret_int (by rw [HR.out]), below_then HLW.out hb1⟩
  ·have HR : Hid (idxE l n = -1) := idxE_miss (fun j hj => HK.out j (by rw [HL.out] at hj; omega))
   go_wp2
   go_ret
   exact ⟨ret_int (by rw [HR.out]), HLW.out⟩
theorem find_results (tmps : Array Value) (g : Nat) (er : Int) (y : Ent) (w : World) (h2 : tmps.getD 6 undef = .pointer (some ⟨g, 0, none⟩)) (h3 : tmps.getD 7 undef = .int .i64 er) (H : Blk w g 76 #[.string y.name, .int .i64 y.kind, .string y.id]) : (results Tryz.f28 tmps).run Tryz.prog w = .ok (.tuple #[.agg #[.string y.name, .int .i64 y.kind, .string y.id], .int .i64 er]) w := by
 have c0 : w.cell? ⟨g, 0, none⟩ = some (.string y.name) := Blk.cell H 0
 have c1 : w.cell? ⟨g, 1, none⟩ = some (.int .i64 y.kind) := Blk.cell H 1
 have c2 : w.cell? ⟨g, 2, none⟩ = some (.string y.id) := Blk.cell H 2
 have h2' : tmps[6]?.getD undef = .pointer (some ⟨g, 0, none⟩) := by simpa using h2
 have h3' : tmps[7]?.getD undef = .int .i64 er := by simpa using h3
 simp [results, Tryz.results28, go_sem, h2', h3', c0, c1, c2]
def entCs (y : Ent) : Array Value := #[.string y.name, .int .i64 y.kind, .string y.id]
theorem Tryz.infoEntSz (y : Ent) : (Tryz.prog.info? 76).map (·.size) = some (entCs y).size := by
 show _ = some 3
 kernel_rfl
theorem entcs_one (y : Ent) : (entCs y).all (·.oneCell') = true := by simp [entCs, Value.oneCell']
/-- what Find hands back -/
def FindOut (w : World) (r : Ent × Int) (e : Ending) (w' : World) : Prop :=
 e = .returned (.tuple #[.agg (entCs r.1), .int .i64 r.2]) ∧ Below w.heap.size w w'
theorem findF_kind {G : Sw.Src} {n : ByteArray} {r : List ByteArray} {y : Ent} (h : y.kind ≠ 2) : findF G (n :: r) y = (noEnt, 12) := by
 show (if y.kind ≠ 2 then (noEnt, (12 : Int)) else _) = _; rw [if_pos h]
theorem findF_look {G : Sw.Src} {n : ByteArray} {r : List ByteArray} {y : Ent} {x : Ob} {er : Int} (h : y.kind = 2) (hl : lookK G y.id 2 21 = (x, er)) (he : er ≠ 0) : findF G (n :: r) y = (noEnt, er) := by
 show (if y.kind ≠ 2 then (noEnt, (12 : Int)) else if (lookK G y.id 2 21).2 ≠ 0 then (noEnt, (lookK G y.id 2 21).2) else _) = _
 rw [if_neg (by simp [h]), hl, if_pos he]
theorem findF_ok {G : Sw.Src} {n : ByteArray} {r : List ByteArray} {y : Ent} {x : Ob} (h : y.kind = 2) (hl : lookK G y.id 2 21 = (x, 0)) : findF G (n :: r) y = if 0 ≤ idxE x.ents n then findF G r (x.ents.getD (idxE x.ents n).toNat noEnt) else (noEnt, 12) := by
 show (if y.kind ≠ 2 then (noEnt, (12 : Int)) else if (lookK G y.id 2 21).2 ≠ 0 then (noEnt, (lookK G y.id 2 21).2) else match (lookK G y.id 2 21).1.ents.find? (fun e => decide (e.name = n)) with | none => (noEnt, 12) | some e => findF G r e) = _
 rw [if_neg (by simp [h]), hl, if_neg (by simp), find_idxE]
 by_cases hi : 0 ≤ idxE x.ents n
 ·rw [if_pos hi, if_pos hi]
 ·rw [if_neg hi, if_neg hi]
theorem idxE_lt (l : List Ent) (n : ByteArray) : idxE l n < l.length ∧ -1 ≤ idxE l n := by
 unfold idxE; split <;> omega
/-- the names of a path -/
def pathNames (p : ByteArray) : List ByteArray := if p.size = 0 then [] else (pieces p.data.toList).map bz
theorem findS_eq (G : Sw.Src) (id p : ByteArray) : findS G id p = if p.size ≠ 0 ∧ splitE p.data.toList ≠ 0 then (noEnt, splitE p.data.toList)
 else if (lookK G id 3 12).2 ≠ 0 then (noEnt, (lookK G id 3 12).2)
 else findF G (pathNames p) ⟨ByteArray.empty, 2, (lookK G id 3 12).1.tree⟩ := rfl
theorem ls_back (l : List ByteArray) : (ls l).map bz = l := by
 unfold ls
 rw [List.map_map]
 conv => rhs; rw [← List.map_id l]
 apply List.map_congr_left
 intro x _
 exact ba_ext (by simp [bz])
/-- the part of Find behind the path's names -/
def FindRest (G : Sw.Src) (id : ByteArray) (l : List ByteArray) : Ent × Int := if (lookK G id 3 12).2 ≠ 0 then (noEnt, (lookK G id 3 12).2) else findF G l ⟨ByteArray.empty, 2, (lookK G id 3 12).1.tree⟩
set_option maxRecDepth 100000 in
set_option maxHeartbeats 16000000 in
theorem find_any (t : TypeId) (rv : Value) (G : Sw.Src) (hz : SrcSz G) (id p : ByteArray) (w : World) (hs : SrcAt w t rv G) (hps : p.size < 4294967281) (hm : MaxAt w) : Calls Tryz.prog 28 #[.iface t rv, .string id, .string p] w (FindOut w (findS G id p)) := by
 have HS := hid hs
 have HM := hid hm
 clear hs hm
 have HFE := hid (findS_eq G id p)
 obtain ⟨R, hR⟩ : ∃ R, findS G id p = R := ⟨_, rfl⟩
 rw [hR] at HFE ⊢
 clear hR
 go_enter Tryz.func28, Tryz.ntmps28
 go_upto_if 20 with fail
 obtain ⟨r0, hr0⟩ : ∃ g, w.heap.size = g := ⟨_, rfl⟩
 have HR0 := hid hr0
 have HZ1 : Hid (Blk (w.alloc (.cells #[.string ⟨#[]⟩, .int .i64 0, .string ⟨#[]⟩] 76)) r0 76 (entCs noEnt)) := by
  have := Blk.new w 76 (entCs noEnt); rw [hr0] at this; exact this
 have HB1 : Hid (Below r0 w (w.alloc (.cells #[.string ⟨#[]⟩, .int .i64 0, .string ⟨#[]⟩] 76))) := (Below.refl _ _).alloc (Nat.le_of_eq hr0.symm) _
 rw [hr0]
 clear hr0
 generalize (w.alloc (.cells #[.string ⟨#[]⟩, .int .i64 0, .string ⟨#[]⟩] 76)) = w1 at HZ1 HB1 ⊢
 have hg1 := Blk.lt HZ1.out
 go_cut [8] (fun s8 wx => ∃ na nn nc, s8 = .slice na nn nc ∧ Hid (StrsAt wx na nn (pathNames p) ∧ Blk wx r0 76 (entCs noEnt) ∧ Below r0 w wx ∧ R = FindRest G id (pathNames p)))
 case first =>
  by_cases hp0 : p.size = 0
  ·have hb1 : p.toList = [] := bstr_nil hp0
   have hb5 : (!p.toList.isEmpty) = false := by rw [hb1]; rfl
   rw [hb5]
   clear hb1 hb5
   have HFIN : Hid (StrsAt w1 none 0 (pathNames p) ∧ Blk w1 r0 76 (entCs noEnt) ∧ Below r0 w w1 ∧ R = FindRest G id (pathNames p)) := by
    refine ⟨?_, HZ1.out, HB1.out, ?_⟩
    ·unfold pathNames; rw [if_pos hp0]; exact ⟨rfl, by omega, .inl rfl⟩
    ·rw [HFE.out, if_neg (by simp [hp0])]; rfl
   go_wp2_with fail
   go_meet
   case rel => exact ⟨_, _, _, rfl, HFIN⟩
  ·have hb1 : ¬ p.toList = [] := bstr_some hp0
   have hb5 : (!p.toList.isEmpty) = true := by rw [bstr_isEmpty hp0]; rfl
   rw [hb5]
   clear hb1 hb5
   have HSP := hid (splitC_any p w1 hps (HM.out.later (by rw [HR0.out]; exact HB1.out)))
   obtain ⟨E, hE⟩ : ∃ E, splitE p.data.toList = E := ⟨_, rfl⟩
   have HEE := hid hE
   rw [hE] at HSP
   clear hE
   go_wp2_with fail
   refine HSP.out.mono ?_; rintro e w2 ⟨v, rfl, ⟨na, l, rfl, hst, hl, hv⟩, hb⟩
   have HZ2 : Hid (Blk w2 r0 76 (entCs noEnt)) := (hb.block r0 hg1).trans HZ1.out
   have HB2 : Hid (Below r0 w w2) := HB1.out.trans (hb.mono (Nat.le_of_lt hg1))
   have HST := hid hst; have HL := hid hl
   clear hst hl hv hb HSP HB1 HZ1
   by_cases hE0 : E = 0
   ·subst hE0
    have HFIN : Hid (StrsAt w2 na l.length (pathNames p) ∧ Blk w2 r0 76 (entCs noEnt) ∧ Below r0 w w2 ∧ R = FindRest G id (pathNames p)) := by
     refine ⟨?_, HZ2.out, HB2.out, ?_⟩
     ·have e1 : pathNames p = l := by
       unfold pathNames
       rw [if_neg hp0]
       have h := HL.out
       unfold namesOf at h
       rw [if_pos HEE.out] at h
       rw [← h, ls_back]
      rw [e1]; exact HST.out
     ·rw [HFE.out, if_neg (by rw [HEE.out]; simp)]; rfl
    go_wp2_with fail
    go_meet
    case rel => exact ⟨_, _, _, rfl, HFIN⟩
   ·have q1 : (E != 0) = true := by simpa using hE0
    have q2 : (E == 0) = false := by simpa using hE0
    have HFN : Hid (R = (noEnt, E)) := by
     show _ = _
     rw [HFE.out, if_pos ⟨hp0, by rw [HEE.out]; exact hE0⟩, HEE.out]
    obtain ⟨wz, hwz⟩ : ∃ wz, w2.setRow r0 (entCs noEnt) = wz := ⟨_, rfl⟩
    have HBZ : Hid (Blk wz r0 76 (entCs noEnt)) := by rw [← hwz]; exact setRow_heap _ _ _ _ _ _ HZ2.out
    have HLZ : Hid (Below r0 w wz) := by rw [← hwz]; exact below_setRow HB2.out (Nat.le_refl _) _
    have HWZ := hid hwz
    clear hwz
    go_wp2_with (first
     | (refine wpList_store_row rfl _ (.tmp 6) (.tmp 28) rfl r0 (entCs noEnt) rfl rfl 76 (entCs noEnt) HZ2.out (Tryz.infoEntSz _) rfl (entcs_one _) ?_; rw [HWZ.out]))
    go_wp2_with fail
    refine bodyPost_ret (v := .tuple #[.agg (entCs noEnt), .int .i64 E]) ?hr1 rfl ⟨?_, ?_⟩
    case hr1 => exact find_results _ r0 E noEnt wz rfl rfl HBZ.out
    ·rw [HFN.out]
    ·rw [HR0.out]; exact HLZ.out
 case rest =>
  obtain ⟨na, nn, nc, rfl, HC⟩ := hcut
  obtain ⟨hst, hzc, hbc, hrr⟩ := HC.out
  have HST := hid hst; have HZ2 := hid hzc; have HB2 := hid hbc; have HRR := hid hrr
  have hnn : (pathNames p).length = nn := hst.1
  have hnm := hst.2.1
  have HNN := hid hnn
  obtain ⟨L, hL⟩ : ∃ L, pathNames p = L := ⟨_, rfl⟩
  rw [hL] at HST HRR HNN
  have hgc := Blk.lt hzc
  clear HC hst hzc hbc hrr hnn hL HB1 HZ1 HFE
  obtain ⟨x, er, hlk⟩ : ∃ x er, lookK G id 3 12 = (x, er) := ⟨_, _, rfl⟩
  have HLK := hid (look_any t rv G id 3 12 wc (HS.out.later (by rw [HR0.out]; exact HB2.out)) hz)
  have HR2 : Hid (R = if er ≠ 0 then (noEnt, er) else findF G L ⟨ByteArray.empty, 2, x.tree⟩) := by
   show _ = _
   rw [HRR.out]; unfold FindRest; rw [hlk]
  rw [hlk] at HLK
  clear hlk HRR
  go_wp2_with fail
  refine HLK.out.mono ?_; rintro e w3 ⟨ev, pv, rfl, hO3, hb3, hf3⟩
  simp only at hO3 ⊢
  obtain ⟨ea, en, ec, pa, pn, pc, rfl, -, rfl, -⟩ := hO3
  have HX4 : Hid (Blk (w3.alloc (.cells (obCs x (.slice ea en ec) (.slice pa pn pc)) 98)) w3.heap.size 98 (obCs x (.slice ea en ec) (.slice pa pn pc))) := Blk.new w3 _ _
  have HZ4 : Hid (Blk (w3.alloc (.cells (obCs x (.slice ea en ec) (.slice pa pn pc)) 98)) r0 76 (entCs noEnt)) := Blk.alloc ((hb3.block r0 hgc).trans HZ2.out) _
  have hbw : Below r0 w w3 := HB2.out.trans (hb3.mono (Nat.le_of_lt hgc))
  have hrw3 : r0 ≤ w3.heap.size := Nat.le_trans (Nat.le_of_lt hgc) hb3.size
  have HB4 : Hid (Below r0 w (w3.alloc (.cells (obCs x (.slice ea en ec) (.slice pa pn pc)) 98))) := hbw.alloc hrw3 _
  have HST4 : Hid (StrsAt (w3.alloc (.cells (obCs x (.slice ea en ec) (.slice pa pn pc)) 98)) na nn L) := (HST.out.later hb3).later ((Below.refl _ _).alloc (Nat.le_refl _) _)
  unfold obCs at HX4 HZ4 HB4 HST4
  simp only [obCs]
  clear hb3 hf3 HLK HZ2 HB2 HST hgc hbw hrw3
  go_upto_region 8 with fail
  generalize (w3.alloc (.cells #[.int .i64 x.kind, .string x.data, .slice ea en ec, .string x.tree, .slice pa pn pc, .int .i64 x.height, .string x.note] 98)) = w4 at HX4 HZ4 HB4 HST4 ⊢
  generalize w3.heap.size = g4 at HX4 ⊢
  by_cases he : er = 0
  ·subst he
   have HR3 : Hid (R = findF G L ⟨ByteArray.empty, 2, x.tree⟩) := HR2.out
   have k3 : w4.cell? ⟨g4, 3, none⟩ = some (.string x.tree) := Blk.cell HX4.out 3
   clear HR2
   go_upto_region 11 with fail
   have hy0 : r0 < w4.heap.size := Blk.lt HZ4.out
   have HY5 : Hid (Blk (w4.alloc (.cells (entCs ⟨ByteArray.empty, 2, x.tree⟩) 76)) w4.heap.size 76 (entCs ⟨ByteArray.empty, 2, x.tree⟩)) := Blk.new w4 _ _
   have HO5 : Hid (Only (· = w4.heap.size) w4 (w4.alloc (.cells (entCs ⟨ByteArray.empty, 2, x.tree⟩) 76))) := (Only.refl _ _).alloc _
   obtain ⟨y0, hyy⟩ : ∃ y0, w4.heap.size = y0 := ⟨_, rfl⟩
   have HYY := hid hyy
   rw [hyy] at HY5 HO5 hy0 ⊢
   have hem : (⟨#[]⟩ : ByteArray) = ByteArray.empty := rfl
   unfold entCs at HY5 HO5
   simp only at HY5 HO5
   rw [← hem] at HY5 HO5 HR3
   clear k3 HX4 hyy hem
   generalize (w4.alloc (.cells #[.string ⟨#[]⟩, .int .i64 2, .string x.tree] 76)) = w5 at HY5 HO5 ⊢
   have HFR : Hid (∀ W, Only (· = y0) w4 W → StrsAt W na nn L ∧ Blk W r0 76 (entCs noEnt) ∧ Below r0 w W) := fun W hO =>
    ⟨StrsAt.only (c := nc) HST4.out hO (fun k hk hl e => by have e : k = y0 := e; rw [HYY.out] at hl; omega), HZ4.out.only hO (fun e => by have e : r0 = y0 := e; omega), HB4.out.trans (hO.below (fun i e => by have e : i = y0 := e; omega) (by rw [HYY.out]; omega))⟩
   clear HST4 HZ4 HB4
   go_wp2_with fail
   go_loopw [46] (fun iv wr => ∃ (i : Nat) (y : Ent), i ≤ nn ∧ iv = .int .i64 i ∧ Hid (Blk wr y0 76 (entCs y)) ∧ Hid (Only (· = y0) w4 wr) ∧ Hid (R = findF G (L.drop i) y)) (fun iv _ => nn - (intOf iv).toNat)
   case atStart => exact ⟨0, ⟨⟨#[]⟩, 2, x.tree⟩, Nat.zero_le _, rfl, HY5, HO5, HR3⟩
   case round =>
    obtain ⟨i, y, hi, rfl, HY, HO, HF⟩ := hrel
    clear HY5 HO5 HR3
    obtain ⟨hst, hzr, hbr⟩ := HFR.out wr HO.out
    have HZr := hid hzr; have HBr := hid hbr
    have hyl := Blk.lt HY.out
    clear hzr hbr
    by_cases hlt : i < nn
    ·have ci : (i : Int) < nn := by omega
     have ci0 : (0 : Int) ≤ (i : Int) := by omega
     obtain ⟨-, -, h3⟩ := hst
     obtain ⟨nb, noff, rfl, hcell⟩ := h3.resolve_left (by omega)
     have q0 := hcell i hlt
     have hil : i < L.length := by rw [HNN.out]; exact hlt
     have HT : Hid (L.drop i = L.getD i ByteArray.empty :: L.drop (i + 1)) := by
      show _ = _
      rw [List.drop_eq_getElem_cons hil, List.getD_eq_getElem?_getD, List.getElem?_eq_getElem hil]; rfl
     obtain ⟨ns, hns⟩ : ∃ z, L.getD i ByteArray.empty = z := ⟨_, rfl⟩
     rw [hns] at q0 HT
     have HF1 : Hid (R = findF G (ns :: L.drop (i + 1)) y) := by
      show _ = _
      rw [HF.out, HT.out]
     clear hns HT hcell h3 HF
     go_upto_region 14 with fail
     have HN1 : Hid (Blk (wr.alloc (.cells #[.string ns] 9)) wr.heap.size 9 #[.string ns]) := Blk.new wr _ _
     have HY1 : Hid (Blk (wr.alloc (.cells #[.string ns] 9)) y0 76 (entCs y)) := HY.out.alloc _
     have HO1 : Hid (Only (· = y0) w4 (wr.alloc (.cells #[.string ns] 9))) := HO.out.alloc _
     have hne1 : wr.heap.size ≠ y0 := by omega
     clear q0 HY HO HZr HBr
     generalize (wr.alloc (.cells #[.string ns] 9)) = v1 at HN1 HY1 HO1 ⊢
     generalize wr.heap.size = bn at HN1 hne1 ⊢
     obtain ⟨hst1, hz1, hb1⟩ := HFR.out v1 HO1.out
     have HZ1 := hid hz1; have HB1 := hid hb1
     clear hst1 hz1 hb1
     have k1 : v1.cell? ⟨y0, 1, none⟩ = some (.int .i64 y.kind) := Blk.cell HY1.out 1
     by_cases hk : y.kind = 2
     ·have k1 : v1.cell? ⟨y0, 1, none⟩ = some (.int .i64 2) := by rw [k1, hk]
      have k2 : v1.cell? ⟨y0, 2, none⟩ = some (.string y.id) := Blk.cell HY1.out 2
      obtain ⟨x6, er, hlk⟩ : ∃ x er, lookK G y.id 2 21 = (x, er) := ⟨_, _, rfl⟩
      have HLK := hid (look_any t rv G y.id 2 21 v1 (HS.out.later (by rw [HR0.out]; exact HB1.out)) hz)
      rw [hlk] at HLK
      go_wp2_with fail
      refine HLK.out.mono ?_; rintro e v3 ⟨ev, pv, rfl, hO3, hb3, hf3⟩
      simp only at hO3 ⊢
      have HO3 := hid hO3
      obtain ⟨ea, en, ec, pa, pn, pc, rfl, -, rfl, -⟩ := hO3
      have hyl1 := Blk.lt HY1.out
      have hnl1 := Blk.lt HN1.out
      have HX4 : Hid (Blk (v3.alloc (.cells (obCs x6 (.slice ea en ec) (.slice pa pn pc)) 98)) v3.heap.size 98 (obCs x6 (.slice ea en ec) (.slice pa pn pc))) := Blk.new v3 _ _
      have HE4 : Hid (EntsAt (v3.alloc (.cells (obCs x6 (.slice ea en ec) (.slice pa pn pc)) 98)) ea en x6.ents) := by
       obtain ⟨_, _, _, _, _, _, e1, he, -⟩ := HO3.out
       injection e1 with e2 e3 e4
       rw [e2, e3]
       exact he.later ((Below.refl _ _).alloc (Nat.le_refl _) _)
      have HY4 : Hid (Blk (v3.alloc (.cells (obCs x6 (.slice ea en ec) (.slice pa pn pc)) 98)) y0 76 (entCs y)) := Blk.alloc ((hb3.block y0 hyl1).trans HY1.out) _
      have HN4 : Hid (Blk (v3.alloc (.cells (obCs x6 (.slice ea en ec) (.slice pa pn pc)) 98)) bn 9 #[.string ns]) := Blk.alloc ((hb3.block bn hnl1).trans HN1.out) _
      have HO4 : Hid (Only (· = y0) w4 (v3.alloc (.cells (obCs x6 (.slice ea en ec) (.slice pa pn pc)) 98))) := (HO1.out.then (Only.of_below hb3 _)).alloc _
      have HFE4 : Hid (∀ k, (Value.slice ea en ec).ownBlock = some k → v1.heap.size ≤ k) := fun k hk => hf3 k (.inl hk)
      unfold obCs at HX4 HE4 HY4 HN4 HO4
      simp only [obCs]
      clear hb3 hf3 HLK HO3 HN1 HY1 HO1 HZ1 HB1 k1 k2
      go_upto_region 17 with fail
      generalize (v3.alloc (.cells #[.int .i64 x6.kind, .string x6.data, .slice ea en ec, .string x6.tree, .slice pa pn pc, .int .i64 x6.height, .string x6.note] 98)) = v4 at HX4 HE4 HY4 HN4 HO4 ⊢
      generalize v3.heap.size = g6 at HX4 ⊢
      obtain ⟨hst4, hz4, hb4⟩ := HFR.out v4 HO4.out
      have HZ4 := hid hz4; have HB4 := hid hb4
      clear hst4 hz4 hb4
      by_cases he : er = 0
      ·subst he
       have HF2 := hid (HF1.out.trans (findF_ok hk hlk))
       have k2 : v4.cell? ⟨g6, 2, none⟩ = some (.slice ea en ec) := Blk.cell HX4.out 2
       have kn : v4.cell? ⟨bn, 0, none⟩ = some (.string ns) := Blk.cell HN4.out 0
       have HIX := hid (indexE_any ea en ec bn x6.ents ns v4 HE4.out kn)
       obtain ⟨hix1, hix2⟩ := idxE_lt x6.ents ns
       obtain ⟨ix, hix⟩ : ∃ ix, idxE x6.ents ns = ix := ⟨_, rfl⟩
       rw [hix] at HIX HF2 hix1 hix2
       have hel := HE4.out.1
       clear hix hlk kn
       go_wp2_with fail
       refine HIX.out.mono ?_; rintro e v5 ⟨rfl, hb5⟩
       have HX5 : Hid (Blk v5 g6 98 #[.int .i64 x6.kind, .string x6.data, .slice ea en ec, .string x6.tree, .slice pa pn pc, .int .i64 x6.height, .string x6.note]) := (hb5.block g6 (Blk.lt HX4.out)).trans HX4.out
       have hE5 := HE4.out.later hb5
       have HY5 : Hid (Blk v5 y0 76 (entCs y)) := (hb5.block y0 (Blk.lt HY4.out)).trans HY4.out
       have HO5 : Hid (Only (· = y0) w4 v5) := HO4.out.then (Only.of_below hb5 _)
       obtain ⟨hst5, hz5, hb5'⟩ := HFR.out v5 HO5.out
       have HZ5 := hid hz5; have HB5 := hid hb5'
       clear hst5 hz5 hb5' hb5 k2 HX4 HE4 HY4 HN4 HO4 HZ4 HB4 HIX
       by_cases hneg : ix < 0
       ·have HFN : Hid (R = (noEnt, 12)) := by
         show _ = _
         rw [HF2.out, if_neg (by omega)]
        obtain ⟨wz, hwz⟩ : ∃ wz, v5.setRow r0 (entCs noEnt) = wz := ⟨_, rfl⟩
        have HBZ : Hid (Blk wz r0 76 (entCs noEnt)) := by rw [← hwz]; exact setRow_heap _ _ _ _ _ _ HZ5.out
        have HLZ : Hid (Below r0 w wz) := by rw [← hwz]; exact below_setRow HB5.out (Nat.le_refl _) _
        have HWZ := hid hwz
        clear hwz
        go_wp2_with (first
         | (refine wpList_store_row rfl _ (.tmp 6) (.tmp 71) rfl r0 (entCs noEnt) rfl rfl 76 (entCs noEnt) HZ5.out (Tryz.infoEntSz _) rfl (entcs_one _) ?_; rw [HWZ.out]))
        go_wp2_with fail
        refine bodyPost_ret (v := .tuple #[.agg (entCs noEnt), .int .i64 12]) ?hr5 rfl ⟨?_, ?_⟩
        case hr5 => exact find_results _ r0 12 noEnt wz rfl rfl HBZ.out
        ·rw [HFN.out]
        ·rw [HR0.out]; exact HLZ.out
       ·obtain ⟨m, hm⟩ : ∃ m : Nat, ix = (m : Int) := ⟨ix.toNat, by omega⟩
        subst hm
        have hme : m < en := by omega
        have cm : (m : Int) < en := by omega
        have cm0 : (0 : Int) ≤ (m : Int) := by omega
        obtain ⟨-, -, h3⟩ := hE5
        obtain ⟨eb, eoff, rfl, hcell⟩ := h3.resolve_left (by omega)
        obtain ⟨q0, q1, q2⟩ := hcell m hme
        have HF3 : Hid (R = findF G (L.drop (i + 1)) (x6.ents.getD m noEnt)) := by
         show _ = _
         rw [HF2.out, if_pos (by omega), Int.toNat_natCast]
        obtain ⟨z, hzz⟩ : ∃ z, x6.ents.getD m ⟨ByteArray.empty, 0, ByteArray.empty⟩ = z := ⟨_, rfl⟩
        rw [hzz] at q0 q1 q2
        have hzz2 : x6.ents.getD m noEnt = z := hzz
        rw [hzz2] at HF3
        have k2 : v5.cell? ⟨g6, 2, none⟩ = some (.slice (some ⟨eb, eoff, none⟩) en ec) := Blk.cell HX5.out 2
        clear hzz hzz2 h3 hcell HF1 HF2
        obtain ⟨wz, hwz⟩ : ∃ wz, v5.setRow y0 (entCs z) = wz := ⟨_, rfl⟩
        have HYZ : Hid (Blk wz y0 76 (entCs z)) := by rw [← hwz]; exact setRow_heap _ _ _ _ _ _ HY5.out
        have HOZ : Hid (Only (· = y0) w4 wz) := by
         rw [← hwz]
         exact HO5.out.then ⟨rfl, rfl, rfl, by simp, fun k hk hne => setRow_other v5 y0 k _ hne⟩
        have HWZ := hid hwz
        clear hwz
        go_wp2_with (first
         | (refine wpList_store_row rfl _ (.tmp 13) (.tmp 76) rfl y0 (entCs z) rfl rfl 76 (entCs y) HY5.out (Tryz.infoEntSz _) rfl (entcs_one _) ?_; rw [HWZ.out]))
        go_wp2_with fail
        go_roundw
        case rel => first | exact ⟨i + 1, z, by omega, by go_num, HYZ, HOZ, HF3⟩ | ((repeat apply Exists.intro); exact ⟨⟨i + 1, z, by omega, by go_num, HYZ, HOZ, HF3⟩, rfl⟩)
        case measure => simp [intOf]; omega
      ·have q1 : (er != 0) = true := by simpa using he
       have q2 : (er == 0) = false := by simpa using he
       have HFN := hid (HF1.out.trans (findF_look hk hlk he))
       clear hlk
       obtain ⟨wz, hwz⟩ : ∃ wz, v4.setRow r0 (entCs noEnt) = wz := ⟨_, rfl⟩
       have HBZ : Hid (Blk wz r0 76 (entCs noEnt)) := by rw [← hwz]; exact setRow_heap _ _ _ _ _ _ HZ4.out
       have HLZ : Hid (Below r0 w wz) := by rw [← hwz]; exact below_setRow HB4.out (Nat.le_refl _) _
       have HWZ := hid hwz
       clear hwz
       go_wp2_with (first
        | (refine wpList_store_row rfl _ (.tmp 6) (.tmp 63) rfl r0 (entCs noEnt) rfl rfl 76 (entCs noEnt) HZ4.out (Tryz.infoEntSz _) rfl (entcs_one _) ?_; rw [HWZ.out]))
       go_wp2_with fail
       refine bodyPost_ret (v := .tuple #[.agg (entCs noEnt), .int .i64 er]) ?hr6 rfl ⟨?_, ?_⟩
       case hr6 => exact find_results _ r0 er noEnt wz rfl rfl HBZ.out
       ·rw [HFN.out]
       ·rw [HR0.out]; exact HLZ.out
     ·have q1 : (y.kind != 2) = true := by simp [hk]
      have q2 : (y.kind == 2) = false := by simp [hk]
      have HFN := hid (HF1.out.trans (findF_kind hk))
      obtain ⟨wz, hwz⟩ : ∃ wz, v1.setRow r0 (entCs noEnt) = wz := ⟨_, rfl⟩
      have HBZ : Hid (Blk wz r0 76 (entCs noEnt)) := by rw [← hwz]; exact setRow_heap _ _ _ _ _ _ HZ1.out
      have HLZ : Hid (Below r0 w wz) := by rw [← hwz]; exact below_setRow HB1.out (Nat.le_refl _) _
      have HWZ := hid hwz
      clear hwz
      go_wp2_with (first
       | (refine wpList_store_row rfl _ (.tmp 6) (.tmp 53) rfl r0 (entCs noEnt) rfl rfl 76 (entCs noEnt) HZ1.out (Tryz.infoEntSz _) rfl (entcs_one _) ?_; rw [HWZ.out]))
      go_wp2_with fail
      refine bodyPost_ret (v := .tuple #[.agg (entCs noEnt), .int .i64 12]) ?hr7 rfl ⟨?_, ?_⟩
      case hr7 => exact find_results _ r0 12 noEnt wz rfl rfl HBZ.out
      ·rw [HFN.out]
      ·rw [HR0.out]; exact HLZ.out
    ·obtain rfl : i = nn := by omega
     have HFN : Hid (R = (y, 0)) := by
      show _ = _
      rw [HF.out, List.drop_of_length_le (by rw [HNN.out]; exact Nat.le_refl _)]; rfl
     have k0 : wr.cell? ⟨y0, 0, none⟩ = some (.string y.name) := Blk.cell HY.out 0
     have k1 : wr.cell? ⟨y0, 1, none⟩ = some (.int .i64 y.kind) := Blk.cell HY.out 1
     have k2 : wr.cell? ⟨y0, 2, none⟩ = some (.string y.id) := Blk.cell HY.out 2
     obtain ⟨wz, hwz⟩ : ∃ wz, wr.setRow r0 (entCs y) = wz := ⟨_, rfl⟩
     have HBZ : Hid (Blk wz r0 76 (entCs y)) := by rw [← hwz]; exact setRow_heap _ _ _ _ _ _ HZr.out
     have HLZ : Hid (Below r0 w wz) := by rw [← hwz]; exact below_setRow HBr.out (Nat.le_refl _) _
     have HWZ := hid hwz
     clear hwz
     go_wp2_with (first
      | (refine wpList_store_row rfl _ (.tmp 6) (.tmp 78) rfl r0 (entCs y) rfl rfl 76 (entCs noEnt) HZr.out (Tryz.infoEntSz _) rfl (entcs_one _) ?_; rw [HWZ.out]))
     go_wp2_with fail
     refine bodyPost_ret (v := .tuple #[.agg (entCs y), .int .i64 0]) ?hr8 rfl ⟨?_, ?_⟩
     case hr8 => exact find_results _ r0 0 y wz rfl rfl HBZ.out
     ·rw [HFN.out]
     ·rw [HR0.out]; exact HLZ.out
  ·have q1 : (er != 0) = true := by simpa using he
   have q2 : (er == 0) = false := by simpa using he
   have HFN : Hid (R = (noEnt, er)) := by
    show _ = _
    rw [HR2.out, if_pos he]
   obtain ⟨wz, hwz⟩ : ∃ wz, w4.setRow r0 (entCs noEnt) = wz := ⟨_, rfl⟩
   have HBZ : Hid (Blk wz r0 76 (entCs noEnt)) := by rw [← hwz]; exact setRow_heap _ _ _ _ _ _ HZ4.out
   have HLZ : Hid (Below r0 w wz) := by rw [← hwz]; exact below_setRow HB4.out (Nat.le_refl _) _
   have HWZ := hid hwz
   clear hwz
   go_wp2_with (first
    | (refine wpList_store_row rfl _ (.tmp 6) (.tmp 39) rfl r0 (entCs noEnt) rfl rfl 76 (entCs noEnt) HZ4.out (Tryz.infoEntSz _) rfl (entcs_one _) ?_; rw [HWZ.out]))
   go_wp2_with fail
   refine bodyPost_ret (v := .tuple #[.agg (entCs noEnt), .int .i64 er]) ?hr2 rfl ⟨?_, ?_⟩
   case hr2 => exact find_results _ r0 er noEnt wz rfl rfl HBZ.out
   ·rw [HFN.out]
   ·rw [HR0.out]; exact HLZ.out
end Go.Proofs.YtmpjdoiogbbcoaaGreatDoor
/- cmp.Compare and slices.Compare at texts; Compare and Within of the program. -/
namespace Go.Proofs.YtmpjdoiogbbcoaaGreatDoor
open Go.RowKit Pap
set_option linter.unusedVariables false

theorem isNaN_any (s : ByteArray) (w : World) : Calls Tryz.prog 194 #[.string s] w fun e w' => e = .returned (.bool false) ∧ w = w' := by
 go_enter Tryz.func194, Tryz.ntmps194
 go_wp2
 go_ret
 exact ⟨ret_bool (by simp), rfl⟩

set_option maxHeartbeats 1000000 in
theorem cmpS_any (a b : ByteArray) (w : World) : Calls Tryz.prog 136 #[.string a, .string b] w fun e w' => e = .returned (.int .i64 (cmpL a.data.toList b.data.toList)) ∧ w = w' := by
 have hl : Op.bytesLess a.toList b.toList = decide (cmpL a.data.toList b.data.toList = -1) := by rw [ba_toList, ba_toList]; exact bytesLess_cmp _ _
 have he : (a.toList == b.toList) = decide (cmpL a.data.toList b.data.toList = 0) := by
  rw [ba_toList, ba_toList, Bool.eq_iff_iff, beq_iff_eq, decide_eq_true_eq]
  exact ⟨fun e => by rw [e]; exact cmpL_self _, cmpL_zero _ _⟩
 rcases cmpL_range a.data.toList b.data.toList with h | h | h
 ·rw [h] at hl he
  have h1 : Op.bytesLess a.toList b.toList = true := by rw [hl]; rfl
  have H := hid h; clear h hl he
  go_enter Tryz.func136, Tryz.ntmps136
  go_wp2_with (go_at_call 194; refine (isNaN_any _ _).mono ?_; rintro e w1 ⟨rfl, rfl⟩)
  go_ret
  exact ⟨ret_int (by rw [H.out]), rfl⟩
 ·rw [h] at hl he
  have h1 : Op.bytesLess a.toList b.toList = false := by rw [hl]; rfl
  have h2 : (a.toList == b.toList) = true := by rw [he]; rfl
  have H := hid h; clear h hl he
  go_enter Tryz.func136, Tryz.ntmps136
  go_wp2_with (go_at_call 194; refine (isNaN_any _ _).mono ?_; rintro e w1 ⟨rfl, rfl⟩)
  go_ret
  exact ⟨ret_int (by rw [H.out]), rfl⟩
 ·rw [h] at hl he
  have h1 : Op.bytesLess a.toList b.toList = false := by rw [hl]; rfl
  have h2 : (a.toList == b.toList) = false := by rw [he]; rfl
  have H := hid h; clear h hl he
  go_enter Tryz.func136, Tryz.ntmps136
  go_wp2_with (go_at_call 194; refine (isNaN_any _ _).mono ?_; rintro e w1 ⟨rfl, rfl⟩)
  go_ret
  exact ⟨ret_int (by rw [H.out]), rfl⟩

theorem ls_get (l : List ByteArray) (k : Nat) (h : k < (ls l).length) : (ls l)[k] = (l.getD k ByteArray.empty).data.toList := by
 rw [ls_length] at h
 simp [ls, List.getElem?_eq_getElem h]

set_option maxHeartbeats 1000000 in
theorem slicesCompare_any (a b : Option Addr) (n m c d : Nat) (x y : List ByteArray) (w : World) (hx : StrsAt w a n x) (hy : StrsAt w b m y) :
  Calls Tryz.prog 76 #[.slice a n c, .slice b m d] w fun e w' => e = .returned (.int .i64 (cmpP (ls x) (ls y))) ∧ w = w' := by
 have hnl := hx.1
 have hml := hy.1
 have hn := hx.2.1
 have hm := hy.2.1
 have xl := ls_length x
 have yl := ls_length y
 go_enter Tryz.func76, Tryz.ntmps76
 go_wp2
 go_loop [11] (fun i => ∃ k : Nat, k ≤ n ∧ k ≤ m ∧ i = .int .i64 k ∧ Hid (cmpP (ls x) (ls y) = cmpP ((ls x).drop k) ((ls y).drop k))) (fun i => n - (intOf i).toNat)
 case atStart => exact ⟨0, by omega, by omega, rfl, rfl⟩
 case round =>
  obtain ⟨k, hk, hk2, rfl, HK⟩ := hrel
  by_cases hlt : k < n
  ·by_cases hlt2 : k < m
   ·obtain ⟨b1, o1, rfl, hc1⟩ := hx.2.2.resolve_left (by omega)
    obtain ⟨b2, o2, rfl, hc2⟩ := hy.2.2.resolve_left (by omega)
    have h1 := hc1 k hlt
    have h2 := hc2 k hlt2
    have st := cmpP_step (ls x) (ls y) k (by omega) (by omega)
    rw [ls_get, ls_get] at st
    obtain ⟨p, hp⟩ : ∃ p, x.getD k ByteArray.empty = p := ⟨_, rfl⟩
    obtain ⟨q, hq⟩ : ∃ q, y.getD k ByteArray.empty = q := ⟨_, rfl⟩
    rw [hp] at h1 st
    rw [hq] at h2 st
    have cC := cmpS_any p q w
    obtain ⟨C, hC⟩ : ∃ C, cmpL p.data.toList q.data.toList = C := ⟨_, rfl⟩
    rw [hC] at cC st
    have CC := hid cC
    clear cC hp hq hC hc1 hc2
    by_cases h0 : C = 0
    ·subst h0
     have HS := hid (HK.out.trans st); clear st
     go_wp2_with (go_at_call 136; refine CC.out.mono ?_; rintro e w1 ⟨rfl, rfl⟩)
     go_round
     case rel => exact ⟨k + 1, by omega, by omega, by go_num, by have := HS.out; simp only [if_true] at this; exact this⟩
     case measure => simp [intOf]; omega
    ·have HS : Hid (cmpP (ls x) (ls y) = C) := by have := HK.out.trans st; rwa [if_neg h0] at this
     have e1 : (C != 0) = true := by simpa using h0
     have e2 : (C == 0) = false := by simpa using h0
     clear st h0
     go_wp2_with (go_at_call 136; refine CC.out.mono ?_; rintro e w1 ⟨rfl, rfl⟩)
     go_ret
     exact ⟨ret_int (by rw [HS.out]), rfl⟩
   ·obtain ⟨b1, o1, rfl, hc1⟩ := hx.2.2.resolve_left (by omega)
    have h1 := hc1 k hlt
    have HS : Hid (cmpP (ls x) (ls y) = 1) := HK.out.trans (cmpP_behind _ _ k (by omega) (by omega))
    have g1 : (m : Int) ≤ k := by omega
    clear hc1
    go_wp2
    go_ret
    exact ⟨ret_int (by rw [HS.out]), rfl⟩
  ·have st := HK.out.trans (cmpP_ends (ls x) (ls y) k (by omega))
   by_cases hlt2 : n < m
   ·have HS : Hid (cmpP (ls x) (ls y) = -1) := by rwa [if_pos (by omega)] at st
    have g1 : (n : Int) < m := by omega
    clear st
    go_wp2
    go_ret
    exact ⟨ret_int (by rw [HS.out]), rfl⟩
   ·have HS : Hid (cmpP (ls x) (ls y) = 0) := by rwa [if_neg (by omega)] at st
    have g1 : ¬ (n : Int) < m := by omega
    clear st
    go_wp2
    go_ret
    exact ⟨ret_int (by rw [HS.out]), rfl⟩

set_option maxHeartbeats 1000000 in
theorem within_any (f p : ByteArray) (w : World) (hf : f.size < 4294967281) (hp : p.size < 4294967281) (hm : MaxAt w) :
  Calls Tryz.prog 207 #[.string f, .string p] w fun e w' => e = .returned (.bool (withinR f.data.toList p.data.toList)) ∧ Below w.heap.size w w' := by
 have HM := hid hm
 have HB := Below.refl w.heap.size w
 clear hm
 by_cases h1 : splitE f.data.toList = 0
 ·by_cases h2 : splitE p.data.toList = 0
  ·have HR := hid (within_eq h1 h2)
   have f1 : (splitE f.data.toList == 0) = true := by simp [h1]
   have f2 : (splitE p.data.toList == 0) = true := by simp [h2]
   clear h1 h2
   go_enter Tryz.func207, Tryz.ntmps207
   go_wp2_with (first
    | (go_at_call 70; refine (split_any _ _ (by assumption) (HM.out.later HB)).mono ?_; rintro e w1 ⟨v, rfl, hv, hb1⟩; replace HB := below_then HB hb1; clear hv hb1)
    | (go_at_call 239; refine (Tryz.strings_HasPrefix _ _ _).mono ?_; rintro e w3 ⟨rfl, hw⟩; obtain rfl := hw.symm))
   go_ret
   exact ⟨ret_bool (by rw [← HR.out]), HB⟩
  ·have HR := hid (within_no (f := f.data.toList) (p := p.data.toList) (.inr h2))
   have f1 : (splitE f.data.toList == 0) = true := by simp [h1]
   have f2 : (splitE p.data.toList == 0) = false := by simp [h2]
   clear h1 h2
   go_enter Tryz.func207, Tryz.ntmps207
   go_wp2_with (go_at_call 70; refine (split_any _ _ (by assumption) (HM.out.later HB)).mono ?_; rintro e w1 ⟨v, rfl, hv, hb1⟩; replace HB := below_then HB hb1; clear hv hb1)
   go_ret
   exact ⟨ret_bool (by rw [HR.out]), HB⟩
 ·have HR := hid (within_no (f := f.data.toList) (p := p.data.toList) (.inl h1))
  have f1 : (splitE f.data.toList == 0) = false := by simp [h1]
  clear h1
  go_enter Tryz.func207, Tryz.ntmps207
  go_wp2_with (go_at_call 70; refine (split_any _ _ (by assumption) (HM.out.later HB)).mono ?_; rintro e w1 ⟨v, rfl, hv, hb1⟩; replace HB := below_then HB hb1; clear hv hb1)
  go_ret
  exact ⟨ret_bool (by rw [HR.out]), HB⟩
end Go.Proofs.YtmpjdoiogbbcoaaGreatDoor
