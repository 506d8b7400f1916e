/- The shelf's map of Ptr under texts: find, Get, Put, Del, Len, Keys. -/
import Derived.Test.YthjomknhbfplnaaSearch
import Derived.Test.YthjomknhbfplnaaDelStr
import Derived.Test.YthjomknhbfplnaaDelPtr
namespace Go.Proofs.Ythjomknhbfplnaa
open Go.RowKit
set_option linter.unusedVariables false

def encPtr : (Option Addr) → Value := Value.pointer
def MapIsPtr (w : World) (m : Nat) (ks vs : Value) (l : List ByteArray) (ps : List (Option Addr)) : Prop :=
  Blk w m 85 #[ks, vs] ∧ w.ownsRow 0 9 1 ks l.length (svals l) ∧ w.ownsRow 0 55 1 vs ps.length (ps.map encPtr) ∧ ps.length = l.length ∧ Rising l ∧ l.length ≤ 1000000
theorem encPtr_one (l : List (Option Addr)) : ∀ u ∈ l.map encPtr, u.oneCell' = true := by
  intro u hu; obtain ⟨x, _, rfl⟩ := List.mem_map.1 hu; rfl

set_option maxHeartbeats 1000000 in
theorem findPtr (m : Nat) (ks vs : Value) (l : List ByteArray) (ps : List (Option Addr)) (x : ByteArray) (w : World) (h : MapIsPtr w m ks vs l ps) :
    Calls Try.prog 61 #[.pointer (some ⟨m, 0, none⟩), .string x] w fun e w' => e = .returned (.tuple #[.int .i64 (posOf l x : Nat), .bool (hasN l x)]) ∧ w = w' := by
  obtain ⟨h1, h2, h3, h4, h5, h6⟩ := h
  obtain ⟨ka, kc, rfl, hS⟩ := own_strs h2 (by omega)
  have c0 := h1.cell 0
  simp at c0
  have CB := hid (bs_names ka l.length kc l x w hS (by omega) h5)
  clear h1 h2 h3 h4 h5 hS
  go_enter Try.func61, Try.ntmps61
  go_wp2_with (go_at_call 75; refine CB.out.mono ?_; rintro e w' ⟨rfl, rfl⟩)
  go_ret2
  exact ⟨rfl, rfl⟩
set_option maxHeartbeats 1000000 in
theorem findPtr_nil (x : ByteArray) (w : World) :
    Calls Try.prog 61 #[.pointer none, .string x] w fun e w' => e = .returned (.tuple #[.int .i64 0, .bool false]) ∧ w = w' := by
  go_enter Try.func61, Try.ntmps61
  go_wp2_with fail
  go_ret2
  exact ⟨rfl, rfl⟩

/-- what is found -/
def getVPtr (l : List ByteArray) (ps : List (Option Addr)) (x : ByteArray) : (Option Addr) := if hasN l x = true then ps.getD (posOf l x) (none) else (none)
set_option maxHeartbeats 1000000 in
theorem getPtr (m : Nat) (ks vs : Value) (l : List ByteArray) (ps : List (Option Addr)) (x : ByteArray) (w : World) (h : MapIsPtr w m ks vs l ps) :
    Calls Try.prog 42 #[.pointer (some ⟨m, 0, none⟩), .string x] w fun e w' => e = .returned (.tuple #[encPtr (getVPtr l ps x), .bool (hasN l x)]) ∧ w = w' := by
  have CF := hid (findPtr m ks vs l ps x w h)
  obtain ⟨h1, h2, h3, h4, h5, h6⟩ := h
  have hm := posOf_mem h5 x
  obtain ⟨va, vc, rfl, hvn⟩ := own_slice h3
  have c1 := h1.cell 1
  simp at c1
  obtain ⟨P, hP⟩ : ∃ P, posOf l x = P := ⟨_, rfl⟩
  unfold getVPtr
  rw [hP] at CF hm ⊢
  cases hh : hasN l x
  · rw [hh] at CF
    rw [if_neg (by simp)]
    clear h1 h2 h3 h4 h5 hm hh hP
    unfold encPtr
    go_enter Try.func42, Try.ntmps42
    go_wp2_with (go_at_call 61; refine CF.out.mono ?_; rintro e w' ⟨rfl, rfl⟩)
    go_ret2
    exact ⟨rfl, rfl⟩
  · rw [hh] at CF
    rw [if_pos rfl]
    have hlt := (hm.2 (hasN_iff.1 hh)).1
    have hcl := fun g => h3.cells (g := g)
    rcases h3.2 with ⟨e1, e2⟩ | ⟨g, cap, cur, e1, _, _, _⟩
    · omega
    · injection e1 with e2 e3 e4
      subst e2 e4
      have hc := hcl g rfl P (encPtr (ps.getD P (none))) (by rw [List.getElem?_map, List.getD_eq_getElem?_getD, List.getElem?_eq_getElem (by omega)]; rfl)
      rw [Addr.add_lit, Nat.zero_add] at hc
      obtain ⟨v, hv⟩ : ∃ v, ps.getD P (none) = v := ⟨_, rfl⟩
      rw [hv] at hc ⊢
      unfold encPtr at hc ⊢
      have hPl : P < ps.length := by omega
      clear h1 h2 h3 h4 h5 hm hh hP hcl hv
      go_enter Try.func42, Try.ntmps42
      go_wp2_with (go_at_call 61; refine CF.out.mono ?_; rintro e w' ⟨rfl, rfl⟩)
      go_ret2
      exact ⟨rfl, rfl⟩
theorem lenPtr (m : Nat) (ks vs : Value) (l : List ByteArray) (ps : List (Option Addr)) (w : World) (h : MapIsPtr w m ks vs l ps) :
    Calls Try.prog 39 #[.pointer (some ⟨m, 0, none⟩)] w fun e w' => e = .returned (.int .i64 l.length) ∧ w = w' := by
  obtain ⟨h1, h2, h3, h4, h5, h6⟩ := h
  obtain ⟨ka, kc, rfl, hS⟩ := own_strs h2 (by omega)
  have c0 := h1.cell 0
  simp at c0
  clear h1 h2 h3 h4 h5 hS
  go_enter Try.func39, Try.ntmps39
  go_wp2_with fail
  go_ret
  exact ⟨rfl, rfl⟩
set_option maxHeartbeats 1000000 in
theorem keysPtr (m : Nat) (ks vs : Value) (l : List ByteArray) (ps : List (Option Addr)) (w : World) (h : MapIsPtr w m ks vs l ps) :
    Calls Try.prog 59 #[.pointer (some ⟨m, 0, none⟩)] w fun e w' => ∃ v, e = .returned v ∧ w'.ownsRow w.heap.size 9 1 v l.length (svals l) ∧ Below w.heap.size w w' := by
  obtain ⟨h1, h2, h3, h4, h5, h6⟩ := h
  have CC := hid (cloneStr ks l.length (svals l) w h2 (svals_one l) (by omega))
  obtain ⟨ka, kc, rfl, hS⟩ := own_strs h2 (by omega)
  have c0 := h1.cell 0
  simp at c0
  clear h1 h2 h3 h4 h5 hS
  go_enter Try.func59, Try.ntmps59
  go_wp2_with (go_at_call 74; refine CC.out.mono ?_; rintro e w1 ⟨v, rfl, h1, h2⟩)
  go_ret
  exact ⟨_, rfl, h1, h2⟩

/-- what a map's values are behind Put, behind Del -/
def putVPtr (l : List ByteArray) (ps : List (Option Addr)) (x : ByteArray) (v : (Option Addr)) : List (Option Addr) := if hasN l x = true then ps.set (posOf l x) v else ps.take (posOf l x) ++ v :: ps.drop (posOf l x)
def delVPtr (l : List ByteArray) (ps : List (Option Addr)) (x : ByteArray) : List (Option Addr) := if hasN l x = true then ps.take (posOf l x) ++ ps.drop (posOf l x + 1) else ps
theorem putN_lenPtr (l : List ByteArray) (ps : List (Option Addr)) (x : ByteArray) (v : (Option Addr)) (h : ps.length = l.length) : (putVPtr l ps x v).length = (putN l x).length := by
  have := posOf_le l x
  unfold putVPtr putN
  split
  · simp [h]
  · simp [h]
theorem delN_lenPtr (l : List ByteArray) (ps : List (Option Addr)) (x : ByteArray) (h : ps.length = l.length) : (delVPtr l ps x).length = (delN l x).length := by
  unfold delVPtr delN
  split <;> simp [h]

set_option maxHeartbeats 2000000 in
theorem delPtr_has (m : Nat) (ks vs : Value) (l : List ByteArray) (ps : List (Option Addr)) (x : ByteArray) (w : World) (h : MapIsPtr w m ks vs l ps) (hh : hasN l x = true) :
    Calls Try.prog 46 #[.pointer (some ⟨m, 0, none⟩), .string x] w fun e w' => e = .returned (.bool true) ∧ ∃ ks' vs', MapIsPtr w' m ks' vs' (delN l x) (delVPtr l ps x) ∧ Only (MapF m ks vs) w w' ∧ (∀ k, MapF m ks' vs' k → MapF m ks vs k) := by
  have CF := hid (findPtr m ks vs l ps x w h)
  obtain ⟨h1, h2, h3, h4, h5, h6⟩ := h
  have hm := (posOf_mem h5 x).2 (hasN_iff.1 hh)
  have hris := delN_rising h5 x
  have hlen := delN_lenPtr l ps x h4
  have eN : delN l x = l.take (posOf l x) ++ l.drop (posOf l x + 1) := by unfold delN; rw [if_pos hh]
  have eV : delVPtr l ps x = ps.take (posOf l x) ++ ps.drop (posOf l x + 1) := by unfold delVPtr; rw [if_pos hh]
  rw [hh] at CF
  obtain ⟨P, hP⟩ : ∃ P, posOf l x = P := ⟨_, rfl⟩
  rw [hP] at CF hm eN eV
  have hlN : (delN l x).length = l.length - 1 := by rw [eN]; simp; omega
  have f0 := h1.frozen 0
  have f1 := h1.frozen 1
  have c0 := h1.cell 0
  have c1 := h1.cell 1
  simp at c0 c1
  have C1 := hid (delStr ks l.length P (svals l) w h2 (svals_one l) (by omega) (by omega))
  have d1 := own_blk_ne h2 h1 (by decide)
  have d2 := own_blk_ne h3 h1 (by decide)
  have d3 : ∀ k, ks.ownBlock = some k → vs.ownBlock ≠ some k := fun k hk => own_ne h2 h3 (by decide) hk
  have G2 := hid h2; have G3 := hid h3; have G1 := hid h1
  have EN := hid eN; have EV := hid eV; have HR := hid hris; have HL := hid hlen; have HLN := hid hlN
  have hPl : P < l.length := hm.1
  have hPp : P < ps.length := by omega
  have hps : ps.length ≤ 1000000 := by omega
  obtain ⟨ka, kc, rfl, hkc⟩ := own_slice h2
  obtain ⟨va, vc, rfl, hvc⟩ := own_slice h3
  clear h1 h2 h3 h4 h5 hm hris hlen eN eV hh hP hlN
  have K1 := hid d1; have K2 := hid d2; have K3 := hid d3
  clear d1 d2 d3
  go_enter Try.func46, Try.ntmps46
  go_wp2_with fail
  refine CF.out.mono ?_; rintro e w' ⟨rfl, rfl⟩
  go_wp2_with fail
  refine C1.out.mono ?_; rintro e w1 ⟨k', rfl, o1, g1, b1⟩
  have B1 : Blk w1 m 85 #[.slice ka l.length kc, .slice va ps.length vc] := G1.out.grown g1 (fun e => K1.out e.symm)
  have V1 : w1.ownsRow 0 55 1 (.slice va ps.length vc) ps.length (ps.map encPtr) := G3.out.kept g1 (by
    cases hv : (Value.slice va ps.length vc).ownBlock with
    | none => exact .inl rfl
    | some k => exact .inr (fun e => K3.out k e.symm hv))
  obtain ⟨ka', kc', rfl, hkc'⟩ := own_slice o1
  have c0' := B1.cell 0
  have c1' := B1.cell 1
  have f0' := B1.frozen 0
  have f1' := B1.frozen 1
  simp at c0' c1'
  clear c0 c1 f0 f1
  have B2 := B1.set 0 (.slice ka' (l.length - 1) kc')
  have O2 : Only (· = m) w1 (w1.setCell ⟨m, 0, none⟩ (.slice ka' (l.length - 1) kc')) := (Only.refl (· = m) w1).setCell (p := ⟨m, 0, none⟩) (.inl rfl) _
  have V2 : (w1.setCell ⟨m, 0, none⟩ (.slice ka' (l.length - 1) kc')).ownsRow 0 55 1 (.slice va ps.length vc) ps.length (ps.map encPtr) := own_only V1 O2 (fun k hk e => by subst e; exact K2.out hk)
  have N2 : (w1.setCell ⟨m, 0, none⟩ (.slice ka' (l.length - 1) kc')).ownsRow 0 9 1 (.slice ka' (l.length - 1) kc') (l.length - 1) ((svals l).take P ++ (svals l).drop (P + 1)) := own_only o1 O2 (fun k hk e => by subst e; rw [b1] at hk; exact K1.out hk)
  have Z2 : (w1.setCell ⟨m, 0, none⟩ (.slice ka' (l.length - 1) kc')).heap.size = w1.heap.size := by simp [World.setCell]
  have C2 := hid (delPtr _ ps.length P (ps.map encPtr) _ V2 (encPtr_one ps) hPp (by omega))
  have H2 := hid B2; have HN2 := hid N2; have HV2 := hid V2; have HG1 := hid g1; have HB1 := hid b1; have HO2 := hid O2
  clear B1 B2 O2 V1 V2 N2 o1 Z2 g1 b1
  go_wp2_with fail
  refine C2.out.mono ?_; rintro e w3 ⟨v', rfl, o3, g3, b3⟩
  obtain ⟨va', vc', rfl, hvc'⟩ := own_slice o3
  have B3 : Blk w3 m 85 #[.slice ka' (l.length - 1) kc', .slice va ps.length vc] := by
    have := H2.out.grown g3 (fun e => K2.out e.symm)
    simpa using this
  have c0 := B3.cell 0
  have c1 := B3.cell 1
  have f0 := B3.frozen 0
  have f1 := B3.frozen 1
  simp at c0 c1
  have HFIN : Hid (∃ ks' vs', MapIsPtr (w3.setCell ⟨m, 1, none⟩ (.slice va' (ps.length - 1) vc')) m ks' vs' (delN l x) (delVPtr l ps x) ∧ Only (MapF m (.slice ka l.length kc) (.slice va ps.length vc)) w (w3.setCell ⟨m, 1, none⟩ (.slice va' (ps.length - 1) vc')) ∧ (∀ k, MapF m ks' vs' k → MapF m (.slice ka l.length kc) (.slice va ps.length vc) k)) := by
    refine ⟨.slice ka' (l.length - 1) kc', .slice va' (ps.length - 1) vc', ⟨?_, ?_, ?_, HL.out, HR.out, by rw [HLN.out]; omega⟩, ?_, ?_⟩
    · have := B3.set 1 (.slice va' (ps.length - 1) vc')
      simpa using this
    · have h1 : w3.ownsRow 0 9 1 (.slice ka' (l.length - 1) kc') (l.length - 1) ((svals l).take P ++ (svals l).drop (P + 1)) := HN2.out.kept g3 (by
        cases hv : (Value.slice ka' (l.length - 1) kc').ownBlock with
        | none => exact .inl rfl
        | some k => exact .inr (fun e => own_ne HN2.out HV2.out (by decide) hv e.symm))
      have h2 := own_only h1 ((Only.refl (· = m) w3).setCell (p := ⟨m, 1, none⟩) (.inl rfl) (.slice va' (ps.length - 1) vc')) (fun k hk e => by subst e; rw [HB1.out] at hk; exact K1.out hk)
      rw [HLN.out, EN.out]
      unfold svals at h2 ⊢
      rw [List.map_append, List.map_take, List.map_drop]
      exact h2
    · have h2 := own_only o3 ((Only.refl (· = m) w3).setCell (p := ⟨m, 1, none⟩) (.inl rfl) (.slice va' (ps.length - 1) vc')) (fun k hk e => by subst e; rw [b3] at hk; exact K2.out hk)
      have e1 : (delVPtr l ps x).length = ps.length - 1 := by rw [EV.out]; simp; omega
      rw [e1, EV.out, List.map_append, List.map_take, List.map_drop]
      exact h2
    · have q1 := (Only.refl (MapF m (.slice ka l.length kc) (.slice va ps.length vc)) w).grown HG1.out (fun k hk => .inl (.inr (.inl hk)))
      have q2 := q1.setCell (p := ⟨m, 0, none⟩) (.inl (.inl rfl)) (.slice ka' (l.length - 1) kc')
      have q3 := q2.grown g3 (fun k hk => .inl (.inr (.inr hk)))
      exact q3.setCell (p := ⟨m, 1, none⟩) (.inl (.inl rfl)) _
    · rintro k (h | h | h)
      · exact .inl h
      · rw [HB1.out] at h; exact .inr (.inl h)
      · rw [b3] at h; exact .inr (.inr h)
  clear o3 g3 b3 B3
  go_wp2_with fail
  go_ret
  exact ⟨rfl, HFIN.out⟩

set_option maxHeartbeats 1000000 in
theorem delPtr_no (m : Nat) (ks vs : Value) (l : List ByteArray) (ps : List (Option Addr)) (x : ByteArray) (w : World) (h : MapIsPtr w m ks vs l ps) (hh : hasN l x = false) :
    Calls Try.prog 46 #[.pointer (some ⟨m, 0, none⟩), .string x] w fun e w' => e = .returned (.bool false) ∧ w = w' := by
  have CF := hid (findPtr m ks vs l ps x w h)
  rw [hh] at CF
  clear h
  go_enter Try.func46, Try.ntmps46
  go_wp2_with (go_at_call 61; refine CF.out.mono ?_; rintro e w' ⟨rfl, rfl⟩)
  go_ret
  exact ⟨rfl, rfl⟩
theorem delPtr_any (m : Nat) (ks vs : Value) (l : List ByteArray) (ps : List (Option Addr)) (x : ByteArray) (w : World) (h : MapIsPtr w m ks vs l ps) :
    Calls Try.prog 46 #[.pointer (some ⟨m, 0, none⟩), .string x] w fun e w' => e = .returned (.bool (hasN l x)) ∧ ∃ ks' vs', MapIsPtr w' m ks' vs' (delN l x) (delVPtr l ps x) ∧ Only (MapF m ks vs) w w' ∧ (∀ k, MapF m ks' vs' k → MapF m ks vs k) := by
  cases hh : hasN l x
  · refine (delPtr_no m ks vs l ps x w h hh).mono ?_
    rintro e w' ⟨rfl, rfl⟩
    have e1 : delN l x = l := by unfold delN; rw [if_neg (by simp [hh])]
    have e2 : delVPtr l ps x = ps := by unfold delVPtr; rw [if_neg (by simp [hh])]
    rw [e1, e2]
    exact ⟨rfl, ks, vs, h, Only.refl _ _, fun _ h => h⟩
  · exact delPtr_has m ks vs l ps x w h hh

set_option maxHeartbeats 2000000 in
theorem putPtr_has (m : Nat) (ks vs : Value) (l : List ByteArray) (ps : List (Option Addr)) (x : ByteArray) (y : (Option Addr)) (w : World) (h : MapIsPtr w m ks vs l ps) (hh : hasN l x = true) :
    Calls Try.prog 40 #[.pointer (some ⟨m, 0, none⟩), .string x, encPtr y] w fun e w' => e = .returned (.bool false) ∧ MapIsPtr w' m ks vs (putN l x) (putVPtr l ps x y) ∧ Only (MapF m ks vs) w w' := by
  have CF := hid (findPtr m ks vs l ps x w h)
  have h0 := h
  obtain ⟨h1, h2, h3, h4, h5, h6⟩ := h
  have hm := (posOf_mem h5 x).2 (hasN_iff.1 hh)
  have eN : putN l x = l := by unfold putN; rw [if_pos hh]
  have eV : putVPtr l ps x y = ps.set (posOf l x) y := by unfold putVPtr; rw [if_pos hh]
  rw [eN, eV]
  rw [hh] at CF
  obtain ⟨P, hP⟩ : ∃ P, posOf l x = P := ⟨_, rfl⟩
  rw [hP] at CF hm ⊢
  rcases h3.2 with ⟨rfl, e2⟩ | ⟨g, cap, cur, rfl, hb, hg, hnc, hcm, hsz, htk⟩
  · omega
  · unfold maxLen at hcm
    rw [Nat.mul_one] at hsz htk
    have B3 : Blk w g 55 cur := hg
    have c1 := h1.cell 1
    simp at c1
    have hgm : g ≠ m := B3.ne h1 (by decide)
    have cg : w.cell? ⟨g, P, none⟩ = some (encPtr (ps.getD P (none))) := by
      rw [B3.cell, ← Array.getElem?_toList, ← List.getElem?_take_of_lt (j := ps.length) (by omega), htk, List.getElem?_map, List.getD_eq_getElem?_getD, List.getElem?_eq_getElem (by omega)]; rfl
    have fg := B3.frozen P
    have HFIN : Hid (MapIsPtr (w.setCell ⟨g, P, none⟩ (encPtr y)) m ks (.slice (some ⟨g, 0, none⟩) ps.length cap) l (ps.set P y) ∧ Only (MapF m ks (.slice (some ⟨g, 0, none⟩) ps.length cap)) w (w.setCell ⟨g, P, none⟩ (encPtr y))) := by
      have O : Only (· = g) w (w.setCell ⟨g, P, none⟩ (encPtr y)) := (Only.refl (· = g) w).setCell (p := ⟨g, P, none⟩) (.inl rfl) _
      refine ⟨⟨h1.only O (fun e => hgm e.symm), own_only h2 O (fun k hk e => by subst e; exact own_ne h3 h2 (by decide) rfl hk), ?_, by simp [h4], h5, h6⟩, O.mono (fun i hi => .inr (.inr (by rw [hi]; rfl)))⟩
      refine ⟨by simp, .inr ⟨g, cap, _, by rw [List.length_set], hb, B3.set P _, by simpa using hnc, by unfold maxLen; omega, by simp [hsz], ?_⟩⟩
      rw [List.length_set, Nat.mul_one, Array.toList_setIfInBounds, List.take_set, htk, List.map_set]
    obtain ⟨v0, hv0⟩ : ∃ v0, ps.getD P (none) = v0 := ⟨_, rfl⟩
    rw [hv0] at cg
    have hPl : P < ps.length := by omega
    unfold encPtr at cg HFIN ⊢
    clear h0 h1 h2 h3 h4 h5 hm hh hP hg htk hsz B3 hv0 hgm eN eV hb
    go_enter Try.func40, Try.ntmps40
    go_wp2_with (go_at_call 61; refine CF.out.mono ?_; rintro e w' ⟨rfl, rfl⟩)
    go_ret
    exact ⟨rfl, HFIN.out⟩

set_option maxHeartbeats 2000000 in
theorem putPtr_no (m : Nat) (ks vs : Value) (l : List ByteArray) (ps : List (Option Addr)) (x : ByteArray) (y : (Option Addr)) (w : World) (h : MapIsPtr w m ks vs l ps) (hh : hasN l x = false) (hl : l.length < 1000000) :
    Calls Try.prog 40 #[.pointer (some ⟨m, 0, none⟩), .string x, encPtr y] w fun e w' => e = .returned (.bool true) ∧ ∃ ks' vs', MapIsPtr w' m ks' vs' (putN l x) (putVPtr l ps x y) ∧ Only (MapF m ks vs) w w' ∧ (∀ k, MapF m ks' vs' k → MapF m ks vs k ∨ w.heap.size ≤ k) := by
  have CF := hid (findPtr m ks vs l ps x w h)
  obtain ⟨h1, h2, h3, h4, h5, h6⟩ := h
  have hris := putN_rising h5 x
  have hlen := putN_lenPtr l ps x y h4
  have hple := posOf_le l x
  have eN : putN l x = l.take (posOf l x) ++ x :: l.drop (posOf l x) := by unfold putN; rw [if_neg (by simp [hh])]
  have eV : putVPtr l ps x y = ps.take (posOf l x) ++ y :: ps.drop (posOf l x) := by unfold putVPtr; rw [if_neg (by simp [hh])]
  rw [hh] at CF
  obtain ⟨P, hP⟩ : ∃ P, posOf l x = P := ⟨_, rfl⟩
  rw [hP] at CF hple eN eV
  have hlN : (putN l x).length = l.length + 1 := by rw [eN]; simp; omega
  have c0 := h1.cell 0
  have c1 := h1.cell 1
  have f0 := h1.frozen 0
  have f1 := h1.frozen 1
  simp at c0 c1
  have hml := h1.lt
  have A1 : Blk (w.alloc (.cells #[.string x] 9)) w.heap.size 9 #[.string x] := Blk.new w _ _
  have C1 := hid (insStr ks l.length P (svals l) (.string x) w.heap.size _ (h2.alloc _) (svals_one l) rfl hple (by omega) A1 (fun e => by have := own_lt h2 e; omega))
  have d1 := own_blk_ne h2 h1 (by decide)
  have d2 := own_blk_ne h3 h1 (by decide)
  have d3 : ∀ k, ks.ownBlock = some k → vs.ownBlock ≠ some k := fun k hk => own_ne h2 h3 (by decide) hk
  have hvl : ∀ k, vs.ownBlock = some k → k < w.heap.size := fun k hk => own_lt h3 hk
  have G1 := hid h1; have G2 := hid h2; have G3 := hid h3
  have EN := hid eN; have EV := hid eV; have HR := hid hris; have HL := hid hlen; have HLN := hid hlN
  have hPp : P ≤ ps.length := by omega
  have hps : ps.length < 1000000 := by omega
  have K1 := hid d1; have K2 := hid d2; have K3 := hid d3; have K4 := hid hvl; have K5 := hid hml
  obtain ⟨ka, kc, rfl, hkc⟩ := own_slice h2
  obtain ⟨va, vc, rfl, hvc⟩ := own_slice h3
  clear h1 h2 h3 h4 h5 h6 hris hlen eN eV hh hP hlN d1 d2 d3 hvl A1
  unfold encPtr
  go_enter Try.func40, Try.ntmps40
  go_wp2_with fail
  refine CF.out.mono ?_; rintro e w' ⟨rfl, rfl⟩
  go_wp2_with fail
  refine C1.out.mono ?_; rintro e w1 ⟨k', rfl, o1, g1, b1⟩
  obtain ⟨ka', kc', rfl, hkc'⟩ := own_slice o1
  have B1 : Blk w1 m 85 #[.slice ka l.length kc, .slice va ps.length vc] := (G1.out.alloc _).grown g1 (fun e => K1.out e.symm)
  have V1 : w1.ownsRow 0 55 1 (.slice va ps.length vc) ps.length (ps.map encPtr) := (G3.out.alloc _).kept g1 (by
    cases hv : (Value.slice va ps.length vc).ownBlock with
    | none => exact .inl rfl
    | some k => exact .inr (fun e => K3.out k e.symm hv))
  have S1 : Hid (w.heap.size ≤ w1.heap.size) := by have := g1.size; simp at this; unfold Hid; omega
  clear c0 c1 f0 f1 hml
  have c0 := B1.cell 0
  have c1 := B1.cell 1
  have f0 := B1.frozen 0
  have f1 := B1.frozen 1
  simp at c0 c1
  have hml1 := B1.lt
  obtain ⟨w2, hw2⟩ : ∃ w2, w2 = w1.setCell ⟨m, 0, none⟩ (.slice ka' (l.length + 1) kc') := ⟨_, rfl⟩
  have O2 : Only (· = m) w1 w2 := by rw [hw2]; exact (Only.refl (· = m) w1).setCell (p := ⟨m, 0, none⟩) (.inl rfl) _
  have B2 : Blk w2 m 85 #[.slice ka' (l.length + 1) kc', .slice va ps.length vc] := by
    have := B1.set 0 (.slice ka' (l.length + 1) kc')
    rw [hw2]; simpa using this
  have kne : ∀ k, (Value.slice ka' (l.length + 1) kc').ownBlock = some k → k ≠ m := fun k hk e => by
    subst e
    rcases b1 with b1 | b1
    · rw [b1] at hk; exact K1.out hk
    · rw [b1] at hk; injection hk with hk; simp at hk; have := K5.out; omega
  have N2 : w2.ownsRow 0 9 1 (.slice ka' (l.length + 1) kc') (l.length + 1) ((svals l).take P ++ .string x :: (svals l).drop P) := own_only o1 O2 kne
  have V2 : w2.ownsRow 0 55 1 (.slice va ps.length vc) ps.length (ps.map encPtr) := own_only V1 O2 (fun k hk e => by subst e; exact K2.out hk)
  have Z2 : w2.heap.size = w1.heap.size := by rw [hw2]; simp [World.setCell]
  have A2 : Blk (w2.alloc (.cells #[encPtr y] 55)) w2.heap.size 55 #[encPtr y] := Blk.new w2 _ _
  have C2 := hid (insPtr _ ps.length P (ps.map encPtr) (encPtr y) w2.heap.size _ (V2.alloc _) (encPtr_one ps) rfl hPp (by omega) A2 (fun e => by have := own_lt V2 e; omega))
  have H2 := hid B2; have HN2 := hid N2; have HV2 := hid V2; have HG1 := hid g1; have HB1 := hid b1; have HO2 := hid O2; have HW2 := hid hw2; have HZ2 := hid Z2; have HKN := hid kne
  clear B1 B2 O2 V1 V2 N2 o1 Z2 g1 b1 A2 kne hw2
  unfold encPtr at C2
  go_wp2_with fail
  rw [← HW2.out, ← HZ2.out]
  refine C2.out.mono ?_; rintro e w3 ⟨v', rfl, o3, g3, b3⟩
  obtain ⟨va', vc', rfl, hvc'⟩ := own_slice o3
  have B3 : Blk w3 m 85 #[.slice ka' (l.length + 1) kc', .slice va ps.length vc] := (H2.out.alloc _).grown g3 (fun e => K2.out e.symm)
  clear c0 c1 f0 f1 hml1
  have c0 := B3.cell 0
  have c1 := B3.cell 1
  have f0 := B3.frozen 0
  have f1 := B3.frozen 1
  simp at c0 c1
  have HFIN : Hid (∃ ks' vs', MapIsPtr (w3.setCell ⟨m, 1, none⟩ (.slice va' (ps.length + 1) vc')) m ks' vs' (putN l x) (putVPtr l ps x y) ∧ Only (MapF m (.slice ka l.length kc) (.slice va ps.length vc)) w (w3.setCell ⟨m, 1, none⟩ (.slice va' (ps.length + 1) vc')) ∧ (∀ k, MapF m ks' vs' k → MapF m (.slice ka l.length kc) (.slice va ps.length vc) k ∨ w.heap.size ≤ k)) := by
    have vne : ∀ k, (Value.slice va' (ps.length + 1) vc').ownBlock = some k → k ≠ m := fun k hk e => by
      subst e
      rcases b3 with b3 | b3
      · rw [b3] at hk; exact K2.out hk
      · rw [b3] at hk; injection hk with hk; simp at hk; have := H2.out.lt; omega
    have O4 : Only (· = m) w3 (w3.setCell ⟨m, 1, none⟩ (.slice va' (ps.length + 1) vc')) := (Only.refl (· = m) w3).setCell (p := ⟨m, 1, none⟩) (.inl rfl) _
    refine ⟨.slice ka' (l.length + 1) kc', .slice va' (ps.length + 1) vc', ⟨?_, ?_, ?_, HL.out, HR.out, by rw [HLN.out]; omega⟩, ?_, ?_⟩
    · have := B3.set 1 (.slice va' (ps.length + 1) vc')
      simpa using this
    · have h1 : w3.ownsRow 0 9 1 (.slice ka' (l.length + 1) kc') (l.length + 1) ((svals l).take P ++ .string x :: (svals l).drop P) := (HN2.out.alloc _).kept g3 (by
        cases hv : (Value.slice ka' (l.length + 1) kc').ownBlock with
        | none => exact .inl rfl
        | some k => exact .inr (fun e => own_ne HN2.out HV2.out (by decide) hv e.symm))
      have h2 := own_only h1 O4 HKN.out
      rw [HLN.out, EN.out]
      unfold svals at h2 ⊢
      rw [List.map_append, List.map_cons, List.map_take, List.map_drop]
      exact h2
    · have h2 := own_only o3 O4 vne
      have e1 : (putVPtr l ps x y).length = ps.length + 1 := by rw [EV.out]; simp; omega
      rw [e1, EV.out, List.map_append, List.map_cons, List.map_take, List.map_drop]
      exact h2
    · have q0 := (Only.refl (MapF m (.slice ka l.length kc) (.slice va ps.length vc)) w).alloc (.cells #[.string x] 9)
      have q1 := q0.grown HG1.out (fun k hk => .inl (.inr (.inl hk)))
      have q2 : Only (MapF m (.slice ka l.length kc) (.slice va ps.length vc)) w w2 := q1.trans HO2.out (fun i hi => .inl (.inl hi))
      have q3 := (q2.alloc (.cells #[encPtr y] 55)).grown g3 (fun k hk => .inl (.inr (.inr hk)))
      exact q3.setCell (p := ⟨m, 1, none⟩) (.inl (.inl rfl)) _
    · rintro k (h | h | h)
      · exact .inl (.inl h)
      · rcases HB1.out with b1 | b1
        · rw [b1] at h; exact .inl (.inr (.inl h))
        · rw [b1] at h; injection h with h; simp at h; exact .inr (by omega)
      · rcases b3 with b3 | b3
        · rw [b3] at h; exact .inl (.inr (.inr h))
        · rw [b3] at h; injection h with h; simp at h; have := S1.out; have := HZ2.out; exact .inr (by omega)
  clear o3 g3 b3 B3
  go_wp2_with fail
  go_ret
  exact ⟨rfl, HFIN.out⟩
theorem putPtr_any (m : Nat) (ks vs : Value) (l : List ByteArray) (ps : List (Option Addr)) (x : ByteArray) (y : (Option Addr)) (w : World) (h : MapIsPtr w m ks vs l ps) (hl : l.length < 1000000) :
    Calls Try.prog 40 #[.pointer (some ⟨m, 0, none⟩), .string x, encPtr y] w fun e w' => e = .returned (.bool (!hasN l x)) ∧ ∃ ks' vs', MapIsPtr w' m ks' vs' (putN l x) (putVPtr l ps x y) ∧ Only (MapF m ks vs) w w' ∧ (∀ k, MapF m ks' vs' k → MapF m ks vs k ∨ w.heap.size ≤ k) := by
  cases hh : hasN l x
  · exact putPtr_no m ks vs l ps x y w h hh hl
  · refine (putPtr_has m ks vs l ps x y w h hh).mono ?_
    rintro e w' ⟨rfl, h1, h2⟩
    exact ⟨rfl, ks, vs, h1, h2, fun _ h => .inl h⟩
end Go.Proofs.Ythjomknhbfplnaa
