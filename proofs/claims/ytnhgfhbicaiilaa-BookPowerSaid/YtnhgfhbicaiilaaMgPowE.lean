/- Texts in a row: BkReadW, BkGrid, ReelAct, BkOpen, BkReady, BkActs, BkDo, BkAdd. -/
import Derived.Test.YtnhgfhbicaiilaaMgPowD
import Derived.Deep.RegionHeld3
/- What is read of a book's bytes: the walk. -/
namespace Go.Proofs.Ytnhgfhbicaiilaa
open Go.RowKit Book
set_option linter.unusedVariables false

theorem Try.infoSl : (Try.prog.info? 33).map (fun i => (i.zero, i.size, i.bytes)) = some (some (.slice none 0 0), 1, 24) := by kernel_rfl
theorem Book.stepR_fits {crc : List UInt8 → Nat} {G : List UInt8} {rs : List (List UInt8)} {n : Nat} (h : stepR crc G = some (rs, n)) : 8 + n ≤ G.length := by
  by_cases h8 : G.length < 8
  · rw [stepR_short G h8] at h; cases h
  obtain ⟨e1, e2⟩ := numR_head G (by omega)
  unfold stepR at h
  simp only [e1, e2] at h
  split at h
  · cases h
  rename_i hc
  simp only [not_or] at hc
  have hn : numV (G.take 4) = n := by
    rw [Option.map_eq_some_iff] at h
    obtain ⟨x, -, hx⟩ := h
    injection hx
  rw [hn] at hc
  by_cases hl : (G.drop 8).length < n
  · rw [takeR_short _ _ hl] at hc; exact absurd rfl hc.1
  · simp at hl; omega
theorem Book.readF_some {crc : List UInt8 → Nat} {G : List UInt8} {rs : List (List UInt8)} {n : Nat} (f : Nat) (h : stepR crc G = some (rs, n)) : readF crc (f + 1) G = (rs :: (readF crc f (G.drop (8 + n))).1, 8 + n + (readF crc f (G.drop (8 + n))).2) := by
  show (match stepR crc G with
    | none => ([], 0)
    | some (l, n) => (l :: (readF crc f (G.drop (8 + n))).1, 8 + n + (readF crc f (G.drop (8 + n))).2)) = _
  rw [h]
theorem below_mono2 {B : Nat} {a b c : World} (h : Below B a b) (hB : B ≤ b.heap.size) (k : Below b.heap.size b c) : Below B a c := h.trans (k.mono hB)
def DeedRow (w : World) (B : Nat) (v : Value) (L : List (List (List UInt8))) : Prop := ∃ vs, w.ownsRow B 33 1 v L.length vs ∧ ∀ j (h : j < L.length), ∃ a c, vs[j]? = some (.slice a L[j].length c) ∧ w.ownsRow B 9 1 (.slice a L[j].length c) L[j].length (svals (L[j].map bx))
theorem own_base0 {w : World} {B B' : Nat} {e : TypeId} {s n : Nat} {v : Value} {xs : List Value} (h : w.ownsRow B e s v n xs) (hB : B' ≤ B) : w.ownsRow B' e s v n xs := own_low h (fun k hk => Nat.le_trans hB (h.lt k hk).1)
theorem deedRow_nil (w : World) (B : Nat) : DeedRow w B (.slice none 0 0) [] := ⟨[], World.ownsRow_nil _ _ _ _, fun j h => by cases h⟩
theorem deedRow_below {w w' : World} {B : Nat} {v : Value} {L : List (List (List UInt8))} (h : DeedRow w B v L) (hb : Below w.heap.size w w') : DeedRow w' B v L := by
  obtain ⟨vs, h1, h2⟩ := h
  exact ⟨vs, own_below h1 hb, fun j hj => by obtain ⟨a, c, e, ho⟩ := h2 j hj; exact ⟨a, c, e, own_below ho hb⟩⟩
theorem deedRow_push {w w' : World} {B : Nat} {v v' : Value} {L : List (List (List UInt8))} {vs : List Value} {rs : List (List UInt8)} {a : Option Addr} {c : Nat} {o : Obj}
    (h1 : w.ownsRow B 33 1 v L.length vs) (h2 : ∀ j (h : j < L.length), ∃ a c, vs[j]? = some (.slice a L[j].length c) ∧ w.ownsRow B 9 1 (.slice a L[j].length c) L[j].length (svals (L[j].map bx)))
    (hr : w.ownsRow B 9 1 (.slice a rs.length c) rs.length (svals (rs.map bx))) (ho : w'.ownsRow B 33 1 v' (L.length + 1) (vs ++ [.slice a rs.length c])) (hg : (w.alloc o).grownBy w' v.ownBlock) : DeedRow w' B v' (L ++ [rs]) := by
  have hl : vs.length = L.length := by have := h1.1; omega
  have hon : Only (fun k => v.ownBlock = some k) w w' := ((Only.refl _ w).alloc o).grown hg (fun k e => .inl e)
  have key : ∀ {u : Value} {n : Nat} {xs : List Value}, w.ownsRow B 9 1 u n xs → w'.ownsRow B 9 1 u n xs := fun hu => own_only hu hon (fun k hk => own_ne hu h1 (by decide) hk)
  refine ⟨vs ++ [.slice a rs.length c], by rw [List.length_append]; exact ho, fun j hj => ?_⟩
  by_cases hjl : j < L.length
  · obtain ⟨a', c', e, h3⟩ := h2 j hjl
    have e2 : (L ++ [rs])[j] = L[j] := List.getElem_append_left hjl
    rw [e2]
    exact ⟨a', c', by rw [List.getElem?_append_left (by omega)]; exact e, key h3⟩
  · have hj' : j = L.length := by rw [List.length_append] at hj; simp at hj; omega
    subst hj'
    have e2 : (L ++ [rs])[L.length] = rs := by simp
    rw [e2]
    exact ⟨a, c, by rw [List.getElem?_append_right (by omega), hl]; simp, key hr⟩
set_option maxRecDepth 100000 in
set_option maxHeartbeats 8000000 in
theorem read_book (l : List UInt8) (w : World) (hl : l.length ≤ 1000000000000) : Calls Try.prog 24 #[.string (bx l)] w fun e w' =>
    (∃ a c, e = .returned (.tuple #[.slice a (readR crcP l).1.length c, .int .i64 (readR crcP l).2]) ∧ DeedRow w' w.heap.size (.slice a (readR crcP l).1.length c) (readR crcP l).1) ∧ Below w.heap.size w w' := by
  obtain ⟨i0, hi0, hz0, hz1, hz2⟩ := info_parts Try.infoSl
  obtain ⟨Z, hZ⟩ : ∃ Z, readR crcP l = Z := ⟨_, rfl⟩
  have HZ : Hid (readF crcP l.length l = Z) := hZ
  rw [hZ]
  obtain ⟨B, hB⟩ : ∃ B, w.heap.size = B := ⟨_, rfl⟩
  have HBW := hid hB
  have HLOW : Hid (∀ w1, Below B w w1 → B ≤ w1.heap.size) := fun w1 h => by have := h.size; rw [HBW.out] at this; exact this
  rw [hB]
  obtain ⟨y, hy⟩ : ∃ y, bx l = y := ⟨_, rfl⟩
  have hys : y.size = l.length := by rw [← hy, bx_size]
  have HDR : Hid (∀ k, y.extract k y.size = bx (l.drop k)) := fun k => by rw [← hy, bx_drop]
  rw [hy]
  have HYS := hid hys
  have hyb : y.size ≤ 1000000000000 := by omega
  clear hZ hB hy hys hl
  go_enter Try.func24, Try.ntmps24
  go_wp2
  go_loopw [2, 3] (fun ov iv wr => ∃ (k : Nat) (L : List (List (List UInt8))), k ≤ y.size ∧ iv = .int .i64 k ∧ Hid (8 * L.length ≤ k) ∧ Hid (Z = (L ++ (readF crcP (l.length - L.length) (l.drop k)).1, k + (readF crcP (l.length - L.length) (l.drop k)).2)) ∧ Hid (DeedRow wr B ov L) ∧ Hid (Below B w wr)) (fun _ iv _ => y.size - (intOf iv).toNat)
  case atStart =>
    refine ⟨0, [], Nat.zero_le _, rfl, Nat.le_refl _, ?_, deedRow_nil _ _, Below.refl _ _⟩
    show Z = _
    rw [← HZ.out]; simp
  case round =>
    obtain ⟨k, L, hk, rfl, H8, HINV, HO, LX⟩ := hrel
    have hBr : B ≤ wr.heap.size := HLOW.out _ LX.out
    obtain ⟨G, hG⟩ : ∃ G, l.drop k = G := ⟨_, rfl⟩
    have hGl : G.length ≤ 1000000000000 := by rw [← hG, List.length_drop]; have := HYS.out; omega
    have HGL : Hid (k + G.length = y.size) := by show _ = _; rw [← hG, List.length_drop]; have := HYS.out; omega
    have HNX : Hid (∀ n, l.drop (k + n) = G.drop n) := fun n => by rw [← hG, List.drop_drop]
    obtain ⟨g, hg⟩ : ∃ g, wr.heap.size = g := ⟨_, rfl⟩
    have HG := hid hg
    have HNEW := hid (onew_any (y.extract k y.size) wr)
    have hdr := HDR.out k
    rw [hG] at hdr HINV
    rw [hdr, bx_list, ← hdr, hg] at HNEW
    obtain ⟨r1, hr1⟩ : ∃ r1, (numR (newR G)).2 = r1 := ⟨_, rfl⟩
    obtain ⟨N, hN⟩ : ∃ N, (numR (newR G)).1 = N := ⟨_, rfl⟩
    obtain ⟨r2, hr2⟩ : ∃ r2, (numR r1).2 = r2 := ⟨_, rfl⟩
    obtain ⟨C, hC⟩ : ∃ C, (numR r1).1 = C := ⟨_, rfl⟩
    obtain ⟨r3, hr3⟩ : ∃ r3, (takeR r2 N).2 = r3 := ⟨_, rfl⟩
    obtain ⟨b, hb⟩ : ∃ b, (takeR r2 N).1 = b := ⟨_, rfl⟩
    have HST : Hid (stepR crcP G = if r3.bad = true ∨ crcP b ≠ C then none else (recordsR b).map (fun l => (l, N))) := by
      show stepR crcP G = _
      unfold stepR
      simp only [hr1, hN, hr2, hC, hr3, hb]
    have hN32 : N < 4294967296 := by rw [← hN]; exact numV_lt _
    have hC32 : C < 4294967296 := by rw [← hC]; exact numV_lt _
    have hrl1 : r1.rest.length ≤ 1000000000000 := by rw [← hr1]; exact Nat.le_trans (takeR_rest _ 4) hGl
    have hrl2 : r2.rest.length ≤ 1000000000000 := by rw [← hr2]; exact Nat.le_trans (takeR_rest _ 4) hrl1
    have hbl : b.length ≤ 1000000000000 := by
      rw [← hb]; unfold takeR; split
      · simp
      · simp; omega
    have HN1 : Hid (∀ w', RdAt w' g (newR G) → Calls Try.prog 47 #[.pointer (some ⟨g, 0, none⟩)] w' fun e w'' => e = .returned (.int .u32 N) ∧ RdAt w'' g r1 ∧ Only (· = g) w' w'') := fun w' h => by
      have := onum_any h (by show G.length ≤ _; omega); rwa [hN, hr1] at this
    have HN2 : Hid (∀ w', RdAt w' g r1 → Calls Try.prog 47 #[.pointer (some ⟨g, 0, none⟩)] w' fun e w'' => e = .returned (.int .u32 C) ∧ RdAt w'' g r2 ∧ Only (· = g) w' w'') := fun w' h => by
      have := onum_any h (by omega); rwa [hC, hr2] at this
    have HTK : Hid (∀ w', RdAt w' g r2 → Calls Try.prog 48 #[.pointer (some ⟨g, 0, none⟩), .int .i64 N] w' fun e w'' => e = .returned (.string (bx b)) ∧ RdAt w'' g r3 ∧ Only (· = g) w' w'') := fun w' h => by
      have := otake_any N h (by omega) (by omega); rwa [hb, hr3] at this
    obtain ⟨R, hR⟩ : ∃ R, recordsR b = R := ⟨_, rfl⟩
    have HRC : Hid (∀ w', Calls Try.prog 49 #[.string (bx b)] w' fun e w'' => (∃ a n c, e = .returned (.tuple #[.slice a n c, .bool R.isSome]) ∧ (∀ rs, R = some rs → n = rs.length ∧ w''.ownsRow w'.heap.size 9 1 (.slice a n c) n (svals (rs.map bx)))) ∧ Below w'.heap.size w' w'') := fun w' => by
      have := records_any b w' hbl; rwa [hR] at this
    obtain ⟨q, hq⟩ : ∃ q, crcP b = q := ⟨_, rfl⟩
    have HSM : Hid (∀ w', Calls Try.prog 51 #[.string (bx b)] w' fun e w'' => e = .returned (.int .u32 q) ∧ Below w'.heap.size w' w'') := fun w' => by
      have := crcsum_any (bx b) w' (by rw [bx_size]; omega); rwa [bx_list, hq] at this
    rw [hR, hq] at HST
    obtain ⟨bad, hbad⟩ : ∃ bad, r3.bad = bad := ⟨_, rfl⟩
    have HBD : Hid (∀ w', RdAt w' g r3 → Calls Try.prog 50 #[.pointer (some ⟨g, 0, none⟩)] w' fun e w'' => e = .returned (.bool bad) ∧ w' = w'') := fun w' h => by
      have := obad_any h; rwa [hbad] at this
    rw [hbad] at HST
    obtain ⟨z, hz⟩ : ∃ z, bx b = z := ⟨_, rfl⟩
    rw [hz] at HTK HRC HSM
    have ew : IntKind.i64.wrap (N : Int) = N := by rw [IntKind.wrap_i64]; omega
    have ck1 : (0 : Int) ≤ (k : Int) := by omega
    have ck2 : (k : Int) ≤ (y.size : Int) := by omega
    clear hr1 hN hr2 hC hr3 hb hR hq hz hdr hbad hG hg hrl1 hrl2 hbl hGl
    by_cases hok : bad = false ∧ q = C ∧ R.isSome = true
    · obtain ⟨rfl, rfl, hsome⟩ := hok
      obtain ⟨rs, rfl⟩ := Option.isSome_iff_exists.1 hsome
      have hstep : stepR crcP G = some (rs, N) := by rw [HST.out]; simp
      have hfits := stepR_fits hstep
      have hfb : k + (8 + N) ≤ y.size := by have := HGL.out; omega
      have HF : Hid (l.length - L.length = (l.length - (L.length + 1)) + 1) := by show _ = _; have := HGL.out; have := HYS.out; have := H8.out; omega
      have HNEXT : Hid (Z = ((L ++ [rs]) ++ (readF crcP (l.length - (L.length + 1)) (l.drop (k + (8 + N)))).1, (k + (8 + N)) + (readF crcP (l.length - (L.length + 1)) (l.drop (k + (8 + N)))).2)) := by
        show Z = _
        rw [HINV.out, HF.out, HNX.out]
        rw [readF_some _ hstep]
        simp only [List.append_assoc, List.singleton_append, Prod.mk.injEq, true_and]
        omega
      clear hstep hfits hsome HST HINV
      obtain ⟨vs, ho1, ho2⟩ := HO.out
      have HO1 := hid ho1; have HO2 := hid ho2
      have hLk : L.length ≤ 1000000000000 := by have := H8.out; omega
      clear ho1 ho2 HO
      go_wp2_with (first
        | (go_at_call 46; refine HNEW.out.mono ?_; rintro e w1 ⟨rfl, hs1, hs2⟩; have H1 := hid hs1; have L1 : Hid (Below g wr w1) := hs2; clear hs1 hs2)
        | (go_at_call 47; refine (HN1.out _ H1.out).mono ?_; rintro e w2 ⟨rfl, hs⟩; have H2 := hid hs.1; have L2 : Hid (Below g wr w2) := L1.out.trans (hs.2.below (fun i e => Nat.le_of_eq e.symm) (by have := L1.out.size; have := HG.out; omega)); clear hs)
        | (go_at_call 47; refine (HN2.out _ H2.out).mono ?_; rintro e w3 ⟨rfl, hs⟩; have H3 := hid hs.1; have L3 : Hid (Below g wr w3) := L2.out.trans (hs.2.below (fun i e => Nat.le_of_eq e.symm) (by have := L2.out.size; have := HG.out; omega)); clear hs)
        | (go_at_call 48; refine (HTK.out _ H3.out).mono ?_; rintro e w4 ⟨rfl, hs⟩; have H4 := hid hs.1; have L4 : Hid (Below g wr w4) := L3.out.trans (hs.2.below (fun i e => Nat.le_of_eq e.symm) (by have := L3.out.size; have := HG.out; omega)); clear hs)
        | (go_at_call 49; refine (HRC.out _).mono ?_; rintro e w5 ⟨⟨a5, n5, c5, rfl, hs0⟩, hs⟩; obtain ⟨rfl, hown5⟩ := hs0 rs rfl; have HR5 := hid hown5; have H5 : Hid (RdAt w5 g r3) := H4.out.only (Only.of_below hs (fun _ => False)) (fun e => e); have hgw4 : g ≤ w4.heap.size := (by have := L4.out.size; have := HG.out; omega); have L5 : Hid (Below g wr w5) := L4.out.trans (hs.mono hgw4); clear hs hs0 hown5)
        | (go_at_call 50; refine (HBD.out _ H5.out).mono ?_; rintro e w' ⟨rfl, rfl⟩)
        | (go_at_call 51; refine (HSM.out _).mono ?_; rintro e w6 ⟨rfl, hs⟩; have hgw5 : g ≤ w5.heap.size := (by have := L5.out.size; have := HG.out; omega)
           have hlow : Below wr.heap.size wr w6 := (by rw [HG.out]; exact L5.out.trans (hs.mono hgw5))
           have L6 : Hid (Below B w w6) := below_mono2 LX.out hBr hlow
           have hown : w6.ownsRow B 33 1 _ L.length vs := own_below HO1.out hlow
           have HO6 : Hid (∀ j (h : j < L.length), ∃ a c, vs[j]? = some (.slice a L[j].length c) ∧ w6.ownsRow B 9 1 (.slice a L[j].length c) L[j].length (svals (L[j].map bx))) := fun j hj => (by obtain ⟨a, c, e, h⟩ := HO2.out j hj; exact ⟨a, c, e, own_below h hlow⟩)
           have HR6 : Hid (w6.ownsRow B 9 1 (.slice a5 rs.length c5) rs.length (svals (rs.map bx))) := own_base0 (own_below HR5.out hs) (Nat.le_trans hBr (by rw [HG.out]; exact hgw4))
           have hB6 : B ≤ w6.heap.size := HLOW.out _ L6.out
           clear hs hlow)
        | (at_builtin; refine wpList_append_own _ rfl (.tmp 41) (.tmp 43) 29 rfl B 33 i0 (.slice none 0 0) 1 24 Try.underlying29 hi0 hz0 hz1 hz2 rfl (by decide) _ _ _ rfl (hown.alloc _) _ 1 1 [.slice a5 rs.length c5] rfl rfl (cellNew1 _ _ _) (one_bytes rfl) (by unfold maxLen; omega) (by omega) (by simp; omega) ?_; intro v' w7 hown' hgrow _))
      go_roundw
      case rel => exact ⟨k + (8 + N), L ++ [rs], hfb, by go_num, by show _ ≤ _; rw [List.length_append]; have := H8.out; simp; omega, by show Z = _; rw [List.length_append]; exact HNEXT.out, deedRow_push hown HO6.out HR6.out hown' hgrow, below_grown1 L6.out hown _ hB6 hgrow⟩
      case measure => simp [intOf]; omega
    · have hstep : stepR crcP G = none := by
        rw [HST.out]
        cases bad
        · by_cases hqc : q = C
          · cases R
            · simp
            · exact absurd ⟨rfl, hqc, rfl⟩ hok
          · simp [hqc]
        · simp
      have HRES : Hid (Z = (L, k)) := by
        show Z = _
        rw [HINV.out, readF_none _ _ hstep]; simp
      clear hstep HST HINV
      obtain ⟨a, c, rfl, -⟩ := own_slice HO.out.choose_spec.1
      have hgo : bad = true ∨ bad = false ∧ ((q : Int) == (C : Int)) = false ∧ ¬ (q : Int) = C ∨ bad = false ∧ q = C ∧ R.isSome = false := by
        cases bad
        · by_cases hqc : q = C
          · right; right; refine ⟨rfl, hqc, ?_⟩
            cases h : R.isSome
            · rfl
            · exact absurd ⟨rfl, hqc, h⟩ hok
          · right; left; refine ⟨rfl, ?_, by omega⟩; rw [beq_eq_false_iff_ne]; omega
        · exact .inl rfl
      clear hok
      obtain ⟨s, hs⟩ : ∃ s, R.isSome = s := ⟨_, rfl⟩
      rw [hs] at hgo HRC
      clear hs
      rcases hgo with rfl | ⟨rfl, hq1, hq2⟩ | ⟨rfl, rfl, rfl⟩ <;> (
        go_wp2_with (first
        | (go_at_call 46; refine HNEW.out.mono ?_; rintro e w1 ⟨rfl, hs1, hs2⟩; have H1 := hid hs1; have L1 : Hid (Below g wr w1) := hs2; clear hs1 hs2)
        | (go_at_call 47; refine (HN1.out _ H1.out).mono ?_; rintro e w2 ⟨rfl, hs⟩; have H2 := hid hs.1; have L2 : Hid (Below g wr w2) := L1.out.trans (hs.2.below (fun i e => Nat.le_of_eq e.symm) (by have := L1.out.size; have := HG.out; omega)); clear hs)
        | (go_at_call 47; refine (HN2.out _ H2.out).mono ?_; rintro e w3 ⟨rfl, hs⟩; have H3 := hid hs.1; have L3 : Hid (Below g wr w3) := L2.out.trans (hs.2.below (fun i e => Nat.le_of_eq e.symm) (by have := L2.out.size; have := HG.out; omega)); clear hs)
        | (go_at_call 48; refine (HTK.out _ H3.out).mono ?_; rintro e w4 ⟨rfl, hs⟩; have H4 := hid hs.1; have L4 : Hid (Below g wr w4) := L3.out.trans (hs.2.below (fun i e => Nat.le_of_eq e.symm) (by have := L3.out.size; have := HG.out; omega)); clear hs)
        | (go_at_call 49; refine (HRC.out _).mono ?_; rintro e w5 ⟨⟨a5, n5, c5, rfl, hs0⟩, hs⟩; have H5 : Hid (RdAt w5 g r3) := H4.out.only (Only.of_below hs (fun _ => False)) (fun e => e); have hgw4 : g ≤ w4.heap.size := (by have := L4.out.size; have := HG.out; omega); have L5 : Hid (Below wr.heap.size wr w5) := (by show Below _ _ _; rw [HG.out]; exact L4.out.trans (hs.mono hgw4)); clear hs hs0)
        | (go_at_call 50; refine (HBD.out _ H5.out).mono ?_; rintro e w' ⟨rfl, rfl⟩)
        | (go_at_call 51; refine (HSM.out _).mono ?_; rintro e w6 ⟨rfl, hs⟩; have L6 : Hid (Below wr.heap.size wr w6) := below_then L5.out hs; clear hs))
        go_ret2
        refine ⟨⟨a, c, by rw [HRES.out]; rfl, ?_⟩, ?_⟩
        · rw [HRES.out]; exact deedRow_below HO.out (by first | exact L6.out | exact L5.out)
        · exact below_mono2 LX.out hBr (by first | exact L6.out | exact L5.out))
end Go.Proofs.Ytnhgfhbicaiilaa
/- Lists of lists of texts in memory, and in which blocks. -/
namespace Go.Proofs.Ytnhgfhbicaiilaa
open Go.RowKit Book
set_option linter.unusedVariables false

def SIn (G : Nat → Prop) (w : World) (a : Option Addr) (n : Nat) (l : List ByteArray) : Prop := StrsAt w a n l ∧ (n ≠ 0 → ∀ b off, a = some ⟨b, off, none⟩ → G b)
def GridIn (G : Nat → Prop) (w : World) (a : Option Addr) (n : Nat) (L : List (List ByteArray)) : Prop :=
  L.length = n ∧ n ≤ 9223372036854775807 ∧ (n = 0 ∨ ∃ b off, a = some ⟨b, off, none⟩ ∧ G b ∧ ∀ j (h : j < L.length), ∃ a' c', w.cell? ⟨b, off + j, none⟩ = some (.slice a' L[j].length c') ∧ SIn G w a' L[j].length L[j])
section
variable {G F : Nat → Prop} {w w' : World} {a : Option Addr} {n : Nat}
theorem strs_only {l : List ByteArray} (h : StrsAt w a n l) (ho : Only F w w') (hf : n ≠ 0 → ∀ b off, a = some ⟨b, off, none⟩ → ¬ F b) : StrsAt w' a n l := by
  obtain ⟨h1, h2, h3⟩ := h
  refine ⟨h1, h2, ?_⟩
  by_cases hn : n = 0
  · exact .inl hn
  · refine .inr ?_
    obtain ⟨b, off, ha, hc⟩ := h3.resolve_left hn
    exact ⟨b, off, ha, fun j hj => ho.cell (hc j hj) (hf hn b off ha)⟩
theorem SIn.only {l : List ByteArray} (h : SIn G w a n l) (ho : Only F w w') (hf : ∀ k, G k → ¬ F k) : SIn G w' a n l :=
  ⟨strs_only h.1 ho (fun hn b off e => hf b (h.2 hn b off e)), h.2⟩
theorem GridIn.only {L : List (List ByteArray)} (h : GridIn G w a n L) (ho : Only F w w') (hf : ∀ k, G k → ¬ F k) : GridIn G w' a n L := by
  obtain ⟨h1, h2, h3⟩ := h
  refine ⟨h1, h2, h3.imp id ?_⟩
  rintro ⟨b, off, ha, hb, hc⟩
  refine ⟨b, off, ha, hb, fun j hj => ?_⟩
  obtain ⟨a', c', e, hs⟩ := hc j hj
  exact ⟨a', c', ho.cell e (hf b hb), hs.only ho hf⟩
theorem GridIn.mono {L : List (List ByteArray)} {G' : Nat → Prop} (h : GridIn G w a n L) (hG : ∀ k, G k → G' k) : GridIn G' w a n L := by
  obtain ⟨h1, h2, h3⟩ := h
  refine ⟨h1, h2, h3.imp id ?_⟩
  rintro ⟨b, off, ha, hb, hc⟩
  refine ⟨b, off, ha, hG b hb, fun j hj => ?_⟩
  obtain ⟨a', c', e, hs⟩ := hc j hj
  exact ⟨a', c', e, hs.1, fun hn b off ha => hG b (hs.2 hn b off ha)⟩
theorem GridIn.get {L : List (List ByteArray)} (h : GridIn G w a n L) {j : Nat} (hj : j < n) : ∃ b off a' c', a = some ⟨b, off, none⟩ ∧ w.cell? ⟨b, off + j, none⟩ = some (.slice a' (L[j]'(by have := h.1; omega)).length c') ∧ SIn G w a' (L[j]'(by have := h.1; omega)).length (L[j]'(by have := h.1; omega)) := by
  obtain ⟨h1, h2, h3⟩ := h
  obtain ⟨b, off, ha, hb, hc⟩ := h3.resolve_left (by omega)
  obtain ⟨a', c', e, hs⟩ := hc j (by omega)
  exact ⟨b, off, a', c', ha, e, hs⟩
theorem GridIn.nil : GridIn G w a 0 [] := ⟨rfl, by omega, .inl rfl⟩
end
def grid (L : List (List (List UInt8))) : List (List ByteArray) := L.map fun rs => rs.map bx
theorem own_block {w : World} {B : Nat} {e : TypeId} {n c b off : Nat} {v : Value} {xs : List Value} (h : w.ownsRow B e 1 v n xs) (hv : v = .slice (some ⟨b, off, none⟩) n c) : off = 0 ∧ v.ownBlock = some b := by
  rcases h.2 with ⟨rfl, h0⟩ | ⟨g, cap, cur, rfl, _⟩
  · cases hv
  · injection hv with h1 h2 h3
    injection h1 with h1
    injection h1 with h4 h5 h6
    subst h4 h5
    exact ⟨rfl, rfl⟩
theorem gridIn_of_row {w : World} {B : Nat} {a : Option Addr} {c : Nat} {L : List (List (List UInt8))} (h : DeedRow w B (.slice a L.length c) L) (hm : L.length ≤ 9223372036854775807) (hm2 : ∀ rs ∈ L, rs.length ≤ 9223372036854775807) : GridIn (fun k => B ≤ k ∧ k < w.heap.size) w a L.length (grid L) := by
  obtain ⟨vs, h1, h2⟩ := h
  refine ⟨by simp [grid], hm, ?_⟩
  by_cases h0 : L.length = 0
  · exact .inl h0
  right
  have h1' := h1
  rcases h1.2 with ⟨e, e0⟩ | ⟨g, cap, cur, e, hb, hg, hn, hc, hsz, htk⟩
  · exact absurd e0 h0
  injection e with e1 e2 e3
  subst e1 e3
  have hlt : ∀ {u : Value} {k n : Nat} {t : TypeId} {xs : List Value}, w.ownsRow B t 1 u n xs → u.ownBlock = some k → B ≤ k ∧ k < w.heap.size := fun ho hk => ho.lt _ hk
  refine ⟨g, 0, rfl, hlt h1' rfl, fun j hj => ?_⟩
  have hjl : j < L.length := by simpa [grid] using hj
  obtain ⟨a', c', e, ho⟩ := h2 j hjl
  have he : (grid L)[j] = L[j].map bx := by simp [grid]
  have hel : (grid L)[j].length = L[j].length := by rw [he, List.length_map]
  refine ⟨a', c', ?_, ?_, ?_⟩
  · have h3 := h1'.cellAt j (by omega)
    rw [Nat.zero_add, hel]
    have h4 : vs[j]? = some (vs[j]'(by have := h1'.1; omega)) := List.getElem?_eq_getElem _
    rw [e] at h4
    have h5 : (⟨g, 0, none⟩ : Addr).add j = ⟨g, j, none⟩ := by unfold Addr.add; split <;> simp_all
    rw [← e, ← h3]
  · have ho' : w.ownsRow B 9 1 (.slice a' L[j].length c') (L[j].map bx).length (svals (L[j].map bx)) := by rw [List.length_map]; exact ho
    obtain ⟨a2, c2, e2, hs⟩ := own_strs ho' (by rw [List.length_map]; exact hm2 _ (List.getElem_mem _))
    injection e2 with e3 e4 e5
    subst e3
    rw [he]; exact hs
  · intro hn b off ha
    subst ha
    exact hlt ho (own_block ho rfl).2
end Go.Proofs.Ytnhgfhbicaiilaa
/- A call of a disk as the laws draw it, and what it keeps: plain Lean. -/
namespace Go.Proofs.Ytnhgfhbicaiilaa.Reel
open Go.RowKit
set_option linter.unusedVariables false

structure ActV where
  kind : Int
  name : ByteArray
  text : ByteArray
  n : Int
  fates : List Int
def doesS (S : St) (x : ActV) : St × Int :=
  if x.kind = 1 then appendS S x.name x.text
  else if x.kind = 2 then syncS S x.name
  else if x.kind = 3 then cutS S x.name x.n
  else if x.kind = 4 then swapS S x.name x.text
  else if x.kind = 5 then dropS S x.name
  else if x.kind = 6 then (offS S, 0)
  else if x.kind = 7 then (onS S x.fates, 0)
  else if x.kind = 8 then (armS S x.n, 0)
  else if x.kind = 9 then (roomS S x.n, 0)
  else (S, 0)
section
variable {S S' : St} {x y : ByteArray} {t : Spool} {n : Nat}
/-- acts, lives, armed, room as they were, but for an act -/
def Near (S S' : St) : Prop := S'.room = S.room ∧ ((S'.acts = S.acts ∧ S'.life = S.life ∧ S'.armed = S.armed) ∨ (S'.acts = (actS S).1.acts ∧ S'.life = (actS S).1.life ∧ S'.armed = (actS S).1.armed))
theorem Near.refl (S : St) : Near S S := ⟨rfl, .inl ⟨rfl, rfl, rfl⟩⟩
theorem Near.act (S : St) : Near S (actS S).1 := ⟨(act_l S).2.2.2, .inr ⟨rfl, rfl, rfl⟩⟩
theorem Near.fits (h : Near S S') (hf : S.Fits n) : S'.Fits (n + 1) := by
  obtain ⟨-, h⟩ := h
  rcases h with ⟨h1, h2, h3⟩ | ⟨h1, h2, h3⟩
  · obtain ⟨f1, f2, f3⟩ := hf
    exact ⟨by omega, by omega, by omega⟩
  · obtain ⟨f1, f2, f3⟩ := act_fits hf
    exact ⟨by omega, by omega, by omega⟩
theorem act_same {S1 S2 : St} (h1 : S1.acts = S2.acts) (h2 : S1.life = S2.life) (h3 : S1.armed = S2.armed) (h4 : S1.room = S2.room) : Near S2 (actS S1).1 := by
  refine ⟨by rw [(act_l S1).2.2.2, h4], .inr ?_⟩
  unfold actS
  rw [h3]
  split
  · exact ⟨by show S1.acts + 1 = S2.acts + 1; omega, h2, rfl⟩
  · split
    · exact ⟨by show S1.acts + 1 = S2.acts + 1; omega, by show S1.life + 1 = S2.life + 1; omega, rfl⟩
    · exact ⟨by show S1.acts + 1 = S2.acts + 1; omega, h2, rfl⟩
theorem putT_near (S : St) (x : ByteArray) (t : Spool) (U : Nat) : ({ putT S x t with used := U } : St).acts = S.acts ∧ ({ putT S x t with used := U } : St).life = S.life ∧ ({ putT S x t with used := U } : St).armed = S.armed ∧ ({ putT S x t with used := U } : St).room = S.room := ⟨rfl, rfl, rfl, rfl⟩
theorem append_near (S : St) (x s : ByteArray) : Near S (appendS S x s).1 := by
  unfold appendS
  split
  · exact Near.refl S
  split
  · exact Near.refl S
  split
  · exact Near.refl S
  split
  · split
    · exact Near.refl S
    · exact act_same rfl rfl rfl rfl
  · split
    · exact Near.refl S
    · exact act_same rfl rfl rfl rfl
theorem near_with {S1 : St} (h : S1.room = (actS S).1.room ∧ S1.acts = (actS S).1.acts ∧ S1.life = (actS S).1.life ∧ S1.armed = (actS S).1.armed) : Near S S1 :=
  ⟨by rw [h.1, (act_l S).2.2.2], .inr ⟨h.2.1, h.2.2.1, h.2.2.2⟩⟩
theorem sync_near (S : St) (x : ByteArray) : Near S (syncS S x).1 := by
  unfold syncS
  split
  · exact Near.refl S
  split
  · exact Near.refl S
  split
  · exact near_with ⟨rfl, rfl, rfl, rfl⟩
  · exact Near.act S
theorem cut_near (S : St) (x : ByteArray) (k : Int) : Near S (cutS S x k).1 := by
  unfold cutS
  split
  · exact Near.refl S
  split
  · exact Near.refl S
  split
  · exact Near.refl S
  split
  · exact near_with ⟨rfl, rfl, rfl, rfl⟩
  · exact Near.act S
theorem swap_near (S : St) (x y : ByteArray) : Near S (swapS S x y).1 := by
  unfold swapS
  split
  · exact Near.refl S
  split
  · exact Near.refl S
  split
  · exact Near.refl S
  split
  · split
    · exact Near.act S
    · exact near_with ⟨rfl, rfl, rfl, rfl⟩
  · exact Near.act S
theorem drop_near (S : St) (x : ByteArray) : Near S (dropS S x).1 := by
  unfold dropS
  split
  · exact Near.refl S
  split
  · exact Near.refl S
  split
  · exact near_with ⟨rfl, rfl, rfl, rfl⟩
  · exact Near.act S
theorem does_fits (v : ActV) (hf : S.Fits n) (hn : v.n ≤ 9223372036854775807) : (doesS S v).1.Fits (n + 1) := by
  have h0 : S.Fits (n + 1) := ⟨by have := hf.1; omega, by have := hf.2.1; omega, hf.2.2⟩
  unfold doesS
  split
  · exact (append_near S _ _).fits hf
  split
  · exact (sync_near S _).fits hf
  split
  · exact (cut_near S _ _).fits hf
  split
  · exact (swap_near S _ _).fits hf
  split
  · exact (drop_near S _).fits hf
  split
  · unfold offS; split
    · exact h0
    · exact ⟨by have := hf.1; show S.acts ≤ _; omega, by have := hf.2.1; show S.life + 1 ≤ _; omega, by show (0 : Nat) ≤ _; omega⟩
  split
  · unfold onS; split
    · exact h0
    · exact h0
  split
  · exact ⟨h0.1, h0.2.1, by show v.n.toNat ≤ _; omega⟩
  split
  · exact h0
  · exact h0
theorem does_room (v : ActV) (h9 : v.kind ≠ 9) : (doesS S v).1.room = S.room := by
  unfold doesS
  split
  · exact (append_near S _ _).1
  split
  · exact (sync_near S _).1
  split
  · exact (cut_near S _ _).1
  split
  · exact (swap_near S _ _).1
  split
  · exact (drop_near S _).1
  split
  · unfold offS; split <;> rfl
  split
  · unfold onS; split <;> rfl
  split
  · rfl
  rfl
theorem used_act (S : St) : (actS S).1.used = S.used := (act_l S).2.2.1
/-- there is never more than there is room for -/
theorem does_used (v : ActV) (hok : S.Ok) (h : S.used ≤ S.room) : (doesS S v).1.used ≤ S.room := by
  unfold doesS
  split
  · unfold appendS
    split
    · exact h
    split
    · exact h
    split
    · exact h
    split
    · split
      · exact h
      · rw [used_act]; show S.used + _ ≤ _; omega
    · split
      · exact h
      · rw [used_act]; show S.used + _ ≤ _; omega
  split
  · unfold syncS
    split
    · exact h
    split
    · exact h
    split
    · show (actS S).1.used ≤ _; rw [used_act]; exact h
    · rw [used_act]; exact h
  split
  · unfold cutS
    split
    · exact h
    split
    · exact h
    split
    · exact h
    split
    · show S.used - _ ≤ _; omega
    · rw [used_act]; exact h
  split
  · unfold swapS
    split
    · exact h
    split
    · exact h
    split
    · exact h
    split
    · split
      · rw [used_act]; exact h
      · show S.used - _ ≤ _; omega
    · rw [used_act]; exact h
  split
  · unfold dropS
    split
    · exact h
    split
    · exact h
    split
    · show S.used - _ ≤ _; omega
    · rw [used_act]; exact h
  split
  · unfold offS; split <;> exact h
  split
  · unfold onS; split
    · exact h
    · have := onT_size v.fates S.ts 0 (fun t ht => (hok.each t ht).2)
      rw [← hok.used] at this
      show size _ ≤ _; omega
  split
  · exact h
  split
  · exact h
  · exact h
theorem act_ne (S : St) : (actS S).2 ≠ 11 := by rcases act_err S with h | h <;> rw [h] <;> decide
theorem does_full (v : ActV) (h : (doesS S v).2 = 11) : v.kind = 1 ∧ (doesS S v).1 = S := by
  unfold doesS at h ⊢
  split at h
  · rename_i hk
    refine ⟨hk, ?_⟩
    rw [if_pos hk]
    unfold appendS at h ⊢
    split at h
    · exact absurd h (by simp)
    rename_i c1
    rw [if_neg c1]
    split at h
    · exact absurd h (by simp)
    rename_i c2
    rw [if_neg c2]
    split at h
    · rename_i c3; rw [if_pos c3]
    rename_i c3
    rw [if_neg c3]
    split at h
    · rename_i t ht
      split at h
      · rename_i c4; rw [if_pos c4]
      · exact absurd h (act_ne _)
    · rename_i ht
      split at h
      · rename_i c4; rw [if_pos c4]
      · exact absurd h (act_ne _)
  exfalso
  revert h
  split
  · unfold syncS
    split
    · (intro h; simp at h)
    split
    · (intro h; simp at h)
    split
    · (intro h; simp at h)
    · exact act_ne S
  split
  · unfold cutS
    split
    · (intro h; simp at h)
    split
    · (intro h; simp at h)
    split
    · (intro h; simp at h)
    split
    · (intro h; simp at h)
    · exact act_ne S
  split
  · unfold swapS
    split
    · (intro h; simp at h)
    split
    · (intro h; simp at h)
    split
    · (intro h; simp at h)
    split
    · split
      · exact fun h => by simp at h
      · exact fun h => by simp at h
    · exact act_ne S
  split
  · unfold dropS
    split
    · (intro h; simp at h)
    split
    · (intro h; simp at h)
    split
    · (intro h; simp at h)
    · exact act_ne S
  split
  · (intro h; simp at h)
  split
  · (intro h; simp at h)
  split
  · (intro h; simp at h)
  split
  · (intro h; simp at h)
  · (intro h; simp at h)
/-- the k-th reel's size -/
theorem size_nth (hok : S.Ok) (k : Nat) (hk : k < S.l.length) : sizeS S S.l[k] = ((S.ts.getD k ⟨[], 0⟩).bytes.length : Int) := by
  have hk2 : k < S.ts.length := by rw [hok.len]; exact hk
  have hm : (S.l[k], S.ts[k]) ∈ S.ents := by
    have hl : k < S.ents.length := by rw [ents_len hok]; exact hk
    obtain ⟨h1, h2, e⟩ := ents_get (S := S) k hl
    rw [← e]; exact List.getElem_mem _
  unfold sizeS
  rw [(at_iff hok).2 hm]
  simp [List.getD_eq_getElem?_getD, hk2]
theorem size_take (ts : List Spool) (k : Nat) (hk : k < ts.length) : size (ts.take (k + 1)) = size (ts.take k) + (ts.getD k ⟨[], 0⟩).bytes.length := by
  rw [List.take_succ_eq_append_getElem hk, size_append]
  simp [size, List.getD_eq_getElem?_getD, hk]
theorem size_take_le (ts : List Spool) (k : Nat) : size (ts.take k) ≤ size ts := by
  have := size_append (ts.take k) (ts.drop k)
  rw [List.take_append_drop] at this; omega
end
end Go.Proofs.Ytnhgfhbicaiilaa.Reel
/- The book is opened. -/
namespace Go.Proofs.Ytnhgfhbicaiilaa
open Go.RowKit Book Reel
set_option linter.unusedVariables false

def tilde (x : ByteArray) : ByteArray := x ++ ⟨#[126]⟩
theorem tilde_size (x : ByteArray) : (tilde x).size = x.size + 1 := by unfold tilde; rw [ByteArray.size_append]; rfl
/-- behind the spare -/
def openA (S : St) (x : ByteArray) : St × Int := if 0 ≤ sizeS S (tilde x) then dropS S (tilde x) else (S, 0)
def openR (S : St) (x : ByteArray) : List (List (List UInt8)) × Nat := readR crcP (readS S x).1
def openB (S : St) (x : ByteArray) : St × Int := if (openR S x).2 < (readS S x).1.length then cutS S x (openR S x).2 else (S, 0)
def openS (S : St) (x : ByteArray) : St × Int × List (List (List UInt8)) :=
  if S.down = true then (S, 10, []) else if x.size = 0 ∨ 31 < x.size then (S, 1, [])
  else if (openA S x).2 ≠ 0 then ((openA S x).1, (openA S x).2, [])
  else if (openB (openA S x).1 x).2 ≠ 0 then ((openB (openA S x).1 x).1, (openB (openA S x).1 x).2, [])
  else ((openB (openA S x).1 x).1, 0, (openR (openA S x).1 x).1)
/-- a book in memory -/
def BookAt (w : World) (b p : Nat) (x : ByteArray) (life : Nat) (dead : Bool) : Prop := Blk w b 64 #[.pointer (some ⟨p, 0, none⟩), .string x, .int .i64 life, .bool dead]
theorem readS_len {S : St} (h : S.Ok) (x : ByteArray) : (readS S x).1.length ≤ 4194304 := by
  unfold readS
  split
  · exact Nat.zero_le _
  split
  · exact Nat.zero_le _
  · rename_i t e
    exact (h.each t (at_mem e)).1
theorem readR_le (crc : List UInt8 → Nat) (s : List UInt8) : (readR crc s).2 ≤ s.length ∧ 8 * (readR crc s).1.length ≤ s.length := by
  have key : ∀ (f : Nat) (s : List UInt8), (readF crc f s).2 ≤ s.length ∧ 8 * (readF crc f s).1.length ≤ s.length := by
    intro f
    induction f with
    | zero => intro s; exact ⟨Nat.zero_le _, Nat.zero_le _⟩
    | succ f ih =>
      intro s
      cases hst : stepR crc s with
      | none => rw [readF_none _ _ hst]; exact ⟨Nat.zero_le _, Nat.zero_le _⟩
      | some z =>
        obtain ⟨rs, n⟩ := z
        rw [readF_some _ hst]
        have h1 := stepR_fits hst
        obtain ⟨h2, h3⟩ := ih (s.drop (8 + n))
        rw [List.length_drop] at h2 h3
        simp only [List.length_cons]
        omega
  exact key s.length s
theorem recordsR_few {s : List UInt8} {rs : List (List UInt8)} (h : recordsR s = some rs) : rs.length ≤ 64 := by
  unfold recordsR at h
  split at h
  · cases h
  rename_i hc
  simp only [not_or] at hc
  split at h
  · injection h with h
    subst h
    rw [textsR_len]; omega
  · cases h
theorem readR_few (crc : List UInt8 → Nat) (s : List UInt8) : ∀ rs ∈ (readR crc s).1, rs.length ≤ 64 := by
  have key : ∀ (f : Nat) (s : List UInt8), ∀ rs ∈ (readF crc f s).1, rs.length ≤ 64 := by
    intro f
    induction f with
    | zero => intro s rs h; cases h
    | succ f ih =>
      intro s
      cases hst : stepR crc s with
      | none => rw [readF_none _ _ hst]; intro rs h; cases h
      | some z =>
        obtain ⟨rs, n⟩ := z
        rw [readF_some _ hst]
        intro r hr
        rcases List.mem_cons.1 hr with rfl | hr
        · unfold stepR at hst
          simp only at hst
          split at hst
          · cases hst
          · rw [Option.map_eq_some_iff] at hst
            obtain ⟨a, ha, e⟩ := hst
            injection e with e1 e2
            subst e1
            exact recordsR_few ha
        · exact ih _ r hr
  exact key s.length s
theorem dropS_up {S : St} {x : ByteArray} (h : (dropS S x).2 = 0) : (dropS S x).1.down = false := by
  unfold dropS at h ⊢
  split at h
  · cases h
  rename_i hd
  rw [if_neg hd]
  have hdf : S.down = false := by cases e : S.down <;> simp_all
  split at h
  · cases h
  rename_i t ht
  simp only
  split at h
  · rename_i ha
    rw [if_pos ha]
    show (actS S).1.down = false
    unfold actS at ha ⊢
    split at ha
    · rename_i h0; rw [if_pos h0]; exact hdf
    · split at ha
      · cases ha
      · rename_i h0 h1; rw [if_neg h0, if_neg h1]; exact hdf
  · rename_i ha; exact absurd h ha
theorem openA_up {S : St} {x : ByteArray} (hd : S.down = false) (h : (openA S x).2 = 0) : (openA S x).1.down = false := by
  unfold openA at h ⊢
  split at h
  · rename_i hc; rw [if_pos hc]; exact dropS_up h
  · rename_i hc; rw [if_neg hc]; exact hd
theorem readS_err {S : St} (hd : S.down = false) (x : ByteArray) : (readS S x).2 = 0 ∨ (readS S x).2 = 12 := by
  unfold readS
  rw [if_neg (by rw [hd]; simp)]
  split
  · exact .inr rfl
  · exact .inl rfl
theorem openA_near (S : St) (x : ByteArray) : Near S (openA S x).1 := by unfold openA; split; exact drop_near _ _; exact Near.refl S
theorem openB_near (S : St) (x : ByteArray) : Near S (openB S x).1 := by unfold openB; split; exact cut_near _ _ _; exact Near.refl S
/-- what Open answers -/
def OpenPost (K : Nat → Prop) (w : World) (p : Nat) (S : St) (x : ByteArray) (e : Ending) (w' : World) : Prop :=
  ((openS S x).2.1 = 0 ∧ ∃ b a c G, e = .returned (.tuple #[.pointer (some ⟨b, 0, none⟩), .slice a (openS S x).2.2.length c, .int .i64 0]) ∧ DK (fun k => K k ∨ G k) w' p (openS S x).1 ∧ BookAt w' b p x (openS S x).1.life false ∧ G b
      ∧ GridIn G w' a (openS S x).2.2.length (grid (openS S x).2.2) ∧ (∀ k, G k → w.heap.size ≤ k ∧ k < w'.heap.size))
  ∨ ((openS S x).2.1 ≠ 0 ∧ e = .returned (.tuple #[.pointer none, .slice none 0 0, .int .i64 (openS S x).2.1]) ∧ DK K w' p (openS S x).1)
theorem open_nil (x : ByteArray) (w : World) : Calls Try.prog 8 #[.pointer none, .string x] w fun e w' => e = .returned (.tuple #[.pointer none, .slice none 0 0, .int .i64 2]) ∧ w = w' := by
  go_enter Try.func8, Try.ntmps8
  go_wp2
  go_ret3
  exact ⟨rfl, rfl⟩
theorem open_fin {K : Nat → Prop} {p : Nat} {A C : St} {x : ByteArray} {a : Option Addr} {c : Nat} {R : List (List (List UInt8))} {w w1 w2 w3 : World} (h1 : DK K w1 p A) (L1 : Only (fun k => ¬ K k) w w1) (hb2 : Below w1.heap.size w1 w2) (hrow : DeedRow w2 w1.heap.size (.slice a R.length c) R)
    (hm : R.length ≤ 9223372036854775807) (hm2 : ∀ rs ∈ R, rs.length ≤ 9223372036854775807) (h3 : DK (fun k => K k ∨ (w1.heap.size ≤ k ∧ k < w2.heap.size)) w3 p C) (L3 : Only (fun k => ¬ (K k ∨ (w1.heap.size ≤ k ∧ k < w2.heap.size))) w2 w3) :
    (∃ G, DK (fun k => K k ∨ G k) (w3.alloc (.cells #[.pointer (some ⟨p, 0, none⟩), .string x, .int .i64 C.life, .bool false] 64)) p C ∧ BookAt (w3.alloc (.cells #[.pointer (some ⟨p, 0, none⟩), .string x, .int .i64 C.life, .bool false] 64)) w3.heap.size p x C.life false ∧ G w3.heap.size
      ∧ GridIn G (w3.alloc (.cells #[.pointer (some ⟨p, 0, none⟩), .string x, .int .i64 C.life, .bool false] 64)) a R.length (grid R) ∧ (∀ k, G k → w.heap.size ≤ k ∧ k < (w3.alloc (.cells #[.pointer (some ⟨p, 0, none⟩), .string x, .int .i64 C.life, .bool false] 64)).heap.size)) ∧ Only (fun k => ¬ K k) w (w3.alloc (.cells #[.pointer (some ⟨p, 0, none⟩), .string x, .int .i64 C.life, .bool false] 64)) := by
  have hs1 := L1.size
  have hs2 := hb2.size
  have hs3 := L3.size
  have hal : ∀ o, (w3.alloc o).heap.size = w3.heap.size + 1 := fun o => by simp
  have hba : ∀ o, Below w3.heap.size w3 (w3.alloc o) := fun o => (Below.refl _ _).alloc (Nat.le_refl _) _
  refine ⟨⟨fun k => (w1.heap.size ≤ k ∧ k < w2.heap.size) ∨ k = w3.heap.size, ?_, Blk.new _ _ _, .inr rfl, ?_, fun k hk => ?_⟩, ?_⟩
  · refine (h3.more (G := fun k => k = w3.heap.size) (hba _) (fun k e => ⟨Nat.le_of_eq e.symm, by rw [hal, e]; omega⟩)).less (fun k hk => ?_)
    rcases hk with hk | hk | hk
    · exact .inl (.inl hk)
    · exact .inl (.inr hk)
    · exact .inr hk
  · refine (((gridIn_of_row hrow hm hm2).only L3 (fun k hk hn => hn (.inr hk))).only (Only.of_below (hba _) NoF) (fun _ _ e => e)).mono (fun k hk => .inl hk)
  · rw [hal]
    rcases hk with hk | hk <;> omega
  · refine (L1.trans (Only.of_below hb2 NoF) (fun _ e => e.elim)).trans ((L3.alloc _).mono (fun k hk e => hk (.inl e))) (fun k hk => .inl hk)
set_option maxRecDepth 100000 in
set_option maxHeartbeats 8000000 in
theorem open_K (K : Nat → Prop) (p : Nat) (S : St) (x : ByteArray) (w : World) (n : Nat) (hf : S.Fits n) (hn : n + 2 < big) (h : DK K w p S) (hx : x.size ≤ 1000) :
    Calls Try.prog 8 #[.pointer (some ⟨p, 0, none⟩), .string x] w fun e w' => OpenPost K w p S x e w' ∧ Only (fun k => ¬ K k) w w' := by
  have hok := h.ok
  have HDOWN := hid (down_K h)
  have HH := hid h
  by_cases hd : S.down = true
  · have e : openS S x = (S, 10, []) := by unfold openS; rw [if_pos hd]
    unfold OpenPost
    rw [e]
    rw [hd] at HDOWN
    clear h hd e
    go_enter Try.func8, Try.ntmps8
    go_wp2_with (go_at_call 21; refine HDOWN.out.mono ?_; rintro e w' ⟨rfl, rfl⟩)
    go_ret3
    exact ⟨.inr ⟨by decide, rfl, HH.out⟩, Only.refl _ _⟩
  have hdf : S.down = false := by cases e : S.down <;> simp_all
  rw [hdf] at HDOWN
  by_cases hname : x.size = 0 ∨ 31 < x.size
  · have e : openS S x = (S, 1, []) := by unfold openS; rw [if_neg hd, if_pos hname]
    unfold OpenPost
    rw [e]
    by_cases h0 : x.size = 0
    · have hx0 : x = ⟨#[]⟩ := ByteArray.ext (Array.eq_empty_of_size_eq_zero h0)
      subst hx0
      clear h hd hdf e hname hok h0
      go_enter Try.func8, Try.ntmps8
      go_wp2_with (go_at_call 21; refine HDOWN.out.mono ?_; rintro e w' ⟨rfl, rfl⟩)
      go_ret3
      exact ⟨.inr ⟨by decide, rfl, HH.out⟩, Only.refl _ _⟩
    · have g := bstr_isEmpty h0
      have g2 : (31 : Int) < x.size := by omega
      clear h hd hdf e hname hok h0
      go_enter Try.func8, Try.ntmps8
      go_wp2_with (go_at_call 21; refine HDOWN.out.mono ?_; rintro e w' ⟨rfl, rfl⟩)
      go_ret3
      exact ⟨.inr ⟨by decide, rfl, HH.out⟩, Only.refl _ _⟩
  have g1 : x.toList.isEmpty = false := bstr_isEmpty (by omega)
  have g2 : ¬ (31 : Int) < x.size := by omega
  have HSP : Hid (∀ w, Calls Try.prog 22 #[.string x] w fun e w' => e = .returned (.string (tilde x)) ∧ w = w') := fun w => spare_any x w hx
  have HSIZE := hid (size_K (tilde x) h)
  have HDROP := hid (drop_K n (tilde x) h hf (by omega))
  obtain ⟨A, hA⟩ : ∃ A, openA S x = A := ⟨_, rfl⟩
  have hup : A.2 = 0 → A.1.down = false := fun e => by rw [← hA] at e ⊢; exact openA_up hdf e
  have hfA : A.1.Fits (n + 1) := by rw [← hA]; exact (openA_near S x).fits hf
  have HPOST : Hid (openS S x = if A.2 ≠ 0 then (A.1, A.2, []) else if (openB A.1 x).2 ≠ 0 then ((openB A.1 x).1, (openB A.1 x).2, []) else ((openB A.1 x).1, 0, (openR A.1 x).1)) := by
    show openS S x = _
    unfold openS
    rw [if_neg hd, if_neg hname, hA]
  unfold OpenPost
  obtain ⟨O, hO⟩ : ∃ O, openS S x = O := ⟨_, rfl⟩
  rw [hO] at HPOST ⊢
  have hAdef : A = if 0 ≤ sizeS S (tilde x) then dropS S (tilde x) else (S, 0) := by rw [← hA]; rfl
  obtain ⟨z, hz⟩ : ∃ z, sizeS S (tilde x) = z := ⟨_, rfl⟩
  rw [hz] at HSIZE hAdef
  obtain ⟨y, hy⟩ : ∃ y, tilde x = y := ⟨_, rfl⟩
  rw [hy] at HSP HSIZE HDROP hAdef
  clear hA hO hz hy hname hd hdf HH
  by_cases hz0 : 0 ≤ z
  · rw [if_pos hz0] at hAdef
    rw [← hAdef] at HDROP
    clear hAdef
    obtain ⟨A1, A2⟩ := A
    by_cases hA2 : A2 = 0
    · subst hA2
      simp only at HDROP hfA HPOST hup
      have hpo : O = if (openB A1 x).2 ≠ 0 then ((openB A1 x).1, (openB A1 x).2, []) else ((openB A1 x).1, 0, (openR A1 x).1) := by rw [HPOST.out]; simp
      have hre := readS_err (hup (by first | rfl | trivial)) x
      have HREAD : Hid (∀ w', DK K w' p A1 → Calls Try.prog 14 #[.pointer (some ⟨p, 0, none⟩), .string x] w' fun e w'' => e = .returned (.tuple #[.string (bx (readS A1 x).1), .int .i64 (readS A1 x).2]) ∧ w' = w'') := fun w' h => read_K x h
      obtain ⟨re, hred⟩ : ∃ re, (readS A1 x).2 = re := ⟨_, rfl⟩
      rw [hred] at hre HREAD
      obtain ⟨R, hR⟩ : ∃ R, openR A1 x = R := ⟨_, rfl⟩
      have hRr : readR crcP (readS A1 x).1 = R := hR
      obtain ⟨hRle, hRl⟩ := readR_le crcP (readS A1 x).1
      have hRf := readR_few crcP (readS A1 x).1
      rw [hRr] at hRle hRl hRf
      have hlen : ∀ w', DK K w' p A1 → (readS A1 x).1.length ≤ 4194304 := fun w' h => readS_len h.ok x
      have hB : openB A1 x = if R.2 < (readS A1 x).1.length then cutS A1 x R.2 else (A1, 0) := by unfold openB; rw [hR]
      rw [hR] at hpo
      obtain ⟨s, hs⟩ : ∃ s, (readS A1 x).1 = s := ⟨_, rfl⟩
      rw [hs] at HREAD hRr hRle hRl hlen hB
      have HRB : Hid (∀ w', DK K w' p A1 → Calls Try.prog 24 #[.string (bx s)] w' fun e w'' => (∃ a c, e = .returned (.tuple #[.slice a R.1.length c, .int .i64 R.2]) ∧ DeedRow w'' w'.heap.size (.slice a R.1.length c) R.1) ∧ Below w'.heap.size w' w'') := fun w' h => by
        have := read_book s w' (by have := hlen w' h; omega); rwa [hRr] at this
      have HB1 : Hid (∀ w', DK K w' p A1 → R.1.length ≤ 9223372036854775807) := fun w' h => by have := hlen w' h; omega
      have HB2 : Hid (∀ rs ∈ R.1, rs.length ≤ 9223372036854775807) := fun rs h => by have := hRf rs h; omega
      have HCUT : Hid (∀ w1 w2, DK K w1 p A1 → Below w1.heap.size w1 w2 → Calls Try.prog 25 #[.pointer (some ⟨p, 0, none⟩), .string x, .int .i64 R.2] w2 fun e w' => e = .returned (.int .i64 (cutS A1 x R.2).2) ∧ DK (fun k => K k ∨ (w1.heap.size ≤ k ∧ k < w2.heap.size)) w' p (cutS A1 x R.2).1 ∧ Only (fun k => ¬ (K k ∨ (w1.heap.size ≤ k ∧ k < w2.heap.size))) w2 w') := fun w1 w2 h hb =>
        cut_K (n + 1) x R.2 (h.more hb (fun k e => e)) hfA (by omega) (by omega) (by have := hlen w1 h; omega)
      obtain ⟨y2, hy2⟩ : ∃ y2, bx s = y2 := ⟨_, rfl⟩
      have hys2 : y2.size = s.length := by rw [← hy2, bx_size]
      rw [hy2] at HREAD HRB
      clear hR hRr hs hred hy2 hlen hRl hRf hok hf hfA hup HPOST
      clear h
      by_cases hc : R.2 < s.length
      · rw [if_pos hc] at hB
        have g3 : (R.2 : Int) < y2.size := by omega
        rw [hB] at hpo
        clear hB hc hRle hys2
        obtain ⟨C, hC⟩ : ∃ C, cutS A1 x R.2 = C := ⟨_, rfl⟩
        rw [hC] at HCUT hpo
        clear hC
        obtain ⟨C1, C2⟩ := C
        obtain ⟨R1, R2⟩ := R
        simp only at HCUT hpo g3 HRB HB1 HB2
        by_cases hC2 : C2 = 0
        · subst hC2
          rw [if_neg (by simp)] at hpo
          subst hpo
          rcases hre with rfl | rfl <;> (
            go_enter Try.func8, Try.ntmps8
            go_wp2_with (first
                    | (go_at_call 21; refine HDOWN.out.mono ?_; rintro e w' ⟨rfl, rfl⟩)
                    | (go_at_call 22; refine (HSP.out _).mono ?_; rintro e w' ⟨rfl, rfl⟩)
                    | (go_at_call 16; refine HSIZE.out.mono ?_; rintro e w' ⟨rfl, rfl⟩)
                    | (go_at_call 23; refine HDROP.out.mono ?_; rintro e w1 ⟨rfl, hs1, hs2⟩; have H1 : Hid (DK K w1 p A1) := hs1; have L1 := hid hs2; clear hs1 hs2)
                    | (go_at_call 14; refine (HREAD.out _ H1.out).mono ?_; rintro e w' ⟨rfl, rfl⟩)
                    | (go_at_call 24; refine (HRB.out _ H1.out).mono ?_; rintro e w2 ⟨⟨a, c, rfl, hs1⟩, hs2⟩; have HD2 := hid hs1; have L2 := hid hs2; clear hs1 hs2)
                    | (go_at_call 25; refine (HCUT.out _ _ H1.out L2.out).mono ?_; rintro e w3 ⟨rfl, hs1, hs2⟩; have H3 : Hid (DK _ w3 p C1) := hs1; have L3 := hid hs2; clear hs1 hs2)
                    | (go_at_call 26; refine (life_K H3.out).mono ?_; rintro e w' ⟨rfl, rfl⟩))
            go_ret3
            obtain ⟨⟨G, hG1, hG2, hG3, hG4, hG5⟩, hGo⟩ := open_fin (x := x) H1.out L1.out L2.out HD2.out (HB1.out _ H1.out) HB2.out H3.out L3.out
            exact ⟨.inl ⟨by first | rfl | trivial, _, a, c, G, rfl, hG1, hG2, hG3, hG4, hG5⟩, hGo⟩)
        · rw [if_pos hC2] at hpo
          subst hpo
          have HNE : Hid (C2 ≠ 0) := hC2
          have g4 : (C2 == 0) = false := by rw [beq_eq_false_iff_ne]; exact hC2
          have g5 : ¬ C2 = 0 := hC2
          rcases hre with rfl | rfl <;> (
            go_enter Try.func8, Try.ntmps8
            go_wp2_with (first
                    | (go_at_call 21; refine HDOWN.out.mono ?_; rintro e w' ⟨rfl, rfl⟩)
                    | (go_at_call 22; refine (HSP.out _).mono ?_; rintro e w' ⟨rfl, rfl⟩)
                    | (go_at_call 16; refine HSIZE.out.mono ?_; rintro e w' ⟨rfl, rfl⟩)
                    | (go_at_call 23; refine HDROP.out.mono ?_; rintro e w1 ⟨rfl, hs1, hs2⟩; have H1 : Hid (DK K w1 p A1) := hs1; have L1 := hid hs2; clear hs1 hs2)
                    | (go_at_call 14; refine (HREAD.out _ H1.out).mono ?_; rintro e w' ⟨rfl, rfl⟩)
                    | (go_at_call 24; refine (HRB.out _ H1.out).mono ?_; rintro e w2 ⟨⟨a, c, rfl, hs1⟩, hs2⟩; have HD2 := hid hs1; have L2 := hid hs2; clear hs1 hs2)
                    | (go_at_call 25; refine (HCUT.out _ _ H1.out L2.out).mono ?_; rintro e w3 ⟨rfl, hs1, hs2⟩; have H3 : Hid (DK _ w3 p C1) := hs1; have L3 := hid hs2; clear hs1 hs2))
            go_ret3
            exact ⟨.inr ⟨HNE.out, rfl, H3.out.less (fun k hk => .inl hk)⟩, (L1.out.trans (Only.of_below L2.out NoF) (fun _ e => e.elim)).trans (L3.out.mono (fun k hk e => hk (.inl e))) (fun k hk => .inl hk)⟩)
      · rw [if_neg hc] at hB
        rw [hB, if_neg (by simp)] at hpo
        have g3 : ¬ (R.2 : Int) < y2.size := by omega
        subst hpo
        clear hB hc hRle hys2
        obtain ⟨R1, R2⟩ := R
        simp only at g3 HRB HB1 HB2
        rcases hre with rfl | rfl <;> (
          go_enter Try.func8, Try.ntmps8
          go_wp2_with (first
                  | (go_at_call 21; refine HDOWN.out.mono ?_; rintro e w' ⟨rfl, rfl⟩)
                  | (go_at_call 22; refine (HSP.out _).mono ?_; rintro e w' ⟨rfl, rfl⟩)
                  | (go_at_call 16; refine HSIZE.out.mono ?_; rintro e w' ⟨rfl, rfl⟩)
                  | (go_at_call 23; refine HDROP.out.mono ?_; rintro e w1 ⟨rfl, hs1, hs2⟩; have H1 : Hid (DK K w1 p A1) := hs1; have L1 := hid hs2; clear hs1 hs2)
                  | (go_at_call 14; refine (HREAD.out _ H1.out).mono ?_; rintro e w' ⟨rfl, rfl⟩)
                  | (go_at_call 24; refine (HRB.out _ H1.out).mono ?_; rintro e w2 ⟨⟨a, c, rfl, hs1⟩, hs2⟩; have HD2 := hid hs1; have L2 := hid hs2; clear hs1 hs2)
                  | (go_at_call 26; refine (life_K (H1.out.below L2.out)).mono ?_; rintro e w' ⟨rfl, rfl⟩))
          go_ret3
          obtain ⟨⟨G, hG1, hG2, hG3, hG4, hG5⟩, hGo⟩ := open_fin (x := x) H1.out L1.out L2.out HD2.out (HB1.out _ H1.out) HB2.out (H1.out.more L2.out (fun k e => e)) (Only.refl _ _)
          exact ⟨.inl ⟨by first | rfl | trivial, _, a, c, G, rfl, hG1, hG2, hG3, hG4, hG5⟩, hGo⟩)
    · have hO : O = (A1, A2, []) := by rw [HPOST.out, if_pos hA2]
      subst hO
      have HNE : Hid (A2 ≠ 0) := hA2
      simp only at HDROP hA2 ⊢
      have g3 : (A2 == 0) = false := by rw [beq_eq_false_iff_ne]; exact hA2
      have g4 : ¬ A2 = 0 := hA2
      clear h hf hup hfA HPOST hok hA2
      go_enter Try.func8, Try.ntmps8
      go_wp2_with (first
              | (go_at_call 21; refine HDOWN.out.mono ?_; rintro e w' ⟨rfl, rfl⟩)
              | (go_at_call 22; refine (HSP.out _).mono ?_; rintro e w' ⟨rfl, rfl⟩)
              | (go_at_call 16; refine HSIZE.out.mono ?_; rintro e w' ⟨rfl, rfl⟩)
              | (go_at_call 23; refine HDROP.out.mono ?_; rintro e w1 ⟨rfl, hs1, hs2⟩; have H1 : Hid (DK K w1 p A1) := hs1; have L1 := hid hs2; clear hs1 hs2))
      go_ret3
      exact ⟨.inr ⟨HNE.out, rfl, H1.out⟩, L1.out⟩
  · rw [if_neg hz0] at hAdef
    subst hAdef
    have H1 := hid h
    have L1 : Hid (Only (fun k => ¬ K k) w w) := Only.refl _ _
    simp only at hfA HPOST hup
    have hpo : O = if (openB S x).2 ≠ 0 then ((openB S x).1, (openB S x).2, []) else ((openB S x).1, 0, (openR S x).1) := by rw [HPOST.out]; simp
    have hre := readS_err (hup (by first | rfl | trivial)) x
    have HREAD : Hid (∀ w', DK K w' p S → Calls Try.prog 14 #[.pointer (some ⟨p, 0, none⟩), .string x] w' fun e w'' => e = .returned (.tuple #[.string (bx (readS S x).1), .int .i64 (readS S x).2]) ∧ w' = w'') := fun w' h => read_K x h
    obtain ⟨re, hred⟩ : ∃ re, (readS S x).2 = re := ⟨_, rfl⟩
    rw [hred] at hre HREAD
    obtain ⟨R, hR⟩ : ∃ R, openR S x = R := ⟨_, rfl⟩
    have hRr : readR crcP (readS S x).1 = R := hR
    obtain ⟨hRle, hRl⟩ := readR_le crcP (readS S x).1
    have hRf := readR_few crcP (readS S x).1
    rw [hRr] at hRle hRl hRf
    have hlen : ∀ w', DK K w' p S → (readS S x).1.length ≤ 4194304 := fun w' h => readS_len h.ok x
    have hB : openB S x = if R.2 < (readS S x).1.length then cutS S x R.2 else (S, 0) := by unfold openB; rw [hR]
    rw [hR] at hpo
    obtain ⟨s, hs⟩ : ∃ s, (readS S x).1 = s := ⟨_, rfl⟩
    rw [hs] at HREAD hRr hRle hRl hlen hB
    have HRB : Hid (∀ w', DK K w' p S → Calls Try.prog 24 #[.string (bx s)] w' fun e w'' => (∃ a c, e = .returned (.tuple #[.slice a R.1.length c, .int .i64 R.2]) ∧ DeedRow w'' w'.heap.size (.slice a R.1.length c) R.1) ∧ Below w'.heap.size w' w'') := fun w' h => by
      have := read_book s w' (by have := hlen w' h; omega); rwa [hRr] at this
    have HB1 : Hid (∀ w', DK K w' p S → R.1.length ≤ 9223372036854775807) := fun w' h => by have := hlen w' h; omega
    have HB2 : Hid (∀ rs ∈ R.1, rs.length ≤ 9223372036854775807) := fun rs h => by have := hRf rs h; omega
    have HCUT : Hid (∀ w1 w2, DK K w1 p S → Below w1.heap.size w1 w2 → Calls Try.prog 25 #[.pointer (some ⟨p, 0, none⟩), .string x, .int .i64 R.2] w2 fun e w' => e = .returned (.int .i64 (cutS S x R.2).2) ∧ DK (fun k => K k ∨ (w1.heap.size ≤ k ∧ k < w2.heap.size)) w' p (cutS S x R.2).1 ∧ Only (fun k => ¬ (K k ∨ (w1.heap.size ≤ k ∧ k < w2.heap.size))) w2 w') := fun w1 w2 h hb =>
      cut_K (n + 1) x R.2 (h.more hb (fun k e => e)) hfA (by omega) (by omega) (by have := hlen w1 h; omega)
    obtain ⟨y2, hy2⟩ : ∃ y2, bx s = y2 := ⟨_, rfl⟩
    have hys2 : y2.size = s.length := by rw [← hy2, bx_size]
    rw [hy2] at HREAD HRB
    clear hR hRr hs hred hy2 hlen hRl hRf hok hf hfA hup HPOST
    clear h
    by_cases hc : R.2 < s.length
    · rw [if_pos hc] at hB
      have g3 : (R.2 : Int) < y2.size := by omega
      rw [hB] at hpo
      clear hB hc hRle hys2
      obtain ⟨C, hC⟩ : ∃ C, cutS S x R.2 = C := ⟨_, rfl⟩
      rw [hC] at HCUT hpo
      clear hC
      obtain ⟨C1, C2⟩ := C
      obtain ⟨R1, R2⟩ := R
      simp only at HCUT hpo g3 HRB HB1 HB2
      by_cases hC2 : C2 = 0
      · subst hC2
        rw [if_neg (by simp)] at hpo
        subst hpo
        rcases hre with rfl | rfl <;> (
          go_enter Try.func8, Try.ntmps8
          go_wp2_with (first
                  | (go_at_call 21; refine HDOWN.out.mono ?_; rintro e w' ⟨rfl, rfl⟩)
                  | (go_at_call 22; refine (HSP.out _).mono ?_; rintro e w' ⟨rfl, rfl⟩)
                  | (go_at_call 16; refine HSIZE.out.mono ?_; rintro e w' ⟨rfl, rfl⟩)
                  | (go_at_call 14; refine (HREAD.out _ H1.out).mono ?_; rintro e w' ⟨rfl, rfl⟩)
                  | (go_at_call 24; refine (HRB.out _ H1.out).mono ?_; rintro e w2 ⟨⟨a, c, rfl, hs1⟩, hs2⟩; have HD2 := hid hs1; have L2 := hid hs2; clear hs1 hs2)
                  | (go_at_call 25; refine (HCUT.out _ _ H1.out L2.out).mono ?_; rintro e w3 ⟨rfl, hs1, hs2⟩; have H3 : Hid (DK _ w3 p C1) := hs1; have L3 := hid hs2; clear hs1 hs2)
                  | (go_at_call 26; refine (life_K H3.out).mono ?_; rintro e w' ⟨rfl, rfl⟩))
          go_ret3
          obtain ⟨⟨G, hG1, hG2, hG3, hG4, hG5⟩, hGo⟩ := open_fin (x := x) H1.out L1.out L2.out HD2.out (HB1.out _ H1.out) HB2.out H3.out L3.out
          exact ⟨.inl ⟨by first | rfl | trivial, _, a, c, G, rfl, hG1, hG2, hG3, hG4, hG5⟩, hGo⟩)
      · rw [if_pos hC2] at hpo
        subst hpo
        have HNE : Hid (C2 ≠ 0) := hC2
        have g4 : (C2 == 0) = false := by rw [beq_eq_false_iff_ne]; exact hC2
        have g5 : ¬ C2 = 0 := hC2
        rcases hre with rfl | rfl <;> (
          go_enter Try.func8, Try.ntmps8
          go_wp2_with (first
                  | (go_at_call 21; refine HDOWN.out.mono ?_; rintro e w' ⟨rfl, rfl⟩)
                  | (go_at_call 22; refine (HSP.out _).mono ?_; rintro e w' ⟨rfl, rfl⟩)
                  | (go_at_call 16; refine HSIZE.out.mono ?_; rintro e w' ⟨rfl, rfl⟩)
                  | (go_at_call 14; refine (HREAD.out _ H1.out).mono ?_; rintro e w' ⟨rfl, rfl⟩)
                  | (go_at_call 24; refine (HRB.out _ H1.out).mono ?_; rintro e w2 ⟨⟨a, c, rfl, hs1⟩, hs2⟩; have HD2 := hid hs1; have L2 := hid hs2; clear hs1 hs2)
                  | (go_at_call 25; refine (HCUT.out _ _ H1.out L2.out).mono ?_; rintro e w3 ⟨rfl, hs1, hs2⟩; have H3 : Hid (DK _ w3 p C1) := hs1; have L3 := hid hs2; clear hs1 hs2))
          go_ret3
          exact ⟨.inr ⟨HNE.out, rfl, H3.out.less (fun k hk => .inl hk)⟩, (L1.out.trans (Only.of_below L2.out NoF) (fun _ e => e.elim)).trans (L3.out.mono (fun k hk e => hk (.inl e))) (fun k hk => .inl hk)⟩)
    · rw [if_neg hc] at hB
      rw [hB, if_neg (by simp)] at hpo
      have g3 : ¬ (R.2 : Int) < y2.size := by omega
      subst hpo
      clear hB hc hRle hys2
      obtain ⟨R1, R2⟩ := R
      simp only at g3 HRB HB1 HB2
      rcases hre with rfl | rfl <;> (
        go_enter Try.func8, Try.ntmps8
        go_wp2_with (first
                | (go_at_call 21; refine HDOWN.out.mono ?_; rintro e w' ⟨rfl, rfl⟩)
                | (go_at_call 22; refine (HSP.out _).mono ?_; rintro e w' ⟨rfl, rfl⟩)
                | (go_at_call 16; refine HSIZE.out.mono ?_; rintro e w' ⟨rfl, rfl⟩)
                | (go_at_call 14; refine (HREAD.out _ H1.out).mono ?_; rintro e w' ⟨rfl, rfl⟩)
                | (go_at_call 24; refine (HRB.out _ H1.out).mono ?_; rintro e w2 ⟨⟨a, c, rfl, hs1⟩, hs2⟩; have HD2 := hid hs1; have L2 := hid hs2; clear hs1 hs2)
                | (go_at_call 26; refine (life_K (H1.out.below L2.out)).mono ?_; rintro e w' ⟨rfl, rfl⟩))
        go_ret3
        obtain ⟨⟨G, hG1, hG2, hG3, hG4, hG5⟩, hGo⟩ := open_fin (x := x) H1.out L1.out L2.out HD2.out (HB1.out _ H1.out) HB2.out (H1.out.more L2.out (fun k e => e)) (Only.refl _ _)
        exact ⟨.inl ⟨by first | rfl | trivial, _, a, c, G, rfl, hG1, hG2, hG3, hG4, hG5⟩, hGo⟩)
end Go.Proofs.Ytnhgfhbicaiilaa
/- The bytes of a transaction, if it can be laid down. -/
namespace Go.Proofs.Ytnhgfhbicaiilaa
open Go.RowKit Book Reel
set_option linter.unusedVariables false

def readyS (S : St) (life : Nat) (dead : Bool) (rs : List (List UInt8)) : List UInt8 × Int :=
  (frameL crcP (bodyE rs).1, if (bodyE rs).2 = 0 ∧ (dead = true ∨ S.down = true ∨ S.life ≠ life) then 10 else (bodyE rs).2)
theorem BookAt.cells {w : World} {b p : Nat} {x : ByteArray} {life : Nat} {dead : Bool} (h : BookAt w b p x life dead) : w.cell? ⟨b, 0, none⟩ = some (.pointer (some ⟨p, 0, none⟩)) ∧ w.cell? ⟨b, 1, none⟩ = some (.string x) ∧ w.cell? ⟨b, 2, none⟩ = some (.int .i64 life) ∧ w.cell? ⟨b, 3, none⟩ = some (.bool dead) :=
  ⟨Blk.cell h 0, Blk.cell h 1, Blk.cell h 2, Blk.cell h 3⟩
theorem bodyE_len (rs : List (List UInt8)) : (bodyE rs).1.length ≤ 1048576 := by
  unfold bodyE
  split
  · simp
  split
  · simp
  split
  · simp
  split
  · simp
  · simp only; omega
theorem bready_nil (v : Value) (w : World) : Calls Try.prog 27 #[.pointer none, v] w fun e w' => e = .returned (.tuple #[.string ⟨#[]⟩, .int .i64 2]) ∧ w = w' := by
  go_enter Try.func27, Try.ntmps27
  go_wp2
  go_ret2
  exact ⟨rfl, rfl⟩
set_option maxRecDepth 100000 in
set_option maxHeartbeats 4000000 in
theorem bready_K (K : Nat → Prop) (b p : Nat) (S : St) (x : ByteArray) (life : Nat) (dead : Bool) (a : Option Addr) (n c : Nat) (rs : List ByteArray) (w : World) (hl : S.life ≤ 9223372036854775807) (hl2 : life ≤ 9223372036854775807) (h : DK K w p S) (hb : BookAt w b p x life dead) (hS : StrsAt w a n rs) (hsz : ∀ x ∈ rs, x.size ≤ 9223372036854775807) :
    Calls Try.prog 27 #[.pointer (some ⟨b, 0, none⟩), .slice a n c] w fun e w' => e = .returned (.tuple #[.string (bx (readyS S life dead (lists rs)).1), .int .i64 (readyS S life dead (lists rs)).2]) ∧ Below w.heap.size w w' := by
  have HBODY := hid (body_any a n c rs w hS hsz)
  obtain ⟨E, hE⟩ : ∃ E, bodyE (lists rs) = E := ⟨_, rfl⟩
  have hEl : E.1.length ≤ 1048576 := by rw [← hE]; exact bodyE_len _
  have HR : Hid (readyS S life dead (lists rs) = (frameL crcP E.1, if E.2 = 0 ∧ (dead = true ∨ S.down = true ∨ S.life ≠ life) then 10 else E.2)) := by show _ = _; unfold readyS; rw [hE]
  obtain ⟨R, hR⟩ : ∃ R, readyS S life dead (lists rs) = R := ⟨_, rfl⟩
  rw [hR] at HR ⊢
  rw [hE] at HBODY
  obtain ⟨E1, E2⟩ := E
  obtain ⟨y, hy⟩ : ∃ y, bx E1 = y := ⟨_, rfl⟩
  obtain ⟨f, hf⟩ : ∃ f, bx (frameL crcP E1) = f := ⟨_, rfl⟩
  have HFR : Hid (∀ w', Calls Try.prog 54 #[.string y] w' fun e w'' => e = .returned (.string f) ∧ Below w'.heap.size w' w'') := fun w' => by
    have h1 := framed_any E1 w' (Nat.le_trans hEl (by omega)); rwa [hy, hf] at h1
  simp only at HBODY HR
  rw [hy] at HBODY
  have HD : Hid (∀ w', Below w.heap.size w w' → Calls Try.prog 21 #[.pointer (some ⟨p, 0, none⟩)] w' fun e w'' => e = .returned (.bool S.down) ∧ w' = w'') := fun w' hb => down_K (h.below hb)
  have HL : Hid (∀ w', Below w.heap.size w w' → Calls Try.prog 26 #[.pointer (some ⟨p, 0, none⟩)] w' fun e w'' => e = .returned (.int .i64 S.life) ∧ w' = w'') := fun w' hb => life_K (h.below hb)
  have HC : Hid (∀ w', Below w.heap.size w w' → w'.cell? ⟨b, 0, none⟩ = some (.pointer (some ⟨p, 0, none⟩)) ∧ w'.cell? ⟨b, 2, none⟩ = some (.int .i64 life) ∧ w'.cell? ⟨b, 3, none⟩ = some (.bool dead)) := fun w' hbl => by
    obtain ⟨c0, c1, c2, c3⟩ := hb.cells
    have up : ∀ {q : Addr} {v : Value}, w.cell? q = some v → w'.cell? q = some v := fun hq => (World.cell?_of_block (hbl.block _ (World.block_lt_of_cell? _ _ hq))).trans hq
    exact ⟨up c0, up c2, up c3⟩
  obtain ⟨dn, hdn⟩ : ∃ dn, S.down = dn := ⟨_, rfl⟩
  obtain ⟨lf, hlf⟩ : ∃ lf, S.life = lf := ⟨_, rfl⟩
  rw [hdn] at HD HR; rw [hlf] at HL HR
  have HY := hid hf
  clear h hb hS hsz hE hEl hR hy hf hdn hlf hl
  have fin : ∀ (q : Int), R.2 = q → Hid (R = (frameL crcP E1, q)) := fun q hq => by show R = _; rw [HR.out] at hq ⊢; exact congrArg (Prod.mk _) hq
  by_cases hE0 : E2 = 0
  · subst hE0
    by_cases hbad : dead = true ∨ dn = true ∨ lf ≠ life
    · have HQ := fin 10 (by rw [HR.out]; exact if_pos ⟨rfl, hbad⟩)
      have g : dead = true ∨ dead = false ∧ dn = true ∨ dead = false ∧ dn = false ∧ ((lf : Int) == (life : Int)) = false ∧ ¬ (lf : Int) = life := by
        cases dead
        · cases dn
          · right; right
            have : lf ≠ life := by rcases hbad with h | h | h; cases h; cases h; exact h
            refine ⟨rfl, rfl, ?_, by omega⟩
            rw [beq_eq_false_iff_ne]; omega
          · exact .inr (.inl ⟨rfl, rfl⟩)
        · exact .inl rfl
      clear hbad fin HR
      rcases g with rfl | ⟨rfl, rfl⟩ | ⟨rfl, rfl, g1, g2⟩ <;> (
        go_enter Try.func27, Try.ntmps27
        go_wp2_with (first
          | (go_at_call 53; refine HBODY.out.mono ?_; rintro e w1 ⟨rfl, hs⟩; obtain ⟨c0, c2, c3⟩ := HC.out _ hs; have L1 := hid hs; clear hs)
          )
        go_quiet (first
          | (go_at_call 21; exact Calls.quiet_of_same ((HD.out _ (below_drewN L1.out _)).mono fun _ _ h => ⟨h.1, h.2.symm⟩))
          | (go_at_call 26; exact Calls.quiet_of_same ((HL.out _ (below_drewN L1.out _)).mono fun _ _ h => ⟨h.1, h.2.symm⟩)))
        go_wp2_with (first
          | (go_at_call 54; refine (HFR.out _).mono ?_; rintro e w2 ⟨rfl, hs⟩; have L2 := hid (below_then (below_drewN L1.out _) hs); clear hs))
        go_ret2
        exact ⟨by rw [HQ.out, HY.out]; rfl, L2.out⟩)
    · have HQ := fin 0 (by rw [HR.out]; exact if_neg (fun h => hbad h.2))
      have hd0 : dead = false := by cases dead; rfl; exact absurd (.inl rfl) hbad
      have hn0 : dn = false := by cases dn; rfl; exact absurd (.inr (.inl rfl)) hbad
      have hl0 : lf = life := Decidable.by_contra fun h => hbad (.inr (.inr h))
      subst hd0 hn0 hl0
      clear hbad fin HR
      go_enter Try.func27, Try.ntmps27
      go_wp2_with (first
        | (go_at_call 53; refine HBODY.out.mono ?_; rintro e w1 ⟨rfl, hs⟩; obtain ⟨c0, c2, c3⟩ := HC.out _ hs; have L1 := hid hs; clear hs)
        )
      go_quiet (first
        | (go_at_call 21; exact Calls.quiet_of_same ((HD.out _ (below_drewN L1.out _)).mono fun _ _ h => ⟨h.1, h.2.symm⟩))
        | (go_at_call 26; exact Calls.quiet_of_same ((HL.out _ (below_drewN L1.out _)).mono fun _ _ h => ⟨h.1, h.2.symm⟩)))
      go_wp2_with (first
        | (go_at_call 54; refine (HFR.out _).mono ?_; rintro e w2 ⟨rfl, hs⟩; have L2 := hid (below_then (below_drewN L1.out _) hs); clear hs))
      go_ret2
      exact ⟨by rw [HQ.out, HY.out]; rfl, L2.out⟩
  · have HQ := fin E2 (by rw [HR.out]; exact if_neg (fun h => hE0 h.1))
    have g : (E2 == 0) = false := by rw [beq_eq_false_iff_ne]; exact hE0
    clear fin HR
    go_enter Try.func27, Try.ntmps27
    go_wp2_with (first
      | (go_at_call 53; refine HBODY.out.mono ?_; rintro e w1 ⟨rfl, hs⟩; obtain ⟨c0, c2, c3⟩ := HC.out _ hs; have L1 := hid hs; clear hs)
      )
    go_quiet (first
      | (go_at_call 21; exact Calls.quiet_of_same ((HD.out _ (below_drewN L1.out _)).mono fun _ _ h => ⟨h.1, h.2.symm⟩))
      | (go_at_call 26; exact Calls.quiet_of_same ((HL.out _ (below_drewN L1.out _)).mono fun _ _ h => ⟨h.1, h.2.symm⟩)))
    go_wp2_with (first
      | (go_at_call 54; refine (HFR.out _).mono ?_; rintro e w2 ⟨rfl, hs⟩; have L2 := hid (below_then (below_drewN L1.out _) hs); clear hs))
    go_ret2
    exact ⟨by rw [HQ.out, HY.out]; rfl, L2.out⟩
end Go.Proofs.Ytnhgfhbicaiilaa
/- The acts of Add and Renew: what their closures do. -/
namespace Go.Proofs.Ytnhgfhbicaiilaa
open Go.RowKit Book Reel
set_option linter.unusedVariables false

/-- a book that a closure holds -/
structure Caught (K : Nat → Prop) (w : World) (g b p : Nat) (x : ByteArray) (life : Nat) (dead : Bool) : Prop where
  at_ : w.cell? ⟨g, 0, none⟩ = some (.pointer (some ⟨b, 0, none⟩))
  book : BookAt w b p x life dead
  kg : K g
  kb : K b
section
variable {K : Nat → Prop} {w w' : World} {g h f b p : Nat} {x s t : ByteArray} {life : Nat} {dead : Bool} {S : St} {n : Nat}
theorem Caught.only (c : Caught K w g b p x life dead) (ho : Only (fun k => ¬ K k) w w') : Caught K w' g b p x life dead := ⟨ho.cell c.at_ (fun e => e c.kg), Blk.only c.book ho (fun e => e c.kb), c.kg, c.kb⟩
/-- a text that a closure holds -/
def Text1 (K : Nat → Prop) (w : World) (h : Nat) (s : ByteArray) : Prop := w.cell? ⟨h, 0, none⟩ = some (.string s) ∧ K h
theorem Text1.only (c : Text1 K w h s) (ho : Only (fun k => ¬ K k) w w') : Text1 K w' h s := ⟨ho.cell c.1 (fun e => e c.2), c.2⟩
set_option maxHeartbeats 1000000 in
theorem add1_any (hd : DK K w p S) (hf : S.Fits n) (hn : n < big) (c : Caught K w g b p x life dead) (hs : Text1 K w h s) (hx : x.size ≤ 9223372036854775807) (hss : s.size ≤ 140737488355328) :
    Calls Try.prog 35 #[.pointer (some ⟨g, 0, none⟩), .pointer (some ⟨h, 0, none⟩)] w fun e w' => e = .returned (.int .i64 (appendS S x s).2) ∧ DK K w' p (appendS S x s).1 ∧ Only (fun k => ¬ K k) w w' := by
  have HA : Hid (Calls Try.prog 15 #[.pointer (some ⟨p, 0, none⟩), .string x, .string s] w.drew fun e w' => e = .returned (.int .i64 (appendS S x s).2) ∧ Hid (DK K w' p (appendS S x s).1) ∧ Only (fun k => ¬ K k) w w') :=
    (append_K n x s (hd.only ((Only.refl NoF w).drew) (fun _ e => e.elim)) hf hn hx hss).mono fun e w' h => ⟨h.1, h.2.1, (Only.refl _ w).drew.then h.2.2⟩
  have HCELL : Hid (∀ w', Only (fun k => ¬ K k) w w' → w'.cell? ⟨g, 0, none⟩ = some (.pointer (some ⟨b, 0, none⟩)) ∧ w'.cell? ⟨b, 0, none⟩ = some (.pointer (some ⟨p, 0, none⟩)) ∧ w'.cell? ⟨b, 1, none⟩ = some (.string x) ∧ w'.cell? ⟨h, 0, none⟩ = some (.string s)) := fun w' ho => ⟨(c.only ho).at_, (c.only ho).book.cells.1, (c.only ho).book.cells.2.1, (hs.only ho).1⟩
  have hs0 := HCELL.out w (Only.refl _ _)
  clear hd hf hn c hs hx hss
  go_enter Try.func35, Try.ntmps35
  go_wp2_with fail
  go_region_held3 (fun v => v.cell? ⟨g, 0, none⟩ = some (.pointer (some ⟨b, 0, none⟩)) ∧ v.cell? ⟨b, 0, none⟩ = some (.pointer (some ⟨p, 0, none⟩)) ∧ v.cell? ⟨b, 1, none⟩ = some (.string x) ∧ v.cell? ⟨h, 0, none⟩ = some (.string s)) ((first | exact hs0 | exact hs1 | go_keep)) ((first
    | (go_at_call 15; refine HA.out.mono ?_; rintro e w' ⟨rfl, d1, o1⟩; have hs1 := HCELL.out _ o1)))
  go_wp2_with fail
  go_ret
  exact ⟨rfl, d1.out, o1⟩
set_option maxHeartbeats 1000000 in
theorem add2_any (hd : DK K w p S) (hf : S.Fits n) (hn : n < big) (c : Caught K w g b p x life dead) :
    Calls Try.prog 36 #[.pointer (some ⟨g, 0, none⟩)] w fun e w' => e = .returned (.int .i64 (syncS S x).2) ∧ DK K w' p (syncS S x).1 ∧ Only (fun k => ¬ K k) w w' := by
  have HA : Hid (Calls Try.prog 32 #[.pointer (some ⟨p, 0, none⟩), .string x] w.drew fun e w' => e = .returned (.int .i64 (syncS S x).2) ∧ Hid (DK K w' p (syncS S x).1) ∧ Only (fun k => ¬ K k) w w') :=
    (sync_K n x (hd.only ((Only.refl NoF w).drew) (fun _ e => e.elim)) hf hn).mono fun e w' h => ⟨h.1, h.2.1, (Only.refl _ w).drew.then h.2.2⟩
  have HCELL : Hid (∀ w', Only (fun k => ¬ K k) w w' → w'.cell? ⟨g, 0, none⟩ = some (.pointer (some ⟨b, 0, none⟩)) ∧ w'.cell? ⟨b, 0, none⟩ = some (.pointer (some ⟨p, 0, none⟩)) ∧ w'.cell? ⟨b, 1, none⟩ = some (.string x)) := fun w' ho => ⟨(c.only ho).at_, (c.only ho).book.cells.1, (c.only ho).book.cells.2.1⟩
  have hs0 := HCELL.out w (Only.refl _ _)
  clear hd hf hn c  
  go_enter Try.func36, Try.ntmps36
  go_wp2_with fail
  go_region_held3 (fun v => v.cell? ⟨g, 0, none⟩ = some (.pointer (some ⟨b, 0, none⟩)) ∧ v.cell? ⟨b, 0, none⟩ = some (.pointer (some ⟨p, 0, none⟩)) ∧ v.cell? ⟨b, 1, none⟩ = some (.string x)) ((first | exact hs0 | exact hs1 | go_keep)) ((first
    | (go_at_call 32; refine HA.out.mono ?_; rintro e w' ⟨rfl, d1, o1⟩; have hs1 := HCELL.out _ o1)))
  go_wp2_with fail
  go_ret
  exact ⟨rfl, d1.out, o1⟩
set_option maxHeartbeats 1000000 in
theorem renew2_any (hd : DK K w p S) (hf : S.Fits n) (hn : n < big) (c : Caught K w g b p x life dead) (ht : Text1 K w f t) (hs : Text1 K w h s) (htt : t.size ≤ 9223372036854775807) (hss : s.size ≤ 140737488355328) :
    Calls Try.prog 30 #[.pointer (some ⟨g, 0, none⟩), .pointer (some ⟨f, 0, none⟩), .pointer (some ⟨h, 0, none⟩)] w fun e w' => e = .returned (.int .i64 (appendS S t s).2) ∧ DK K w' p (appendS S t s).1 ∧ Only (fun k => ¬ K k) w w' := by
  have HA : Hid (Calls Try.prog 15 #[.pointer (some ⟨p, 0, none⟩), .string t, .string s] w.drew fun e w' => e = .returned (.int .i64 (appendS S t s).2) ∧ Hid (DK K w' p (appendS S t s).1) ∧ Only (fun k => ¬ K k) w w') :=
    (append_K n t s (hd.only ((Only.refl NoF w).drew) (fun _ e => e.elim)) hf hn htt hss).mono fun e w' h => ⟨h.1, h.2.1, (Only.refl _ w).drew.then h.2.2⟩
  have HCELL : Hid (∀ w', Only (fun k => ¬ K k) w w' → w'.cell? ⟨g, 0, none⟩ = some (.pointer (some ⟨b, 0, none⟩)) ∧ w'.cell? ⟨b, 0, none⟩ = some (.pointer (some ⟨p, 0, none⟩)) ∧ w'.cell? ⟨h, 0, none⟩ = some (.string s) ∧ w'.cell? ⟨f, 0, none⟩ = some (.string t)) := fun w' ho => ⟨(c.only ho).at_, (c.only ho).book.cells.1, (hs.only ho).1, (ht.only ho).1⟩
  have hs0 := HCELL.out w (Only.refl _ _)
  clear hd hf hn c ht hs htt hss
  go_enter Try.func30, Try.ntmps30
  go_wp2_with fail
  go_region_held3 (fun v => v.cell? ⟨g, 0, none⟩ = some (.pointer (some ⟨b, 0, none⟩)) ∧ v.cell? ⟨b, 0, none⟩ = some (.pointer (some ⟨p, 0, none⟩)) ∧ v.cell? ⟨h, 0, none⟩ = some (.string s) ∧ v.cell? ⟨f, 0, none⟩ = some (.string t)) ((first | exact hs0 | exact hs1 | go_keep)) ((first
    | (go_at_call 15; refine HA.out.mono ?_; rintro e w' ⟨rfl, d1, o1⟩; have hs1 := HCELL.out _ o1)))
  go_wp2_with fail
  go_ret
  exact ⟨rfl, d1.out, o1⟩
set_option maxHeartbeats 1000000 in
theorem renew3_any (hd : DK K w p S) (hf : S.Fits n) (hn : n < big) (c : Caught K w g b p x life dead) (ht : Text1 K w f t) :
    Calls Try.prog 31 #[.pointer (some ⟨g, 0, none⟩), .pointer (some ⟨f, 0, none⟩)] w fun e w' => e = .returned (.int .i64 (syncS S t).2) ∧ DK K w' p (syncS S t).1 ∧ Only (fun k => ¬ K k) w w' := by
  have HA : Hid (Calls Try.prog 32 #[.pointer (some ⟨p, 0, none⟩), .string t] w.drew fun e w' => e = .returned (.int .i64 (syncS S t).2) ∧ Hid (DK K w' p (syncS S t).1) ∧ Only (fun k => ¬ K k) w w') :=
    (sync_K n t (hd.only ((Only.refl NoF w).drew) (fun _ e => e.elim)) hf hn).mono fun e w' h => ⟨h.1, h.2.1, (Only.refl _ w).drew.then h.2.2⟩
  have HCELL : Hid (∀ w', Only (fun k => ¬ K k) w w' → w'.cell? ⟨g, 0, none⟩ = some (.pointer (some ⟨b, 0, none⟩)) ∧ w'.cell? ⟨b, 0, none⟩ = some (.pointer (some ⟨p, 0, none⟩)) ∧ w'.cell? ⟨f, 0, none⟩ = some (.string t)) := fun w' ho => ⟨(c.only ho).at_, (c.only ho).book.cells.1, (ht.only ho).1⟩
  have hs0 := HCELL.out w (Only.refl _ _)
  clear hd hf hn c ht 
  go_enter Try.func31, Try.ntmps31
  go_wp2_with fail
  go_region_held3 (fun v => v.cell? ⟨g, 0, none⟩ = some (.pointer (some ⟨b, 0, none⟩)) ∧ v.cell? ⟨b, 0, none⟩ = some (.pointer (some ⟨p, 0, none⟩)) ∧ v.cell? ⟨f, 0, none⟩ = some (.string t)) ((first | exact hs0 | exact hs1 | go_keep)) ((first
    | (go_at_call 32; refine HA.out.mono ?_; rintro e w' ⟨rfl, d1, o1⟩; have hs1 := HCELL.out _ o1)))
  go_wp2_with fail
  go_ret
  exact ⟨rfl, d1.out, o1⟩
set_option maxHeartbeats 1000000 in
theorem renew4_any (hd : DK K w p S) (hf : S.Fits n) (hn : n < big) (c : Caught K w g b p x life dead) (ht : Text1 K w f t) (hx : x.size ≤ 9223372036854775807) :
    Calls Try.prog 33 #[.pointer (some ⟨g, 0, none⟩), .pointer (some ⟨f, 0, none⟩)] w fun e w' => e = .returned (.int .i64 (swapS S t x).2) ∧ DK K w' p (swapS S t x).1 ∧ Only (fun k => ¬ K k) w w' := by
  have HA : Hid (Calls Try.prog 34 #[.pointer (some ⟨p, 0, none⟩), .string t, .string x] w.drew fun e w' => e = .returned (.int .i64 (swapS S t x).2) ∧ Hid (DK K w' p (swapS S t x).1) ∧ Only (fun k => ¬ K k) w w') :=
    (swap_K n t x (hd.only ((Only.refl NoF w).drew) (fun _ e => e.elim)) hf hn hx).mono fun e w' h => ⟨h.1, h.2.1, (Only.refl _ w).drew.then h.2.2⟩
  have HCELL : Hid (∀ w', Only (fun k => ¬ K k) w w' → w'.cell? ⟨g, 0, none⟩ = some (.pointer (some ⟨b, 0, none⟩)) ∧ w'.cell? ⟨b, 0, none⟩ = some (.pointer (some ⟨p, 0, none⟩)) ∧ w'.cell? ⟨b, 1, none⟩ = some (.string x) ∧ w'.cell? ⟨f, 0, none⟩ = some (.string t)) := fun w' ho => ⟨(c.only ho).at_, (c.only ho).book.cells.1, (c.only ho).book.cells.2.1, (ht.only ho).1⟩
  have hs0 := HCELL.out w (Only.refl _ _)
  clear hd hf hn c ht hx
  go_enter Try.func33, Try.ntmps33
  go_wp2_with fail
  go_region_held3 (fun v => v.cell? ⟨g, 0, none⟩ = some (.pointer (some ⟨b, 0, none⟩)) ∧ v.cell? ⟨b, 0, none⟩ = some (.pointer (some ⟨p, 0, none⟩)) ∧ v.cell? ⟨b, 1, none⟩ = some (.string x) ∧ v.cell? ⟨f, 0, none⟩ = some (.string t)) ((first | exact hs0 | exact hs1 | go_keep)) ((first
    | (go_at_call 34; refine HA.out.mono ?_; rintro e w' ⟨rfl, d1, o1⟩; have hs1 := HCELL.out _ o1)))
  go_wp2_with fail
  go_ret
  exact ⟨rfl, d1.out, o1⟩
def drop1 (S : St) (t : ByteArray) : St × Int := if sizeS S t < 0 then (S, 0) else dropS S t
set_option maxHeartbeats 1000000 in
theorem renew1_any (hd : DK K w p S) (hf : S.Fits n) (hn : n < big) (c : Caught K w g b p x life dead) (ht : Text1 K w f t) :
    Calls Try.prog 29 #[.pointer (some ⟨g, 0, none⟩), .pointer (some ⟨f, 0, none⟩)] w fun e w' => e = .returned (.int .i64 (drop1 S t).2) ∧ DK K w' p (drop1 S t).1 ∧ Only (fun k => ¬ K k) w w' := by
  have HZ : Hid (∀ q, Calls Try.prog 16 #[.pointer (some ⟨p, 0, none⟩), .string t] (w.drewN q) fun e w' => e = .returned (.int .i64 (sizeS S t)) ∧ w.drewN q = w') := fun q => size_K t (hd.only ((Only.refl NoF w).drewN q) (fun _ e => e.elim))
  have HDR : Hid (∀ q, DK K (w.drewN q) p S ∧ Only (fun k => ¬ K k) w (w.drewN q)) := fun q => ⟨hd.only ((Only.refl NoF w).drewN q) (fun _ e => e.elim), (Only.refl _ w).drewN q⟩
  have HA : Hid (∀ w1, DK K w1 p S ∧ Only (fun k => ¬ K k) w w1 → Calls Try.prog 23 #[.pointer (some ⟨p, 0, none⟩), .string t] w1.drew fun e w' => e = .returned (.int .i64 (dropS S t).2) ∧ Hid (DK K w' p (dropS S t).1) ∧ Only (fun k => ¬ K k) w w') := fun w1 h1 =>
    (drop_K n t (h1.1.only ((Only.refl NoF w1).drew) (fun _ e => e.elim)) hf hn).mono fun e w' h => ⟨h.1, h.2.1, h1.2.drew.then h.2.2⟩
  have HCELL : Hid (∀ w', Only (fun k => ¬ K k) w w' → w'.cell? ⟨g, 0, none⟩ = some (.pointer (some ⟨b, 0, none⟩)) ∧ w'.cell? ⟨b, 0, none⟩ = some (.pointer (some ⟨p, 0, none⟩)) ∧ w'.cell? ⟨f, 0, none⟩ = some (.string t)) := fun w' ho => ⟨(c.only ho).at_, (c.only ho).book.cells.1, (ht.only ho).1⟩
  have hs0 := HCELL.out w (Only.refl _ _)
  obtain ⟨c0, c1, c2⟩ := hs0
  have HDEF : Hid (drop1 S t = if sizeS S t < 0 then (S, 0) else dropS S t) := rfl
  obtain ⟨R, hR⟩ : ∃ R, drop1 S t = R := ⟨_, rfl⟩
  rw [hR] at HDEF ⊢
  obtain ⟨z, hz⟩ : ∃ z, sizeS S t = z := ⟨_, rfl⟩
  rw [hz] at HDEF HZ
  clear hd hf hn c ht hR hz
  by_cases hz0 : z < 0
  · have HR : Hid (R = (S, 0)) := by show R = _; rw [HDEF.out, if_pos hz0]
    clear HDEF HA
    go_enter Try.func29, Try.ntmps29
    go_wp2_with fail
    go_quiet (first | (go_at_call 16; exact Calls.quiet_of_same ((HZ.out _).mono fun _ _ h => ⟨h.1, h.2.symm⟩)))
    go_wp2_with fail
    go_ret
    exact ⟨by rw [HR.out]; rfl, by rw [HR.out]; exact (HDR.out _).1, (HDR.out _).2⟩
  · have HR : Hid (dropS S t = R) := by show _ = R; rw [HDEF.out, if_neg hz0]
    rw [HR.out] at HA
    clear HDEF
    go_enter Try.func29, Try.ntmps29
    go_wp2_with fail
    go_quiet (first | (go_at_call 16; exact Calls.quiet_of_same ((HZ.out _).mono fun _ _ h => ⟨h.1, h.2.symm⟩)))
    go_wp2_with fail
    have hs0 := HCELL.out _ (HDR.out nq).2
    go_region_held3 (fun v => v.cell? ⟨g, 0, none⟩ = some (.pointer (some ⟨b, 0, none⟩)) ∧ v.cell? ⟨b, 0, none⟩ = some (.pointer (some ⟨p, 0, none⟩)) ∧ v.cell? ⟨f, 0, none⟩ = some (.string t)) ((first | exact hs0 | exact hs1 | go_keep)) ((first
      | (go_at_call 23; refine (HA.out _ (HDR.out _)).mono ?_; rintro e w' ⟨rfl, d1, o1⟩; have hs1 := HCELL.out _ o1)))
    go_wp2_with fail
    go_ret
    exact ⟨rfl, d1.out, o1⟩
end
end Go.Proofs.Ytnhgfhbicaiilaa
/- Acts up to an error: do. -/
namespace Go.Proofs.Ytnhgfhbicaiilaa
open Go.RowKit Book Reel
set_option linter.unusedVariables false

def seqS : List (St → St × Int) → St → Bool → St × Int × Bool
  | [], S, dead => (S, 0, dead)
  | f :: r, S, dead => if (f S).2 = 0 then seqS r (f S).1 dead else ((f S).1, (f S).2, dead || decide ((f S).2 = 10))
def addL (x s : ByteArray) : List (St → St × Int) := [fun S => appendS S x s, fun S => syncS S x]
def renewL (x t s : ByteArray) : List (St → St × Int) := [fun S => drop1 S t, fun S => appendS S t s, fun S => syncS S t, fun S => swapS S t x]
theorem drop1_near (S : St) (t : ByteArray) : Near S (drop1 S t).1 := by unfold drop1; split; exact Near.refl S; exact drop_near _ _
theorem BookAt.kill {w : World} {b p : Nat} {x : ByteArray} {life : Nat} {dead : Bool} (h : BookAt w b p x life dead) (d : Bool) : BookAt (w.setCell ⟨b, 3, none⟩ (.bool d)) b p x life d := by
  have := Blk.set h 3 (.bool d)
  show Blk _ _ _ _; simpa using this
section
variable {K : Nat → Prop} {w w' : World} {g h f b p : Nat} {x s t : ByteArray} {life : Nat} {dead : Bool} {S : St} {n : Nat}
set_option maxRecDepth 100000 in
set_option maxHeartbeats 4000000 in
theorem do_add (fa : Nat) (hd : DK K w p S) (hf : S.Fits n) (hn : n + 2 < big) (c : Caught K w g b p x life dead) (hs : Text1 K w h s) (hc : w.cell? ⟨fa, 0, none⟩ = some (.func (Fn.func 35) #[] #[.pointer (some ⟨g, 0, none⟩), .pointer (some ⟨h, 0, none⟩)]) ∧ w.cell? ⟨fa, 1, none⟩ = some (.func (Fn.func 36) #[] #[.pointer (some ⟨g, 0, none⟩)])) (kf : K fa) (hx : x.size ≤ 9223372036854775807) (hss : s.size ≤ 140737488355328) :
    Calls Try.prog 28 #[.pointer (some ⟨b, 0, none⟩), .slice (some ⟨fa, 0, none⟩) 2 2] w fun e w' => e = .returned (.int .i64 (seqS (addL x s) S dead).2.1) ∧ (DK K w' p (seqS (addL x s) S dead).1 ∧ BookAt w' b p x life (seqS (addL x s) S dead).2.2 ∧ Only (fun k => ¬ K k ∨ k = b) w w') := by
  obtain ⟨R, hR⟩ : ∃ R, seqS (addL x s) S dead = R := ⟨_, rfl⟩
  have HR0 : Hid (seqS (addL x s) S dead = R) := hR
  rw [hR]
  have HSTEP : Hid (∀ (F : St → St × Int) (r : List (St → St × Int)) (S : St), seqS (F :: r) S dead = if (F S).2 = 0 then seqS r (F S).1 dead else ((F S).1, (F S).2, dead || decide ((F S).2 = 10))) := fun F r S => rfl
  have HC : Hid (∀ w', Only (fun k => ¬ K k) w w' → w'.cell? ⟨fa, 0, none⟩ = some (.func (Fn.func 35) #[] #[.pointer (some ⟨g, 0, none⟩), .pointer (some ⟨h, 0, none⟩)]) ∧ w'.cell? ⟨fa, 1, none⟩ = some (.func (Fn.func 36) #[] #[.pointer (some ⟨g, 0, none⟩)])) := fun w' ho => by
    obtain ⟨e0, e1⟩ := hc
    exact ⟨ho.cell e0 (fun e => e kf), ho.cell e1 (fun e => e kf)⟩
  have HKB : Hid (K b) := c.kb
  have HFIN : Hid (∀ w1 w2, Only (fun k => ¬ K k) w w1 → Only (fun k => k = b) w1 w2 → Only (fun k => ¬ K k ∨ k = b) w w2) := fun w1 w2 h1 h2 => (h1.mono (fun _ e => .inl e)).then (h2.mono (fun _ e => .inr e))
  have D0 := hid hd; have C0 := hid c; have F0 := hid hf
  have Ts0 := hid hs
  clear hd hf c hs hc hR
  go_enter Try.func28, Try.ntmps28
  go_wp2
  go_loopw [10] (fun iv wr => ∃ (k : Nat) (Sk : St), k ≤ 2 ∧ iv = .int .i64 k ∧ Hid (seqS ((addL x s).drop k) Sk dead = R) ∧ Hid (DK K wr p Sk) ∧ Hid (Sk.Fits (n + k)) ∧ Hid (Caught K wr g b p x life dead) ∧ Hid (Text1 K wr h s) ∧ Hid (Only (fun k => ¬ K k) w wr)) (fun iv _ => 2 - (intOf iv).toNat)
  case atStart => exact ⟨0, S, by omega, rfl, HR0, D0, F0, C0, Ts0, Only.refl _ _⟩
  case round =>
    clear D0 C0 F0 Ts0 HR0
    obtain ⟨k, Sk, hk, rfl, HRK, DX, FX, CX, Ts, OX⟩ := hrel
    have hcells := HC.out _ OX.out
    obtain ⟨f0, f1⟩ := hcells
    obtain ⟨b0, b1, b2, b3⟩ := CX.out.book.cells
    have bf := Blk.frozen CX.out.book 3
    clear b0 b1 b2
    obtain rfl | rfl | rfl : k = 0 ∨ k = 1 ∨ k = 2 := by omega
    · have hst := HSTEP.out (fun S => appendS S x s) ((addL x s).drop 1) Sk
      have hRK : seqS ((fun S => appendS S x s) :: (addL x s).drop 1) Sk dead = R := HRK.out
      rw [hst] at hRK
      have HCALL := hid (add1_any DX.out FX.out (by omega) CX.out Ts.out hx hss)
      obtain ⟨Z, hZ⟩ : ∃ Z, appendS Sk x s = Z := ⟨_, rfl⟩
      have hfz : Z.1.Fits (n + 1) := by rw [← hZ]; exact (append_near Sk x s).fits FX.out
      simp only [hZ] at hRK HCALL
      obtain ⟨Z1, Z2⟩ := Z
      simp only at hRK HCALL hfz
      have HFZ := hid hfz
      clear hst HRK hZ hfz
      by_cases hz : Z2 = 0
      · subst hz
        have HRN : Hid (seqS ((addL x s).drop 1) Z1 dead = R) := by rw [if_pos rfl] at hRK; exact hRK
        clear hRK
        go_wp2_with (first
          | (go_at_call 35; refine HCALL.out.mono ?_; rintro e w1 ⟨rfl, hs1, hs2⟩; have H1 := hid hs1; have L1 := hid hs2; clear hs1 hs2))
        go_roundw
        case rel => exact ⟨1, Z1, by omega, rfl, HRN, H1, HFZ, CX.out.only L1.out, Ts.out.only L1.out, OX.out.then L1.out⟩
        case measure => simp [intOf]
      · have HRN : Hid (R = (Z1, Z2, dead || decide (Z2 = 10))) := by rw [if_neg hz] at hRK; exact hRK.symm
        have gz : (Z2 == 0) = false := by rw [beq_eq_false_iff_ne]; exact hz
        clear hRK hz
        have hdd : dead = true ∨ dead = false := by cases dead; exact .inr rfl; exact .inl rfl
        rcases hdd with rfl | rfl <;> (
          go_wp2_with (first
            | (go_at_call 35; refine HCALL.out.mono ?_; rintro e w1 ⟨rfl, hs1, hs2⟩; have H1 := hid hs1; have L1 := hid hs2; have C1 := hid (CX.out.only hs2); have b3 := C1.out.book.cells.2.2.2; have bf := Blk.frozen C1.out.book 3; clear hs1 hs2))
          go_ret
          refine ⟨by rw [HRN.out]; rfl, ?_, ?_, HFIN.out _ _ (OX.out.then L1.out) ((Only.refl (fun k => k = b) w1).setCell (p := ⟨b, 3, none⟩) (.inl rfl) _)⟩
          · rw [HRN.out]; exact H1.out.only ((Only.refl (fun k => k = b) w1).setCell (p := ⟨b, 3, none⟩) (.inl rfl) _) (fun k e => by rw [e]; exact HKB.out)
          · rw [HRN.out]; first | exact C1.out.book.kill true | exact C1.out.book.kill (Z2 == 10))
    · have hst := HSTEP.out (fun S => syncS S x) ((addL x s).drop 2) Sk
      have hRK : seqS ((fun S => syncS S x) :: (addL x s).drop 2) Sk dead = R := HRK.out
      rw [hst] at hRK
      have HCALL := hid (add2_any DX.out FX.out (by omega) CX.out)
      obtain ⟨Z, hZ⟩ : ∃ Z, syncS Sk x = Z := ⟨_, rfl⟩
      have hfz : Z.1.Fits (n + 2) := by rw [← hZ]; exact (sync_near Sk x).fits FX.out
      simp only [hZ] at hRK HCALL
      obtain ⟨Z1, Z2⟩ := Z
      simp only at hRK HCALL hfz
      have HFZ := hid hfz
      clear hst HRK hZ hfz
      by_cases hz : Z2 = 0
      · subst hz
        have HRN : Hid (seqS ((addL x s).drop 2) Z1 dead = R) := by rw [if_pos rfl] at hRK; exact hRK
        clear hRK
        go_wp2_with (first
          | (go_at_call 36; refine HCALL.out.mono ?_; rintro e w1 ⟨rfl, hs1, hs2⟩; have H1 := hid hs1; have L1 := hid hs2; clear hs1 hs2))
        go_roundw
        case rel => exact ⟨2, Z1, by omega, rfl, HRN, H1, HFZ, CX.out.only L1.out, Ts.out.only L1.out, OX.out.then L1.out⟩
        case measure => simp [intOf]
      · have HRN : Hid (R = (Z1, Z2, dead || decide (Z2 = 10))) := by rw [if_neg hz] at hRK; exact hRK.symm
        have gz : (Z2 == 0) = false := by rw [beq_eq_false_iff_ne]; exact hz
        clear hRK hz
        have hdd : dead = true ∨ dead = false := by cases dead; exact .inr rfl; exact .inl rfl
        rcases hdd with rfl | rfl <;> (
          go_wp2_with (first
            | (go_at_call 36; refine HCALL.out.mono ?_; rintro e w1 ⟨rfl, hs1, hs2⟩; have H1 := hid hs1; have L1 := hid hs2; have C1 := hid (CX.out.only hs2); have b3 := C1.out.book.cells.2.2.2; have bf := Blk.frozen C1.out.book 3; clear hs1 hs2))
          go_ret
          refine ⟨by rw [HRN.out]; rfl, ?_, ?_, HFIN.out _ _ (OX.out.then L1.out) ((Only.refl (fun k => k = b) w1).setCell (p := ⟨b, 3, none⟩) (.inl rfl) _)⟩
          · rw [HRN.out]; exact H1.out.only ((Only.refl (fun k => k = b) w1).setCell (p := ⟨b, 3, none⟩) (.inl rfl) _) (fun k e => by rw [e]; exact HKB.out)
          · rw [HRN.out]; first | exact C1.out.book.kill true | exact C1.out.book.kill (Z2 == 10))
    · have hRK : (Sk, 0, dead) = R := HRK.out
      subst hRK
      clear HRK
      go_wp2_with fail
      go_ret
      exact ⟨rfl, DX.out, CX.out.book, HFIN.out _ _ OX.out (Only.refl _ _)⟩
set_option maxRecDepth 100000 in
set_option maxHeartbeats 4000000 in
theorem do_renew (fa : Nat) (hd : DK K w p S) (hf : S.Fits n) (hn : n + 4 < big) (c : Caught K w g b p x life dead) (hs : Text1 K w h s) (ht : Text1 K w f t) (hc : w.cell? ⟨fa, 0, none⟩ = some (.func (Fn.func 29) #[] #[.pointer (some ⟨g, 0, none⟩), .pointer (some ⟨f, 0, none⟩)]) ∧ w.cell? ⟨fa, 1, none⟩ = some (.func (Fn.func 30) #[] #[.pointer (some ⟨g, 0, none⟩), .pointer (some ⟨f, 0, none⟩), .pointer (some ⟨h, 0, none⟩)]) ∧ w.cell? ⟨fa, 2, none⟩ = some (.func (Fn.func 31) #[] #[.pointer (some ⟨g, 0, none⟩), .pointer (some ⟨f, 0, none⟩)]) ∧ w.cell? ⟨fa, 3, none⟩ = some (.func (Fn.func 33) #[] #[.pointer (some ⟨g, 0, none⟩), .pointer (some ⟨f, 0, none⟩)])) (kf : K fa) (hx : x.size ≤ 9223372036854775807) (htt : t.size ≤ 9223372036854775807) (hss : s.size ≤ 140737488355328) :
    Calls Try.prog 28 #[.pointer (some ⟨b, 0, none⟩), .slice (some ⟨fa, 0, none⟩) 4 4] w fun e w' => e = .returned (.int .i64 (seqS (renewL x t s) S dead).2.1) ∧ (DK K w' p (seqS (renewL x t s) S dead).1 ∧ BookAt w' b p x life (seqS (renewL x t s) S dead).2.2 ∧ Only (fun k => ¬ K k ∨ k = b) w w') := by
  obtain ⟨R, hR⟩ : ∃ R, seqS (renewL x t s) S dead = R := ⟨_, rfl⟩
  have HR0 : Hid (seqS (renewL x t s) S dead = R) := hR
  rw [hR]
  have HSTEP : Hid (∀ (F : St → St × Int) (r : List (St → St × Int)) (S : St), seqS (F :: r) S dead = if (F S).2 = 0 then seqS r (F S).1 dead else ((F S).1, (F S).2, dead || decide ((F S).2 = 10))) := fun F r S => rfl
  have HC : Hid (∀ w', Only (fun k => ¬ K k) w w' → w'.cell? ⟨fa, 0, none⟩ = some (.func (Fn.func 29) #[] #[.pointer (some ⟨g, 0, none⟩), .pointer (some ⟨f, 0, none⟩)]) ∧ w'.cell? ⟨fa, 1, none⟩ = some (.func (Fn.func 30) #[] #[.pointer (some ⟨g, 0, none⟩), .pointer (some ⟨f, 0, none⟩), .pointer (some ⟨h, 0, none⟩)]) ∧ w'.cell? ⟨fa, 2, none⟩ = some (.func (Fn.func 31) #[] #[.pointer (some ⟨g, 0, none⟩), .pointer (some ⟨f, 0, none⟩)]) ∧ w'.cell? ⟨fa, 3, none⟩ = some (.func (Fn.func 33) #[] #[.pointer (some ⟨g, 0, none⟩), .pointer (some ⟨f, 0, none⟩)])) := fun w' ho => by
    obtain ⟨e0, e1, e2, e3⟩ := hc
    exact ⟨ho.cell e0 (fun e => e kf), ho.cell e1 (fun e => e kf), ho.cell e2 (fun e => e kf), ho.cell e3 (fun e => e kf)⟩
  have HKB : Hid (K b) := c.kb
  have HFIN : Hid (∀ w1 w2, Only (fun k => ¬ K k) w w1 → Only (fun k => k = b) w1 w2 → Only (fun k => ¬ K k ∨ k = b) w w2) := fun w1 w2 h1 h2 => (h1.mono (fun _ e => .inl e)).then (h2.mono (fun _ e => .inr e))
  have D0 := hid hd; have C0 := hid c; have F0 := hid hf
  have Ts0 := hid hs
  have Tt0 := hid ht
  clear hd hf c hs ht hc hR
  go_enter Try.func28, Try.ntmps28
  go_wp2
  go_loopw [10] (fun iv wr => ∃ (k : Nat) (Sk : St), k ≤ 4 ∧ iv = .int .i64 k ∧ Hid (seqS ((renewL x t s).drop k) Sk dead = R) ∧ Hid (DK K wr p Sk) ∧ Hid (Sk.Fits (n + k)) ∧ Hid (Caught K wr g b p x life dead) ∧ Hid (Text1 K wr h s) ∧ Hid (Text1 K wr f t) ∧ Hid (Only (fun k => ¬ K k) w wr)) (fun iv _ => 4 - (intOf iv).toNat)
  case atStart => exact ⟨0, S, by omega, rfl, HR0, D0, F0, C0, Ts0, Tt0, Only.refl _ _⟩
  case round =>
    clear D0 C0 F0 Ts0 Tt0 HR0
    obtain ⟨k, Sk, hk, rfl, HRK, DX, FX, CX, Ts, Tt, OX⟩ := hrel
    have hcells := HC.out _ OX.out
    obtain ⟨f0, f1, f2, f3⟩ := hcells
    obtain ⟨b0, b1, b2, b3⟩ := CX.out.book.cells
    have bf := Blk.frozen CX.out.book 3
    clear b0 b1 b2
    obtain rfl | rfl | rfl | rfl | rfl : k = 0 ∨ k = 1 ∨ k = 2 ∨ k = 3 ∨ k = 4 := by omega
    · have hst := HSTEP.out (fun S => drop1 S t) ((renewL x t s).drop 1) Sk
      have hRK : seqS ((fun S => drop1 S t) :: (renewL x t s).drop 1) Sk dead = R := HRK.out
      rw [hst] at hRK
      have HCALL := hid (renew1_any DX.out FX.out (by omega) CX.out Tt.out)
      obtain ⟨Z, hZ⟩ : ∃ Z, drop1 Sk t = Z := ⟨_, rfl⟩
      have hfz : Z.1.Fits (n + 1) := by rw [← hZ]; exact (drop1_near Sk t).fits FX.out
      simp only [hZ] at hRK HCALL
      obtain ⟨Z1, Z2⟩ := Z
      simp only at hRK HCALL hfz
      have HFZ := hid hfz
      clear hst HRK hZ hfz
      by_cases hz : Z2 = 0
      · subst hz
        have HRN : Hid (seqS ((renewL x t s).drop 1) Z1 dead = R) := by rw [if_pos rfl] at hRK; exact hRK
        clear hRK
        go_wp2_with (first
          | (go_at_call 29; refine HCALL.out.mono ?_; rintro e w1 ⟨rfl, hs1, hs2⟩; have H1 := hid hs1; have L1 := hid hs2; clear hs1 hs2))
        go_roundw
        case rel => exact ⟨1, Z1, by omega, rfl, HRN, H1, HFZ, CX.out.only L1.out, Ts.out.only L1.out, Tt.out.only L1.out, OX.out.then L1.out⟩
        case measure => simp [intOf]
      · have HRN : Hid (R = (Z1, Z2, dead || decide (Z2 = 10))) := by rw [if_neg hz] at hRK; exact hRK.symm
        have gz : (Z2 == 0) = false := by rw [beq_eq_false_iff_ne]; exact hz
        clear hRK hz
        have hdd : dead = true ∨ dead = false := by cases dead; exact .inr rfl; exact .inl rfl
        rcases hdd with rfl | rfl <;> (
          go_wp2_with (first
            | (go_at_call 29; refine HCALL.out.mono ?_; rintro e w1 ⟨rfl, hs1, hs2⟩; have H1 := hid hs1; have L1 := hid hs2; have C1 := hid (CX.out.only hs2); have b3 := C1.out.book.cells.2.2.2; have bf := Blk.frozen C1.out.book 3; clear hs1 hs2))
          go_ret
          refine ⟨by rw [HRN.out]; rfl, ?_, ?_, HFIN.out _ _ (OX.out.then L1.out) ((Only.refl (fun k => k = b) w1).setCell (p := ⟨b, 3, none⟩) (.inl rfl) _)⟩
          · rw [HRN.out]; exact H1.out.only ((Only.refl (fun k => k = b) w1).setCell (p := ⟨b, 3, none⟩) (.inl rfl) _) (fun k e => by rw [e]; exact HKB.out)
          · rw [HRN.out]; first | exact C1.out.book.kill true | exact C1.out.book.kill (Z2 == 10))
    · have hst := HSTEP.out (fun S => appendS S t s) ((renewL x t s).drop 2) Sk
      have hRK : seqS ((fun S => appendS S t s) :: (renewL x t s).drop 2) Sk dead = R := HRK.out
      rw [hst] at hRK
      have HCALL := hid (renew2_any DX.out FX.out (by omega) CX.out Tt.out Ts.out htt hss)
      obtain ⟨Z, hZ⟩ : ∃ Z, appendS Sk t s = Z := ⟨_, rfl⟩
      have hfz : Z.1.Fits (n + 2) := by rw [← hZ]; exact (append_near Sk t s).fits FX.out
      simp only [hZ] at hRK HCALL
      obtain ⟨Z1, Z2⟩ := Z
      simp only at hRK HCALL hfz
      have HFZ := hid hfz
      clear hst HRK hZ hfz
      by_cases hz : Z2 = 0
      · subst hz
        have HRN : Hid (seqS ((renewL x t s).drop 2) Z1 dead = R) := by rw [if_pos rfl] at hRK; exact hRK
        clear hRK
        go_wp2_with (first
          | (go_at_call 30; refine HCALL.out.mono ?_; rintro e w1 ⟨rfl, hs1, hs2⟩; have H1 := hid hs1; have L1 := hid hs2; clear hs1 hs2))
        go_roundw
        case rel => exact ⟨2, Z1, by omega, rfl, HRN, H1, HFZ, CX.out.only L1.out, Ts.out.only L1.out, Tt.out.only L1.out, OX.out.then L1.out⟩
        case measure => simp [intOf]
      · have HRN : Hid (R = (Z1, Z2, dead || decide (Z2 = 10))) := by rw [if_neg hz] at hRK; exact hRK.symm
        have gz : (Z2 == 0) = false := by rw [beq_eq_false_iff_ne]; exact hz
        clear hRK hz
        have hdd : dead = true ∨ dead = false := by cases dead; exact .inr rfl; exact .inl rfl
        rcases hdd with rfl | rfl <;> (
          go_wp2_with (first
            | (go_at_call 30; refine HCALL.out.mono ?_; rintro e w1 ⟨rfl, hs1, hs2⟩; have H1 := hid hs1; have L1 := hid hs2; have C1 := hid (CX.out.only hs2); have b3 := C1.out.book.cells.2.2.2; have bf := Blk.frozen C1.out.book 3; clear hs1 hs2))
          go_ret
          refine ⟨by rw [HRN.out]; rfl, ?_, ?_, HFIN.out _ _ (OX.out.then L1.out) ((Only.refl (fun k => k = b) w1).setCell (p := ⟨b, 3, none⟩) (.inl rfl) _)⟩
          · rw [HRN.out]; exact H1.out.only ((Only.refl (fun k => k = b) w1).setCell (p := ⟨b, 3, none⟩) (.inl rfl) _) (fun k e => by rw [e]; exact HKB.out)
          · rw [HRN.out]; first | exact C1.out.book.kill true | exact C1.out.book.kill (Z2 == 10))
    · have hst := HSTEP.out (fun S => syncS S t) ((renewL x t s).drop 3) Sk
      have hRK : seqS ((fun S => syncS S t) :: (renewL x t s).drop 3) Sk dead = R := HRK.out
      rw [hst] at hRK
      have HCALL := hid (renew3_any DX.out FX.out (by omega) CX.out Tt.out)
      obtain ⟨Z, hZ⟩ : ∃ Z, syncS Sk t = Z := ⟨_, rfl⟩
      have hfz : Z.1.Fits (n + 3) := by rw [← hZ]; exact (sync_near Sk t).fits FX.out
      simp only [hZ] at hRK HCALL
      obtain ⟨Z1, Z2⟩ := Z
      simp only at hRK HCALL hfz
      have HFZ := hid hfz
      clear hst HRK hZ hfz
      by_cases hz : Z2 = 0
      · subst hz
        have HRN : Hid (seqS ((renewL x t s).drop 3) Z1 dead = R) := by rw [if_pos rfl] at hRK; exact hRK
        clear hRK
        go_wp2_with (first
          | (go_at_call 31; refine HCALL.out.mono ?_; rintro e w1 ⟨rfl, hs1, hs2⟩; have H1 := hid hs1; have L1 := hid hs2; clear hs1 hs2))
        go_roundw
        case rel => exact ⟨3, Z1, by omega, rfl, HRN, H1, HFZ, CX.out.only L1.out, Ts.out.only L1.out, Tt.out.only L1.out, OX.out.then L1.out⟩
        case measure => simp [intOf]
      · have HRN : Hid (R = (Z1, Z2, dead || decide (Z2 = 10))) := by rw [if_neg hz] at hRK; exact hRK.symm
        have gz : (Z2 == 0) = false := by rw [beq_eq_false_iff_ne]; exact hz
        clear hRK hz
        have hdd : dead = true ∨ dead = false := by cases dead; exact .inr rfl; exact .inl rfl
        rcases hdd with rfl | rfl <;> (
          go_wp2_with (first
            | (go_at_call 31; refine HCALL.out.mono ?_; rintro e w1 ⟨rfl, hs1, hs2⟩; have H1 := hid hs1; have L1 := hid hs2; have C1 := hid (CX.out.only hs2); have b3 := C1.out.book.cells.2.2.2; have bf := Blk.frozen C1.out.book 3; clear hs1 hs2))
          go_ret
          refine ⟨by rw [HRN.out]; rfl, ?_, ?_, HFIN.out _ _ (OX.out.then L1.out) ((Only.refl (fun k => k = b) w1).setCell (p := ⟨b, 3, none⟩) (.inl rfl) _)⟩
          · rw [HRN.out]; exact H1.out.only ((Only.refl (fun k => k = b) w1).setCell (p := ⟨b, 3, none⟩) (.inl rfl) _) (fun k e => by rw [e]; exact HKB.out)
          · rw [HRN.out]; first | exact C1.out.book.kill true | exact C1.out.book.kill (Z2 == 10))
    · have hst := HSTEP.out (fun S => swapS S t x) ((renewL x t s).drop 4) Sk
      have hRK : seqS ((fun S => swapS S t x) :: (renewL x t s).drop 4) Sk dead = R := HRK.out
      rw [hst] at hRK
      have HCALL := hid (renew4_any DX.out FX.out (by omega) CX.out Tt.out hx)
      obtain ⟨Z, hZ⟩ : ∃ Z, swapS Sk t x = Z := ⟨_, rfl⟩
      have hfz : Z.1.Fits (n + 4) := by rw [← hZ]; exact (swap_near Sk t x).fits FX.out
      simp only [hZ] at hRK HCALL
      obtain ⟨Z1, Z2⟩ := Z
      simp only at hRK HCALL hfz
      have HFZ := hid hfz
      clear hst HRK hZ hfz
      by_cases hz : Z2 = 0
      · subst hz
        have HRN : Hid (seqS ((renewL x t s).drop 4) Z1 dead = R) := by rw [if_pos rfl] at hRK; exact hRK
        clear hRK
        go_wp2_with (first
          | (go_at_call 33; refine HCALL.out.mono ?_; rintro e w1 ⟨rfl, hs1, hs2⟩; have H1 := hid hs1; have L1 := hid hs2; clear hs1 hs2))
        go_roundw
        case rel => exact ⟨4, Z1, by omega, rfl, HRN, H1, HFZ, CX.out.only L1.out, Ts.out.only L1.out, Tt.out.only L1.out, OX.out.then L1.out⟩
        case measure => simp [intOf]
      · have HRN : Hid (R = (Z1, Z2, dead || decide (Z2 = 10))) := by rw [if_neg hz] at hRK; exact hRK.symm
        have gz : (Z2 == 0) = false := by rw [beq_eq_false_iff_ne]; exact hz
        clear hRK hz
        have hdd : dead = true ∨ dead = false := by cases dead; exact .inr rfl; exact .inl rfl
        rcases hdd with rfl | rfl <;> (
          go_wp2_with (first
            | (go_at_call 33; refine HCALL.out.mono ?_; rintro e w1 ⟨rfl, hs1, hs2⟩; have H1 := hid hs1; have L1 := hid hs2; have C1 := hid (CX.out.only hs2); have b3 := C1.out.book.cells.2.2.2; have bf := Blk.frozen C1.out.book 3; clear hs1 hs2))
          go_ret
          refine ⟨by rw [HRN.out]; rfl, ?_, ?_, HFIN.out _ _ (OX.out.then L1.out) ((Only.refl (fun k => k = b) w1).setCell (p := ⟨b, 3, none⟩) (.inl rfl) _)⟩
          · rw [HRN.out]; exact H1.out.only ((Only.refl (fun k => k = b) w1).setCell (p := ⟨b, 3, none⟩) (.inl rfl) _) (fun k e => by rw [e]; exact HKB.out)
          · rw [HRN.out]; first | exact C1.out.book.kill true | exact C1.out.book.kill (Z2 == 10))
    · have hRK : (Sk, 0, dead) = R := HRK.out
      subst hRK
      clear HRK
      go_wp2_with fail
      go_ret
      exact ⟨rfl, DX.out, CX.out.book, HFIN.out _ _ OX.out (Only.refl _ _)⟩
end
end Go.Proofs.Ytnhgfhbicaiilaa
/- Add and Renew. -/
namespace Go.Proofs.Ytnhgfhbicaiilaa
open Go.RowKit Book Reel
set_option linter.unusedVariables false

def addB (S : St) (x : ByteArray) (life : Nat) (dead : Bool) (rs : List (List UInt8)) : St × Int × Bool :=
  if (readyS S life dead rs).2 = 0 then seqS (addL x (bx (readyS S life dead rs).1)) S dead else (S, (readyS S life dead rs).2, dead)
def renewB (S : St) (x : ByteArray) (life : Nat) (dead : Bool) (rs : List (List UInt8)) : St × Int × Bool :=
  if (readyS S life dead rs).2 = 0 then seqS (renewL x (tilde x) (bx (readyS S life dead rs).1)) S dead else (S, (readyS S life dead rs).2, dead)
theorem add_nil (v : Value) (w : World) : Calls Try.prog 11 #[.pointer none, v] w fun e w' => e = .returned (.int .i64 2) ∧ Below w.heap.size w w' := by
  have HR : Hid (∀ w', Calls Try.prog 27 #[.pointer none, v] w' fun e w'' => e = .returned (.tuple #[.string ⟨#[]⟩, .int .i64 2]) ∧ w' = w'') := fun w' => bready_nil v w'
  go_enter Try.func11, Try.ntmps11
  go_wp2_with (go_at_call 27; refine (HR.out _).mono ?_; rintro e w' ⟨rfl, rfl⟩)
  go_ret
  exact ⟨rfl, ((Below.refl _ _).alloc (Nat.le_refl _) _).alloc (by simp) _⟩
theorem far_cell {w w1 : World} {v : Value} {t : TypeId} (h : Below (w.alloc (.cells #[v] t)).heap.size (w.alloc (.cells #[v] t)) w1) : ∀ o, (w1.alloc o).cell? ⟨w.heap.size, 0, none⟩ = some v := fun o => by
  have h1 := (Blk.new w t #[v]).only (Only.of_below h NoF) (fun e => e)
  exact (h1.alloc o).cell 0
theorem far_cell2 {w w1 : World} {v : Value} {t : TypeId} (h : Below (w.alloc (.cells #[v] t)).heap.size (w.alloc (.cells #[v] t)) w1) : ∀ o o', ((w1.alloc o).alloc o').cell? ⟨w.heap.size, 0, none⟩ = some v := fun o o' => by
  have h1 := (Blk.new w t #[v]).only (Only.of_below h NoF) (fun e => e)
  exact ((h1.alloc o).alloc o').cell 0
theorem far_name {w w1 : World} {b p : Nat} {x : ByteArray} {life : Nat} {dead : Bool} {o0 : Obj} (hb : BookAt w b p x life dead) (h : Below (w.alloc o0).heap.size (w.alloc o0) w1) : ∀ o, (w1.alloc o).cell? ⟨b, 1, none⟩ = some (.string x) := fun o => by
  have h0 : Below w.heap.size w (w.alloc o0) := (Below.refl _ _).alloc (Nat.le_refl _) _
  have h1 : BookAt w1 b p x life dead := Blk.only hb (Only.of_below (below_then h0 h) NoF) (fun e => e)
  exact (Blk.alloc h1 o).cell 1
theorem far_env {K : Nat → Prop} {w w1 W : World} {b p : Nat} {x : ByteArray} {life : Nat} {dead : Bool} {S : St} (hd : DK K w p S) (hb : BookAt w b p x life dead) (kb : K b) (L1 : Below (w.alloc (.cells #[.pointer (some ⟨b, 0, none⟩)] 28)).heap.size (w.alloc (.cells #[.pointer (some ⟨b, 0, none⟩)] 28)) w1) (L2 : Below w1.heap.size w1 W) :
    DK (fun k => K k ∨ (k = w.heap.size ∨ (w1.heap.size ≤ k ∧ k < W.heap.size))) W p S ∧ Caught (fun k => K k ∨ (k = w.heap.size ∨ (w1.heap.size ≤ k ∧ k < W.heap.size))) W w.heap.size b p x life dead
    ∧ ∀ w', Only (fun k => ¬ (K k ∨ (k = w.heap.size ∨ (w1.heap.size ≤ k ∧ k < W.heap.size))) ∨ k = b) W w' → Only (fun k => ¬ K k ∨ k = b) w w' := by
  have h0 : Below w.heap.size w (w.alloc (.cells #[.pointer (some ⟨b, 0, none⟩)] 28)) := (Below.refl _ _).alloc (Nat.le_refl _) _
  have h1 := below_then h0 L1
  have hW := below_then h1 L2
  have s1 : w.heap.size + 1 ≤ w1.heap.size := by have := L1.size; simpa using this
  have s2 := L2.size
  refine ⟨hd.more hW (fun k hk => by omega), ⟨?_, Blk.only hb (Only.of_below hW NoF) (fun e => e), .inr (.inl rfl), .inl kb⟩, fun w' ho => ?_⟩
  · have h2 := ((Blk.new w 28 #[.pointer (some ⟨b, 0, none⟩)]).only (Only.of_below L1 NoF) (fun e => e)).only (Only.of_below L2 NoF) (fun e => e)
    exact h2.cell 0
  · refine (Only.of_below hW (fun k => ¬ K k ∨ k = b)).trans ho (fun k hk => .inl ?_)
    rcases hk with hk | hk
    · exact .inl (fun e => hk (.inl e))
    · exact .inr hk
section
variable {K : Nat → Prop} {w : World} {b p : Nat} {x : ByteArray} {life : Nat} {dead : Bool} {S : St} {n : Nat}
set_option maxRecDepth 100000 in
set_option maxHeartbeats 4000000 in
theorem add_K (a : Option Addr) (m c : Nat) (rs : List ByteArray) (hd : DK K w p S) (hf : S.Fits n) (hn : n + 3 < big) (hb : BookAt w b p x life dead) (kb : K b) (hl : life ≤ 9223372036854775807) (hx : x.size ≤ 1000) (hS : StrsAt w a m rs) (hsz : ∀ x ∈ rs, x.size ≤ 9223372036854775807) :
    Calls Try.prog 11 #[.pointer (some ⟨b, 0, none⟩), .slice a m c] w fun e w' => e = .returned (.int .i64 (addB S x life dead (lists rs)).2.1) ∧ (DK K w' p (addB S x life dead (lists rs)).1 ∧ BookAt w' b p x life (addB S x life dead (lists rs)).2.2 ∧ Only (fun k => ¬ K k ∨ k = b) w w') := by
  have hlife : S.life ≤ 9223372036854775807 := by have h1 := hf.2.1; unfold big at hn; omega
  obtain ⟨R, hR⟩ : ∃ R, readyS S life dead (lists rs) = R := ⟨_, rfl⟩
  have hRl : (bx R.1).size ≤ 140737488355328 := by rw [← hR, bx_size]; unfold readyS; rw [frame_len]; have := bodyE_len (lists rs); omega
  have HRD : Hid (∀ w', Below w.heap.size w w' → Calls Try.prog 27 #[.pointer (some ⟨b, 0, none⟩), .slice a m c] w' fun e w'' => e = .returned (.tuple #[.string (bx R.1), .int .i64 R.2]) ∧ Below w'.heap.size w' w'') := fun w' hbl => by
    have := bready_K K b p S x life dead a m c rs w' hlife hl (hd.below hbl) (Blk.only hb (Only.of_below hbl NoF) (fun e => e)) (hS.later hbl) hsz
    rwa [hR] at this
  unfold addB
  rw [hR]
  have hmf : ∀ (fn : Fn) (first cap : Array Value) (w : World), (Instr.makeFunc fn first cap).run Try.prog w = .ok (.func fn first cap) w := fun _ _ _ _ => rfl
  have HENV : Hid (∀ w1 W, Below (w.alloc (.cells #[.pointer (some ⟨b, 0, none⟩)] 28)).heap.size (w.alloc (.cells #[.pointer (some ⟨b, 0, none⟩)] 28)) w1 → Below w1.heap.size w1 W → _) := fun w1 W h1 h2 => far_env hd hb kb h1 h2
  obtain ⟨R1, R2⟩ := R
  simp only at hRl HRD ⊢
  by_cases hR2 : R2 = 0
  · subst hR2
    rw [if_pos rfl]
    obtain ⟨y, hy⟩ : ∃ y, bx R1 = y := ⟨_, rfl⟩
    rw [hy] at hRl HRD ⊢
    clear hy hd hb hS hsz hR hlife
    go_enter Try.func11, Try.ntmps11
    go_wp2_with (first
      | (go_at_call 27; refine (HRD.out _ ((Below.refl _ _).alloc (Nat.le_refl _) _)).mono ?_; rintro e w1 ⟨rfl, hs⟩; have L1 := hid hs; have cg := far_cell hs; clear hs))
    have L2 : Below w1.heap.size w1 ((w1.alloc (.cells #[.string y] 9)).alloc (.cells #[.func (Fn.func 35) #[] #[.pointer (some ⟨w.heap.size, 0, none⟩), .pointer (some ⟨w1.heap.size, 0, none⟩)], .func (Fn.func 36) #[] #[.pointer (some ⟨w.heap.size, 0, none⟩)]] 67)) := ((Below.refl _ _).alloc (Nat.le_refl _) _).alloc (by simp) _
    obtain ⟨hd2, hc2, hfin⟩ := HENV.out _ _ L1.out L2
    go_at_call 28
    refine (do_add (w1.heap.size + 1) hd2 hf (by omega) hc2 ⟨(Blk.new w1 9 #[.string y]).alloc _ |>.cell 0, .inr (.inr ⟨Nat.le_refl _, by simp <;> omega⟩)⟩ ?_ (.inr (.inr ⟨by omega, by simp⟩)) (by omega) hRl).mono ?_
    · have h9 : ((w1.alloc (.cells #[.string y] 9)).heap.size) = w1.heap.size + 1 := by simp
      have h8 := Blk.new (w1.alloc (.cells #[.string y] 9)) 67 #[.func (Fn.func 35) #[] #[.pointer (some ⟨w.heap.size, 0, none⟩), .pointer (some ⟨w1.heap.size, 0, none⟩)], .func (Fn.func 36) #[] #[.pointer (some ⟨w.heap.size, 0, none⟩)]]
      rw [h9] at h8
      exact ⟨h8.cell 0, h8.cell 1⟩
    rintro e w5 ⟨rfl, hs1, hs2, hs3⟩
    have H1 : Hid (DK K w5 p _) := hid (hs1.less (fun k hk => .inl hk)); have H2 := hid hs2; have H3 := hid (hfin _ hs3)
    clear hs1 hs2 hs3 hd2 hc2 hfin L2
    go_wp2_with fail
    go_ret
    exact ⟨rfl, H1.out, H2.out, H3.out⟩
  · have gz : (R2 == 0) = false := by rw [beq_eq_false_iff_ne]; exact hR2
    rw [if_neg hR2]
    have HFIN : Hid (∀ w', Below w.heap.size w w' → DK K w' p S ∧ BookAt w' b p x life dead ∧ Only (fun k => ¬ K k ∨ k = b) w w') := fun w' hbl => ⟨hd.below hbl, Blk.only hb (Only.of_below hbl NoF) (fun e => e), Only.of_below hbl _⟩
    clear hd hb hS hsz hR hlife HENV hR2
    go_enter Try.func11, Try.ntmps11
    go_wp2_with (first
      | (go_at_call 27; refine (HRD.out _ ((Below.refl _ _).alloc (Nat.le_refl _) _)).mono ?_; rintro e w1 ⟨rfl, hs⟩; have L1 := hid hs; clear hs))
    go_ret
    exact ⟨rfl, HFIN.out _ (below_then (below_then ((Below.refl _ _).alloc (Nat.le_refl _) _) L1.out) ((Below.refl _ _).alloc (Nat.le_refl _) _))⟩
set_option maxRecDepth 100000 in
set_option maxHeartbeats 4000000 in
theorem renew_K (a : Option Addr) (m c : Nat) (rs : List ByteArray) (hd : DK K w p S) (hf : S.Fits n) (hn : n + 5 < big) (hb : BookAt w b p x life dead) (kb : K b) (hl : life ≤ 9223372036854775807) (hx : x.size ≤ 1000) (hS : StrsAt w a m rs) (hsz : ∀ x ∈ rs, x.size ≤ 9223372036854775807) :
    Calls Try.prog 10 #[.pointer (some ⟨b, 0, none⟩), .slice a m c] w fun e w' => e = .returned (.int .i64 (renewB S x life dead (lists rs)).2.1) ∧ (DK K w' p (renewB S x life dead (lists rs)).1 ∧ BookAt w' b p x life (renewB S x life dead (lists rs)).2.2 ∧ Only (fun k => ¬ K k ∨ k = b) w w') := by
  have hlife : S.life ≤ 9223372036854775807 := by have h1 := hf.2.1; unfold big at hn; omega
  obtain ⟨R, hR⟩ : ∃ R, readyS S life dead (lists rs) = R := ⟨_, rfl⟩
  have hRl : (bx R.1).size ≤ 140737488355328 := by rw [← hR, bx_size]; unfold readyS; rw [frame_len]; have := bodyE_len (lists rs); omega
  have HRD : Hid (∀ w', Below w.heap.size w w' → Calls Try.prog 27 #[.pointer (some ⟨b, 0, none⟩), .slice a m c] w' fun e w'' => e = .returned (.tuple #[.string (bx R.1), .int .i64 R.2]) ∧ Below w'.heap.size w' w'') := fun w' hbl => by
    have := bready_K K b p S x life dead a m c rs w' hlife hl (hd.below hbl) (Blk.only hb (Only.of_below hbl NoF) (fun e => e)) (hS.later hbl) hsz
    rwa [hR] at this
  unfold renewB
  rw [hR]
  have hmf : ∀ (fn : Fn) (first cap : Array Value) (w : World), (Instr.makeFunc fn first cap).run Try.prog w = .ok (.func fn first cap) w := fun _ _ _ _ => rfl
  have HENV : Hid (∀ w1 W, Below (w.alloc (.cells #[.pointer (some ⟨b, 0, none⟩)] 28)).heap.size (w.alloc (.cells #[.pointer (some ⟨b, 0, none⟩)] 28)) w1 → Below w1.heap.size w1 W → _) := fun w1 W h1 h2 => far_env hd hb kb h1 h2
  obtain ⟨R1, R2⟩ := R
  simp only at hRl HRD ⊢
  have HNM : Hid (∀ w1, Below (w.alloc (.cells #[.pointer (some ⟨b, 0, none⟩)] 28)).heap.size (w.alloc (.cells #[.pointer (some ⟨b, 0, none⟩)] 28)) w1 → _) := fun w1 h1 => far_name hb h1
  have HSP : Hid (∀ w, Calls Try.prog 22 #[.string x] w fun e w' => e = .returned (.string (tilde x)) ∧ w = w') := fun w => spare_any x w hx
  have hzz : (tilde x).size ≤ 9223372036854775807 := by rw [tilde_size]; omega
  obtain ⟨z, hz⟩ : ∃ z, tilde x = z := ⟨_, rfl⟩
  rw [hz] at HSP hzz ⊢
  clear hz
  by_cases hR2 : R2 = 0
  · subst hR2
    rw [if_pos rfl]
    obtain ⟨y, hy⟩ : ∃ y, bx R1 = y := ⟨_, rfl⟩
    rw [hy] at hRl HRD ⊢
    clear hy hd hb hS hsz hR hlife
    go_enter Try.func10, Try.ntmps10
    go_wp2_with (first
      | (go_at_call 27; refine (HRD.out _ ((Below.refl _ _).alloc (Nat.le_refl _) _)).mono ?_; rintro e w1 ⟨rfl, hs⟩; have L1 := hid hs; have cg := far_cell hs; have cg2 := far_cell2 hs; have cn := HNM.out w1 hs; clear hs)
      | (go_at_call 22; refine (HSP.out _).mono ?_; rintro e w' ⟨rfl, rfl⟩))
    have L2 : Below w1.heap.size w1 (((w1.alloc (.cells #[.string y] 9)).alloc (.cells #[.string z] 9)).alloc (.cells #[.func (Fn.func 29) #[] #[.pointer (some ⟨w.heap.size, 0, none⟩), .pointer (some ⟨w1.heap.size + 1, 0, none⟩)], .func (Fn.func 30) #[] #[.pointer (some ⟨w.heap.size, 0, none⟩), .pointer (some ⟨w1.heap.size + 1, 0, none⟩), .pointer (some ⟨w1.heap.size, 0, none⟩)], .func (Fn.func 31) #[] #[.pointer (some ⟨w.heap.size, 0, none⟩), .pointer (some ⟨w1.heap.size + 1, 0, none⟩)], .func (Fn.func 33) #[] #[.pointer (some ⟨w.heap.size, 0, none⟩), .pointer (some ⟨w1.heap.size + 1, 0, none⟩)]] 67)) := (((Below.refl _ _).alloc (Nat.le_refl _) _).alloc (by simp) _).alloc (by simp <;> omega) _
    obtain ⟨hd2, hc2, hfin⟩ := HENV.out _ _ L1.out L2
    have HTZ : Text1 (fun k => K k ∨ (k = w.heap.size ∨ (w1.heap.size ≤ k ∧ k < (((w1.alloc (.cells #[.string y] 9)).alloc (.cells #[.string z] 9)).alloc (.cells #[.func (Fn.func 29) #[] #[.pointer (some ⟨w.heap.size, 0, none⟩), .pointer (some ⟨w1.heap.size + 1, 0, none⟩)], .func (Fn.func 30) #[] #[.pointer (some ⟨w.heap.size, 0, none⟩), .pointer (some ⟨w1.heap.size + 1, 0, none⟩), .pointer (some ⟨w1.heap.size, 0, none⟩)], .func (Fn.func 31) #[] #[.pointer (some ⟨w.heap.size, 0, none⟩), .pointer (some ⟨w1.heap.size + 1, 0, none⟩)], .func (Fn.func 33) #[] #[.pointer (some ⟨w.heap.size, 0, none⟩), .pointer (some ⟨w1.heap.size + 1, 0, none⟩)]] 67)).heap.size))) (((w1.alloc (.cells #[.string y] 9)).alloc (.cells #[.string z] 9)).alloc (.cells #[.func (Fn.func 29) #[] #[.pointer (some ⟨w.heap.size, 0, none⟩), .pointer (some ⟨w1.heap.size + 1, 0, none⟩)], .func (Fn.func 30) #[] #[.pointer (some ⟨w.heap.size, 0, none⟩), .pointer (some ⟨w1.heap.size + 1, 0, none⟩), .pointer (some ⟨w1.heap.size, 0, none⟩)], .func (Fn.func 31) #[] #[.pointer (some ⟨w.heap.size, 0, none⟩), .pointer (some ⟨w1.heap.size + 1, 0, none⟩)], .func (Fn.func 33) #[] #[.pointer (some ⟨w.heap.size, 0, none⟩), .pointer (some ⟨w1.heap.size + 1, 0, none⟩)]] 67)) (w1.heap.size + 1) z := by
      have h8 := (Blk.new (w1.alloc (.cells #[.string y] 9)) 9 #[.string z]).alloc (.cells #[.func (Fn.func 29) #[] #[.pointer (some ⟨w.heap.size, 0, none⟩), .pointer (some ⟨w1.heap.size + 1, 0, none⟩)], .func (Fn.func 30) #[] #[.pointer (some ⟨w.heap.size, 0, none⟩), .pointer (some ⟨w1.heap.size + 1, 0, none⟩), .pointer (some ⟨w1.heap.size, 0, none⟩)], .func (Fn.func 31) #[] #[.pointer (some ⟨w.heap.size, 0, none⟩), .pointer (some ⟨w1.heap.size + 1, 0, none⟩)], .func (Fn.func 33) #[] #[.pointer (some ⟨w.heap.size, 0, none⟩), .pointer (some ⟨w1.heap.size + 1, 0, none⟩)]] 67)
      have h9 : ((w1.alloc (.cells #[.string y] 9)).heap.size) = w1.heap.size + 1 := by simp
      rw [h9] at h8
      exact ⟨h8.cell 0, .inr (.inr ⟨by omega, by simp <;> omega⟩)⟩
    go_at_call 28
    refine (do_renew (w1.heap.size + 2) hd2 hf (by omega) hc2 ⟨((Blk.new w1 9 #[.string y]).alloc _).alloc _ |>.cell 0, .inr (.inr ⟨Nat.le_refl _, by simp <;> omega⟩)⟩ HTZ ?_ (.inr (.inr ⟨by omega, by simp⟩)) (by omega) hzz hRl).mono ?_
    · have h9 : (((w1.alloc (.cells #[.string y] 9)).alloc (.cells #[.string z] 9)).heap.size) = w1.heap.size + 2 := by simp
      have h8 := Blk.new ((w1.alloc (.cells #[.string y] 9)).alloc (.cells #[.string z] 9)) 67 #[.func (Fn.func 29) #[] #[.pointer (some ⟨w.heap.size, 0, none⟩), .pointer (some ⟨w1.heap.size + 1, 0, none⟩)], .func (Fn.func 30) #[] #[.pointer (some ⟨w.heap.size, 0, none⟩), .pointer (some ⟨w1.heap.size + 1, 0, none⟩), .pointer (some ⟨w1.heap.size, 0, none⟩)], .func (Fn.func 31) #[] #[.pointer (some ⟨w.heap.size, 0, none⟩), .pointer (some ⟨w1.heap.size + 1, 0, none⟩)], .func (Fn.func 33) #[] #[.pointer (some ⟨w.heap.size, 0, none⟩), .pointer (some ⟨w1.heap.size + 1, 0, none⟩)]]
      rw [h9] at h8
      exact ⟨h8.cell 0, h8.cell 1, h8.cell 2, h8.cell 3⟩
    rintro e w5 ⟨rfl, hs1, hs2, hs3⟩
    have H1 : Hid (DK K w5 p _) := hid (hs1.less (fun k hk => .inl hk)); have H2 := hid hs2; have H3 := hid (hfin _ hs3)
    clear hs1 hs2 hs3 hd2 hc2 hfin L2
    go_wp2_with fail
    go_ret
    exact ⟨rfl, H1.out, H2.out, H3.out⟩
  · have gz : (R2 == 0) = false := by rw [beq_eq_false_iff_ne]; exact hR2
    rw [if_neg hR2]
    have HFIN : Hid (∀ w', Below w.heap.size w w' → DK K w' p S ∧ BookAt w' b p x life dead ∧ Only (fun k => ¬ K k ∨ k = b) w w') := fun w' hbl => ⟨hd.below hbl, Blk.only hb (Only.of_below hbl NoF) (fun e => e), Only.of_below hbl _⟩
    clear hd hb hS hsz hR hlife HENV hR2
    go_enter Try.func10, Try.ntmps10
    go_wp2_with (first
      | (go_at_call 27; refine (HRD.out _ ((Below.refl _ _).alloc (Nat.le_refl _) _)).mono ?_; rintro e w1 ⟨rfl, hs⟩; have L1 := hid hs; clear hs))
    go_ret
    exact ⟨rfl, HFIN.out _ (below_then (below_then ((Below.refl _ _).alloc (Nat.le_refl _) _) L1.out) ((Below.refl _ _).alloc (Nat.le_refl _) _))⟩
end
end Go.Proofs.Ytnhgfhbicaiilaa
