/- Texts in a row: LwE, LwF, LwG, LwP, LwS. -/
import Derived.Test.YtlenfiiocmchdaaGreatDoorMaM
import Derived.BigFrame
/- Layer 15's laws: whether two unlike texts have one digest (shown). -/
namespace Go.Proofs.YtlenfiiocmchdaaGreatDoor
open Go.RowKit Book Pap Ojt Sn
set_option linter.unusedVariables false
set_option linter.unusedSimpArgs false

theorem newTxt_any (w : World) : Calls Tryz.prog 35 #[] w fun e w' => e = .returned (.pointer (some ⟨w.heap.size, 0, none⟩)) ∧ MapIsTxt w' w.heap.size (.slice none 0 0) (.slice none 0 0) [] [] ∧ Below w.heap.size w w' := by
  have HX : Hid (Blk (w.alloc (.cells #[.slice none 0 0, .slice none 0 0] 148)) w.heap.size 148 #[.slice none 0 0, .slice none 0 0]) := Blk.new w _ _
  have HB : Hid (Below w.heap.size w (w.alloc (.cells #[.slice none 0 0, .slice none 0 0] 148))) := (Below.refl _ _).alloc (Nat.le_refl _) _
  go_enter Tryz.func35, Tryz.ntmps35
  go_wp2_with fail
  go_ret
  exact ⟨rfl, ⟨HX.out, World.ownsRow_nil _ _ _ _, World.ownsRow_nil _ _ _ _, rfl, List.Pairwise.nil, Nat.zero_le _, fun k hk => by simp [Value.ownBlock] at hk⟩, HB.out⟩
def ShownOut (l : List ByteArray) (w : World) (e : Ending) (w' : World) : Prop := ∃ b : Bool, e = .returned (.bool b) ∧ (b = false → Sw.Apart l) ∧ Below w.heap.size w w'
set_option maxRecDepth 100000 in
set_option maxHeartbeats 8000000 in
theorem shown_any (a : Option Addr) (n c : Nat) (l : List ByteArray) (w : World) (h : StrsAt w a n l) (hn : n ≤ 100000) (hz : ∀ s ∈ l, s.size ≤ 1000000000) :
    Calls Tryz.prog 31 #[.slice a n c] w (ShownOut l w) := by
  have HS := hid h
  have HL := hid h.1
  have HZ := hid hz
  have HN := hid (newTxt_any w)
  clear h hz
  go_enter Tryz.func31, Tryz.ntmps31
  go_wp2_with fail
  refine HN.out.mono ?_; rintro e w1 ⟨rfl, hm1, hb1⟩
  have HM1 := hid hm1
  have HB1 := hid hb1
  generalize hg : w.heap.size = g at HM1 HB1 ⊢
  have HG := hid hg
  clear hg hm1 hb1 HN
  go_wp2_with fail
  go_loopw [4] (fun iv wr => ∃ i : Nat, i ≤ n ∧ iv = .int .i64 i ∧ Hid (∃ ks vs kl ps, MapIsTxt wr g ks vs kl ps ∧ kl.length ≤ i ∧ (∀ k, MapF g ks vs k → g ≤ k) ∧ ∀ t ∈ l.take i, getO kl ps (Sw.idOf t) = some t) ∧ Hid (Below g w wr)) (fun iv _ => n - (intOf iv).toNat)
  case atStart => exact ⟨0, Nat.zero_le _, rfl, ⟨_, _, [], [], HM1.out, Nat.zero_le _, fun k hk => by rcases hk with e | e | e <;> first | (rw [e]; exact Nat.le_refl _) | simp [Value.ownBlock] at e, fun t ht => by cases ht⟩, HB1⟩
  case round =>
    obtain ⟨i, hi, rfl, HM, HB⟩ := hrel
    by_cases hlt : i < n
    · have ci : (i : Int) < n := by omega
      have ci0 : (0 : Int) ≤ (i : Int) := by omega
      obtain ⟨-, -, h3⟩ := HS.out.later (by rw [HG.out]; exact HB.out)
      obtain ⟨b, off, rfl, hc⟩ := h3.resolve_left (by omega)
      have q0 := hc i hlt
      have hil : i < l.length := by rw [HL.out]; exact hlt
      have hsz := HZ.out (l.getD i ByteArray.empty) (by rw [List.getD_eq_getElem?_getD, List.getElem?_eq_getElem hil]; exact List.getElem_mem hil)
      have HT : Hid (l.take (i + 1) = l.take i ++ [l.getD i ByteArray.empty]) := by
        show _ = _
        rw [List.take_succ_eq_append_getElem hil, List.getD_eq_getElem?_getD, List.getElem?_eq_getElem hil]; rfl
      obtain ⟨s, hs⟩ : ∃ s, l.getD i ByteArray.empty = s := ⟨_, rfl⟩
      rw [hs] at q0 hsz HT
      have HID := hid (objid_id s hsz wr)
      have hgr : g ≤ wr.heap.size := by have := HB.out.size; rw [HG.out] at this; exact this
      have hbb := World.block_lt_of_cell? wr _ q0
      clear hs hc h3 hil hsz
      go_wp2_with fail
      refine HID.out.mono ?_; rintro e w2 ⟨rfl, hb2⟩
      have q1 : w2.cell? ⟨b, off + i, none⟩ = some (.string s) := (hb2.cell (p := ⟨b, off + i, none⟩) hbb).trans q0
      have HB2 : Hid (Below g w w2) := HB.out.trans (hb2.mono hgr)
      have hg2 : g ≤ w2.heap.size := Nat.le_trans hgr hb2.size
      obtain ⟨ks, vs, kl, ps, hm, hkl, hkf, hkt⟩ := HM.out
      have hm2 : MapIsTxt w2 g ks vs kl ps := by
        obtain ⟨x1, x2, x3, x4, x5, x6, x7⟩ := hm
        exact ⟨(hb2.block g (Blk.lt x1)).trans x1, own_below x2 hb2, own_below x3 hb2, x4, x5, x6, x7⟩
      have HM2 := hid hm2
      have HKF := hid hkf
      have HKT := hid hkt
      have HGE := hid (getTxt g ks vs kl ps (Sw.idOf s) w2 hm2)
      have HPU := hid (fun (y : ByteArray) => putTxt_any g ks vs kl ps (Sw.idOf s) y w2 hm2 (by omega))
      have hgv := getV_O kl ps (Sw.idOf s)
      have hho := has_O kl ps (Sw.idOf s)
      rw [hgv, hho] at HGE
      unfold encTxt at HGE
      obtain ⟨o, ho⟩ : ∃ o, getO kl ps (Sw.idOf s) = o := ⟨_, rfl⟩
      rw [ho] at HGE
      have HO := hid ho
      obtain ⟨idv, hidv⟩ : ∃ z, Sw.idOf s = z := ⟨_, rfl⟩
      have HIV := hid hidv
      rw [hidv] at HGE HPU ⊢
      clear hm hm2 hkf hkt HM hb2 hgv hho ho hidv q0 HID HB
      by_cases hbad : o.isSome = true ∧ o.getD ByteArray.empty ≠ s
      · obtain ⟨y, rfl⟩ : ∃ y, o = some y := by
          cases o with
          | none => cases hbad.1
          | some y => exact ⟨y, rfl⟩
        have hne : y ≠ s := hbad.2
        have e1 : (y.toList == s.toList) = false := by
          rw [ba_toList, ba_toList, beq_eq_false_iff_ne]
          exact fun e => hne (ba_ext e)
        have e2 : (y.toList != s.toList) = true := by simp only [bne, e1, Bool.not_false]
        have HGE2 : Hid (Calls Tryz.prog 38 #[.pointer (some ⟨g, 0, none⟩), .string idv] w2 fun e w' => e = .returned (.tuple #[.string y, .bool true]) ∧ w2 = w') := HGE.out
        clear hbad HGE HPU
        go_wp2_with fail
        refine HGE2.out.mono ?_; rintro e w3 ⟨rfl, rfl⟩
        go_wp2_with fail
        go_ret
        unfold ShownOut
        rw [HG.out]
        exact ⟨true, rfl, (fun h => by cases h), HB2.out⟩
      · have hgood : ∀ t ∈ l.take i, Sw.idOf t = Sw.idOf s → t = s := fun t ht e => by
          have h1 := HKT.out t ht
          rw [e, HO.out] at h1
          refine Decidable.byContradiction fun hne => hbad ?_
          rw [h1]
          exact ⟨rfl, hne⟩
        have HNEXT : Hid (∀ W, (∃ ks' vs', MapIsTxt W g ks' vs' (putN kl (Sw.idOf s)) (putVTxt kl ps (Sw.idOf s) s) ∧ Only (MapF g ks vs) w2 W ∧ (∀ k, MapF g ks' vs' k → MapF g ks vs k ∨ w2.heap.size ≤ k)) →
            (∃ ks vs kl ps, MapIsTxt W g ks vs kl ps ∧ kl.length ≤ i + 1 ∧ (∀ k, MapF g ks vs k → g ≤ k) ∧ ∀ t ∈ l.take (i + 1), getO kl ps (Sw.idOf t) = some t) ∧ Below g w W) := by
          rintro W ⟨ks', vs', x1, x2, x3⟩
          have hris := HM2.out.2.2.2.2.1
          have hlen := HM2.out.2.2.2.1
          refine ⟨⟨ks', vs', _, _, x1, ?_, fun k hk => (x3 k hk).elim (HKF.out k) (fun e => Nat.le_trans hg2 e), fun t ht => ?_⟩, HB2.out.trans (x2.below (fun k hk => HKF.out k hk) hg2)⟩
          · unfold putN
            split
            · omega
            · rw [List.length_append, List.length_cons, List.length_take, List.length_drop]; omega
          · rw [getO_put hris hlen]
            rw [HT.out] at ht
            by_cases hq : Sw.idOf t = Sw.idOf s
            · simp only [if_pos hq]
              rcases List.mem_append.1 ht with ht | ht
              · rw [hgood t ht hq]
              · rw [List.mem_singleton.1 ht]
            · simp only [if_neg hq]
              rcases List.mem_append.1 ht with ht | ht
              · exact HKT.out t ht
              · rw [List.mem_singleton.1 ht] at hq; exact absurd rfl hq
        have HPU2 : Hid (Calls Tryz.prog 36 #[.pointer (some ⟨g, 0, none⟩), .string idv, .string s] w2 fun e w' => (∃ b : Bool, e = .returned (.bool b)) ∧ ((∃ ks vs kl ps, MapIsTxt w' g ks vs kl ps ∧ kl.length ≤ i + 1 ∧ (∀ k, MapF g ks vs k → g ≤ k) ∧ ∀ t ∈ l.take (i + 1), getO kl ps (Sw.idOf t) = some t) ∧ Below g w w')) := by
          refine (HPU.out s).mono ?_
          rintro e w' ⟨rfl, ks', vs', y1, y2, y3⟩
          rw [← HIV.out] at y1
          exact ⟨⟨_, rfl⟩, HNEXT.out w' ⟨ks', vs', y1, y2, y3⟩⟩
        clear HPU HNEXT hgood HKT HKF HM2 HIV
        have HEND : Hid (∀ W, (∃ ks vs kl ps, MapIsTxt W g ks vs kl ps ∧ kl.length ≤ i + 1 ∧ (∀ k, MapF g ks vs k → g ≤ k) ∧ ∀ t ∈ l.take (i + 1), getO kl ps (Sw.idOf t) = some t) ∧ Below g w W → True) := fun _ _ => trivial
        cases o with
        | none =>
          have HGE2 : Hid (Calls Tryz.prog 38 #[.pointer (some ⟨g, 0, none⟩), .string idv] w2 fun e w' => e = .returned (.tuple #[.string ⟨#[]⟩, .bool false]) ∧ w2 = w') := HGE.out
          clear hbad HGE
          go_wp2_with fail
          refine HGE2.out.mono ?_; rintro e w3 ⟨rfl, rfl⟩
          go_wp2_with fail
          refine HPU2.out.mono ?_; rintro e w4 ⟨⟨bb, rfl⟩, hmn, hbn⟩
          have HMN := hid hmn
          have HBN := hid hbn
          clear hmn hbn
          go_wp2_with fail
          go_roundw
          case rel => first | exact ⟨i + 1, by omega, by go_num, HMN, HBN⟩ | ((repeat apply Exists.intro); exact ⟨⟨i + 1, by omega, by go_num, HMN, HBN⟩, rfl⟩)
          case measure => simp [intOf]; omega
        | some y =>
          have hys : y = s := Decidable.byContradiction fun hne => hbad ⟨rfl, hne⟩
          have e1 : (y.toList == s.toList) = true := by rw [hys]; simp
          have e2 : (y.toList != s.toList) = false := by simp only [bne, e1, Bool.not_true]
          have HGE2 : Hid (Calls Tryz.prog 38 #[.pointer (some ⟨g, 0, none⟩), .string idv] w2 fun e w' => e = .returned (.tuple #[.string y, .bool true]) ∧ w2 = w') := HGE.out
          clear hbad HGE hys
          go_wp2_with fail
          refine HGE2.out.mono ?_; rintro e w3 ⟨rfl, rfl⟩
          go_wp2_with fail
          refine HPU2.out.mono ?_; rintro e w4 ⟨⟨bb, rfl⟩, hmn, hbn⟩
          have HMN := hid hmn
          have HBN := hid hbn
          clear hmn hbn
          go_wp2_with fail
          go_roundw
          case rel => first | exact ⟨i + 1, by omega, by go_num, HMN, HBN⟩ | ((repeat apply Exists.intro); exact ⟨⟨i + 1, by omega, by go_num, HMN, HBN⟩, rfl⟩)
          case measure => simp [intOf]; omega
    · obtain rfl : i = n := by omega
      have ci : ¬ (i : Int) < i := by omega
      have HAP : Hid (Sw.Apart l) := by
        obtain ⟨ks, vs, kl, ps, hm, hkl, hkf, hkt⟩ := HM.out
        rw [List.take_of_length_le (by rw [HL.out]; exact Nat.le_refl _)] at hkt
        intro x hx y hy e
        have h1 := hkt x hx
        rw [e, hkt y hy] at h1
        exact (Option.some.inj h1).symm
      go_wp2_with fail
      go_ret
      unfold ShownOut
      rw [HG.out]
      exact ⟨false, rfl, fun _ => HAP.out, HB.out⟩
end Go.Proofs.YtlenfiiocmchdaaGreatDoor
/- Layer 15's laws: files in the order of their paths (sorted). -/
namespace Go.Proofs.YtlenfiiocmchdaaGreatDoor
open Go.RowKit Book Pap Ojt Sn
set_option linter.unusedVariables false
set_option linter.unusedSimpArgs false

theorem own_noneFi (w : World) : (w.alloc (.cells #[] 71)).ownsRow w.heap.size 71 2 (.slice (some ⟨w.heap.size, 0, none⟩) 0 0) 0 (fivals []) :=
  ⟨rfl, .inr ⟨w.heap.size, 0, #[], rfl, Nat.le_refl _, by show (w.heap.push _)[w.heap.size]? = _; simp, Nat.le_refl _, by unfold maxLen; omega, rfl, rfl⟩⟩
theorem sortF_snoc (l : List Fi) (f : Fi) : sortF (l ++ [f]) = insF (sortF l) f := by unfold sortF; rw [List.foldl_append]; rfl
theorem sortF_len (l : List Fi) : (sortF l).length = l.length := (sortF_perm l).length_eq
theorem insF_hit {f y : Fi} {r : List Fi} (h : compareR f.path.data.toList y.path.data.toList < 0) : insF (y :: r) f = f :: y :: r := by unfold insF; rw [if_pos h]
theorem insF_miss {f y : Fi} {r : List Fi} (h : ¬ compareR f.path.data.toList y.path.data.toList < 0) : insF (y :: r) f = y :: insF r f := by
  conv => lhs; unfold insF
  rw [if_neg h]
/-- the middle of a round: what has been put into the next list -/
def MidS (O : List Fi) (f : Fi) (k : Nat) (N : List Fi) (dn : Bool) : Prop := if dn = true then insF O f = N ++ O.drop k ∧ N.length = k + 1 else insF O f = N ++ insF (O.drop k) f ∧ N.length = k
theorem MidS.zero (O : List Fi) (f : Fi) : MidS O f 0 [] false := ⟨rfl, rfl⟩
theorem MidS.done {O : List Fi} {f y : Fi} {k : Nat} {N : List Fi} (h : MidS O f k N true) (hd : O.drop k = y :: O.drop (k + 1)) : MidS O f (k + 1) (N ++ [y]) true := by
  obtain ⟨h1, h2⟩ := h
  refine ⟨?_, by rw [List.length_append, h2]; rfl⟩
  rw [h1, hd]; simp
theorem MidS.hit {O : List Fi} {f y : Fi} {k : Nat} {N : List Fi} (h : MidS O f k N false) (hd : O.drop k = y :: O.drop (k + 1)) (hc : compareR f.path.data.toList y.path.data.toList < 0) : MidS O f (k + 1) (N ++ [f] ++ [y]) true := by
  obtain ⟨h1, h2⟩ := h
  refine ⟨?_, by rw [List.length_append, List.length_append, h2]; rfl⟩
  rw [h1, hd, insF_hit hc]; simp
theorem MidS.miss {O : List Fi} {f y : Fi} {k : Nat} {N : List Fi} (h : MidS O f k N false) (hd : O.drop k = y :: O.drop (k + 1)) (hc : ¬ compareR f.path.data.toList y.path.data.toList < 0) : MidS O f (k + 1) (N ++ [y]) false := by
  obtain ⟨h1, h2⟩ := h
  refine ⟨?_, by rw [List.length_append, h2]; rfl⟩
  rw [h1, hd, insF_miss hc]; simp
theorem MidS.end_done {O : List Fi} {f : Fi} {k : Nat} {N : List Fi} (h : MidS O f k N true) (hk : O.length ≤ k) : insF O f = N := by
  obtain ⟨h1, -⟩ := h
  rw [h1, List.drop_of_length_le hk, List.append_nil]
theorem MidS.end_not {O : List Fi} {f : Fi} {k : Nat} {N : List Fi} (h : MidS O f k N false) (hk : O.length ≤ k) : insF O f = N ++ [f] := by
  obtain ⟨h1, -⟩ := h
  rw [h1, List.drop_of_length_le hk]; rfl
theorem MidS.len {O : List Fi} {f : Fi} {k : Nat} {N : List Fi} {dn : Bool} (h : MidS O f k N dn) : N.length ≤ k + 1 := by
  unfold MidS at h
  split at h <;> omega
def SortedOut (l : List Fi) (n : Nat) (w : World) (e : Ending) (w' : World) : Prop := ∃ a c, e = .returned (.slice a n c) ∧ FisAt w' a n (sortF l) ∧ Below w.heap.size w w'
set_option maxRecDepth 100000 in
set_option maxHeartbeats 16000000 in
theorem sortedF_any (a : Option Addr) (n c : Nat) (l : List Fi) (w : World) (h : FisAt w a n l) (hn : n ≤ 1000) (hz : ∀ f ∈ l, f.path.size < 4294967281) (hm : MaxAt w) :
    Calls Tryz.prog 30 #[.slice a n c] w (SortedOut l n w) := by
  obtain ⟨i0, hi0, hz0, hz1, hz2⟩ := info_parts Tryz.infoFi
  have HS := hid h
  have HL := hid h.1
  have HZ := hid hz
  have HM := hid hm
  have HO1 : Hid ((w.alloc (.cells #[] 71)).ownsRow w.heap.size 71 2 (.slice (some ⟨w.heap.size, 0, none⟩) 0 0) 0 (fivals (sortF (l.take 0)))) := own_noneFi w
  have HB1 : Hid (Below w.heap.size w (w.alloc (.cells #[] 71))) := (Below.refl _ _).alloc (Nat.le_refl _) _
  clear h hz hm
  go_enter Tryz.func30, Tryz.ntmps30
  go_upto_region 2 with fail
  generalize (w.alloc (.cells #[] 71)) = w1 at HO1 HB1 ⊢
  generalize hg : w.heap.size = g at HO1 HB1 ⊢
  have HG := hid hg
  clear hg
  go_wp2_with fail
  go_loopw [4, 3] (fun iv ov wr => ∃ i : Nat, i ≤ n ∧ iv = .int .i64 i ∧ Hid (wr.ownsRow g 71 2 ov i (fivals (sortF (l.take i)))) ∧ Hid (Below g w wr)) (fun iv _ _ => n - (intOf iv).toNat)
  case atStart => exact ⟨0, Nat.zero_le _, rfl, HO1, HB1⟩
  case round =>
    obtain ⟨i, hi, rfl, HO, HB⟩ := hrel
    obtain ⟨va, vc, rfl, hvc⟩ := own_slice' HO.out
    by_cases hlt : i < n
    · have ci : (i : Int) < n := by omega
      have ci0 : (0 : Int) ≤ (i : Int) := by omega
      have HBW : Hid (Below w.heap.size w wr) := by rw [HG.out]; exact HB.out
      obtain ⟨-, -, h3⟩ := HS.out.later HBW.out
      obtain ⟨fb, foff, rfl, hc⟩ := h3.resolve_left (by omega)
      obtain ⟨q0, q1⟩ := hc i hlt
      have hil : i < l.length := by rw [HL.out]; exact hlt
      have hsz := HZ.out (l.getD i noFi) (by rw [List.getD_eq_getElem?_getD, List.getElem?_eq_getElem hil]; exact List.getElem_mem hil)
      have HT : Hid (sortF (l.take (i + 1)) = insF (sortF (l.take i)) (l.getD i noFi)) := by
        show _ = _
        rw [List.take_succ_eq_append_getElem hil, sortF_snoc, List.getD_eq_getElem?_getD, List.getElem?_eq_getElem hil]; rfl
      obtain ⟨O, hO⟩ : ∃ O, sortF (l.take i) = O := ⟨_, rfl⟩
      have hOl : O.length = i := by rw [← hO, sortF_len, List.length_take]; omega
      have HOZ : Hid (∀ y ∈ O, y.path.size < 4294967281) := fun y hy => by
        rw [← hO] at hy
        exact HZ.out y (List.mem_of_mem_take ((sortF_perm _).mem_iff.1 hy))
      rw [hO] at HO HT
      obtain ⟨f, hf⟩ : ∃ f, l.getD i noFi = f := ⟨_, rfl⟩
      rw [hf] at q0 q1 hsz HT
      have HOL := hid hOl
      have hgr : g ≤ wr.heap.size := by have := HB.out.size; rw [HG.out] at this; exact this
      have hbb := World.block_lt_of_cell? wr _ q0
      have HQ0 := hid q0
      have HQ1 := hid q1
      have HMR := hid (HM.out.later HBW.out)
      clear hO hf hc h3 hil q0 q1 hOl
      have HN1 : Hid ((wr.alloc (.cells #[] 71)).ownsRow wr.heap.size 71 2 (.slice (some ⟨wr.heap.size, 0, none⟩) 0 0) 0 (fivals [])) := own_noneFi wr
      have HB2 : Hid (Below wr.heap.size wr (wr.alloc (.cells #[] 71))) := (Below.refl _ _).alloc (Nat.le_refl _) _
      rename World => wo
      go_upto_region 6 with fail
      generalize (wo.alloc (.cells #[] 71)) = w2 at HN1 HB2 ⊢
      generalize hg2 : wo.heap.size = g2 at HN1 HB2 hgr hbb ⊢
      have HG2 := hid hg2
      clear hg2
      go_wp2_with fail
      go_loopw [7, 5, 6] (fun kv nv dv wx => ∃ (k : Nat) (N : List Fi) (dn : Bool), k ≤ i ∧ kv = .int .i64 k ∧ dv = .bool dn ∧ Hid (wx.ownsRow g2 71 2 nv N.length (fivals N)) ∧ Hid (Below g2 wo wx) ∧ Hid (MidS O f k N dn)) (fun kv _ _ _ => i - (intOf kv).toNat)
      case atStart => exact ⟨0, [], false, Nat.zero_le _, rfl, rfl, HN1, HB2, MidS.zero O f⟩
      case round =>
        obtain ⟨k, N, dn, hk, rfl, rfl, HN, HX, HMD⟩ := hrel
        obtain ⟨na, nc, rfl, hnc⟩ := own_slice' HN.out
        have HXW : Hid (Below wo.heap.size wo wr) := by rw [HG2.out]; exact HX.out
        have hgx : g2 ≤ wr.heap.size := by have := HX.out.size; rw [HG2.out] at this; exact this
        have hNl := HMD.out.len
        have hfb : fb < wo.heap.size := by rw [HG2.out]; exact hbb
        have q0 : wr.cell? ⟨fb, foff + i * 2, none⟩ = some (.string f.path) := (HXW.out.cell (p := ⟨fb, foff + i * 2, none⟩) hfb).trans HQ0.out
        have q1 : wr.cell? ⟨fb, foff + i * 2 + 1, none⟩ = some (.string f.data) := (HXW.out.cell (p := ⟨fb, foff + i * 2 + 1, none⟩) hfb).trans HQ1.out
        by_cases hkl : k < i
        · have ck : (k : Int) < i := by omega
          have ck0 : (0 : Int) ≤ (k : Int) := by omega
          have hkO : k < O.length := by rw [HOL.out]; exact hkl
          have HOx := own_below HO.out HXW.out
          obtain ⟨og, oc, e1, -, -⟩ := HOx.form (by omega)
          injection e1 with e1 _ e2
          subst e1 e2
          have x0 := HOx.cellAt (k * 2) (by omega)
          have x1 := HOx.cellAt (k * 2 + 1) (by omega)
          obtain ⟨y0, y1⟩ := fivals_get O k hkO
          rw [y0] at x0
          rw [y1] at x1
          have hogl : og < wr.heap.size := World.block_lt_of_cell? wr _ x0
          have HD : Hid (O.drop k = O.getD k noFi :: O.drop (k + 1)) := by
            show _ = _
            rw [List.drop_eq_getElem_cons hkO, List.getD_eq_getElem?_getD, List.getElem?_eq_getElem hkO]; rfl
          have hys := HOZ.out (O.getD k noFi) (by rw [List.getD_eq_getElem?_getD, List.getElem?_eq_getElem hkO]; exact List.getElem_mem hkO)
          obtain ⟨y, hy⟩ : ∃ y, O.getD k noFi = y := ⟨_, rfl⟩
          rw [hy] at x0 x1 HD hys
          have EF : ∀ z : After wr, z.val.cell? ⟨fb, foff + i * 2, none⟩ = some (.string f.path) := fun z => (z.below.cell (p := ⟨fb, foff + i * 2, none⟩) (World.block_lt_of_cell? _ _ q0)).trans q0
          have EG : ∀ z : After wr, z.val.cell? ⟨fb, foff + i * 2 + 1, none⟩ = some (.string f.data) := fun z => (z.below.cell (p := ⟨fb, foff + i * 2 + 1, none⟩) (World.block_lt_of_cell? _ _ q1)).trans q1
          have EX : ∀ z : After wr, z.val.cell? ⟨og, k * 2, none⟩ = some (.string y.path) := fun z => (z.below.cell (p := ⟨og, k * 2, none⟩) hogl).trans x0
          have EY : ∀ z : After wr, z.val.cell? ⟨og, k * 2 + 1, none⟩ = some (.string y.data) := fun z => (z.below.cell (p := ⟨og, k * 2 + 1, none⟩) hogl).trans x1
          have HC := hid (fun z : After wr => compare_any f.path y.path z.val hsz hys ((HMR.out.later HXW.out).later z.below))
          clear hy y0 y1 HOx hkO q0 q1 x0 x1 HXW
          have hog : og < g2 := by have h := (HO.out.lt og rfl).2; rw [HG2.out] at h; exact h
          cases dn
          · by_cases hcm : compareR f.path.data.toList y.path.data.toList < 0
            · have HMN := hid (HMD.out.hit HD.out hcm)
              generalize compareR f.path.data.toList y.path.data.toList = cr at HC hcm
              go_wp2_with fail
              refine wp_region_after (by kernel_rfl) (by kernel_rfl) ?_
              repeat (go_big_quiet_step ((first | (go_at_call 37; with_reducible exact calls_after (HC.out _)))))
              refine wpQuiet_nil ?_
              intro _ hw'
              obtain ⟨z, rfl⟩ := hw'
              have HNz : Hid (z.val.ownsRow g2 71 2 (.slice na N.length nc) N.length (fivals N)) := own_below HN.out z.below
              have HXz : Hid (Below g2 wo z.val) := HX.out.trans (z.below.mono hgx)
              have f0 := EF z
              have f1 := EG z
              have x0 := EX z
              have x1 := EY z
              have hgz : g2 ≤ z.val.heap.size := by have := HXz.out.size; rw [HG2.out] at this; exact this
              generalize z.val = wz at HNz HXz f0 f1 x0 x1 hgz ⊢
              clear EF EG EX EY HC HN HX z
              go_upto_region 12 with (at_builtin; refine wpList_append_own _ rfl (.tmp 38) (.tmp 43) 34 rfl g2 71 i0 (.agg #[.string ⟨#[]⟩, .string ⟨#[]⟩]) 2 32 Tryz.underlying34 hi0 hz0 hz1 hz2 rfl (by decide) (.slice na N.length nc) _ _ rfl (HNz.out.alloc _) ⟨wz.heap.size, 0, none⟩ 1 1 [.string f.path, .string f.data] rfl rfl (cellNew2 _ _ _ _) (one2 rfl rfl) (by unfold maxLen; omega) (by omega) (by rw [World.size_alloc]; omega) ?_; intro v' w9 hown' hgrow _; have HOWN := hid hown'; have HGR := hid hgrow; clear hown' hgrow)
              obtain ⟨na', nc', rfl, hnc'⟩ := own_slice' HOWN.out
              have HN9 : Hid (w9.ownsRow g2 71 2 (.slice na' (N.length + 1) nc') (N.length + 1) (fivals (N ++ [f]))) := by
                have h := HOWN.out
                rw [fivals_append]; exact h
              have HS9 : Hid (Below g2 wz w9) := ((Below.refl g2 wz).alloc hgz _).grown HGR.out (by rw [World.size_alloc]; omega) (fun j hj => (HNz.out.lt j hj).1)
              have HX9 : Hid (Below g2 wo w9) := HXz.out.trans HS9.out
              have c0 : w9.cell? ⟨og, k * 2, none⟩ = some (.string y.path) := (HS9.out.cell (p := ⟨og, k * 2, none⟩) hog).trans x0
              have c1 : w9.cell? ⟨og, k * 2 + 1, none⟩ = some (.string y.data) := (HS9.out.cell (p := ⟨og, k * 2 + 1, none⟩) hog).trans x1
              have hg9 : g2 ≤ w9.heap.size := by have := HX9.out.size; rw [HG2.out] at this; exact this
              clear f0 f1 x0 x1 HOWN HGR HNz HXz HS9
              rename World => wy
              go_wp2_with (at_builtin; refine wpList_append_own _ rfl (.tmp 45) (.tmp 50) 34 rfl g2 71 i0 (.agg #[.string ⟨#[]⟩, .string ⟨#[]⟩]) 2 32 Tryz.underlying34 hi0 hz0 hz1 hz2 rfl (by decide) (.slice na' (N.length + 1) nc') _ _ rfl (HN9.out.alloc _) ⟨wy.heap.size, 0, none⟩ 1 1 [.string y.path, .string y.data] rfl rfl (cellNew2 _ _ _ _) (one2 rfl rfl) (by unfold maxLen; omega) (by omega) (by rw [World.size_alloc]; omega) ?_; intro v' w9 hown' hgrow _; have HOWN := hid hown'; have HGR := hid hgrow; clear hown' hgrow)
              obtain ⟨nb, nd, rfl, hnd⟩ := own_slice' HOWN.out
              have HNN : Hid (w9.ownsRow g2 71 2 (.slice nb ((N.length + 1) + 1) nd) ((N ++ [f]) ++ [y]).length (fivals ((N ++ [f]) ++ [y]))) := by
                have h := HOWN.out
                have e : ((N ++ [f]) ++ [y]).length = (N.length + 1) + 1 := by simp
                rw [e, fivals_append]; exact h
              have HXX : Hid (Below g2 wo w9) := (HX9.out.alloc (by omega) _).grown HGR.out (by rw [World.size_alloc]; omega) (fun j hj => (HN9.out.lt j hj).1)
              go_roundw
              case rel => first | exact ⟨k + 1, _, true, by omega, by go_num, rfl, HNN, HXX, HMN⟩ | ((repeat apply Exists.intro); exact ⟨⟨k + 1, _, true, by omega, by go_num, rfl, HNN, HXX, HMN⟩, rfl⟩)
              case measure => simp [intOf]; omega
            · have HMN := hid (HMD.out.miss HD.out hcm)
              generalize compareR f.path.data.toList y.path.data.toList = cr at HC hcm
              go_wp2_with fail
              refine wp_region_after (by kernel_rfl) (by kernel_rfl) ?_
              repeat (go_big_quiet_step ((first | (go_at_call 37; with_reducible exact calls_after (HC.out _)))))
              refine wpQuiet_nil ?_
              intro _ hw'
              obtain ⟨z, rfl⟩ := hw'
              have HNz : Hid (z.val.ownsRow g2 71 2 (.slice na N.length nc) N.length (fivals N)) := own_below HN.out z.below
              have HXz : Hid (Below g2 wo z.val) := HX.out.trans (z.below.mono hgx)
              have f0 := EF z
              have f1 := EG z
              have x0 := EX z
              have x1 := EY z
              have hgz : g2 ≤ z.val.heap.size := by have := HXz.out.size; rw [HG2.out] at this; exact this
              generalize z.val = wz at HNz HXz f0 f1 x0 x1 hgz ⊢
              clear EF EG EX EY HC HN HX z
              go_wp2_with (at_builtin; refine wpList_append_own _ rfl (.tmp 45) (.tmp 50) 34 rfl g2 71 i0 (.agg #[.string ⟨#[]⟩, .string ⟨#[]⟩]) 2 32 Tryz.underlying34 hi0 hz0 hz1 hz2 rfl (by decide) (.slice na N.length nc) _ _ rfl (HNz.out.alloc _) ⟨wz.heap.size, 0, none⟩ 1 1 [.string y.path, .string y.data] rfl rfl (cellNew2 _ _ _ _) (one2 rfl rfl) (by unfold maxLen; omega) (by omega) (by rw [World.size_alloc]; omega) ?_; intro v' w9 hown' hgrow _; have HOWN := hid hown'; have HGR := hid hgrow; clear hown' hgrow)
              obtain ⟨nb, nd, rfl, hnd⟩ := own_slice' HOWN.out
              have HNN : Hid (w9.ownsRow g2 71 2 (.slice nb (N.length + 1) nd) (N ++ [y]).length (fivals (N ++ [y]))) := by
                have h := HOWN.out
                have e : (N ++ [y]).length = N.length + 1 := by simp
                rw [e, fivals_append]; exact h
              have HXX : Hid (Below g2 wo w9) := (HXz.out.alloc (by omega) _).grown HGR.out (by rw [World.size_alloc]; omega) (fun j hj => (HNz.out.lt j hj).1)
              go_roundw
              case rel => first | exact ⟨k + 1, _, false, by omega, by go_num, rfl, HNN, HXX, HMN⟩ | ((repeat apply Exists.intro); exact ⟨⟨k + 1, _, false, by omega, by go_num, rfl, HNN, HXX, HMN⟩, rfl⟩)
              case measure => simp [intOf]; omega
          · have HMN := hid (HMD.out.done HD.out)
            go_wp2_with fail
            refine wp_region_after (by kernel_rfl) (by kernel_rfl) ?_
            repeat (go_big_quiet_step (fail))
            refine wpQuiet_nil ?_
            intro _ hw'
            obtain ⟨z, rfl⟩ := hw'
            have HNz : Hid (z.val.ownsRow g2 71 2 (.slice na N.length nc) N.length (fivals N)) := own_below HN.out z.below
            have HXz : Hid (Below g2 wo z.val) := HX.out.trans (z.below.mono hgx)
            have f0 := EF z
            have f1 := EG z
            have x0 := EX z
            have x1 := EY z
            have hgz : g2 ≤ z.val.heap.size := by have := HXz.out.size; rw [HG2.out] at this; exact this
            generalize z.val = wz at HNz HXz f0 f1 x0 x1 hgz ⊢
            clear EF EG EX EY HC HN HX z
            go_wp2_with (at_builtin; refine wpList_append_own _ rfl (.tmp 45) (.tmp 50) 34 rfl g2 71 i0 (.agg #[.string ⟨#[]⟩, .string ⟨#[]⟩]) 2 32 Tryz.underlying34 hi0 hz0 hz1 hz2 rfl (by decide) (.slice na N.length nc) _ _ rfl (HNz.out.alloc _) ⟨wz.heap.size, 0, none⟩ 1 1 [.string y.path, .string y.data] rfl rfl (cellNew2 _ _ _ _) (one2 rfl rfl) (by unfold maxLen; omega) (by omega) (by rw [World.size_alloc]; omega) ?_; intro v' w9 hown' hgrow _; have HOWN := hid hown'; have HGR := hid hgrow; clear hown' hgrow)
            obtain ⟨nb, nd, rfl, hnd⟩ := own_slice' HOWN.out
            have HNN : Hid (w9.ownsRow g2 71 2 (.slice nb (N.length + 1) nd) (N ++ [y]).length (fivals (N ++ [y]))) := by
              have h := HOWN.out
              have e : (N ++ [y]).length = N.length + 1 := by simp
              rw [e, fivals_append]; exact h
            have HXX : Hid (Below g2 wo w9) := (HXz.out.alloc (by omega) _).grown HGR.out (by rw [World.size_alloc]; omega) (fun j hj => (HNz.out.lt j hj).1)
            go_roundw
            case rel => first | exact ⟨k + 1, _, true, by omega, by go_num, rfl, HNN, HXX, HMN⟩ | ((repeat apply Exists.intro); exact ⟨⟨k + 1, _, true, by omega, by go_num, rfl, HNN, HXX, HMN⟩, rfl⟩)
            case measure => simp [intOf]; omega
        · obtain rfl : k = i := by omega
          have ck : ¬ (k : Int) < k := by omega
          cases dn
          · have HE := hid (HT.out.trans (HMD.out.end_not (by rw [HOL.out]; exact Nat.le_refl _)))
            have hNk : N.length = k := HMD.out.2
            go_wp2_with (at_builtin; refine wpList_append_own _ rfl (.tmp 54) (.tmp 59) 34 rfl g2 71 i0 (.agg #[.string ⟨#[]⟩, .string ⟨#[]⟩]) 2 32 Tryz.underlying34 hi0 hz0 hz1 hz2 rfl (by decide) (.slice na N.length nc) _ _ rfl (HN.out.alloc _) ⟨wr.heap.size, 0, none⟩ 1 1 [.string f.path, .string f.data] rfl rfl (cellNew2 _ _ _ _) (one2 rfl rfl) (by unfold maxLen; omega) (by omega) (by rw [World.size_alloc]; omega) ?_; intro v' w9 hown' hgrow _; have HOWN := hid hown'; have HGR := hid hgrow; clear hown' hgrow)
            obtain ⟨nb, nd, rfl, hnd⟩ := own_slice' HOWN.out
            have HNN : Hid (w9.ownsRow g 71 2 (.slice nb (N.length + 1) nd) (k + 1) (fivals (sortF (l.take (k + 1))))) := by
              have h := own_mono HOWN.out hgr
              rw [hNk] at h ⊢
              rw [HE.out, fivals_append]; exact h
            have HXX : Hid (Below g w w9) := HB.out.trans (((HX.out.alloc hgx _).grown HGR.out (by rw [World.size_alloc]; omega) (fun j hj => (HN.out.lt j hj).1)).mono hgr)
            have HNK := hid hNk
            clear hNk
            go_wp2_with fail
            go_roundw
            case rel => first | exact ⟨k + 1, by omega, by go_num, HNN, HXX⟩ | ((repeat apply Exists.intro); exact ⟨⟨k + 1, by omega, by go_num, HNN, HXX⟩, rfl⟩)
            case measure => simp [intOf]; omega
          · have HE := hid (HT.out.trans (HMD.out.end_done (by rw [HOL.out]; exact Nat.le_refl _)))
            have hNk : N.length = k + 1 := HMD.out.2
            have HNN : Hid (wr.ownsRow g 71 2 (.slice na N.length nc) (k + 1) (fivals (sortF (l.take (k + 1))))) := by
              have h := own_mono HN.out hgr
              rw [HE.out]
              rw [hNk] at h ⊢
              exact h
            have HXX : Hid (Below g w wr) := HB.out.trans (HX.out.mono hgr)
            clear hNk
            go_wp2_with fail
            go_roundw
            case rel => first | exact ⟨k + 1, by omega, by go_num, HNN, HXX⟩ | ((repeat apply Exists.intro); exact ⟨⟨k + 1, by omega, by go_num, HNN, HXX⟩, rfl⟩)
            case measure => simp [intOf]; omega
    · obtain rfl : i = n := by omega
      have ci : ¬ (i : Int) < i := by omega
      have HE : Hid (FisAt wr va i (sortF l)) := by
        have h := HO.out
        rw [List.take_of_length_le (by rw [HL.out]; exact Nat.le_refl _)] at h
        have hl : (sortF l).length = i := by rw [sortF_len]; exact HL.out
        have h2 : wr.ownsRow g 71 2 (.slice va i vc) (sortF l).length (fivals (sortF l)) := by rw [hl]; exact h
        obtain ⟨a', c', he, hst⟩ := own_fis h2 (by omega)
        injection he with e1 e2 e3
        rw [hl, ← e1] at hst
        exact hst
      go_wp2_with fail
      go_ret
      unfold SortedOut
      rw [HG.out]
      exact ⟨_, _, rfl, HE.out, HB.out⟩
end Go.Proofs.YtlenfiiocmchdaaGreatDoor
/- Layer 15's laws: what is appended to an own row may be an empty or a nil slice too; files and texts that lie anywhere. -/
namespace Go.Proofs.YtlenfiiocmchdaaGreatDoor
open Go.RowKit Book Pap Ojt Sn
set_option linter.unusedVariables false
set_option linter.unusedSimpArgs false

/-- what lies where an append reads -/
def NewsAt (w : World) (size : Nat) (a : Option Addr) (m : Nat) (news : List Value) : Prop :=
  (m = 0 ∧ news = []) ∨ ∃ ad, a = some ad ∧ news.length = m * size ∧ (∀ j u, news[j]? = some u → w.cell? (ad.add j) = some u) ∧ (∀ u ∈ news, u.oneCell' = true)
theorem run_append_any {P : Program} (w : World) (base : Nat) (t ty e : TypeId) (i : TypeInfo) (z : Value) (size bytes : Nat) (ht : P.underlying t = some (.slice e)) (hi : P.info? e = some i) (hz : i.zero = some z)
    (hsize : i.size = size) (hby : i.bytes = bytes) (hzs : z.cells.size = size) (hsz : 0 < size) (v : Value) (n : Nat) (xs : List Value) (hown : w.ownsRow base e size v n xs)
    (a : Option Addr) (m c : Nat) (news : List Value) (hx : NewsAt w size a m news) (h63 : n + m ≤ maxLen) (hbytes : (n + m) * bytes ≤ 140737488355328) (hbase : base ≤ w.heap.size) :
    ∃ a' c' w', (Builtin.append_ #[t, t] ty #[v, .slice a m c]).run P w = .ok (.slice a' (n + m) c') w' ∧ w'.ownsRow base e size (.slice a' (n + m) c') (n + m) (xs ++ news) ∧ ∀ V : World, Below base V w → Below base V w' := by
  rcases hx with ⟨rfl, rfl⟩ | ⟨ad, rfl, hl, hnews, h1⟩
  · obtain ⟨va, vc, rfl, hvc⟩ := own_slice' hown
    have hsrc : Src P i.size t (.slice a 0 c) 0 [] w := by
      cases a with
      | none => exact Src.ofNil w ht c
      | some ad => exact Src.ofSlice w ht ad 0 c [] (by simp) (fun j u h => by cases h) (fun u h => by cases h)
    refine ⟨va, vc, w, run_append_nothing w t t ty e i ht hi va n vc hvc (.slice a 0 c) hsrc, ?_, fun _ h => h⟩
    rw [Nat.add_zero, List.append_nil]; exact hown
  · obtain ⟨v', w', hr, h2, h3, h4, h5⟩ := run_append_own_at (P := P) w base t ty e i z size bytes ht hi hz hsize hby hzs hsz v n xs hown ad m c news hl hnews h1 h63 hbytes hbase
    obtain ⟨va, vc, rfl, hvc⟩ := own_slice' h2
    exact ⟨va, vc, w', hr, h2, fun V hV => hV.grown h3 hbase (fun k hk => (hown.lt k hk).1)⟩
theorem FisAt.news {w : World} {a : Option Addr} {m : Nat} {l : List Fi} (h : FisAt w a m l) : NewsAt w 2 a m (fivals l) := by
  obtain ⟨h1, h2, h3⟩ := h
  rcases h3 with rfl | ⟨b, off, rfl, hc⟩
  · exact .inl ⟨rfl, by rw [List.length_eq_zero_iff.1 h1]; rfl⟩
  · refine .inr ⟨_, rfl, by rw [fivals_length, h1], fun j u hu => ?_, fun u hu => ?_⟩
    · have hj : j < m * 2 := by
        have := (List.getElem?_eq_some_iff.1 hu).1
        rw [fivals_length, h1] at this; exact this
      have hq : j / 2 < m := by omega
      obtain ⟨x0, x1⟩ := fivals_get l (j / 2) (by omega)
      obtain ⟨c0, c1⟩ := hc (j / 2) hq
      rw [Addr.add_lit]
      rcases Nat.mod_two_eq_zero_or_one j with hm | hm
      · have e : j = j / 2 * 2 := by omega
        rw [e, x0] at hu
        rw [e, c0]; exact hu
      · have e : j = j / 2 * 2 + 1 := by omega
        rw [e, x1] at hu
        rw [e, ← Nat.add_assoc, c1]; exact hu
    · unfold fivals at hu
      obtain ⟨f, -, hf⟩ := List.mem_flatMap.1 hu
      unfold ficells at hf
      simp only [List.mem_cons, List.not_mem_nil, or_false] at hf
      rcases hf with rfl | rfl <;> rfl
theorem StrsAt.news {w : World} {a : Option Addr} {m : Nat} {l : List ByteArray} (h : StrsAt w a m l) : NewsAt w 1 a m (svals l) := by
  obtain ⟨h1, h2, h3⟩ := h
  rcases h3 with rfl | ⟨b, off, rfl, hc⟩
  · exact .inl ⟨rfl, by rw [List.length_eq_zero_iff.1 h1]; rfl⟩
  · refine .inr ⟨_, rfl, by unfold svals; rw [List.length_map, h1, Nat.mul_one], fun j u hu => ?_, fun u hu => ?_⟩
    · unfold svals at hu
      rw [List.getElem?_map] at hu
      have hj : j < l.length := by
        rcases Nat.lt_or_ge j l.length with h | h
        · exact h
        · rw [List.getElem?_eq_none h] at hu; cases hu
      rw [Addr.add_lit, hc j (by omega), List.getD_eq_getElem?_getD]
      rw [List.getElem?_eq_getElem hj] at hu ⊢
      exact hu
    · unfold svals at hu
      obtain ⟨s, -, rfl⟩ := List.mem_map.1 hu
      rfl
theorem wp_append_fis {o : Oper} {a : Act} {w : World} {K : Act → World → Prop} {Q : Exit → Act → World → Prop} (s x : Operand) (t : TypeId) (hty : Tryz.prog.underlying t = some (.slice 71))
    (ho : o.op = .call { callee := .builtin .append, args := #[s, x], argTypes := #[t, t] })
    (base : Nat) (v : Value) (n : Nat) (xs : List Fi) (hs : a.eval s = v) (hown : w.ownsRow base 71 2 v n (fivals xs)) (ao : Option Addr) (m c : Nat) (l : List Fi) (hx : a.eval x = .slice ao m c) (hl : FisAt w ao m l)
    (hb : n + m ≤ 1000000) (hbase : base ≤ w.heap.size)
    (h : ∀ a' c' w', w'.ownsRow base 71 2 (.slice a' (n + m) c') (n + m) (fivals (xs ++ l)) → (∀ V : World, Below base V w → Below base V w') → K (a.put o.dst (.slice a' (n + m) c')) w') : o.wp Tryz.prog a w K Q := by
  obtain ⟨i0, hi0, hz0, hz1, hz2⟩ := info_parts Tryz.infoFi
  obtain ⟨a', c', w', hr, h2, h3⟩ := run_append_any (P := Tryz.prog) w base t o.type 71 i0 _ 2 32 hty hi0 hz0 hz1 hz2 rfl (by decide) v n (fivals xs) hown ao m c (fivals l) hl.news (by unfold maxLen; omega) (by omega) hbase
  unfold Oper.wp execOp
  simp only [ho, resolve, invoke, builtin, Sem.run_bind, Sem.run_pure, Result.andThen_ok, List.map_toArray, List.map_cons, List.map_nil, hs, hx, hr]
  exact h a' c' w' (by rw [fivals_append]; exact h2) h3
theorem wpList_append_fis {ops : Array Oper} {rest : List Oper} {o : Oper} {a : Act} {w : World} {Q : Exit → Act → World → Prop} (hgd : Region.wanted o (yielded ops a.tmps) = true) (s x : Operand) (t : TypeId) (hty : Tryz.prog.underlying t = some (.slice 71))
    (ho : o.op = .call { callee := .builtin .append, args := #[s, x], argTypes := #[t, t] })
    (base : Nat) (v : Value) (n : Nat) (xs : List Fi) (hs : a.eval s = v) (hown : w.ownsRow base 71 2 v n (fivals xs)) (ao : Option Addr) (m c : Nat) (l : List Fi) (hx : a.eval x = .slice ao m c) (hl : FisAt w ao m l)
    (hb : n + m ≤ 1000000) (hbase : base ≤ w.heap.size)
    (h : ∀ a' c' w', w'.ownsRow base 71 2 (.slice a' (n + m) c') (n + m) (fivals (xs ++ l)) → (∀ V : World, Below base V w → Below base V w') → wpList Tryz.prog ops Q rest (a.put o.dst (.slice a' (n + m) c')) w') :
    wpList Tryz.prog ops Q (o :: rest) a w :=
  BigFrame.wpList_want hgd fun K hK => wp_append_fis s x t hty ho base v n xs hs hown ao m c l hx hl hb hbase fun a' c' w' h1 h2 => hK _ _ (h a' c' w' h1 h2)
theorem step_append_fis {ops : Array Oper} {o : Oper} {a : Act} {w : World} {K : Act → World → Prop} {Q : Exit → Act → World → Prop} {E : Prop} (hgd : o.guard = none) (s x : Operand) (t : TypeId) (hty : Tryz.prog.underlying t = some (.slice 71))
    (ho : o.op = .call { callee := .builtin .append, args := #[s, x], argTypes := #[t, t] })
    (base : Nat) (v : Value) (n : Nat) (xs : List Fi) (hs : a.eval s = v) (hown : w.ownsRow base 71 2 v n (fivals xs)) (ao : Option Addr) (m c : Nat) (l : List Fi) (hx : a.eval x = .slice ao m c) (hl : FisAt w ao m l)
    (hb : n + m ≤ 1000000) (hbase : base ≤ w.heap.size)
    (h : ∀ a' c' w', w'.ownsRow base 71 2 (.slice a' (n + m) c') (n + m) (fivals (xs ++ l)) → (∀ V : World, Below base V w → Below base V w') → K (a.put o.dst (.slice a' (n + m) c')) w') :
    if Region.wanted o (yielded ops a.tmps) = true then Oper.wp Tryz.prog o a w K Q else E := by
  have hw : Region.wanted o (yielded ops a.tmps) = true := by simp [Region.wanted, hgd]
  rw [if_pos hw]
  exact wp_append_fis s x t hty ho base v n xs hs hown ao m c l hx hl hb hbase h
theorem wp_append_strs {o : Oper} {a : Act} {w : World} {K : Act → World → Prop} {Q : Exit → Act → World → Prop} (s x : Operand)
    (ho : o.op = .call { callee := .builtin .append, args := #[s, x], argTypes := #[56, 56] })
    (base : Nat) (v : Value) (n : Nat) (xs : List ByteArray) (hs : a.eval s = v) (hown : w.ownsRow base 9 1 v n (svals xs)) (ao : Option Addr) (m c : Nat) (l : List ByteArray) (hx : a.eval x = .slice ao m c) (hl : StrsAt w ao m l)
    (hb : n + m ≤ 1000000) (hbase : base ≤ w.heap.size)
    (h : ∀ a' c' w', w'.ownsRow base 9 1 (.slice a' (n + m) c') (n + m) (svals (xs ++ l)) → (∀ V : World, Below base V w → Below base V w') → K (a.put o.dst (.slice a' (n + m) c')) w') : o.wp Tryz.prog a w K Q := by
  obtain ⟨i0, hi0, hz0, hz1, hz2⟩ := info_parts Tryz.infoS
  obtain ⟨a', c', w', hr, h2, h3⟩ := run_append_any (P := Tryz.prog) w base 56 o.type 9 i0 _ 1 16 Tryz.underlying56 hi0 hz0 hz1 hz2 rfl (by decide) v n (svals xs) hown ao m c (svals l) hl.news (by unfold maxLen; omega) (by omega) hbase
  unfold Oper.wp execOp
  simp only [ho, resolve, invoke, builtin, Sem.run_bind, Sem.run_pure, Result.andThen_ok, List.map_toArray, List.map_cons, List.map_nil, hs, hx, hr]
  exact h a' c' w' (by unfold svals at h2 ⊢; rw [List.map_append]; exact h2) h3
theorem wpList_append_strs {ops : Array Oper} {rest : List Oper} {o : Oper} {a : Act} {w : World} {Q : Exit → Act → World → Prop} (hgd : Region.wanted o (yielded ops a.tmps) = true) (s x : Operand)
    (ho : o.op = .call { callee := .builtin .append, args := #[s, x], argTypes := #[56, 56] })
    (base : Nat) (v : Value) (n : Nat) (xs : List ByteArray) (hs : a.eval s = v) (hown : w.ownsRow base 9 1 v n (svals xs)) (ao : Option Addr) (m c : Nat) (l : List ByteArray) (hx : a.eval x = .slice ao m c) (hl : StrsAt w ao m l)
    (hb : n + m ≤ 1000000) (hbase : base ≤ w.heap.size)
    (h : ∀ a' c' w', w'.ownsRow base 9 1 (.slice a' (n + m) c') (n + m) (svals (xs ++ l)) → (∀ V : World, Below base V w → Below base V w') → wpList Tryz.prog ops Q rest (a.put o.dst (.slice a' (n + m) c')) w') :
    wpList Tryz.prog ops Q (o :: rest) a w :=
  BigFrame.wpList_want hgd fun K hK => wp_append_strs s x ho base v n xs hs hown ao m c l hx hl hb hbase fun a' c' w' h1 h2 => hK _ _ (h a' c' w' h1 h2)
theorem step_append_strs {ops : Array Oper} {o : Oper} {a : Act} {w : World} {K : Act → World → Prop} {Q : Exit → Act → World → Prop} {E : Prop} (hgd : o.guard = none) (s x : Operand)
    (ho : o.op = .call { callee := .builtin .append, args := #[s, x], argTypes := #[56, 56] })
    (base : Nat) (v : Value) (n : Nat) (xs : List ByteArray) (hs : a.eval s = v) (hown : w.ownsRow base 9 1 v n (svals xs)) (ao : Option Addr) (m c : Nat) (l : List ByteArray) (hx : a.eval x = .slice ao m c) (hl : StrsAt w ao m l)
    (hb : n + m ≤ 1000000) (hbase : base ≤ w.heap.size)
    (h : ∀ a' c' w', w'.ownsRow base 9 1 (.slice a' (n + m) c') (n + m) (svals (xs ++ l)) → (∀ V : World, Below base V w → Below base V w') → K (a.put o.dst (.slice a' (n + m) c')) w') :
    if Region.wanted o (yielded ops a.tmps) = true then Oper.wp Tryz.prog o a w K Q else E := by
  have hw : Region.wanted o (yielded ops a.tmps) = true := by simp [Region.wanted, hgd]
  rw [if_pos hw]
  exact wp_append_strs s x ho base v n xs hs hown ao m c l hx hl hb hbase h
theorem own_files {w : World} {B : Nat} {v : Value} {n : Nat} {l : List Fi} (h : w.ownsRow B 71 2 v n (fivals l)) (hm : n ≤ 9223372036854775807) : ∃ a c, v = .slice a n c ∧ FisAt w a n l := by
  obtain rfl : l.length = n := by have := h.1; rw [fivals_length] at this; omega
  exact own_fis h hm
theorem own_texts {w : World} {B : Nat} {v : Value} {n : Nat} {l : List ByteArray} (h : w.ownsRow B 9 1 v n (svals l)) (hm : n ≤ 9223372036854775807) : ∃ a c, v = .slice a n c ∧ StrsAt w a n l := by
  obtain rfl : l.length = n := by have := h.1; unfold svals at this; rw [List.length_map] at this; omega
  exact own_strs h hm
theorem own_noneSt (w : World) : (w.alloc (.cells #[] 9)).ownsRow w.heap.size 9 1 (.slice (some ⟨w.heap.size, 0, none⟩) 0 0) 0 (svals []) :=
  ⟨rfl, .inr ⟨w.heap.size, 0, #[], rfl, Nat.le_refl _, by show (w.heap.push _)[w.heap.size]? = _; simp, Nat.le_refl _, by unfold maxLen; omega, rfl, rfl⟩⟩
/-- parts of what lies in memory -/
theorem FisAt.drop {w : World} {b off n k : Nat} {l : List Fi} (h : FisAt w (some ⟨b, off, none⟩) n l) (hk : k ≤ n) : FisAt w (some ⟨b, off + k * 2, none⟩) (n - k) (l.drop k) := by
  obtain ⟨h1, h2, h3⟩ := h
  refine ⟨by rw [List.length_drop, h1], by omega, ?_⟩
  rcases Nat.eq_or_lt_of_le hk with rfl | hlt
  · exact .inl (by omega)
  refine .inr ⟨b, off + k * 2, rfl, fun j hj => ?_⟩
  obtain ⟨b', off', e, hc⟩ := h3.resolve_left (by omega)
  cases e
  obtain ⟨c0, c1⟩ := hc (k + j) (by omega)
  have e : (l.drop k).getD j noFi = l.getD (k + j) noFi := by simp [List.getD_eq_getElem?_getD, List.getElem?_drop]
  rw [e, show off + k * 2 + j * 2 = off + (k + j) * 2 by omega]
  exact ⟨c0, c1⟩
theorem FisAt.take {w : World} {a : Option Addr} {n k : Nat} {l : List Fi} (h : FisAt w a n l) (hk : k ≤ n) : FisAt w a k (l.take k) := by
  obtain ⟨h1, h2, h3⟩ := h
  refine ⟨by rw [List.length_take, h1]; omega, by omega, ?_⟩
  rcases Nat.eq_zero_or_pos k with rfl | hp
  · exact .inl rfl
  obtain ⟨b', off', e, hc⟩ := h3.resolve_left (by omega)
  refine .inr ⟨b', off', e, fun j hj => ?_⟩
  obtain ⟨c0, c1⟩ := hc j (by omega)
  have e : (l.take k).getD j noFi = l.getD j noFi := by simp [List.getD_eq_getElem?_getD, List.getElem?_take, hj]
  rw [e]
  exact ⟨c0, c1⟩
end Go.Proofs.YtlenfiiocmchdaaGreatDoor
/- Layer 15's laws: plain: what Build hands back. -/
namespace Go.Proofs.YtlenfiiocmchdaaGreatDoor
open Go.RowKit Book Pap Ojt Sn
set_option linter.unusedVariables false
set_option linter.unusedSimpArgs false

theorem buildS_ok {l : List Fi} : (buildS l).2 = 0 ↔ OkFs l := by
  rw [← checkF_iff]
  unfold buildS
  split
  · rename_i h; exact ⟨fun _ => h, fun _ => rfl⟩
  · rfl
theorem buildS_of {l : List Fi} (h : OkFs l) : buildS l = (treeS 64 (l.map flOf) [], 0) := by
  unfold buildS
  rw [if_pos ((checkF_iff l).2 h)]
theorem buildS_perm {l m : List Fi} (h : (buildS l).2 = 0) (p : m.Perm l) : buildS m = buildS l := by
  have hl := buildS_ok.1 h
  have hm := hl.perm p.symm
  rw [buildS_of hl, buildS_of hm, treeS_perm 64 _ _ [] hm.apt (p.map flOf)]
theorem buildS_root {l : List Fi} (h : (buildS l).2 = 0) : (buildS l).1.2 = tid 64 (l.map flOf) := by
  rw [buildS_of (buildS_ok.1 h)]
  exact (treeS_mem 64 _ []).1
theorem buildS_mem {l : List Fi} (h : (buildS l).2 = 0) (s : ByteArray) : s ∈ (buildS l).1.1 ↔ s ∈ texts 64 (l.map flOf) := by
  rw [buildS_of (buildS_ok.1 h)]
  have := (treeS_mem 64 (l.map flOf) []).2 s
  rw [this]; simp
theorem texts_enc : ∀ (d : Nat) (fs : List Fl) (t : ByteArray), t ∈ texts d fs → ∃ x, t = encP x
  | 0, fs, t, h => by cases h
  | d + 1, fs, t, h => by
    rcases List.mem_append.1 h with h | h
    · obtain ⟨n, -, h⟩ := List.mem_flatMap.1 h
      unfold textOf at h
      split at h
      · exact ⟨_, List.mem_singleton.1 h⟩
      · exact texts_enc d _ t h
    · exact ⟨_, List.mem_singleton.1 h⟩
theorem texts_size {d : Nat} {fs : List Fl} {t : ByteArray} (h : t ∈ texts d fs) : t.size ≤ 100000 := by
  obtain ⟨x, rfl⟩ := texts_enc d fs t h
  exact encP_size x
theorem buildS_size {l : List Fi} (h : (buildS l).2 = 0) : ∀ s ∈ (buildS l).1.1, s.size ≤ 100000 := fun s hs => texts_size ((buildS_mem h s).1 hs)
theorem buildS_few {l : List Fi} (h : (buildS l).2 = 0) (hl : l.length ≤ 60) : (buildS l).1.1.length ≤ 3841 := by
  have hk := buildS_ok.1 h
  rw [buildS_of hk]
  have h1 := treeS_cnt 64 (l.map flOf) []
  have h2 := wt_le (k := 64) (l.map flOf) (fun f hf => hk.len f hf)
  rw [List.length_map] at h2
  simp only [List.length_nil] at h1
  have : l.length * 64 ≤ 60 * 64 := Nat.mul_le_mul_right _ hl
  simp only
  omega
theorem same_law {a b : List Fi} (ha : (buildS a).2 = 0) (hb : (buildS b).2 = 0) (na : a.length ≤ 60) (nb : b.length ≤ 60) (hL : Sw.Apart ((buildS a).1.1 ++ (buildS b).1.1)) :
    (buildS a).1.2 = (buildS b).1.2 ↔ sortF a = sortF b := by
  rw [buildS_root ha, buildS_root hb]
  exact same_tree (buildS_ok.1 ha) (buildS_ok.1 hb) na nb hL (fun t ht => List.mem_append.2 (.inl ((buildS_mem ha t).2 ht))) (fun t ht => List.mem_append.2 (.inr ((buildS_mem hb t).2 ht)))
theorem rot_perm {α : Type} (l : List α) (k : Nat) : (l.drop k ++ l.take k).Perm l := by
  have h := List.perm_append_comm (l₁ := l.drop k) (l₂ := l.take k)
  rw [List.take_append_drop] at h
  exact h
theorem sumF_each {l : List Fi} {m : Nat} (h : sumF l ≤ m) : ∀ f ∈ l, f.path.size ≤ m ∧ f.data.size ≤ m := by
  induction l with
  | nil => intro f hf; cases hf
  | cons x r ih =>
    have e : sumF (x :: r) = x.path.size + x.data.size + sumF r := by unfold sumF; simp
    rw [e] at h
    intro f hf
    rcases List.mem_cons.1 hf with rfl | hf
    · omega
    · exact ih (by omega) f hf
end Go.Proofs.YtlenfiiocmchdaaGreatDoor
/- The walk of SnapSame. -/
namespace Go.Proofs.YtlenfiiocmchdaaGreatDoor
open Go.RowKit Book Pap Ojt Sn
set_option linter.unusedVariables false
set_option linter.unusedSimpArgs false

set_option maxRecDepth 100000 in
set_option maxHeartbeats 16000000 in
theorem walk_SnapSame (a0 : Option Addr) (n0 c0 : Nat) (l0 : List Fi) (a1 : Option Addr) (n1 c1 : Nat) (l1 : List Fi) (turn : Int) (W : World) (w0 : FisAt W a0 n0 l0) (nc0 : n0 ≤ c0) (z0 : ∀ f ∈ l0, f.path.size ≤ 140737488355328 ∧ f.data.size ≤ 140737488355328)
    (w1 : FisAt W a1 n1 l1) (nc1 : n1 ≤ c1) (z1 : ∀ f ∈ l1, f.path.size ≤ 140737488355328 ∧ f.data.size ≤ 140737488355328) (ht : -9223372036854775808 ≤ turn ∧ turn ≤ 9223372036854775807) (hm : MaxAt W) :
    Calls Tryz.prog 5 #[.slice a0 n0 c0, .slice a1 n1 c1, .int .i64 turn] W fun e w' => e = .returned (.bool true) ∧ Below W.heap.size W w' := by
  have HM := hid hm
  have H0 := hid w0
  have H1 := hid w1
  have Z0 := hid z0
  have Z1 := hid z1
  have HA := hid (awake_any W hm)
  clear hm w0 w1 z0 z1
  go_enter Tryz.func5, Tryz.ntmps5
  go_wp2_with fail
  refine HA.out.mono ?_; rintro e w1 ⟨rfl, hb1⟩
  have HB1 := hid hb1
  have HG0 := hid (great_any a0 n0 c0 l0 w1 (H0.out.later hb1) Z0.out)
  clear hb1 HA
  go_wp2_with fail
  refine HG0.out.mono ?_; rintro e w2 ⟨r0, rfl, hb2, hr0⟩
  have HB2 := hid (below_then HB1.out hb2)
  clear hb2 HG0 HB1
  cases r0 with
  | true =>
    go_wp2_with fail
    go_ret
    exact ⟨rfl, HB2.out⟩
  | false =>
    obtain ⟨hn0, hs0⟩ := hr0 rfl
    have HG1 := hid (great_any a1 n1 c1 l1 w2 (H1.out.later HB2.out) Z1.out)
    go_wp2_with fail
    refine HG1.out.mono ?_; rintro e w3 ⟨r1, rfl, hb3, hr1⟩
    have HB3 := hid (below_then HB2.out hb3)
    clear hb3 HG1 HB2
    cases r1 with
    | true =>
      go_wp2_with fail
      go_ret
      exact ⟨rfl, HB3.out⟩
    | false =>
      obtain ⟨hn1, hs1⟩ := hr1 rfl
      have Y0 := hid (sumF_each hs0)
      have Y1 := hid (sumF_each hs1)
      have HU0 := hid (Build_any a0 n0 c0 l0 w3 (H0.out.later HB3.out) (fun f hf => by have := Y0.out f hf; omega) (HM.out.later HB3.out))
      clear hr0 hr1
      go_wp2_with fail
      refine HU0.out.mono ?_; rintro e w4 ⟨hb4, v0, rfl, ho0⟩
      have HP0 := hid (fun h => buildS_perm (l := l0) (m := l0.drop 0 ++ l0.take 0) h (rot_perm l0 0))
      have HPK : Hid (∀ k, (buildS l0).2 = 0 → buildS (l0.drop k ++ l0.take k) = buildS l0) := fun k h => buildS_perm h (rot_perm l0 k)
      have HLW : Hid ((buildS l0).2 = 0 → (buildS l1).2 = 0 → Sw.Apart ((buildS l0).1.1 ++ (buildS l1).1.1) → ((buildS l0).1.2 = (buildS l1).1.2 ↔ sortF l0 = sortF l1)) := fun h1 h2 h3 => same_law h1 h2 (by rw [H0.out.1]; exact hn0) (by rw [H1.out.1]; exact hn1) h3
      have HZ0 : Hid ((buildS l0).2 = 0 → (buildS l0).1.1.length ≤ 3841 ∧ ∀ s ∈ (buildS l0).1.1, s.size ≤ 100000) := fun h => ⟨buildS_few h (by rw [H0.out.1]; exact hn0), buildS_size h⟩
      clear HP0
      obtain ⟨⟨⟨L0, t0⟩, E0⟩, hr⟩ : ∃ r, buildS l0 = r := ⟨_, rfl⟩
      rw [hr] at ho0 HPK HLW HZ0 ⊢
      clear hr HU0
      obtain ⟨va, vc, rfl, hvc⟩ := own_slice' ho0
      have HO4 := hid ho0
      have HB4 := hid (below_then HB3.out hb4)
      clear hb4 ho0 hvc
      by_cases hE : E0 = 0
      · subst hE
        have HS4 := hid (H0.out.later HB4.out)
        go_upto_if 36 with fail
        go_cut [10] (fun s10 wx => ∃ k : Nat, (n0 = 0 ∧ k = 0 ∨ k < n0) ∧ s10 = .int .i64 k ∧ w4 = wx)
        case first =>
          by_cases cn : (0 : Int) < n0
          · have hu : (0 : Int) ≤ IntKind.u64.wrap turn := (wrap_within .u64 turn).1
            have hk : ∃ k : Nat, k < n0 ∧ wrap64 (IntKind.u64.wrap turn % n0) = (k : Int) := by
              obtain ⟨u, hu'⟩ : ∃ u : Nat, IntKind.u64.wrap turn = u := ⟨(IntKind.u64.wrap turn).toNat, by omega⟩
              rw [hu']
              refine ⟨u % n0, Nat.mod_lt _ (by omega), ?_⟩
              have := Nat.mod_lt u (show 0 < n0 by omega)
              rw [← Int.natCast_emod]; unfold wrap64; omega
            obtain ⟨k, hk, ek⟩ := hk
            go_wp2_with fail
            go_meet
            case rel => exact ⟨k, .inr hk, by rw [ek], rfl⟩
          · have hn : n0 = 0 ∧ 0 = 0 := ⟨by omega, rfl⟩
            have HN := hid hn
            clear hn
            go_wp2_with fail
            go_meet
            case rel => exact ⟨0, .inl ⟨HN.out.1, rfl⟩, rfl, rfl⟩
        case rest =>
          obtain ⟨k, hk, rfl, rfl⟩ := hcut
          have HP : Hid (FisAt w4 a0 k (l0.take k)) := HS4.out.take (by omega)
          have HBF : Hid (MaxAt w4) := HM.out.later HB4.out
          go_upto_region 11 with fail
          go_cut [11] (fun s11 wx => ∃ a' c', s11 = .slice a' n0 c' ∧ Hid (FisAt wx a' n0 (l0.drop k ++ l0.take k)) ∧ Hid (Below w4.heap.size w4 wx))
          case first =>
            by_cases cn : n0 = 0
            · subst cn
              obtain rfl : k = 0 := by omega
              have HNN : Hid (l0 = []) := List.length_eq_zero_iff.1 HS4.out.1
              rcases a0 with _ | ⟨b, off, fl⟩ <;> rcases Nat.eq_zero_or_pos c0 with rfl | cz
              all_goals
                go_region_law (first
                  | ((refine step_append_fis (by rfl) (.tmp 44) (.tmp 47) 34 Tryz.underlying34 (by rfl) w4.heap.size (.slice (some ⟨w4.heap.size, 0, none⟩) 0 0) 0 [] (by simp [Act.eval, Act.put]) (own_noneFi w4.drew) _ 0 _ [] (by rfl) ⟨rfl, by omega, .inl rfl⟩ (by omega) (by simp) ?_; intro a5 c5 w5 ho5 hb5; have HO5 := hid ho5; have HB5 := hid (hb5 w4 ((Below.refl _ _).drew.alloc (Nat.le_refl _) _)); clear ho5 hb5))
                  | ((refine step_append_fis (by rfl) (.tmp 48) (.tmp 51) 34 Tryz.underlying34 (by rfl) w4.heap.size (.slice a5 (0 + 0) c5) (0 + 0) ([] ++ []) (by simp [Act.eval, Act.put]) HO5.out _ 0 _ [] (by rfl) ⟨rfl, by omega, .inl rfl⟩ (by omega) HB5.out.size ?_; intro a6 c6 w6 ho6 hb6; have HO6 := hid ho6; have HB6 := hid (hb6 w4 HB5.out); clear ho6 hb6)))
                obtain ⟨a7, c7, he, hF⟩ := own_files HO6.out (by omega)
                injection he with he1 he2 he3
                subst he1; subst he3
                have HFF : Hid (FisAt w6 a6 0 (l0.drop 0 ++ l0.take 0)) := by rw [HNN.out]; exact hF
                clear hF HO6 HO5
                go_wp2_with fail
                go_meet
                case rel => exact ⟨a6, c6, rfl, HFF, HB6⟩
            · obtain ⟨b, off, rfl, -⟩ := HS4.out.2.2.resolve_left cn
              have hk : k < n0 := by omega
              have HD : Hid (FisAt w4 (some ⟨b, off + k * 2, none⟩) (n0 - k) (l0.drop k)) := HS4.out.drop (by omega)
              have ck : (k : Int) ≤ n0 := by omega
              have ck0 : (0 : Int) ≤ (k : Int) := by omega
              have hne : c0 ≠ k := by omega
              have hkc : k ≤ c0 := by omega
              go_region_law (first
                | ((refine step_append_fis (by rfl) (.tmp 44) (.tmp 47) 34 Tryz.underlying34 (by rfl) w4.heap.size (.slice (some ⟨w4.heap.size, 0, none⟩) 0 0) 0 [] (by simp [Act.eval, Act.put]) (own_noneFi w4.drew) (some ⟨b, off + k * 2, none⟩) (n0 - k) (c0 - k) (l0.drop k) (by simp [Act.eval, Act.put, hne]) (HD.out.later ((Below.refl _ _).drew.alloc (Nat.le_refl _) _)) (by omega) (by simp) ?_; intro a5 c5 w5 ho5 hb5; have HO5 := hid ho5; have HB5 := hid (hb5 w4 ((Below.refl _ _).drew.alloc (Nat.le_refl _) _)); clear ho5 hb5))
                | ((refine step_append_fis (by rfl) (.tmp 48) (.tmp 51) 34 Tryz.underlying34 (by rfl) w4.heap.size (.slice a5 (0 + (n0 - k)) c5) (0 + (n0 - k)) ([] ++ l0.drop k) (by simp [Act.eval, Act.put]) HO5.out (some ⟨b, off, none⟩) k c0 (l0.take k) (by simp [Act.eval, Act.put]) (HP.out.later HB5.out) (by omega) HB5.out.size ?_; intro a6 c6 w6 ho6 hb6; have HO6 := hid ho6; have HB6 := hid (hb6 w4 HB5.out); clear ho6 hb6)))
              all_goals
                obtain ⟨a7, c7, he, hF⟩ := own_files HO6.out (by omega)
                injection he with he1 he2 he3
                subst he1; subst he3
                have en : 0 + (n0 - k) + k = n0 := by omega
                rw [en, List.nil_append] at hF
                have en2 : n0 - k + k = n0 := by omega
                have HFF := hid hF
                have HEN := hid en2
                clear hF en en2 HO6 HO5
                go_wp2_with fail
                go_meet
                case rel => exact ⟨a6, c6, by rw [HEN.out], HFF, HB6⟩
          case rest =>
            obtain ⟨ar, cr, rfl, HR, HBR⟩ := hcut
            have HBW := hid (below_then HB4.out HBR.out)
            have HUR := hid (Build_any ar n0 cr (l0.drop k ++ l0.take k) wc HR.out (fun f hf => by have := Y0.out f ((rot_perm l0 k).mem_iff.1 hf); omega) (HM.out.later HBW.out))
            rw [HPK.out k trivial] at HUR
            have HO5 := hid (own_below HO4.out HBR.out)
            clear HR HBR HP HBF HO4 HS4 HPK hk
            go_wp2_with fail
            refine HUR.out.mono ?_; rintro e w5 ⟨hb5, v5, rfl, ho5⟩
            obtain ⟨va5, vc5, rfl, hvc5⟩ := own_slice' ho5
            have HO6 := hid (own_below HO5.out hb5)
            have HB6 := hid (below_then HBW.out hb5)
            clear hb5 ho5 hvc5 HUR HO5 HBW
            have HU1 := hid (Build_any a1 n1 c1 l1 w5 (H1.out.later HB6.out) (fun f hf => by have := Y1.out f hf; omega) (HM.out.later HB6.out))
            have HZ1 : Hid ((buildS l1).2 = 0 → (buildS l1).1.1.length ≤ 3841 ∧ ∀ s ∈ (buildS l1).1.1, s.size ≤ 100000) := fun h => ⟨buildS_few h (by rw [H1.out.1]; exact hn1), buildS_size h⟩
            obtain ⟨⟨⟨L1, t1⟩, E1⟩, hr⟩ : ∃ r, buildS l1 = r := ⟨_, rfl⟩
            rw [hr] at HU1 HZ1 HLW
            clear hr
            go_wp2_with fail
            refine HU1.out.mono ?_; rintro e w6 ⟨hb6, v6, rfl, ho6⟩
            have HB7 := hid (below_then HB6.out hb6)
            have HO7 := hid (own_below HO6.out hb6)
            have HL7 := hid ho6
            have hsz6 := hb6.size
            clear hb6 ho6 HU1 HB6 HO6
            by_cases hE : E1 = 0
            · subst hE
              obtain ⟨vb, vd, rfl, hvd⟩ := own_slice' HL7.out
              clear hvd
              have HQ0 := hid (sortedF_any a0 n0 c0 l0 w6 (H0.out.later HB7.out) (by omega) (fun f hf => by have := Y0.out f hf; omega) (HM.out.later HB7.out))
              go_wp2_with fail
              refine HQ0.out.mono ?_; rintro e w7 ⟨sa, sc, rfl, hF7, hb7⟩
              have HO8 := hid (own_below HO7.out hb7)
              have HL8 := hid (own_below HL7.out hb7)
              have HB8 := hid (below_then HB7.out hb7)
              have HF8 := hid hF7
              have hsz7 := Nat.le_trans hsz6 hb7.size
              clear hb7 hF7 HQ0 HO7 HL7 HB7 hsz6
              have HQ1 := hid (sortedF_any a1 n1 c1 l1 w7 (H1.out.later HB8.out) (by omega) (fun f hf => by have := Y1.out f hf; omega) (HM.out.later HB8.out))
              go_wp2_with fail
              refine HQ1.out.mono ?_; rintro e w8 ⟨sb, sd, rfl, hF8, hb8⟩
              have HO9 := hid (own_below HO8.out hb8)
              have HL9 := hid (own_below HL8.out hb8)
              have HB9 := hid (below_then HB8.out hb8)
              have HF9 := hid (HF8.out.later hb8)
              have HG9 := hid hF8
              have hsz8 := Nat.le_trans hsz7 hb8.size
              clear hb8 hF8 HQ1 HO8 HL8 HB8 hsz7 HF8
              have HQ2 := hid (same_any sa sb n0 n1 sc sd (sortF l0) (sortF l1) w8 HF9.out HG9.out)
              go_wp2_with fail
              refine HQ2.out.mono ?_; rintro e w9 ⟨r, rfl, hr, hb9⟩
              have HOa := hid (own_below HO9.out hb9)
              have HLa := hid (own_below HL9.out hb9)
              have HBa := hid (below_then HB9.out hb9)
              have hsz9 := Nat.le_trans hsz8 hb9.size
              have HR := hid hr
              clear hb9 HQ2 HO9 HL9 HB9 hsz8 HF9 HG9 hr
              have ZZ0 := hid (HZ0.out trivial)
              have ZZ1 := hid (HZ1.out trivial)
              have hl0 := ZZ0.out.1
              have hl1 := ZZ1.out.1
              obtain ⟨q0, q1, e0, hS0⟩ := own_texts HOa.out (by omega)
              obtain ⟨q2, q3, e1, hS1⟩ := own_texts HLa.out (by omega)
              injection e0 with e00 e01 e02
              injection e1 with e10 e11 e12
              subst e00; subst e02; subst e10; subst e12
              have HS0 := hid hS0
              have HS1 := hid hS1
              have HBb : Hid (Below w9.heap.size w9 (w9.alloc (.cells #[] 9))) := (Below.refl _ _).alloc (Nat.le_refl _) _
              clear hS0 hS1 e01 e11
              by_cases htl : t0.toList = t1.toList <;> cases r
              · have hc : ¬ Sw.Apart (L0 ++ L1) := fun h => by have := HR.out.2 ((HLW.out trivial trivial h).1 (ba_ext (by rw [← ba_toList, ← ba_toList]; exact htl))); cases this
                have HC := hid hc
                clear hc
                go_wp2_with (first
                  | (at_builtin; (refine wpList_append_strs (by rfl) (.tmp 91) (.tmp 92) (by rfl) w9.heap.size (.slice (some ⟨w9.heap.size, 0, none⟩) 0 0) 0 [] (by rfl) (own_noneSt w9) va L0.length vc L0 (by rfl) (HS0.out.later HBb.out) (by omega) (by simp) ?_; intro a5 c5 w10 ho10 hb10; rw [Nat.zero_add, List.nil_append] at ho10; have HOx := hid ho10; have HBx := hid (hb10 w9 HBb.out); clear ho10 hb10))
                  | (at_builtin; (refine wpList_append_strs (by rfl) (.tmp 93) (.tmp 94) (by rfl) w9.heap.size (.slice a5 L0.length c5) L0.length L0 (by rfl) HOx.out vb L1.length vd L1 (by rfl) (HS1.out.later HBx.out) (by omega) HBx.out.size ?_; intro a6 c6 w11 ho11 hb11; have HOy := hid ho11; have HBy := hid (hb11 w9 HBx.out); clear ho11 hb11)))
                obtain ⟨g5, g6, eg, hS5⟩ := own_texts HOy.out (by omega)
                injection eg with eg0 eg1 eg2
                subst eg0; subst eg2
                have HSW := hid (shown_any a6 (L0.length + L1.length) c6 (L0 ++ L1) w11 hS5 (by omega) (fun s hs => by
                  rcases List.mem_append.1 hs with h | h
                  · have := ZZ0.out.2 s h; omega
                  · have := ZZ1.out.2 s h; omega))
                clear hS5 eg1
                refine HSW.out.mono ?_; rintro e w12 ⟨bb, rfl, hbb, hb12⟩
                cases bb with
                | false => exact (HC.out (hbb rfl)).elim
                | true =>
                  have HBz := hid (below_then (below_then HBa.out HBy.out) hb12)
                  clear hb12 hbb
                  go_wp2_with fail
                  go_ret
                  exact ⟨rfl, HBz.out⟩
              · go_wp2_with fail
                go_ret
                exact ⟨rfl, HBa.out⟩
              · go_wp2_with fail
                go_ret
                exact ⟨rfl, HBa.out⟩
              · have hc : ¬ Sw.Apart (L0 ++ L1) := fun h => by exact htl (by rw [(HLW.out trivial trivial h).2 (HR.out.1 rfl)])
                have ht1 : (t0.toList == t1.toList) = false := by rw [beq_eq_false_iff_ne]; exact htl
                have HC := hid hc
                clear hc
                go_wp2_with (first
                  | (at_builtin; (refine wpList_append_strs (by rfl) (.tmp 91) (.tmp 92) (by rfl) w9.heap.size (.slice (some ⟨w9.heap.size, 0, none⟩) 0 0) 0 [] (by rfl) (own_noneSt w9) va L0.length vc L0 (by rfl) (HS0.out.later HBb.out) (by omega) (by simp) ?_; intro a5 c5 w10 ho10 hb10; rw [Nat.zero_add, List.nil_append] at ho10; have HOx := hid ho10; have HBx := hid (hb10 w9 HBb.out); clear ho10 hb10))
                  | (at_builtin; (refine wpList_append_strs (by rfl) (.tmp 93) (.tmp 94) (by rfl) w9.heap.size (.slice a5 L0.length c5) L0.length L0 (by rfl) HOx.out vb L1.length vd L1 (by rfl) (HS1.out.later HBx.out) (by omega) HBx.out.size ?_; intro a6 c6 w11 ho11 hb11; have HOy := hid ho11; have HBy := hid (hb11 w9 HBx.out); clear ho11 hb11)))
                obtain ⟨g5, g6, eg, hS5⟩ := own_texts HOy.out (by omega)
                injection eg with eg0 eg1 eg2
                subst eg0; subst eg2
                have HSW := hid (shown_any a6 (L0.length + L1.length) c6 (L0 ++ L1) w11 hS5 (by omega) (fun s hs => by
                  rcases List.mem_append.1 hs with h | h
                  · have := ZZ0.out.2 s h; omega
                  · have := ZZ1.out.2 s h; omega))
                clear hS5 eg1
                refine HSW.out.mono ?_; rintro e w12 ⟨bb, rfl, hbb, hb12⟩
                cases bb with
                | false => exact (HC.out (hbb rfl)).elim
                | true =>
                  have HBz := hid (below_then (below_then HBa.out HBy.out) hb12)
                  clear hb12 hbb
                  go_wp2_with fail
                  go_ret
                  exact ⟨rfl, HBz.out⟩
            · go_wp2_with fail
              go_ret
              exact ⟨rfl, HB7.out⟩
      · go_wp2_with fail
        go_ret
        exact ⟨rfl, HB4.out⟩
end Go.Proofs.YtlenfiiocmchdaaGreatDoor
