/- Texts in a row: LwE, LwF, LwG, LwP, LwQ, LkA, LkB, LkC, LkD, LkE, LkP. -/
import Derived.Test.YtlenfiiocmchdaaGreatDoorMcJ
import Derived.BigFrame
import Derived.Laws.OwnMore
import Derived.BigQuiet
import Derived.Deep.DeepCutAuto
import Derived.Deep.CutBlock
/- Layer 15's laws: whether two unlike texts have one digest (shown). -/
namespace Go.Proofs.YtlenfiiocmchdaaGreatDoor
open Go.RowKit Book Pap Ojt Sn
set_option linter.unusedVariables false
set_option linter.unusedSimpArgs false

theorem newTxt_any (w : World) : Calls Tryz.prog 35 #[] w fun e w' => e = .returned (.pointer (some ⟨w.heap.size, 0, none⟩)) ∧ MapIsTxt w' w.heap.size (.slice none 0 0) (.slice none 0 0) [] [] ∧ Below w.heap.size w w' := by
  have HX : Hid (Blk (w.alloc (.cells #[.slice none 0 0, .slice none 0 0] 148)) w.heap.size 148 #[.slice none 0 0, .slice none 0 0]) := Blk.new w _ _
  have HB : Hid (Below w.heap.size w (w.alloc (.cells #[.slice none 0 0, .slice none 0 0] 148))) := (Below.refl _ _).alloc (Nat.le_refl _) _
  go_enter Tryz.func35, Tryz.ntmps35
  go_wp2_with fail
  go_ret
  exact ⟨rfl, ⟨HX.out, World.ownsRow_nil _ _ _ _, World.ownsRow_nil _ _ _ _, rfl, List.Pairwise.nil, Nat.zero_le _, fun k hk => by simp [Value.ownBlock] at hk⟩, HB.out⟩
def ShownOut (l : List ByteArray) (w : World) (e : Ending) (w' : World) : Prop := ∃ b : Bool, e = .returned (.bool b) ∧ (b = false → Sw.Apart l) ∧ Below w.heap.size w w'
set_option maxRecDepth 100000 in
set_option maxHeartbeats 8000000 in
theorem shown_any (a : Option Addr) (n c : Nat) (l : List ByteArray) (w : World) (h : StrsAt w a n l) (hn : n ≤ 100000) (hz : ∀ s ∈ l, s.size ≤ 1000000000) :
    Calls Tryz.prog 31 #[.slice a n c] w (ShownOut l w) := by
  have HS := hid h
  have HL := hid h.1
  have HZ := hid hz
  have HN := hid (newTxt_any w)
  clear h hz
  go_enter Tryz.func31, Tryz.ntmps31
  go_wp2_with fail
  refine HN.out.mono ?_; rintro e w1 ⟨rfl, hm1, hb1⟩
  have HM1 := hid hm1
  have HB1 := hid hb1
  generalize hg : w.heap.size = g at HM1 HB1 ⊢
  have HG := hid hg
  clear hg hm1 hb1 HN
  go_wp2_with fail
  go_loopw [4] (fun iv wr => ∃ i : Nat, i ≤ n ∧ iv = .int .i64 i ∧ Hid (∃ ks vs kl ps, MapIsTxt wr g ks vs kl ps ∧ kl.length ≤ i ∧ (∀ k, MapF g ks vs k → g ≤ k) ∧ ∀ t ∈ l.take i, getO kl ps (Sw.idOf t) = some t) ∧ Hid (Below g w wr)) (fun iv _ => n - (intOf iv).toNat)
  case atStart => exact ⟨0, Nat.zero_le _, rfl, ⟨_, _, [], [], HM1.out, Nat.zero_le _, fun k hk => by rcases hk with e | e | e <;> first | (rw [e]; exact Nat.le_refl _) | simp [Value.ownBlock] at e, fun t ht => by cases ht⟩, HB1⟩
  case round =>
    obtain ⟨i, hi, rfl, HM, HB⟩ := hrel
    by_cases hlt : i < n
    · have ci : (i : Int) < n := by omega
      have ci0 : (0 : Int) ≤ (i : Int) := by omega
      obtain ⟨-, -, h3⟩ := HS.out.later (by rw [HG.out]; exact HB.out)
      obtain ⟨b, off, rfl, hc⟩ := h3.resolve_left (by omega)
      have q0 := hc i hlt
      have hil : i < l.length := by rw [HL.out]; exact hlt
      have hsz := HZ.out (l.getD i ByteArray.empty) (by rw [List.getD_eq_getElem?_getD, List.getElem?_eq_getElem hil]; exact List.getElem_mem hil)
      have HT : Hid (l.take (i + 1) = l.take i ++ [l.getD i ByteArray.empty]) := by
        show _ = _
        rw [List.take_succ_eq_append_getElem hil, List.getD_eq_getElem?_getD, List.getElem?_eq_getElem hil]; rfl
      obtain ⟨s, hs⟩ : ∃ s, l.getD i ByteArray.empty = s := ⟨_, rfl⟩
      rw [hs] at q0 hsz HT
      have HID := hid (objid_id s hsz wr)
      have hgr : g ≤ wr.heap.size := by have := HB.out.size; rw [HG.out] at this; exact this
      have hbb := World.block_lt_of_cell? wr _ q0
      clear hs hc h3 hil hsz
      go_wp2_with fail
      refine HID.out.mono ?_; rintro e w2 ⟨rfl, hb2⟩
      have q1 : w2.cell? ⟨b, off + i, none⟩ = some (.string s) := (hb2.cell (p := ⟨b, off + i, none⟩) hbb).trans q0
      have HB2 : Hid (Below g w w2) := HB.out.trans (hb2.mono hgr)
      have hg2 : g ≤ w2.heap.size := Nat.le_trans hgr hb2.size
      obtain ⟨ks, vs, kl, ps, hm, hkl, hkf, hkt⟩ := HM.out
      have hm2 : MapIsTxt w2 g ks vs kl ps := by
        obtain ⟨x1, x2, x3, x4, x5, x6, x7⟩ := hm
        exact ⟨(hb2.block g (Blk.lt x1)).trans x1, own_below x2 hb2, own_below x3 hb2, x4, x5, x6, x7⟩
      have HM2 := hid hm2
      have HKF := hid hkf
      have HKT := hid hkt
      have HGE := hid (getTxt g ks vs kl ps (Sw.idOf s) w2 hm2)
      have HPU := hid (fun (y : ByteArray) => putTxt_any g ks vs kl ps (Sw.idOf s) y w2 hm2 (by omega))
      have hgv := getV_O kl ps (Sw.idOf s)
      have hho := has_O kl ps (Sw.idOf s)
      rw [hgv, hho] at HGE
      unfold encTxt at HGE
      obtain ⟨o, ho⟩ : ∃ o, getO kl ps (Sw.idOf s) = o := ⟨_, rfl⟩
      rw [ho] at HGE
      have HO := hid ho
      obtain ⟨idv, hidv⟩ : ∃ z, Sw.idOf s = z := ⟨_, rfl⟩
      have HIV := hid hidv
      rw [hidv] at HGE HPU ⊢
      clear hm hm2 hkf hkt HM hb2 hgv hho ho hidv q0 HID HB
      by_cases hbad : o.isSome = true ∧ o.getD ByteArray.empty ≠ s
      · obtain ⟨y, rfl⟩ : ∃ y, o = some y := by
          cases o with
          | none => cases hbad.1
          | some y => exact ⟨y, rfl⟩
        have hne : y ≠ s := hbad.2
        have e1 : (y.toList == s.toList) = false := by
          rw [ba_toList, ba_toList, beq_eq_false_iff_ne]
          exact fun e => hne (ba_ext e)
        have e2 : (y.toList != s.toList) = true := by simp only [bne, e1, Bool.not_false]
        have HGE2 : Hid (Calls Tryz.prog 38 #[.pointer (some ⟨g, 0, none⟩), .string idv] w2 fun e w' => e = .returned (.tuple #[.string y, .bool true]) ∧ w2 = w') := HGE.out
        clear hbad HGE HPU
        go_wp2_with fail
        refine HGE2.out.mono ?_; rintro e w3 ⟨rfl, rfl⟩
        go_wp2_with fail
        go_ret
        unfold ShownOut
        rw [HG.out]
        exact ⟨true, rfl, (fun h => by cases h), HB2.out⟩
      · have hgood : ∀ t ∈ l.take i, Sw.idOf t = Sw.idOf s → t = s := fun t ht e => by
          have h1 := HKT.out t ht
          rw [e, HO.out] at h1
          refine Decidable.byContradiction fun hne => hbad ?_
          rw [h1]
          exact ⟨rfl, hne⟩
        have HNEXT : Hid (∀ W, (∃ ks' vs', MapIsTxt W g ks' vs' (putN kl (Sw.idOf s)) (putVTxt kl ps (Sw.idOf s) s) ∧ Only (MapF g ks vs) w2 W ∧ (∀ k, MapF g ks' vs' k → MapF g ks vs k ∨ w2.heap.size ≤ k)) →
            (∃ ks vs kl ps, MapIsTxt W g ks vs kl ps ∧ kl.length ≤ i + 1 ∧ (∀ k, MapF g ks vs k → g ≤ k) ∧ ∀ t ∈ l.take (i + 1), getO kl ps (Sw.idOf t) = some t) ∧ Below g w W) := by
          rintro W ⟨ks', vs', x1, x2, x3⟩
          have hris := HM2.out.2.2.2.2.1
          have hlen := HM2.out.2.2.2.1
          refine ⟨⟨ks', vs', _, _, x1, ?_, fun k hk => (x3 k hk).elim (HKF.out k) (fun e => Nat.le_trans hg2 e), fun t ht => ?_⟩, HB2.out.trans (x2.below (fun k hk => HKF.out k hk) hg2)⟩
          · unfold putN
            split
            · omega
            · rw [List.length_append, List.length_cons, List.length_take, List.length_drop]; omega
          · rw [getO_put hris hlen]
            rw [HT.out] at ht
            by_cases hq : Sw.idOf t = Sw.idOf s
            · simp only [if_pos hq]
              rcases List.mem_append.1 ht with ht | ht
              · rw [hgood t ht hq]
              · rw [List.mem_singleton.1 ht]
            · simp only [if_neg hq]
              rcases List.mem_append.1 ht with ht | ht
              · exact HKT.out t ht
              · rw [List.mem_singleton.1 ht] at hq; exact absurd rfl hq
        have HPU2 : Hid (Calls Tryz.prog 36 #[.pointer (some ⟨g, 0, none⟩), .string idv, .string s] w2 fun e w' => (∃ b : Bool, e = .returned (.bool b)) ∧ ((∃ ks vs kl ps, MapIsTxt w' g ks vs kl ps ∧ kl.length ≤ i + 1 ∧ (∀ k, MapF g ks vs k → g ≤ k) ∧ ∀ t ∈ l.take (i + 1), getO kl ps (Sw.idOf t) = some t) ∧ Below g w w')) := by
          refine (HPU.out s).mono ?_
          rintro e w' ⟨rfl, ks', vs', y1, y2, y3⟩
          rw [← HIV.out] at y1
          exact ⟨⟨_, rfl⟩, HNEXT.out w' ⟨ks', vs', y1, y2, y3⟩⟩
        clear HPU HNEXT hgood HKT HKF HM2 HIV
        have HEND : Hid (∀ W, (∃ ks vs kl ps, MapIsTxt W g ks vs kl ps ∧ kl.length ≤ i + 1 ∧ (∀ k, MapF g ks vs k → g ≤ k) ∧ ∀ t ∈ l.take (i + 1), getO kl ps (Sw.idOf t) = some t) ∧ Below g w W → True) := fun _ _ => trivial
        cases o with
        | none =>
          have HGE2 : Hid (Calls Tryz.prog 38 #[.pointer (some ⟨g, 0, none⟩), .string idv] w2 fun e w' => e = .returned (.tuple #[.string ⟨#[]⟩, .bool false]) ∧ w2 = w') := HGE.out
          clear hbad HGE
          go_wp2_with fail
          refine HGE2.out.mono ?_; rintro e w3 ⟨rfl, rfl⟩
          go_wp2_with fail
          refine HPU2.out.mono ?_; rintro e w4 ⟨⟨bb, rfl⟩, hmn, hbn⟩
          have HMN := hid hmn
          have HBN := hid hbn
          clear hmn hbn
          go_wp2_with fail
          go_roundw
          case rel => first | exact ⟨i + 1, by omega, by go_num, HMN, HBN⟩ | ((repeat apply Exists.intro); exact ⟨⟨i + 1, by omega, by go_num, HMN, HBN⟩, rfl⟩)
          case measure => simp [intOf]; omega
        | some y =>
          have hys : y = s := Decidable.byContradiction fun hne => hbad ⟨rfl, hne⟩
          have e1 : (y.toList == s.toList) = true := by rw [hys]; simp
          have e2 : (y.toList != s.toList) = false := by simp only [bne, e1, Bool.not_true]
          have HGE2 : Hid (Calls Tryz.prog 38 #[.pointer (some ⟨g, 0, none⟩), .string idv] w2 fun e w' => e = .returned (.tuple #[.string y, .bool true]) ∧ w2 = w') := HGE.out
          clear hbad HGE hys
          go_wp2_with fail
          refine HGE2.out.mono ?_; rintro e w3 ⟨rfl, rfl⟩
          go_wp2_with fail
          refine HPU2.out.mono ?_; rintro e w4 ⟨⟨bb, rfl⟩, hmn, hbn⟩
          have HMN := hid hmn
          have HBN := hid hbn
          clear hmn hbn
          go_wp2_with fail
          go_roundw
          case rel => first | exact ⟨i + 1, by omega, by go_num, HMN, HBN⟩ | ((repeat apply Exists.intro); exact ⟨⟨i + 1, by omega, by go_num, HMN, HBN⟩, rfl⟩)
          case measure => simp [intOf]; omega
    · obtain rfl : i = n := by omega
      have ci : ¬ (i : Int) < i := by omega
      have HAP : Hid (Sw.Apart l) := by
        obtain ⟨ks, vs, kl, ps, hm, hkl, hkf, hkt⟩ := HM.out
        rw [List.take_of_length_le (by rw [HL.out]; exact Nat.le_refl _)] at hkt
        intro x hx y hy e
        have h1 := hkt x hx
        rw [e, hkt y hy] at h1
        exact (Option.some.inj h1).symm
      go_wp2_with fail
      go_ret
      unfold ShownOut
      rw [HG.out]
      exact ⟨false, rfl, fun _ => HAP.out, HB.out⟩
end Go.Proofs.YtlenfiiocmchdaaGreatDoor
/- Layer 15's laws: files in the order of their paths (sorted). -/
namespace Go.Proofs.YtlenfiiocmchdaaGreatDoor
open Go.RowKit Book Pap Ojt Sn
set_option linter.unusedVariables false
set_option linter.unusedSimpArgs false

theorem own_noneFi (w : World) : (w.alloc (.cells #[] 71)).ownsRow w.heap.size 71 2 (.slice (some ⟨w.heap.size, 0, none⟩) 0 0) 0 (fivals []) :=
  ⟨rfl, .inr ⟨w.heap.size, 0, #[], rfl, Nat.le_refl _, by show (w.heap.push _)[w.heap.size]? = _; simp, Nat.le_refl _, by unfold maxLen; omega, rfl, rfl⟩⟩
theorem sortF_snoc (l : List Fi) (f : Fi) : sortF (l ++ [f]) = insF (sortF l) f := by unfold sortF; rw [List.foldl_append]; rfl
theorem sortF_len (l : List Fi) : (sortF l).length = l.length := (sortF_perm l).length_eq
theorem insF_hit {f y : Fi} {r : List Fi} (h : compareR f.path.data.toList y.path.data.toList < 0) : insF (y :: r) f = f :: y :: r := by unfold insF; rw [if_pos h]
theorem insF_miss {f y : Fi} {r : List Fi} (h : ¬ compareR f.path.data.toList y.path.data.toList < 0) : insF (y :: r) f = y :: insF r f := by
  conv => lhs; unfold insF
  rw [if_neg h]
/-- the middle of a round: what has been put into the next list -/
def MidS (O : List Fi) (f : Fi) (k : Nat) (N : List Fi) (dn : Bool) : Prop := if dn = true then insF O f = N ++ O.drop k ∧ N.length = k + 1 else insF O f = N ++ insF (O.drop k) f ∧ N.length = k
theorem MidS.zero (O : List Fi) (f : Fi) : MidS O f 0 [] false := ⟨rfl, rfl⟩
theorem MidS.done {O : List Fi} {f y : Fi} {k : Nat} {N : List Fi} (h : MidS O f k N true) (hd : O.drop k = y :: O.drop (k + 1)) : MidS O f (k + 1) (N ++ [y]) true := by
  obtain ⟨h1, h2⟩ := h
  refine ⟨?_, by rw [List.length_append, h2]; rfl⟩
  rw [h1, hd]; simp
theorem MidS.hit {O : List Fi} {f y : Fi} {k : Nat} {N : List Fi} (h : MidS O f k N false) (hd : O.drop k = y :: O.drop (k + 1)) (hc : compareR f.path.data.toList y.path.data.toList < 0) : MidS O f (k + 1) (N ++ [f] ++ [y]) true := by
  obtain ⟨h1, h2⟩ := h
  refine ⟨?_, by rw [List.length_append, List.length_append, h2]; rfl⟩
  rw [h1, hd, insF_hit hc]; simp
theorem MidS.miss {O : List Fi} {f y : Fi} {k : Nat} {N : List Fi} (h : MidS O f k N false) (hd : O.drop k = y :: O.drop (k + 1)) (hc : ¬ compareR f.path.data.toList y.path.data.toList < 0) : MidS O f (k + 1) (N ++ [y]) false := by
  obtain ⟨h1, h2⟩ := h
  refine ⟨?_, by rw [List.length_append, h2]; rfl⟩
  rw [h1, hd, insF_miss hc]; simp
theorem MidS.end_done {O : List Fi} {f : Fi} {k : Nat} {N : List Fi} (h : MidS O f k N true) (hk : O.length ≤ k) : insF O f = N := by
  obtain ⟨h1, -⟩ := h
  rw [h1, List.drop_of_length_le hk, List.append_nil]
theorem MidS.end_not {O : List Fi} {f : Fi} {k : Nat} {N : List Fi} (h : MidS O f k N false) (hk : O.length ≤ k) : insF O f = N ++ [f] := by
  obtain ⟨h1, -⟩ := h
  rw [h1, List.drop_of_length_le hk]; rfl
theorem MidS.len {O : List Fi} {f : Fi} {k : Nat} {N : List Fi} {dn : Bool} (h : MidS O f k N dn) : N.length ≤ k + 1 := by
  unfold MidS at h
  split at h <;> omega
def SortedOut (l : List Fi) (n : Nat) (w : World) (e : Ending) (w' : World) : Prop := ∃ a c, e = .returned (.slice a n c) ∧ FisAt w' a n (sortF l) ∧ Below w.heap.size w w'
set_option maxRecDepth 100000 in
set_option maxHeartbeats 16000000 in
theorem sortedF_any (a : Option Addr) (n c : Nat) (l : List Fi) (w : World) (h : FisAt w a n l) (hn : n ≤ 1000) (hz : ∀ f ∈ l, f.path.size < 4294967281) (hm : MaxAt w) :
    Calls Tryz.prog 30 #[.slice a n c] w (SortedOut l n w) := by
  obtain ⟨i0, hi0, hz0, hz1, hz2⟩ := info_parts Tryz.infoFi
  have HS := hid h
  have HL := hid h.1
  have HZ := hid hz
  have HM := hid hm
  have HO1 : Hid ((w.alloc (.cells #[] 71)).ownsRow w.heap.size 71 2 (.slice (some ⟨w.heap.size, 0, none⟩) 0 0) 0 (fivals (sortF (l.take 0)))) := own_noneFi w
  have HB1 : Hid (Below w.heap.size w (w.alloc (.cells #[] 71))) := (Below.refl _ _).alloc (Nat.le_refl _) _
  clear h hz hm
  go_enter Tryz.func30, Tryz.ntmps30
  go_upto_region 2 with fail
  generalize (w.alloc (.cells #[] 71)) = w1 at HO1 HB1 ⊢
  generalize hg : w.heap.size = g at HO1 HB1 ⊢
  have HG := hid hg
  clear hg
  go_wp2_with fail
  go_loopw [4, 3] (fun iv ov wr => ∃ i : Nat, i ≤ n ∧ iv = .int .i64 i ∧ Hid (wr.ownsRow g 71 2 ov i (fivals (sortF (l.take i)))) ∧ Hid (Below g w wr)) (fun iv _ _ => n - (intOf iv).toNat)
  case atStart => exact ⟨0, Nat.zero_le _, rfl, HO1, HB1⟩
  case round =>
    obtain ⟨i, hi, rfl, HO, HB⟩ := hrel
    obtain ⟨va, vc, rfl, hvc⟩ := own_slice' HO.out
    by_cases hlt : i < n
    · have ci : (i : Int) < n := by omega
      have ci0 : (0 : Int) ≤ (i : Int) := by omega
      have HBW : Hid (Below w.heap.size w wr) := by rw [HG.out]; exact HB.out
      obtain ⟨-, -, h3⟩ := HS.out.later HBW.out
      obtain ⟨fb, foff, rfl, hc⟩ := h3.resolve_left (by omega)
      obtain ⟨q0, q1⟩ := hc i hlt
      have hil : i < l.length := by rw [HL.out]; exact hlt
      have hsz := HZ.out (l.getD i noFi) (by rw [List.getD_eq_getElem?_getD, List.getElem?_eq_getElem hil]; exact List.getElem_mem hil)
      have HT : Hid (sortF (l.take (i + 1)) = insF (sortF (l.take i)) (l.getD i noFi)) := by
        show _ = _
        rw [List.take_succ_eq_append_getElem hil, sortF_snoc, List.getD_eq_getElem?_getD, List.getElem?_eq_getElem hil]; rfl
      obtain ⟨O, hO⟩ : ∃ O, sortF (l.take i) = O := ⟨_, rfl⟩
      have hOl : O.length = i := by rw [← hO, sortF_len, List.length_take]; omega
      have HOZ : Hid (∀ y ∈ O, y.path.size < 4294967281) := fun y hy => by
        rw [← hO] at hy
        exact HZ.out y (List.mem_of_mem_take ((sortF_perm _).mem_iff.1 hy))
      rw [hO] at HO HT
      obtain ⟨f, hf⟩ : ∃ f, l.getD i noFi = f := ⟨_, rfl⟩
      rw [hf] at q0 q1 hsz HT
      have HOL := hid hOl
      have hgr : g ≤ wr.heap.size := by have := HB.out.size; rw [HG.out] at this; exact this
      have hbb := World.block_lt_of_cell? wr _ q0
      have HQ0 := hid q0
      have HQ1 := hid q1
      have HMR := hid (HM.out.later HBW.out)
      clear hO hf hc h3 hil q0 q1 hOl
      have HN1 : Hid ((wr.alloc (.cells #[] 71)).ownsRow wr.heap.size 71 2 (.slice (some ⟨wr.heap.size, 0, none⟩) 0 0) 0 (fivals [])) := own_noneFi wr
      have HB2 : Hid (Below wr.heap.size wr (wr.alloc (.cells #[] 71))) := (Below.refl _ _).alloc (Nat.le_refl _) _
      rename World => wo
      go_upto_region 6 with fail
      generalize (wo.alloc (.cells #[] 71)) = w2 at HN1 HB2 ⊢
      generalize hg2 : wo.heap.size = g2 at HN1 HB2 hgr hbb ⊢
      have HG2 := hid hg2
      clear hg2
      go_wp2_with fail
      go_loopw [7, 5, 6] (fun kv nv dv wx => ∃ (k : Nat) (N : List Fi) (dn : Bool), k ≤ i ∧ kv = .int .i64 k ∧ dv = .bool dn ∧ Hid (wx.ownsRow g2 71 2 nv N.length (fivals N)) ∧ Hid (Below g2 wo wx) ∧ Hid (MidS O f k N dn)) (fun kv _ _ _ => i - (intOf kv).toNat)
      case atStart => exact ⟨0, [], false, Nat.zero_le _, rfl, rfl, HN1, HB2, MidS.zero O f⟩
      case round =>
        obtain ⟨k, N, dn, hk, rfl, rfl, HN, HX, HMD⟩ := hrel
        obtain ⟨na, nc, rfl, hnc⟩ := own_slice' HN.out
        have HXW : Hid (Below wo.heap.size wo wr) := by rw [HG2.out]; exact HX.out
        have hgx : g2 ≤ wr.heap.size := by have := HX.out.size; rw [HG2.out] at this; exact this
        have hNl := HMD.out.len
        have hfb : fb < wo.heap.size := by rw [HG2.out]; exact hbb
        have q0 : wr.cell? ⟨fb, foff + i * 2, none⟩ = some (.string f.path) := (HXW.out.cell (p := ⟨fb, foff + i * 2, none⟩) hfb).trans HQ0.out
        have q1 : wr.cell? ⟨fb, foff + i * 2 + 1, none⟩ = some (.string f.data) := (HXW.out.cell (p := ⟨fb, foff + i * 2 + 1, none⟩) hfb).trans HQ1.out
        by_cases hkl : k < i
        · have ck : (k : Int) < i := by omega
          have ck0 : (0 : Int) ≤ (k : Int) := by omega
          have hkO : k < O.length := by rw [HOL.out]; exact hkl
          have HOx := own_below HO.out HXW.out
          obtain ⟨og, oc, e1, -, -⟩ := HOx.form (by omega)
          injection e1 with e1 _ e2
          subst e1 e2
          have x0 := HOx.cellAt (k * 2) (by omega)
          have x1 := HOx.cellAt (k * 2 + 1) (by omega)
          obtain ⟨y0, y1⟩ := fivals_get O k hkO
          rw [y0] at x0
          rw [y1] at x1
          have hogl : og < wr.heap.size := World.block_lt_of_cell? wr _ x0
          have HD : Hid (O.drop k = O.getD k noFi :: O.drop (k + 1)) := by
            show _ = _
            rw [List.drop_eq_getElem_cons hkO, List.getD_eq_getElem?_getD, List.getElem?_eq_getElem hkO]; rfl
          have hys := HOZ.out (O.getD k noFi) (by rw [List.getD_eq_getElem?_getD, List.getElem?_eq_getElem hkO]; exact List.getElem_mem hkO)
          obtain ⟨y, hy⟩ : ∃ y, O.getD k noFi = y := ⟨_, rfl⟩
          rw [hy] at x0 x1 HD hys
          have EF : ∀ z : After wr, z.val.cell? ⟨fb, foff + i * 2, none⟩ = some (.string f.path) := fun z => (z.below.cell (p := ⟨fb, foff + i * 2, none⟩) (World.block_lt_of_cell? _ _ q0)).trans q0
          have EG : ∀ z : After wr, z.val.cell? ⟨fb, foff + i * 2 + 1, none⟩ = some (.string f.data) := fun z => (z.below.cell (p := ⟨fb, foff + i * 2 + 1, none⟩) (World.block_lt_of_cell? _ _ q1)).trans q1
          have EX : ∀ z : After wr, z.val.cell? ⟨og, k * 2, none⟩ = some (.string y.path) := fun z => (z.below.cell (p := ⟨og, k * 2, none⟩) hogl).trans x0
          have EY : ∀ z : After wr, z.val.cell? ⟨og, k * 2 + 1, none⟩ = some (.string y.data) := fun z => (z.below.cell (p := ⟨og, k * 2 + 1, none⟩) hogl).trans x1
          have HC := hid (fun z : After wr => compare_any f.path y.path z.val hsz hys ((HMR.out.later HXW.out).later z.below))
          clear hy y0 y1 HOx hkO q0 q1 x0 x1 HXW
          have hog : og < g2 := by have h := (HO.out.lt og rfl).2; rw [HG2.out] at h; exact h
          cases dn
          · by_cases hcm : compareR f.path.data.toList y.path.data.toList < 0
            · have HMN := hid (HMD.out.hit HD.out hcm)
              generalize compareR f.path.data.toList y.path.data.toList = cr at HC hcm
              go_wp2_with fail
              refine wp_region_after (by kernel_rfl) (by kernel_rfl) ?_
              repeat (go_big_quiet_step ((first | (go_at_call 37; with_reducible exact calls_after (HC.out _)))))
              refine wpQuiet_nil ?_
              intro _ hw'
              obtain ⟨z, rfl⟩ := hw'
              have HNz : Hid (z.val.ownsRow g2 71 2 (.slice na N.length nc) N.length (fivals N)) := own_below HN.out z.below
              have HXz : Hid (Below g2 wo z.val) := HX.out.trans (z.below.mono hgx)
              have f0 := EF z
              have f1 := EG z
              have x0 := EX z
              have x1 := EY z
              have hgz : g2 ≤ z.val.heap.size := by have := HXz.out.size; rw [HG2.out] at this; exact this
              generalize z.val = wz at HNz HXz f0 f1 x0 x1 hgz ⊢
              clear EF EG EX EY HC HN HX z
              go_upto_region 12 with (at_builtin; refine wpList_append_own _ rfl (.tmp 38) (.tmp 43) 34 rfl g2 71 i0 (.agg #[.string ⟨#[]⟩, .string ⟨#[]⟩]) 2 32 Tryz.underlying34 hi0 hz0 hz1 hz2 rfl (by decide) (.slice na N.length nc) _ _ rfl (HNz.out.alloc _) ⟨wz.heap.size, 0, none⟩ 1 1 [.string f.path, .string f.data] rfl rfl (cellNew2 _ _ _ _) (one2 rfl rfl) (by unfold maxLen; omega) (by omega) (by rw [World.size_alloc]; omega) ?_; intro v' w9 hown' hgrow _; have HOWN := hid hown'; have HGR := hid hgrow; clear hown' hgrow)
              obtain ⟨na', nc', rfl, hnc'⟩ := own_slice' HOWN.out
              have HN9 : Hid (w9.ownsRow g2 71 2 (.slice na' (N.length + 1) nc') (N.length + 1) (fivals (N ++ [f]))) := by
                have h := HOWN.out
                rw [fivals_append]; exact h
              have HS9 : Hid (Below g2 wz w9) := ((Below.refl g2 wz).alloc hgz _).grown HGR.out (by rw [World.size_alloc]; omega) (fun j hj => (HNz.out.lt j hj).1)
              have HX9 : Hid (Below g2 wo w9) := HXz.out.trans HS9.out
              have c0 : w9.cell? ⟨og, k * 2, none⟩ = some (.string y.path) := (HS9.out.cell (p := ⟨og, k * 2, none⟩) hog).trans x0
              have c1 : w9.cell? ⟨og, k * 2 + 1, none⟩ = some (.string y.data) := (HS9.out.cell (p := ⟨og, k * 2 + 1, none⟩) hog).trans x1
              have hg9 : g2 ≤ w9.heap.size := by have := HX9.out.size; rw [HG2.out] at this; exact this
              clear f0 f1 x0 x1 HOWN HGR HNz HXz HS9
              rename World => wy
              go_wp2_with (at_builtin; refine wpList_append_own _ rfl (.tmp 45) (.tmp 50) 34 rfl g2 71 i0 (.agg #[.string ⟨#[]⟩, .string ⟨#[]⟩]) 2 32 Tryz.underlying34 hi0 hz0 hz1 hz2 rfl (by decide) (.slice na' (N.length + 1) nc') _ _ rfl (HN9.out.alloc _) ⟨wy.heap.size, 0, none⟩ 1 1 [.string y.path, .string y.data] rfl rfl (cellNew2 _ _ _ _) (one2 rfl rfl) (by unfold maxLen; omega) (by omega) (by rw [World.size_alloc]; omega) ?_; intro v' w9 hown' hgrow _; have HOWN := hid hown'; have HGR := hid hgrow; clear hown' hgrow)
              obtain ⟨nb, nd, rfl, hnd⟩ := own_slice' HOWN.out
              have HNN : Hid (w9.ownsRow g2 71 2 (.slice nb ((N.length + 1) + 1) nd) ((N ++ [f]) ++ [y]).length (fivals ((N ++ [f]) ++ [y]))) := by
                have h := HOWN.out
                have e : ((N ++ [f]) ++ [y]).length = (N.length + 1) + 1 := by simp
                rw [e, fivals_append]; exact h
              have HXX : Hid (Below g2 wo w9) := (HX9.out.alloc (by omega) _).grown HGR.out (by rw [World.size_alloc]; omega) (fun j hj => (HN9.out.lt j hj).1)
              go_roundw
              case rel => first | exact ⟨k + 1, _, true, by omega, by go_num, rfl, HNN, HXX, HMN⟩ | ((repeat apply Exists.intro); exact ⟨⟨k + 1, _, true, by omega, by go_num, rfl, HNN, HXX, HMN⟩, rfl⟩)
              case measure => simp [intOf]; omega
            · have HMN := hid (HMD.out.miss HD.out hcm)
              generalize compareR f.path.data.toList y.path.data.toList = cr at HC hcm
              go_wp2_with fail
              refine wp_region_after (by kernel_rfl) (by kernel_rfl) ?_
              repeat (go_big_quiet_step ((first | (go_at_call 37; with_reducible exact calls_after (HC.out _)))))
              refine wpQuiet_nil ?_
              intro _ hw'
              obtain ⟨z, rfl⟩ := hw'
              have HNz : Hid (z.val.ownsRow g2 71 2 (.slice na N.length nc) N.length (fivals N)) := own_below HN.out z.below
              have HXz : Hid (Below g2 wo z.val) := HX.out.trans (z.below.mono hgx)
              have f0 := EF z
              have f1 := EG z
              have x0 := EX z
              have x1 := EY z
              have hgz : g2 ≤ z.val.heap.size := by have := HXz.out.size; rw [HG2.out] at this; exact this
              generalize z.val = wz at HNz HXz f0 f1 x0 x1 hgz ⊢
              clear EF EG EX EY HC HN HX z
              go_wp2_with (at_builtin; refine wpList_append_own _ rfl (.tmp 45) (.tmp 50) 34 rfl g2 71 i0 (.agg #[.string ⟨#[]⟩, .string ⟨#[]⟩]) 2 32 Tryz.underlying34 hi0 hz0 hz1 hz2 rfl (by decide) (.slice na N.length nc) _ _ rfl (HNz.out.alloc _) ⟨wz.heap.size, 0, none⟩ 1 1 [.string y.path, .string y.data] rfl rfl (cellNew2 _ _ _ _) (one2 rfl rfl) (by unfold maxLen; omega) (by omega) (by rw [World.size_alloc]; omega) ?_; intro v' w9 hown' hgrow _; have HOWN := hid hown'; have HGR := hid hgrow; clear hown' hgrow)
              obtain ⟨nb, nd, rfl, hnd⟩ := own_slice' HOWN.out
              have HNN : Hid (w9.ownsRow g2 71 2 (.slice nb (N.length + 1) nd) (N ++ [y]).length (fivals (N ++ [y]))) := by
                have h := HOWN.out
                have e : (N ++ [y]).length = N.length + 1 := by simp
                rw [e, fivals_append]; exact h
              have HXX : Hid (Below g2 wo w9) := (HXz.out.alloc (by omega) _).grown HGR.out (by rw [World.size_alloc]; omega) (fun j hj => (HNz.out.lt j hj).1)
              go_roundw
              case rel => first | exact ⟨k + 1, _, false, by omega, by go_num, rfl, HNN, HXX, HMN⟩ | ((repeat apply Exists.intro); exact ⟨⟨k + 1, _, false, by omega, by go_num, rfl, HNN, HXX, HMN⟩, rfl⟩)
              case measure => simp [intOf]; omega
          · have HMN := hid (HMD.out.done HD.out)
            go_wp2_with fail
            refine wp_region_after (by kernel_rfl) (by kernel_rfl) ?_
            repeat (go_big_quiet_step (fail))
            refine wpQuiet_nil ?_
            intro _ hw'
            obtain ⟨z, rfl⟩ := hw'
            have HNz : Hid (z.val.ownsRow g2 71 2 (.slice na N.length nc) N.length (fivals N)) := own_below HN.out z.below
            have HXz : Hid (Below g2 wo z.val) := HX.out.trans (z.below.mono hgx)
            have f0 := EF z
            have f1 := EG z
            have x0 := EX z
            have x1 := EY z
            have hgz : g2 ≤ z.val.heap.size := by have := HXz.out.size; rw [HG2.out] at this; exact this
            generalize z.val = wz at HNz HXz f0 f1 x0 x1 hgz ⊢
            clear EF EG EX EY HC HN HX z
            go_wp2_with (at_builtin; refine wpList_append_own _ rfl (.tmp 45) (.tmp 50) 34 rfl g2 71 i0 (.agg #[.string ⟨#[]⟩, .string ⟨#[]⟩]) 2 32 Tryz.underlying34 hi0 hz0 hz1 hz2 rfl (by decide) (.slice na N.length nc) _ _ rfl (HNz.out.alloc _) ⟨wz.heap.size, 0, none⟩ 1 1 [.string y.path, .string y.data] rfl rfl (cellNew2 _ _ _ _) (one2 rfl rfl) (by unfold maxLen; omega) (by omega) (by rw [World.size_alloc]; omega) ?_; intro v' w9 hown' hgrow _; have HOWN := hid hown'; have HGR := hid hgrow; clear hown' hgrow)
            obtain ⟨nb, nd, rfl, hnd⟩ := own_slice' HOWN.out
            have HNN : Hid (w9.ownsRow g2 71 2 (.slice nb (N.length + 1) nd) (N ++ [y]).length (fivals (N ++ [y]))) := by
              have h := HOWN.out
              have e : (N ++ [y]).length = N.length + 1 := by simp
              rw [e, fivals_append]; exact h
            have HXX : Hid (Below g2 wo w9) := (HXz.out.alloc (by omega) _).grown HGR.out (by rw [World.size_alloc]; omega) (fun j hj => (HNz.out.lt j hj).1)
            go_roundw
            case rel => first | exact ⟨k + 1, _, true, by omega, by go_num, rfl, HNN, HXX, HMN⟩ | ((repeat apply Exists.intro); exact ⟨⟨k + 1, _, true, by omega, by go_num, rfl, HNN, HXX, HMN⟩, rfl⟩)
            case measure => simp [intOf]; omega
        · obtain rfl : k = i := by omega
          have ck : ¬ (k : Int) < k := by omega
          cases dn
          · have HE := hid (HT.out.trans (HMD.out.end_not (by rw [HOL.out]; exact Nat.le_refl _)))
            have hNk : N.length = k := HMD.out.2
            go_wp2_with (at_builtin; refine wpList_append_own _ rfl (.tmp 54) (.tmp 59) 34 rfl g2 71 i0 (.agg #[.string ⟨#[]⟩, .string ⟨#[]⟩]) 2 32 Tryz.underlying34 hi0 hz0 hz1 hz2 rfl (by decide) (.slice na N.length nc) _ _ rfl (HN.out.alloc _) ⟨wr.heap.size, 0, none⟩ 1 1 [.string f.path, .string f.data] rfl rfl (cellNew2 _ _ _ _) (one2 rfl rfl) (by unfold maxLen; omega) (by omega) (by rw [World.size_alloc]; omega) ?_; intro v' w9 hown' hgrow _; have HOWN := hid hown'; have HGR := hid hgrow; clear hown' hgrow)
            obtain ⟨nb, nd, rfl, hnd⟩ := own_slice' HOWN.out
            have HNN : Hid (w9.ownsRow g 71 2 (.slice nb (N.length + 1) nd) (k + 1) (fivals (sortF (l.take (k + 1))))) := by
              have h := own_mono HOWN.out hgr
              rw [hNk] at h ⊢
              rw [HE.out, fivals_append]; exact h
            have HXX : Hid (Below g w w9) := HB.out.trans (((HX.out.alloc hgx _).grown HGR.out (by rw [World.size_alloc]; omega) (fun j hj => (HN.out.lt j hj).1)).mono hgr)
            have HNK := hid hNk
            clear hNk
            go_wp2_with fail
            go_roundw
            case rel => first | exact ⟨k + 1, by omega, by go_num, HNN, HXX⟩ | ((repeat apply Exists.intro); exact ⟨⟨k + 1, by omega, by go_num, HNN, HXX⟩, rfl⟩)
            case measure => simp [intOf]; omega
          · have HE := hid (HT.out.trans (HMD.out.end_done (by rw [HOL.out]; exact Nat.le_refl _)))
            have hNk : N.length = k + 1 := HMD.out.2
            have HNN : Hid (wr.ownsRow g 71 2 (.slice na N.length nc) (k + 1) (fivals (sortF (l.take (k + 1))))) := by
              have h := own_mono HN.out hgr
              rw [HE.out]
              rw [hNk] at h ⊢
              exact h
            have HXX : Hid (Below g w wr) := HB.out.trans (HX.out.mono hgr)
            clear hNk
            go_wp2_with fail
            go_roundw
            case rel => first | exact ⟨k + 1, by omega, by go_num, HNN, HXX⟩ | ((repeat apply Exists.intro); exact ⟨⟨k + 1, by omega, by go_num, HNN, HXX⟩, rfl⟩)
            case measure => simp [intOf]; omega
    · obtain rfl : i = n := by omega
      have ci : ¬ (i : Int) < i := by omega
      have HE : Hid (FisAt wr va i (sortF l)) := by
        have h := HO.out
        rw [List.take_of_length_le (by rw [HL.out]; exact Nat.le_refl _)] at h
        have hl : (sortF l).length = i := by rw [sortF_len]; exact HL.out
        have h2 : wr.ownsRow g 71 2 (.slice va i vc) (sortF l).length (fivals (sortF l)) := by rw [hl]; exact h
        obtain ⟨a', c', he, hst⟩ := own_fis h2 (by omega)
        injection he with e1 e2 e3
        rw [hl, ← e1] at hst
        exact hst
      go_wp2_with fail
      go_ret
      unfold SortedOut
      rw [HG.out]
      exact ⟨_, _, rfl, HE.out, HB.out⟩
end Go.Proofs.YtlenfiiocmchdaaGreatDoor
/- Layer 15's laws: what is appended to an own row may be an empty or a nil slice too; files and texts that lie anywhere. -/
namespace Go.Proofs.YtlenfiiocmchdaaGreatDoor
open Go.RowKit Book Pap Ojt Sn
set_option linter.unusedVariables false
set_option linter.unusedSimpArgs false

/-- what lies where an append reads -/
def NewsAt (w : World) (size : Nat) (a : Option Addr) (m : Nat) (news : List Value) : Prop :=
  (m = 0 ∧ news = []) ∨ ∃ ad, a = some ad ∧ news.length = m * size ∧ (∀ j u, news[j]? = some u → w.cell? (ad.add j) = some u) ∧ (∀ u ∈ news, u.oneCell' = true)
theorem run_append_any {P : Program} (w : World) (base : Nat) (t ty e : TypeId) (i : TypeInfo) (z : Value) (size bytes : Nat) (ht : P.underlying t = some (.slice e)) (hi : P.info? e = some i) (hz : i.zero = some z)
    (hsize : i.size = size) (hby : i.bytes = bytes) (hzs : z.cells.size = size) (hsz : 0 < size) (v : Value) (n : Nat) (xs : List Value) (hown : w.ownsRow base e size v n xs)
    (a : Option Addr) (m c : Nat) (news : List Value) (hx : NewsAt w size a m news) (h63 : n + m ≤ maxLen) (hbytes : (n + m) * bytes ≤ 140737488355328) (hbase : base ≤ w.heap.size) :
    ∃ a' c' w', (Builtin.append_ #[t, t] ty #[v, .slice a m c]).run P w = .ok (.slice a' (n + m) c') w' ∧ w'.ownsRow base e size (.slice a' (n + m) c') (n + m) (xs ++ news) ∧ ∀ V : World, Below base V w → Below base V w' := by
  rcases hx with ⟨rfl, rfl⟩ | ⟨ad, rfl, hl, hnews, h1⟩
  · obtain ⟨va, vc, rfl, hvc⟩ := own_slice' hown
    have hsrc : Src P i.size t (.slice a 0 c) 0 [] w := by
      cases a with
      | none => exact Src.ofNil w ht c
      | some ad => exact Src.ofSlice w ht ad 0 c [] (by simp) (fun j u h => by cases h) (fun u h => by cases h)
    refine ⟨va, vc, w, run_append_nothing w t t ty e i ht hi va n vc hvc (.slice a 0 c) hsrc, ?_, fun _ h => h⟩
    rw [Nat.add_zero, List.append_nil]; exact hown
  · obtain ⟨v', w', hr, h2, h3, h4, h5⟩ := run_append_own_at (P := P) w base t ty e i z size bytes ht hi hz hsize hby hzs hsz v n xs hown ad m c news hl hnews h1 h63 hbytes hbase
    obtain ⟨va, vc, rfl, hvc⟩ := own_slice' h2
    exact ⟨va, vc, w', hr, h2, fun V hV => hV.grown h3 hbase (fun k hk => (hown.lt k hk).1)⟩
theorem FisAt.news {w : World} {a : Option Addr} {m : Nat} {l : List Fi} (h : FisAt w a m l) : NewsAt w 2 a m (fivals l) := by
  obtain ⟨h1, h2, h3⟩ := h
  rcases h3 with rfl | ⟨b, off, rfl, hc⟩
  · exact .inl ⟨rfl, by rw [List.length_eq_zero_iff.1 h1]; rfl⟩
  · refine .inr ⟨_, rfl, by rw [fivals_length, h1], fun j u hu => ?_, fun u hu => ?_⟩
    · have hj : j < m * 2 := by
        have := (List.getElem?_eq_some_iff.1 hu).1
        rw [fivals_length, h1] at this; exact this
      have hq : j / 2 < m := by omega
      obtain ⟨x0, x1⟩ := fivals_get l (j / 2) (by omega)
      obtain ⟨c0, c1⟩ := hc (j / 2) hq
      rw [Addr.add_lit]
      rcases Nat.mod_two_eq_zero_or_one j with hm | hm
      · have e : j = j / 2 * 2 := by omega
        rw [e, x0] at hu
        rw [e, c0]; exact hu
      · have e : j = j / 2 * 2 + 1 := by omega
        rw [e, x1] at hu
        rw [e, ← Nat.add_assoc, c1]; exact hu
    · unfold fivals at hu
      obtain ⟨f, -, hf⟩ := List.mem_flatMap.1 hu
      unfold ficells at hf
      simp only [List.mem_cons, List.not_mem_nil, or_false] at hf
      rcases hf with rfl | rfl <;> rfl
theorem StrsAt.news {w : World} {a : Option Addr} {m : Nat} {l : List ByteArray} (h : StrsAt w a m l) : NewsAt w 1 a m (svals l) := by
  obtain ⟨h1, h2, h3⟩ := h
  rcases h3 with rfl | ⟨b, off, rfl, hc⟩
  · exact .inl ⟨rfl, by rw [List.length_eq_zero_iff.1 h1]; rfl⟩
  · refine .inr ⟨_, rfl, by unfold svals; rw [List.length_map, h1, Nat.mul_one], fun j u hu => ?_, fun u hu => ?_⟩
    · unfold svals at hu
      rw [List.getElem?_map] at hu
      have hj : j < l.length := by
        rcases Nat.lt_or_ge j l.length with h | h
        · exact h
        · rw [List.getElem?_eq_none h] at hu; cases hu
      rw [Addr.add_lit, hc j (by omega), List.getD_eq_getElem?_getD]
      rw [List.getElem?_eq_getElem hj] at hu ⊢
      exact hu
    · unfold svals at hu
      obtain ⟨s, -, rfl⟩ := List.mem_map.1 hu
      rfl
theorem wp_append_fis {o : Oper} {a : Act} {w : World} {K : Act → World → Prop} {Q : Exit → Act → World → Prop} (s x : Operand) (t : TypeId) (hty : Tryz.prog.underlying t = some (.slice 71))
    (ho : o.op = .call { callee := .builtin .append, args := #[s, x], argTypes := #[t, t] })
    (base : Nat) (v : Value) (n : Nat) (xs : List Fi) (hs : a.eval s = v) (hown : w.ownsRow base 71 2 v n (fivals xs)) (ao : Option Addr) (m c : Nat) (l : List Fi) (hx : a.eval x = .slice ao m c) (hl : FisAt w ao m l)
    (hb : n + m ≤ 1000000) (hbase : base ≤ w.heap.size)
    (h : ∀ a' c' w', w'.ownsRow base 71 2 (.slice a' (n + m) c') (n + m) (fivals (xs ++ l)) → (∀ V : World, Below base V w → Below base V w') → K (a.put o.dst (.slice a' (n + m) c')) w') : o.wp Tryz.prog a w K Q := by
  obtain ⟨i0, hi0, hz0, hz1, hz2⟩ := info_parts Tryz.infoFi
  obtain ⟨a', c', w', hr, h2, h3⟩ := run_append_any (P := Tryz.prog) w base t o.type 71 i0 _ 2 32 hty hi0 hz0 hz1 hz2 rfl (by decide) v n (fivals xs) hown ao m c (fivals l) hl.news (by unfold maxLen; omega) (by omega) hbase
  unfold Oper.wp execOp
  simp only [ho, resolve, invoke, builtin, Sem.run_bind, Sem.run_pure, Result.andThen_ok, List.map_toArray, List.map_cons, List.map_nil, hs, hx, hr]
  exact h a' c' w' (by rw [fivals_append]; exact h2) h3
theorem step_append_fis {ops : Array Oper} {o : Oper} {a : Act} {w : World} {K : Act → World → Prop} {Q : Exit → Act → World → Prop} {E : Prop} (hgd : o.guard = none) (s x : Operand) (t : TypeId) (hty : Tryz.prog.underlying t = some (.slice 71))
    (ho : o.op = .call { callee := .builtin .append, args := #[s, x], argTypes := #[t, t] })
    (base : Nat) (v : Value) (n : Nat) (xs : List Fi) (hs : a.eval s = v) (hown : w.ownsRow base 71 2 v n (fivals xs)) (ao : Option Addr) (m c : Nat) (l : List Fi) (hx : a.eval x = .slice ao m c) (hl : FisAt w ao m l)
    (hb : n + m ≤ 1000000) (hbase : base ≤ w.heap.size)
    (h : ∀ a' c' w', w'.ownsRow base 71 2 (.slice a' (n + m) c') (n + m) (fivals (xs ++ l)) → (∀ V : World, Below base V w → Below base V w') → K (a.put o.dst (.slice a' (n + m) c')) w') :
    if Region.wanted o (yielded ops a.tmps) = true then Oper.wp Tryz.prog o a w K Q else E := by
  have hw : Region.wanted o (yielded ops a.tmps) = true := by simp [Region.wanted, hgd]
  rw [if_pos hw]
  exact wp_append_fis s x t hty ho base v n xs hs hown ao m c l hx hl hb hbase h
theorem wp_append_strs {o : Oper} {a : Act} {w : World} {K : Act → World → Prop} {Q : Exit → Act → World → Prop} (s x : Operand)
    (ho : o.op = .call { callee := .builtin .append, args := #[s, x], argTypes := #[56, 56] })
    (base : Nat) (v : Value) (n : Nat) (xs : List ByteArray) (hs : a.eval s = v) (hown : w.ownsRow base 9 1 v n (svals xs)) (ao : Option Addr) (m c : Nat) (l : List ByteArray) (hx : a.eval x = .slice ao m c) (hl : StrsAt w ao m l)
    (hb : n + m ≤ 1000000) (hbase : base ≤ w.heap.size)
    (h : ∀ a' c' w', w'.ownsRow base 9 1 (.slice a' (n + m) c') (n + m) (svals (xs ++ l)) → (∀ V : World, Below base V w → Below base V w') → K (a.put o.dst (.slice a' (n + m) c')) w') : o.wp Tryz.prog a w K Q := by
  obtain ⟨i0, hi0, hz0, hz1, hz2⟩ := info_parts Tryz.infoS
  obtain ⟨a', c', w', hr, h2, h3⟩ := run_append_any (P := Tryz.prog) w base 56 o.type 9 i0 _ 1 16 Tryz.underlying56 hi0 hz0 hz1 hz2 rfl (by decide) v n (svals xs) hown ao m c (svals l) hl.news (by unfold maxLen; omega) (by omega) hbase
  unfold Oper.wp execOp
  simp only [ho, resolve, invoke, builtin, Sem.run_bind, Sem.run_pure, Result.andThen_ok, List.map_toArray, List.map_cons, List.map_nil, hs, hx, hr]
  exact h a' c' w' (by unfold svals at h2 ⊢; rw [List.map_append]; exact h2) h3
theorem wpList_append_strs {ops : Array Oper} {rest : List Oper} {o : Oper} {a : Act} {w : World} {Q : Exit → Act → World → Prop} (hgd : Region.wanted o (yielded ops a.tmps) = true) (s x : Operand)
    (ho : o.op = .call { callee := .builtin .append, args := #[s, x], argTypes := #[56, 56] })
    (base : Nat) (v : Value) (n : Nat) (xs : List ByteArray) (hs : a.eval s = v) (hown : w.ownsRow base 9 1 v n (svals xs)) (ao : Option Addr) (m c : Nat) (l : List ByteArray) (hx : a.eval x = .slice ao m c) (hl : StrsAt w ao m l)
    (hb : n + m ≤ 1000000) (hbase : base ≤ w.heap.size)
    (h : ∀ a' c' w', w'.ownsRow base 9 1 (.slice a' (n + m) c') (n + m) (svals (xs ++ l)) → (∀ V : World, Below base V w → Below base V w') → wpList Tryz.prog ops Q rest (a.put o.dst (.slice a' (n + m) c')) w') :
    wpList Tryz.prog ops Q (o :: rest) a w :=
  BigFrame.wpList_want hgd fun K hK => wp_append_strs s x ho base v n xs hs hown ao m c l hx hl hb hbase fun a' c' w' h1 h2 => hK _ _ (h a' c' w' h1 h2)
theorem own_files {w : World} {B : Nat} {v : Value} {n : Nat} {l : List Fi} (h : w.ownsRow B 71 2 v n (fivals l)) (hm : n ≤ 9223372036854775807) : ∃ a c, v = .slice a n c ∧ FisAt w a n l := by
  obtain rfl : l.length = n := by have := h.1; rw [fivals_length] at this; omega
  exact own_fis h hm
theorem own_texts {w : World} {B : Nat} {v : Value} {n : Nat} {l : List ByteArray} (h : w.ownsRow B 9 1 v n (svals l)) (hm : n ≤ 9223372036854775807) : ∃ a c, v = .slice a n c ∧ StrsAt w a n l := by
  obtain rfl : l.length = n := by have := h.1; unfold svals at this; rw [List.length_map] at this; omega
  exact own_strs h hm
theorem own_noneSt (w : World) : (w.alloc (.cells #[] 9)).ownsRow w.heap.size 9 1 (.slice (some ⟨w.heap.size, 0, none⟩) 0 0) 0 (svals []) :=
  ⟨rfl, .inr ⟨w.heap.size, 0, #[], rfl, Nat.le_refl _, by show (w.heap.push _)[w.heap.size]? = _; simp, Nat.le_refl _, by unfold maxLen; omega, rfl, rfl⟩⟩
/-- parts of what lies in memory -/
theorem FisAt.drop {w : World} {b off n k : Nat} {l : List Fi} (h : FisAt w (some ⟨b, off, none⟩) n l) (hk : k ≤ n) : FisAt w (some ⟨b, off + k * 2, none⟩) (n - k) (l.drop k) := by
  obtain ⟨h1, h2, h3⟩ := h
  refine ⟨by rw [List.length_drop, h1], by omega, ?_⟩
  rcases Nat.eq_or_lt_of_le hk with rfl | hlt
  · exact .inl (by omega)
  refine .inr ⟨b, off + k * 2, rfl, fun j hj => ?_⟩
  obtain ⟨b', off', e, hc⟩ := h3.resolve_left (by omega)
  cases e
  obtain ⟨c0, c1⟩ := hc (k + j) (by omega)
  have e : (l.drop k).getD j noFi = l.getD (k + j) noFi := by simp [List.getD_eq_getElem?_getD, List.getElem?_drop]
  rw [e, show off + k * 2 + j * 2 = off + (k + j) * 2 by omega]
  exact ⟨c0, c1⟩
theorem FisAt.take {w : World} {a : Option Addr} {n k : Nat} {l : List Fi} (h : FisAt w a n l) (hk : k ≤ n) : FisAt w a k (l.take k) := by
  obtain ⟨h1, h2, h3⟩ := h
  refine ⟨by rw [List.length_take, h1]; omega, by omega, ?_⟩
  rcases Nat.eq_zero_or_pos k with rfl | hp
  · exact .inl rfl
  obtain ⟨b', off', e, hc⟩ := h3.resolve_left (by omega)
  refine .inr ⟨b', off', e, fun j hj => ?_⟩
  obtain ⟨c0, c1⟩ := hc j (by omega)
  have e : (l.take k).getD j noFi = l.getD j noFi := by simp [List.getD_eq_getElem?_getD, List.getElem?_take, hj]
  rw [e]
  exact ⟨c0, c1⟩
end Go.Proofs.YtlenfiiocmchdaaGreatDoor
/- Layer 15's laws: plain: what Build hands back. -/
namespace Go.Proofs.YtlenfiiocmchdaaGreatDoor
open Go.RowKit Book Pap Ojt Sn
set_option linter.unusedVariables false
set_option linter.unusedSimpArgs false

theorem buildS_ok {l : List Fi} : (buildS l).2 = 0 ↔ OkFs l := by
  rw [← checkF_iff]
  unfold buildS
  split
  · rename_i h; exact ⟨fun _ => h, fun _ => rfl⟩
  · rfl
theorem buildS_of {l : List Fi} (h : OkFs l) : buildS l = (treeS 64 (l.map flOf) [], 0) := by
  unfold buildS
  rw [if_pos ((checkF_iff l).2 h)]
theorem buildS_perm {l m : List Fi} (h : (buildS l).2 = 0) (p : m.Perm l) : buildS m = buildS l := by
  have hl := buildS_ok.1 h
  have hm := hl.perm p.symm
  rw [buildS_of hl, buildS_of hm, treeS_perm 64 _ _ [] hm.apt (p.map flOf)]
theorem buildS_root {l : List Fi} (h : (buildS l).2 = 0) : (buildS l).1.2 = tid 64 (l.map flOf) := by
  rw [buildS_of (buildS_ok.1 h)]
  exact (treeS_mem 64 _ []).1
theorem buildS_mem {l : List Fi} (h : (buildS l).2 = 0) (s : ByteArray) : s ∈ (buildS l).1.1 ↔ s ∈ texts 64 (l.map flOf) := by
  rw [buildS_of (buildS_ok.1 h)]
  have := (treeS_mem 64 (l.map flOf) []).2 s
  rw [this]; simp
theorem texts_enc : ∀ (d : Nat) (fs : List Fl) (t : ByteArray), t ∈ texts d fs → ∃ x, t = encP x
  | 0, fs, t, h => by cases h
  | d + 1, fs, t, h => by
    rcases List.mem_append.1 h with h | h
    · obtain ⟨n, -, h⟩ := List.mem_flatMap.1 h
      unfold textOf at h
      split at h
      · exact ⟨_, List.mem_singleton.1 h⟩
      · exact texts_enc d _ t h
    · exact ⟨_, List.mem_singleton.1 h⟩
theorem texts_size {d : Nat} {fs : List Fl} {t : ByteArray} (h : t ∈ texts d fs) : t.size ≤ 100000 := by
  obtain ⟨x, rfl⟩ := texts_enc d fs t h
  exact encP_size x
theorem buildS_size {l : List Fi} (h : (buildS l).2 = 0) : ∀ s ∈ (buildS l).1.1, s.size ≤ 100000 := fun s hs => texts_size ((buildS_mem h s).1 hs)
theorem buildS_few {l : List Fi} (h : (buildS l).2 = 0) (hl : l.length ≤ 60) : (buildS l).1.1.length ≤ 3841 := by
  have hk := buildS_ok.1 h
  rw [buildS_of hk]
  have h1 := treeS_cnt 64 (l.map flOf) []
  have h2 := wt_le (k := 64) (l.map flOf) (fun f hf => hk.len f hf)
  rw [List.length_map] at h2
  simp only [List.length_nil] at h1
  have : l.length * 64 ≤ 60 * 64 := Nat.mul_le_mul_right _ hl
  simp only
  omega
theorem same_law {a b : List Fi} (ha : (buildS a).2 = 0) (hb : (buildS b).2 = 0) (na : a.length ≤ 60) (nb : b.length ≤ 60) (hL : Sw.Apart ((buildS a).1.1 ++ (buildS b).1.1)) :
    (buildS a).1.2 = (buildS b).1.2 ↔ sortF a = sortF b := by
  rw [buildS_root ha, buildS_root hb]
  exact same_tree (buildS_ok.1 ha) (buildS_ok.1 hb) na nb hL (fun t ht => List.mem_append.2 (.inl ((buildS_mem ha t).2 ht))) (fun t ht => List.mem_append.2 (.inr ((buildS_mem hb t).2 ht)))
theorem rot_perm {α : Type} (l : List α) (k : Nat) : (l.drop k ++ l.take k).Perm l := by
  have h := List.perm_append_comm (l₁ := l.drop k) (l₂ := l.take k)
  rw [List.take_append_drop] at h
  exact h
theorem sumF_each {l : List Fi} {m : Nat} (h : sumF l ≤ m) : ∀ f ∈ l, f.path.size ≤ m ∧ f.data.size ≤ m := by
  induction l with
  | nil => intro f hf; cases hf
  | cons x r ih =>
    have e : sumF (x :: r) = x.path.size + x.data.size + sumF r := by unfold sumF; simp
    rw [e] at h
    intro f hf
    rcases List.mem_cons.1 hf with rfl | hf
    · omega
    · exact ih (by omega) f hf
end Go.Proofs.YtlenfiiocmchdaaGreatDoor
/- Layer 15's laws: plain: a commit of files without parents. -/
namespace Go.Proofs.YtlenfiiocmchdaaGreatDoor
open Go.RowKit Book Pap Ojt Sn
set_option linter.unusedVariables false
set_option linter.unusedSimpArgs false

/-- the objects of a commit of files that have no parents -/
def comL (l : List Fi) (note : ByteArray) : List ByteArray := (layS (treeS 64 (l.map flOf) []).1 (commitOf (tid 64 (l.map flOf)) [] 0 note)).1
def comI (l : List Fi) (note : ByteArray) : ByteArray := Sw.idOf (encP (commitOf (tid 64 (l.map flOf)) [] 0 note))
theorem commit_is {G : Sw.Src} {l : List Fi} {note : ByteArray} (h : OkFs l) (hn : note.size ≤ 1000) : commitS G l [] note = ((comL l note, comI l note), 0) := by
  rw [commit_ok h hn]; rfl
theorem commit_not {G : Sw.Src} {l : List Fi} {note : ByteArray} (h : ¬ OkFs l) : (commitS G l [] note).2 ≠ 0 := by
  have hb : (buildS l).2 ≠ 0 := fun e => h (buildS_ok.1 e)
  unfold commitS
  rw [if_pos hb]
  exact hb
theorem comL_size {l : List Fi} {note : ByteArray} : ∀ s ∈ comL l note, s.size ≤ 100000 := fun s hs => by
  rcases commit_mem.1 hs with h | rfl
  · exact texts_size h
  · exact encP_size _
theorem comL_len {l : List Fi} {note : ByteArray} (h : OkFs l) (hl : l.length ≤ 60) : (comL l note).length ≤ 3842 := by
  have h1 := layS_le (treeS 64 (l.map flOf) []).1 (commitOf (tid 64 (l.map flOf)) [] 0 note)
  have h2 := buildS_few (buildS_ok.2 h) hl
  rw [buildS_of h] at h2
  simp only at h2
  unfold comL
  omega
theorem comL_cov {l : List Fi} {note : ByteArray} {L : List ByteArray} (hL : Sw.Apart L) (hi : ∀ t ∈ comL l note, t ∈ L) : Cov (getF (itemsS L)) (comL l note) := fun t ht => items_cov hL t (hi t ht)
theorem com_look {l : List Fi} {note : ByteArray} {L : List ByteArray} (hn : note.size ≤ 1000) (hL : Sw.Apart L) (hi : ∀ t ∈ comL l note, t ∈ L) (lacks : Int) : lookK (getF (itemsS L)) (comI l note) 3 lacks = (commitOf (tid 64 (l.map flOf)) [] 0 note, 0) :=
  commit_look hn (comL_cov hL hi _ (commit_mem.2 (.inr rfl))) lacks
theorem com_find {l : List Fi} {note p : ByteArray} {L : List ByteArray} (h : OkFs l) (hn : note.size ≤ 1000) (hL : Sw.Apart L) (hi : ∀ t ∈ comL l note, t ∈ L) :
    (p.size ≠ 0 → FoldIs l p (findS (getF (itemsS L)) (comI l note) p)) ∧ (p.size = 0 → findS (getF (itemsS L)) (comI l note) p = (⟨ByteArray.empty, 2, tid 64 (l.map flOf)⟩, 0)) := by
  have hk := com_look (l := l) hn hL hi 12
  refine ⟨fun hp => folders_plain h hp (fun t ht => comL_cov hL hi t (commit_mem.2 (.inl ht))) hk rfl, fun hp => ?_⟩
  unfold findS
  rw [if_neg (fun e => e.1 hp), hk, if_neg (by simp), if_pos hp]
  rfl
theorem com_list {l : List Fi} {note : ByteArray} {L : List ByteArray} (h : OkFs l) (h60 : l.length ≤ 60) (hn : note.size ≤ 1000) (hL : Sw.Apart L) (hi : ∀ t ∈ comL l note, t ∈ L) : listS (getF (itemsS L)) (comI l note) = ((sortF l).map blobEnt, 0) :=
  commit_list h h60 hn (fun t ht => comL_cov hL hi t ht)
theorem within_cut {p f : ByteArray} (h : withinR p.data.toList f.data.toList = true) : p.size + 1 ≤ f.size := by
  by_cases hp : splitE p.data.toList = 0
  · by_cases hf : splitE f.data.toList = 0
    · obtain ⟨r, h1, -⟩ := strip_cut hp hf h
      have := congrArg List.length h1
      rw [List.length_append, List.length_cons] at this
      have e1 : f.data.toList.length = f.size := Array.length_toList
      have e2 : p.data.toList.length = p.size := Array.length_toList
      omega
    · rw [within_no (.inr hf)] at h; cases h
  · rw [within_no (.inl hp)] at h; cases h
/-- does a file stand at a path? -/
def atF (p : ByteArray) (l : List Fi) : Bool := l.any (fun f => f.path.toList == p.toList)
theorem atF_iff {p : ByteArray} {l : List Fi} : atF p l = true ↔ ∃ f ∈ l, f.path = p := by
  unfold atF
  rw [List.any_eq_true]
  constructor
  · rintro ⟨f, hf, e⟩
    exact ⟨f, hf, ba_ext (by rw [← ba_toList, ← ba_toList]; exact eq_of_beq e)⟩
  · rintro ⟨f, hf, rfl⟩
    exact ⟨f, hf, by simp⟩
theorem atF_snoc {p : ByteArray} {l : List Fi} {f : Fi} : atF p (l ++ [f]) = (atF p l || (f.path.toList == p.toList)) := by
  unfold atF; simp
theorem inF_snoc {p : ByteArray} {l : List Fi} {f : Fi} : inF p (l ++ [f]) = inF p l ++ (if withinR p.data.toList f.path.data.toList = true then [stripF p f] else []) := by
  unfold inF
  rw [List.filterMap_append]
  congr 1
  unfold inOne
  split <;> simp_all
theorem inF_size {p : ByteArray} {l : List Fi} {m : Nat} (h : ∀ f ∈ l, f.path.size ≤ m ∧ f.data.size ≤ m) : ∀ f ∈ inF p l, f.path.size ≤ m ∧ f.data.size ≤ m := fun f hf => by
  obtain ⟨g, hg, e⟩ := List.mem_filterMap.1 hf
  unfold inOne at e
  split at e
  · cases e
    have := h g hg
    refine ⟨?_, this.2⟩
    show (g.path.extract (p.size + 1) g.path.size).size ≤ m
    rw [ByteArray.size_extract]
    omega
  · cases e
end Go.Proofs.YtlenfiiocmchdaaGreatDoor
/- What an object names: how links stand to each other (object.Links$1). -/
namespace Go.Proofs.YtlenfiiocmchdaaGreatDoor
open Go.RowKit Book Pap Ojt Go.Sort
set_option linter.unusedVariables false
set_option linter.unusedSimpArgs false

def valK (x : Lnk) : Value := .agg #[.int .i64 x.kind, .string x.id]
def cmpK (a b : Lnk) : Int := orZ (Lib.compareBytes a.id.data.toList b.id.data.toList) (Lib.compareInt a.kind b.kind)
set_option maxRecDepth 100000 in
set_option maxHeartbeats 4000000 in
theorem lnkcmp_any (f g : Lnk) (w : World) : Calls Tryz.prog 193 #[valK f, valK g] w fun e w' => e = .returned (.int .i64 (cmpK f g)) ∧ LaysD w w' := by
  have e1 : valK f = .agg #[.int .i64 f.kind, .string f.id] := rfl
  have e2 : valK g = .agg #[.int .i64 g.kind, .string g.id] := rfl
  rw [e1, e2]
  clear e1 e2
  have HLY : Hid (Lays w ((w.alloc (.cells #[.int .i64 f.kind, .string f.id] 213)).alloc (.cells #[.int .i64 g.kind, .string g.id] 213))) := ((Lays.refl w).alloc _).alloc _
  have HXB : Hid (Blk ((w.alloc (.cells #[.int .i64 f.kind, .string f.id] 213)).alloc (.cells #[.int .i64 g.kind, .string g.id] 213)) w.heap.size 213 #[.int .i64 f.kind, .string f.id]) := (Blk.new w _ _).alloc _
  have HYB : Hid (Blk ((w.alloc (.cells #[.int .i64 f.kind, .string f.id] 213)).alloc (.cells #[.int .i64 g.kind, .string g.id] 213)) (w.heap.size + 1) 213 #[.int .i64 g.kind, .string g.id]) := by
    have h := Blk.new (w.alloc (.cells #[.int .i64 f.kind, .string f.id] 213)) 213 #[.int .i64 g.kind, .string g.id]
    rw [World.size_alloc] at h; exact h
  have HC1 := hid (Tryz.cmp_Compare_int f.kind g.kind)
  have HC2 := hid (Tryz.strings_Compare f.id g.id)
  have HCZ : Hid (cmpK f g = orZ (Lib.compareBytes f.id.data.toList g.id.data.toList) (Lib.compareInt f.kind g.kind)) := rfl
  generalize Lib.compareInt f.kind g.kind = c1 at HC1 HCZ
  generalize Lib.compareBytes f.id.data.toList g.id.data.toList = c2 at HC2 HCZ
  go_enter Tryz.func193, Tryz.ntmps193
  go_upto_region 1 with fail
  generalize ((w.alloc (.cells #[.int .i64 f.kind, .string f.id] 213)).alloc (.cells #[.int .i64 g.kind, .string g.id] 213)) = w2 at HLY HXB HYB ⊢
  generalize hg1 : w.heap.size + 1 = g1 at HYB ⊢
  generalize w.heap.size = g0 at HXB hg1 ⊢
  clear hg1
  have k0 : w2.cell? ⟨g0, 0, none⟩ = some (.int .i64 f.kind) := Blk.cell HXB.out 0
  have k1 : w2.cell? ⟨g0, 1, none⟩ = some (.string f.id) := Blk.cell HXB.out 1
  have k2 : w2.cell? ⟨g1, 0, none⟩ = some (.int .i64 g.kind) := Blk.cell HYB.out 0
  have k3 : w2.cell? ⟨g1, 1, none⟩ = some (.string g.id) := Blk.cell HYB.out 1
  go_wp2_with fail
  refine wp_region_tail_drew 10 (by kernel_rfl) (by kernel_rfl) ?_
  simp only [List.take_succ_cons, List.take_zero, List.drop_succ_cons, List.drop_zero]
  repeat (first
    | go_big_quiet_step (first
      | (go_at_call 149; exact Calls.quiet_of_same (HC1.out _))
      | (go_at_call 150; exact Calls.quiet_of_same (HC2.out _)))
    | quiet_step (fail))
  refine wpQuiet_nil ?_
  intro _ hw'
  obtain ⟨nq, hw''⟩ := hw'
  subst hw''
  have HO := hid (or_any c2 c1 (w2.drewN nq).heap.size ((w2.drewN nq).alloc (.cells #[.int .i64 c2, .int .i64 c1] 3)) (Blk.new _ _ _))
  have HE : Hid (LaysD w ((w2.drewN nq).alloc (.cells #[.int .i64 c2, .int .i64 c1] 3))) := by
    obtain ⟨os, hos⟩ := HLY.out
    exact ⟨nq, os.push (.cells #[.int .i64 c2, .int .i64 c1] 3), by rw [hos]; simp [grow, World.alloc, World.drewN]⟩
  clear k0 k1 k2 k3
  go_wp2_with fail
  refine HO.out.mono ?_; rintro e w3 ⟨rfl, rfl⟩
  go_wp2_with fail
  go_ret
  rw [HCZ.out]
  exact ⟨rfl, HE.out⟩
end Go.Proofs.YtlenfiiocmchdaaGreatDoor
/- What an object names: an own slice of links sorted. -/
namespace Go.Proofs.YtlenfiiocmchdaaGreatDoor
open Go.RowKit Book Pap Ojt Go.Sort
set_option linter.unusedVariables false
set_option linter.unusedSimpArgs false

def lkCs (x : Lnk) : List Value := [.int .i64 x.kind, .string x.id]
def lkvals (l : List Lnk) : List Value := l.flatMap lkCs
theorem cbytes_lt : ∀ a b : List UInt8, Lib.compareBytes a b = if Op.bytesLess a b = true then -1 else if a = b then 0 else 1
  | [], [] => rfl
  | [], _ :: _ => rfl
  | _ :: _, [] => rfl
  | a :: x, b :: y => by
    unfold Lib.compareBytes Op.bytesLess
    rw [cbytes_lt x y]
    by_cases h1 : a < b
    · simp [h1]
    · by_cases h2 : b < a
      · have hne : ¬ a = b := fun e => h1 (by subst e; exact absurd h2 (UInt8.lt_irrefl a))
        simp [h1, h2, hne]
      · have he : a = b := UInt8.le_antisymm (UInt8.not_lt.1 h2) (UInt8.not_lt.1 h1)
        subst he
        simp
theorem cbytes_neg (a b : ByteArray) : Lib.compareBytes a.data.toList b.data.toList = if lt' a b = true then -1 else if a = b then 0 else 1 := by
  rw [cbytes_lt]
  unfold lt'
  rw [ba_toList, ba_toList]
  by_cases h : a = b
  · subst h; rw [if_pos rfl, if_pos rfl]
  · have h2 : ¬ a.data.toList = b.data.toList := fun e => h (ba_ext e)
    rw [if_neg h, if_neg h2]
theorem ltOf_K (a b : Lnk) : Go.Proofs.ltOf cmpK a b = ltK a b := by
  unfold Go.Proofs.ltOf cmpK orZ ltK Lib.compareInt
  rw [cbytes_neg]
  by_cases h1 : lt' a.id b.id = true
  · simp [h1]
  · by_cases h2 : a.id = b.id
    · simp only [h1, h2, if_false, if_true]
      by_cases h3 : a.kind < b.kind
      · simp [h3, lt_irr]
      · by_cases h4 : a.kind > b.kind
        · simp [h3, h4, lt_irr]
        · simp [h3, h4, lt_irr]
    · simp [h1, h2]
theorem swo_K : Go.Sort.SWO (Go.Proofs.ltOf cmpK) := by
  have e : Go.Proofs.ltOf cmpK = ltK := by funext a b; exact ltOf_K a b
  rw [e]
  refine ⟨ltK_irr, fun x y z => ltK_trans, fun x y z h1 h2 => ?_⟩
  by_cases h : ltK x z = true
  · cases hyx : ltK y x
    · obtain rfl := ltK_tri h1 hyx
      rw [h2] at h; cases h
    · have := ltK_trans hyx h
      rw [h2] at this; cases this
  · exact Bool.not_eq_true _ ▸ h
/-- links in a row, rising (two alike may stand side by side) -/
def sortL (l : List Lnk) : List Lnk := l.mergeSort fun x y => !(Go.Proofs.ltOf cmpK) y x
theorem sortL_perm (l : List Lnk) : (sortL l).Perm l := List.mergeSort_perm l _
theorem sortL_ris (l : List Lnk) : (sortL l).Pairwise (fun a b => ltK b a = false) := by
  have hp := List.pairwise_mergeSort (le := fun x y : Lnk => !(Go.Proofs.ltOf cmpK) y x) (fun a b c h1 h2 => by
    simp only [Bool.not_eq_true'] at *
    exact swo_K.ntrans _ _ _ h2 h1) (fun a b => by
    cases h : Go.Proofs.ltOf cmpK b a
    · simp
    · have h2 : Go.Proofs.ltOf cmpK a b = false := by
        cases h3 : Go.Proofs.ltOf cmpK a b
        · rfl
        · have := swo_K.trans _ _ _ h h3
          rw [swo_K.irrefl] at this; cases this
      simp [h2]) l
  exact hp.imp fun {a b} h => by rw [← ltOf_K]; simpa using h
theorem sortLk_own (B n : Nat) (v : Value) (l : List Lnk) (w : World) (h : w.ownsRow B 213 2 v n (lkvals l)) (hn : n ≤ 1000000) :
    Calls Tryz.prog 192 #[v, .func (.func 193) #[] #[]] w fun e w' => e = .returned (.tuple #[]) ∧ w'.ownsRow B 213 2 v n (lkvals (sortL l)) ∧ w.grownBy w' v.ownBlock := by
  haveI : Inhabited Lnk := ⟨⟨0, ByteArray.empty⟩⟩
  refine (sortK_own Tryz.sortF192 2 (by decide) Tryz.isAgg213 Tryz.sizeOf213 lkCs (fun x => rfl) (fun x u hu => by simp [lkCs] at hu; rcases hu with rfl | rfl <;> rfl) cmpK swo_K (fun x y h1 h2 => by rw [ltOf_K] at h1 h2; exact ltK_tri h1 h2) 193 #[] B n v l w
    (enters_of Tryz.func193 (by kernel_rfl) rfl) (fun W hg x y => ?_) h hn)
  exact lnkcmp_any x y W
end Go.Proofs.YtlenfiiocmchdaaGreatDoor
/- What an object names: an own row of links written into, cleared, cut; adjacent alike ones left out (plain). -/
namespace Go.Proofs.YtlenfiiocmchdaaGreatDoor
open Go.RowKit Book Pap Ojt Go.Sort
set_option linter.unusedVariables false
set_option linter.unusedSimpArgs false

def noLk : Lnk := ⟨0, ByteArray.empty⟩
theorem lkvals_append (a b : List Lnk) : lkvals (a ++ b) = lkvals a ++ lkvals b := by simp [lkvals]
theorem lkvals_length : ∀ (l : List Lnk), (lkvals l).length = l.length * 2
  | [] => rfl
  | a :: r => by
    show (lkCs a ++ lkvals r).length = _
    rw [List.length_append, lkvals_length r, List.length_cons]
    show 2 + _ = _; omega
theorem lkvals_get : ∀ (l : List Lnk) (j : Nat), j < l.length → (lkvals l)[j * 2]? = some (.int .i64 (l.getD j noLk).kind) ∧ (lkvals l)[j * 2 + 1]? = some (.string (l.getD j noLk).id)
  | [], j, h => by simp at h
  | a :: r, 0, h => ⟨rfl, rfl⟩
  | a :: r, j + 1, h => by
    obtain ⟨h1, h2⟩ := lkvals_get r j (by simpa using h)
    have e1 : (j + 1) * 2 = j * 2 + 2 := by omega
    rw [e1]
    exact ⟨h1, h2⟩
theorem lkvals_set : ∀ (l : List Lnk) (k : Nat) (y : Lnk), ((lkvals l).set (k * 2) (.int .i64 y.kind)).set (k * 2 + 1) (.string y.id) = lkvals (l.set k y)
  | [], k, y => rfl
  | a :: r, 0, y => rfl
  | a :: r, k + 1, y => by
    have e1 : (k + 1) * 2 = k * 2 + 2 := by omega
    rw [e1]
    show _ :: _ :: _ = _ :: _ :: _
    congr 2
    exact lkvals_set r k y
theorem own_putLk {w : World} {B g n cap : Nat} {R : List Lnk} (h : w.ownsRow B 213 2 (.slice (some ⟨g, 0, none⟩) n cap) n (lkvals R)) (k : Nat) (y : Lnk) :
    ((w.setCell ⟨g, k * 2, none⟩ (.int .i64 y.kind)).setCell ⟨g, k * 2 + 1, none⟩ (.string y.id)).ownsRow B 213 2 (.slice (some ⟨g, 0, none⟩) n cap) n (lkvals (R.set k y)) ∧
    w.grownBy ((w.setCell ⟨g, k * 2, none⟩ (.int .i64 y.kind)).setCell ⟨g, k * 2 + 1, none⟩ (.string y.id)) (some g) := by
  obtain ⟨h1, h2⟩ := h.stored (k * 2) (.int .i64 y.kind)
  obtain ⟨h3, h4⟩ := h1.stored (k * 2 + 1) (.string y.id)
  rw [lkvals_set] at h3
  exact ⟨h3, h2.trans h4⟩
theorem own_setCells {e : TypeId} {s B g n cap : Nat} : ∀ (vs : List Value) (o : Nat) (xs : List Value) (w : World), w.ownsRow B e s (.slice (some ⟨g, 0, none⟩) n cap) n xs → o + vs.length ≤ xs.length →
    (w.setCells g o vs).ownsRow B e s (.slice (some ⟨g, 0, none⟩) n cap) n (xs.take o ++ vs ++ xs.drop (o + vs.length)) ∧ w.grownBy (w.setCells g o vs) (some g)
  | [], o, xs, w, h, ho => by
    refine ⟨?_, rfl, rfl, rfl, Nat.le_refl _, fun _ _ _ => rfl⟩
    show w.ownsRow _ _ _ _ _ _
    rw [List.append_nil, List.length_nil, Nat.add_zero, List.take_append_drop]; exact h
  | v :: r, o, xs, w, h, ho => by
    rw [List.length_cons] at ho
    obtain ⟨h1, h2⟩ := h.stored o v
    obtain ⟨h3, h4⟩ := own_setCells r (o + 1) (xs.set o v) _ h1 (by rw [List.length_set]; omega)
    refine ⟨?_, h2.trans h4⟩
    show ((w.setCell ⟨g, o, none⟩ v).setCells g (o + 1) r).ownsRow _ _ _ _ _ _
    have e1 : (xs.set o v).take (o + 1) = xs.take o ++ [v] := by
      rw [List.take_succ_eq_append_getElem (by rw [List.length_set]; omega), List.getElem_set_self, List.take_set_of_le (Nat.le_refl _)]
    have e2 : (xs.set o v).drop (o + 1 + r.length) = xs.drop (o + (r.length + 1)) := by
      rw [List.drop_set_of_lt (by omega)]
      congr 1; omega
    rw [e1, e2, List.append_assoc (xs.take o)] at h3
    exact h3
theorem own_take2 {w : World} {base : Nat} {e : TypeId} {n c k : Nat} {a : Option Addr} {xs : List Value} (h : w.ownsRow base e 2 (.slice a n c) n xs) (hk : k ≤ n) : w.ownsRow base e 2 (.slice a k c) k (xs.take (k * 2)) := by
  obtain ⟨h1, h2⟩ := h
  refine ⟨by rw [List.length_take, h1]; omega, ?_⟩
  rcases h2 with ⟨h2, rfl⟩ | ⟨g', cap, cur, h2, hb, hg, hn, hc, hs, ht⟩
  · injection h2 with h3 h4 h5
    subst h3 h5
    obtain rfl : k = 0 := by omega
    exact .inl ⟨rfl, rfl⟩
  · injection h2 with h3 h4 h5
    subst h3 h5
    refine .inr ⟨g', c, cur, rfl, hb, hg, by omega, hc, hs, ?_⟩
    rw [← ht, List.take_take, Nat.min_eq_left (by omega)]
/-- what Compact leaves of the first k -/
def ddp (l : List Lnk) (k : Nat) : List Lnk := (List.range k).filterMap (fun j => if j = 0 ∨ l.getD j noLk ≠ l.getD (j - 1) noLk then some (l.getD j noLk) else none)
theorem ddp_zero (l : List Lnk) : ddp l 0 = [] := rfl
theorem ddp_succ (l : List Lnk) (k : Nat) : ddp l (k + 1) = ddp l k ++ (if k = 0 ∨ l.getD k noLk ≠ l.getD (k - 1) noLk then [l.getD k noLk] else []) := by
  unfold ddp
  rw [List.range_succ, List.filterMap_append]
  congr 1
  rw [List.filterMap_cons, List.filterMap_nil]
  by_cases h : k = 0 ∨ l.getD k noLk ≠ l.getD (k - 1) noLk
  · rw [if_pos h, if_pos h]
  · rw [if_neg h, if_neg h]
theorem ddp_le (l : List Lnk) (k : Nat) : (ddp l k).length ≤ k := by
  have := List.length_filterMap_le (fun j => if j = 0 ∨ l.getD j noLk ≠ l.getD (j - 1) noLk then some (l.getD j noLk) else none) (List.range k)
  rw [List.length_range] at this; exact this
/-- none alike so far: all stay -/
theorem ddp_all (l : List Lnk) : ∀ k, k ≤ l.length → (∀ j, 0 < j → j < k → l.getD j noLk ≠ l.getD (j - 1) noLk) → ddp l k = l.take k
  | 0, _, _ => rfl
  | k + 1, hk, h => by
    rw [ddp_succ, ddp_all l k (by omega) (fun j h1 h2 => h j h1 (by omega)), if_pos, List.take_succ_eq_append_getElem (by omega), List.getD_eq_getElem?_getD, List.getElem?_eq_getElem (by omega)]
    · rfl
    · rcases Nat.eq_zero_or_pos k with e | e
      · exact .inl e
      · exact .inr (h k e (by omega))
/-- of links in a row that rise, Compact makes the links -/
theorem ddp_ris {l : List Lnk} (h : l.Pairwise (fun a b => ltK b a = false)) : ∀ k, k ≤ l.length → RisK (ddp l k) ∧ (∀ x, x ∈ ddp l k ↔ x ∈ l.take k) ∧ (∀ x ∈ ddp l k, 0 < k → ltK (l.getD (k - 1) noLk) x = false) := by
  intro k
  induction k with
  | zero => intro _; exact ⟨List.Pairwise.nil, fun x => by simp [ddp_zero], fun x hx => by cases hx⟩
  | succ k ih =>
    intro hk
    obtain ⟨h1, h2, h3⟩ := ih (by omega)
    have hg : l.getD k noLk = l[k] := by rw [List.getD_eq_getElem?_getD, List.getElem?_eq_getElem (by omega)]; rfl
    have hlast : ∀ x ∈ ddp l (k + 1), ltK l[k] x = false := fun x hx => by
      rw [ddp_succ, List.mem_append] at hx
      rcases hx with hx | hx
      · have hx2 := (h2 x).1 hx
        obtain ⟨j, hj, e⟩ := List.getElem_of_mem hx2
        rw [List.length_take] at hj
        rw [List.getElem_take] at e
        rw [← e]
        exact List.pairwise_iff_getElem.1 h j k (by omega) (by omega) (by omega)
      · split at hx
        · rw [List.mem_singleton.1 hx, hg]; exact ltK_irr _
        · cases hx
    refine ⟨?_, fun x => ?_, fun x hx _ => by rw [Nat.add_sub_cancel, hg]; exact hlast x hx⟩
    · rw [ddp_succ]
      split
      · rename_i hc
        refine List.pairwise_append.2 ⟨h1, List.pairwise_singleton _ _, fun a ha b hb => ?_⟩
        rw [List.mem_singleton.1 hb, hg]
        rcases hc with rfl | hc
        · cases ha
        · have hk0 : 0 < k := by
            rcases Nat.eq_zero_or_pos k with e | e
            · subst e; cases ha
            · exact e
          have hgp : l.getD (k - 1) noLk = l[k - 1] := by rw [List.getD_eq_getElem?_getD, List.getElem?_eq_getElem (by omega)]; rfl
          rw [hg, hgp] at hc
          have a1 := h3 a ha hk0
          rw [hgp] at a1
          have a2 := List.pairwise_iff_getElem.1 h (k - 1) k (by omega) (by omega) (by omega)
          cases hlt : ltK a l[k]
          · -- a is neither below l[k] nor l[k-1] below a
            cases hlt2 : ltK l[k - 1] l[k]
            · exact absurd (ltK_tri a2 hlt2) hc
            · cases hlt3 : ltK a l[k - 1]
              · have := ltK_tri hlt3 a1
                rw [this, hlt2] at hlt; cases hlt
              · have := ltK_trans hlt3 hlt2
                rw [this] at hlt; cases hlt
          · rfl
      · rw [List.append_nil]; exact h1
    · rw [ddp_succ, List.mem_append, h2, List.take_succ_eq_append_getElem (by omega), List.mem_append]
      split
      · rw [hg]
      · rename_i hc
        have hc1 : k ≠ 0 := fun e => hc (.inl e)
        have hc2 : l.getD k noLk = l.getD (k - 1) noLk := Classical.not_not.1 (fun e => hc (.inr e))
        have hgp : l.getD (k - 1) noLk = l[k - 1] := by rw [List.getD_eq_getElem?_getD, List.getElem?_eq_getElem (by omega)]; rfl
        rw [hg, hgp] at hc2
        constructor
        · rintro (hx | hx)
          · exact .inl hx
          · cases hx
        · rintro (hx | hx)
          · exact .inl hx
          · rw [List.mem_singleton.1 hx, hc2]
            exact .inl (List.mem_iff_getElem.2 ⟨k - 1, by rw [List.length_take]; omega, by rw [List.getElem_take]⟩)
theorem ddp_links {x : Ob} (h : good x = true) : ddp (sortL (rawLinks x)) (sortL (rawLinks x)).length = links x := by
  obtain ⟨h1, h2, -⟩ := ddp_ris (sortL_ris (rawLinks x)) _ (Nat.le_refl _)
  refine risK_ext h1 (links_ris x) (fun y => ?_)
  rw [h2, List.take_length, links_mem h, (sortL_perm _).mem_iff]
end Go.Proofs.YtlenfiiocmchdaaGreatDoor
/- What an object names: slices.Compact at an own row of links. -/
namespace Go.Proofs.YtlenfiiocmchdaaGreatDoor
open Go.RowKit Book Pap Ojt Go.Sort
set_option linter.unusedVariables false
set_option linter.unusedSimpArgs false

def CompLk (B : Nat) (w : World) (v : Value) (l : List Lnk) (e : Ending) (w' : World) : Prop :=
  ∃ v', e = .returned v' ∧ w'.ownsRow B 213 2 v' (ddp l l.length).length (lkvals (ddp l l.length)) ∧ w.grownBy w' v.ownBlock
theorem drop_getD (R : List Lnk) (c j : Nat) : (R.drop c).getD j noLk = R.getD (c + j) noLk := by simp [List.getD_eq_getElem?_getD, List.getElem?_drop]
theorem run_clearLk (W : World) (g o n c : Nat) (ty : TypeId) (hc : ∀ j, j < n * 2 → (W.cell? ⟨g, o + j, none⟩).isSome = true) (hf : ∀ j, W.frozen? ⟨g, j, none⟩ = false) :
    (Builtin.clear_ #[210] ty #[.slice (some ⟨g, o, none⟩) n c]).run Tryz.prog W = .ok (.tuple #[]) (W.setCells g o (Builtin.zeroCells #[.int .i64 0, .string ⟨#[]⟩] n).toList) := by
  have hlen : (Builtin.zeroCells #[.int .i64 0, .string ⟨#[]⟩] n).toList.length = n * 2 := by simp [Builtin.zeroCells]
  have hone : ∀ v ∈ (Builtin.zeroCells #[.int .i64 0, .string ⟨#[]⟩] n).toList, v.oneCell' = true := by
    intro v hv
    unfold Builtin.zeroCells at hv
    rw [Array.toList_map] at hv
    obtain ⟨i, -, rfl⟩ := List.mem_map.1 hv
    rcases Nat.mod_two_eq_zero_or_one i with e | e
    · show ((#[Value.int .i64 0, .string ⟨#[]⟩] : Array Value)[i % 2]!).oneCell' = true
      rw [e]; rfl
    · show ((#[Value.int .i64 0, .string ⟨#[]⟩] : Array Value)[i % 2]!).oneCell' = true
      rw [e]; rfl
  have hst := run_storeCells_cells (P := Tryz.prog) g o (Builtin.zeroCells #[.int .i64 0, .string ⟨#[]⟩] n).toList 0 W (fun j hj => by rw [hlen] at hj; exact hc j hj) (fun j _ => hf _) hone
  simp only [Nat.add_zero] at hst
  have hzv : ∀ w : World, (zeroValue 213).run Tryz.prog w = .ok (.agg #[.int .i64 0, .string ⟨#[]⟩]) w := fun w => Tryz.zeroValue213 w
  cases n with
  | zero => simp [Builtin.clear_, run_underlying Tryz.underlying210, Builtin.zeroCells, World.setCells]
  | succ n => simp [Builtin.clear_, run_underlying Tryz.underlying210, hzv, Value.cells, hst]
theorem grown_refl (w : World) (r : Option Nat) : w.grownBy w r := ⟨rfl, rfl, rfl, Nat.le_refl _, fun _ _ _ => rfl⟩
set_option maxRecDepth 100000 in
set_option maxHeartbeats 8000000 in
theorem compLk_own (B n : Nat) (v : Value) (l : List Lnk) (w : World) (h : w.ownsRow B 213 2 v n (lkvals l)) (hn : n ≤ 1000000) :
    Calls Tryz.prog 194 #[v] w (CompLk B w v l) := by
  have hl : l.length = n := by have := h.1; rw [lkvals_length] at this; omega
  by_cases h2 : n < 2
  · obtain ⟨va, vc, rfl, hvc⟩ := own_slice' h
    have hd : ddp l l.length = l := by
      rw [ddp_all l l.length (Nat.le_refl _) (fun j h1 h3 => by omega), List.take_length]
    have HD := hid hd
    have HO := hid h
    have ci : (n : Int) < 2 := by omega
    clear hd h
    go_enter Tryz.func194, Tryz.ntmps194
    go_wp2_with fail
    go_ret
    refine ⟨_, rfl, ?_, grown_refl _ _⟩
    rw [HD.out, hl]; exact HO.out
  · obtain ⟨g, cap, rfl, hBg, hgl⟩ := h.form (by omega)
    have ci : ¬ (n : Int) < 2 := by omega
    have HO := hid h
    have HG := hid (grown_refl w (some g))
    clear h
    go_enter Tryz.func194, Tryz.ntmps194
    go_wp2_with fail
    clear ci
    go_loopw [3] (fun iv wr => ∃ k : Nat, 1 ≤ k ∧ k ≤ n ∧ iv = .int .i64 k ∧ Hid (∀ j, 0 < j → j < k → l.getD j noLk ≠ l.getD (j - 1) noLk) ∧ Hid (wr.ownsRow B 213 2 (.slice (some ⟨g, 0, none⟩) n cap) n (lkvals l)) ∧ Hid (w.grownBy wr (some g))) (fun iv _ => n - (intOf iv).toNat)
    case atStart => exact ⟨1, Nat.le_refl _, by omega, rfl, fun j h1 h3 => by omega, HO, HG⟩
    case round =>
      clear HO HG
      obtain ⟨k, hk1, hk, rfl, HN, HO, HG⟩ := hrel
      by_cases hlt : k < n
      · have ck : (k : Int) < n := by omega
        have ck0 : (0 : Int) ≤ (k : Int) := by omega
        have em : IntKind.i64.wrap ((k : Int) - 1) = ((k - 1 : Nat) : Int) := by rw [IntKind.wrap_i64]; omega
        have cm0 : (0 : Int) ≤ ((k - 1 : Nat) : Int) := by omega
        have cmn : ((k - 1 : Nat) : Int) < n := by omega
        obtain ⟨x0, x1⟩ := lkvals_get l k (by omega)
        obtain ⟨y0, y1⟩ := lkvals_get l (k - 1) (by omega)
        have q0 := HO.out.cellAt (k * 2) (by omega)
        have q1 := HO.out.cellAt (k * 2 + 1) (by omega)
        have p0 := HO.out.cellAt ((k - 1) * 2) (by omega)
        have p1 := HO.out.cellAt ((k - 1) * 2 + 1) (by omega)
        rw [x0] at q0
        rw [x1] at q1
        rw [y0] at p0
        rw [y1] at p1
        obtain ⟨a, ha⟩ : ∃ a, l.getD k noLk = a := ⟨_, rfl⟩
        obtain ⟨b, hb⟩ : ∃ b, l.getD (k - 1) noLk = b := ⟨_, rfl⟩
        rw [ha] at q0 q1
        rw [hb] at p0 p1
        clear x0 x1 y0 y1
        have HGD : Hid (w.grownBy wr.drew (some g)) := ⟨HG.out.os, HG.out.tape, HG.out.output, HG.out.size, HG.out.block⟩
        have hcap : cap ≠ k := by have := (own_slice' HO.out); obtain ⟨_, _, e, hc⟩ := this; injection e with _ _ e3; omega
        have HAB : Hid (a.kind = b.kind → a.id.toList = b.id.toList → a = b) := fun h1 h2 => by
          obtain ⟨ak, ai⟩ := a
          obtain ⟨bk, bi⟩ := b
          simp only at h1 h2
          rw [h1, show ai = bi from ba_ext (by rw [← ba_toList, ← ba_toList]; exact h2)]
        by_cases hk1' : a.kind = b.kind
        · by_cases hk2 : a.id.toList = b.id.toList
          · have HEQ : Hid (ddp l (k + 1) = l.take k) := by
              show _ = _
              rw [ddp_succ, ddp_all l k (by omega) HN.out, if_neg, List.append_nil]
              rintro (e | e)
              · omega
              · exact e (by rw [ha, hb]; exact HAB.out hk1' hk2)
            clear ha hb
            go_upto_region 6 with fail
            go_region
            all_goals
              have HO2 : Hid (wr.drew.ownsRow B 213 2 (.slice (some ⟨g, 0, none⟩) n cap) n (lkvals l)) := HO.out.drew
              have HS0 : Hid (k = (ddp l (k + 1)).length ∧ l.take k = ddp l (k + 1)) := by rw [HEQ.out]; exact ⟨by rw [List.length_take]; omega, rfl⟩
              go_wp2_with fail
              go_loopw [3, 5] (fun kv iv wx => ∃ (m i : Nat) (R : List Lnk), 1 ≤ i ∧ i ≤ n - k ∧ m < k + i ∧ kv = .int .i64 m ∧ iv = .int .i64 i ∧ R.length = n ∧ Hid (m = (ddp l (k + i)).length ∧ R.take m = ddp l (k + i)) ∧ Hid (R.drop (k + i - 1) = l.drop (k + i - 1)) ∧ Hid (wx.ownsRow B 213 2 (.slice (some ⟨g, 0, none⟩) n cap) n (lkvals R)) ∧ Hid (w.grownBy wx (some g))) (fun _ iv _ => n - (intOf iv).toNat)
              case atStart => exact ⟨k, 1, l, Nat.le_refl _, by omega, by omega, rfl, rfl, hl, HS0, rfl, HO2, HGD⟩
              case round =>
                clear q0 q1 p0 p1 hk1' hk2 HAB HGD HO HG HO2 HS0 em cm0 cmn
                obtain ⟨m, i, R, hi1, hi, hmk, rfl, rfl, hR, HMM, HDR, HO3, HG3⟩ := hrel
                by_cases hlt2 : i < n - k
                · have ci : (i : Int) < ((n - k : Nat) : Int) := by omega
                  have ci0 : (0 : Int) ≤ (i : Int) := by omega
                  have em : IntKind.i64.wrap ((i : Int) - 1) = ((i - 1 : Nat) : Int) := by rw [IntKind.wrap_i64]; omega
                  have cm0 : (0 : Int) ≤ ((i - 1 : Nat) : Int) := by omega
                  have cmn : ((i - 1 : Nat) : Int) < ((n - k : Nat) : Int) := by omega
                  have hx : R.getD (k + i) noLk = l.getD (k + i) noLk := by
                    have h1 := drop_getD R (k + i - 1) 1
                    have h2 := drop_getD l (k + i - 1) 1
                    rw [HDR.out] at h1
                    rw [h1] at h2
                    have e : k + i - 1 + 1 = k + i := by omega
                    rw [e] at h2; exact h2
                  have hy : R.getD (k + i - 1) noLk = l.getD (k + i - 1) noLk := by
                    have h1 := drop_getD R (k + i - 1) 0
                    have h2 := drop_getD l (k + i - 1) 0
                    rw [HDR.out] at h1
                    rw [h1] at h2; exact h2
                  obtain ⟨x0, x1⟩ := lkvals_get R (k + i) (by omega)
                  obtain ⟨y0, y1⟩ := lkvals_get R (k + i - 1) (by omega)
                  have q0 := HO3.out.cellAt (k * 2 + i * 2) (by omega)
                  have q1 := HO3.out.cellAt (k * 2 + i * 2 + 1) (by omega)
                  have p0 := HO3.out.cellAt (k * 2 + (i - 1) * 2) (by omega)
                  have p1 := HO3.out.cellAt (k * 2 + (i - 1) * 2 + 1) (by omega)
                  rw [show k * 2 + i * 2 = (k + i) * 2 by omega, x0, hx] at q0
                  rw [show k * 2 + i * 2 + 1 = (k + i) * 2 + 1 by omega, x1, hx] at q1
                  rw [show k * 2 + (i - 1) * 2 = (k + i - 1) * 2 by omega, y0, hy] at p0
                  rw [show k * 2 + (i - 1) * 2 + 1 = (k + i - 1) * 2 + 1 by omega, y1, hy] at p1
                  rw [show (k + i) * 2 = k * 2 + i * 2 by omega] at q0 q1
                  rw [show (k + i - 1) * 2 = k * 2 + (i - 1) * 2 by omega] at p0 p1
                  obtain ⟨c, hc⟩ : ∃ c, l.getD (k + i) noLk = c := ⟨_, rfl⟩
                  obtain ⟨d, hd⟩ : ∃ d, l.getD (k + i - 1) noLk = d := ⟨_, rfl⟩
                  rw [hc] at q0 q1
                  rw [hd] at p0 p1
                  clear x0 x1 y0 y1 hx hy
                  have HGD3 : Hid (w.grownBy wr.drew (some g)) := ⟨HG3.out.os, HG3.out.tape, HG3.out.output, HG3.out.size, HG3.out.block⟩
                  have HDR2 : Hid (R.drop (k + (i + 1) - 1) = l.drop (k + (i + 1) - 1)) := by
                    have h := congrArg (List.drop 1) HDR.out
                    rw [List.drop_drop, List.drop_drop] at h
                    rw [show k + (i + 1) - 1 = k + i - 1 + 1 by omega]; exact h
                  obtain ⟨z0, z1⟩ := lkvals_get R m (by omega)
                  have o0 := HO3.out.cellAt (m * 2) (by omega)
                  have o1 := HO3.out.cellAt (m * 2 + 1) (by omega)
                  rw [z0] at o0
                  rw [z1] at o1
                  have f0 := HO3.out.frozenAt (m * 2)
                  have f1 := HO3.out.frozenAt (m * 2 + 1)
                  have cm : (m : Int) < n := by omega
                  have cmz : (0 : Int) ≤ (m : Int) := by omega
                  clear z0 z1
                  by_cases hk1' : c.kind = d.kind
                  · by_cases hk2 : c.id.toList = d.id.toList
                    · have hcd : c = d := by
                        obtain ⟨ak, ai⟩ := c
                        obtain ⟨bk, bi⟩ := d
                        simp only at hk1' hk2
                        rw [hk1', show ai = bi from ba_ext (by rw [← ba_toList, ← ba_toList]; exact hk2)]
                      have HM2 : Hid (m = (ddp l (k + (i + 1))).length ∧ R.take m = ddp l (k + (i + 1))) := by
                        have e : ddp l (k + (i + 1)) = ddp l (k + i) := by
                          rw [← Nat.add_assoc, ddp_succ, if_neg, List.append_nil]
                          rintro (e | e)
                          · omega
                          · exact e (by rw [hc, hd, hcd])
                        rw [e]; exact HMM.out
                      clear hc hd hcd
                      go_upto_region 11 with fail
                      go_region
                      all_goals
                        go_wp2_with fail
                        go_roundw
                        case rel => first | exact ⟨m, i + 1, R, by omega, by omega, by omega, by first | rfl | go_num, by go_num, hR, HM2, HDR2, HO3.out.drew, HGD3⟩ | ((repeat apply Exists.intro); exact ⟨⟨m, i + 1, R, by omega, by omega, by omega, by first | rfl | go_num, by go_num, hR, HM2, HDR2, HO3.out.drew, HGD3⟩, rfl⟩)
                        case measure => simp [intOf]; omega
                    · have HNE : Hid (l.getD (k + i) noLk ≠ l.getD (k + i - 1) noLk) := fun e => hk2 (by rw [hc, hd] at e; rw [e])
                      have HM2 : Hid (m + 1 = (ddp l (k + (i + 1))).length ∧ (R.set m c).take (m + 1) = ddp l (k + (i + 1))) := by
                        have e : ddp l (k + (i + 1)) = ddp l (k + i) ++ [c] := by
                          rw [← Nat.add_assoc, ddp_succ, if_pos (.inr HNE.out), hc]
                        refine ⟨by rw [e, List.length_append, ← HMM.out.1]; rfl, ?_⟩
                        rw [e, ← HMM.out.2, List.take_succ_eq_append_getElem (by rw [List.length_set]; omega), List.getElem_set_self, List.take_set_of_le (Nat.le_refl _)]
                      have hR9 : (R.set m c).length = n := by rw [List.length_set]; exact hR
                      have HDR9 : Hid ((R.set m c).drop (k + (i + 1) - 1) = l.drop (k + (i + 1) - 1)) := by
                        show _ = _
                        rw [List.drop_set_of_lt (by omega)]; exact HDR2.out
                      have HO9 := hid (own_putLk HO3.out.drew m c).1
                      have HG9 : Hid (w.grownBy _ (some g)) := HGD3.out.trans (own_putLk HO3.out.drew m c).2
                      rw [hk1'] at HO9 HG9
                      clear hc hd
                      go_upto_region 11 with fail
                      go_region
                      all_goals
                        go_wp2_with fail
                        go_roundw
                        case rel => first | exact ⟨m + 1, i + 1, R.set m c, by omega, by omega, by omega, by go_num, by go_num, hR9, HM2, HDR9, HO9, HG9⟩ | ((repeat apply Exists.intro); exact ⟨⟨m + 1, i + 1, R.set m c, by omega, by omega, by omega, by go_num, by go_num, hR9, HM2, HDR9, HO9, HG9⟩, rfl⟩)
                        case measure => simp [intOf]; omega
                  · have HNE : Hid (l.getD (k + i) noLk ≠ l.getD (k + i - 1) noLk) := fun e => hk1' (by rw [hc, hd] at e; rw [e])
                    have HM2 : Hid (m + 1 = (ddp l (k + (i + 1))).length ∧ (R.set m c).take (m + 1) = ddp l (k + (i + 1))) := by
                      have e : ddp l (k + (i + 1)) = ddp l (k + i) ++ [c] := by
                        rw [← Nat.add_assoc, ddp_succ, if_pos (.inr HNE.out), hc]
                      refine ⟨by rw [e, List.length_append, ← HMM.out.1]; rfl, ?_⟩
                      rw [e, ← HMM.out.2, List.take_succ_eq_append_getElem (by rw [List.length_set]; omega), List.getElem_set_self, List.take_set_of_le (Nat.le_refl _)]
                    have hR9 : (R.set m c).length = n := by rw [List.length_set]; exact hR
                    have HDR9 : Hid ((R.set m c).drop (k + (i + 1) - 1) = l.drop (k + (i + 1) - 1)) := by
                      show _ = _
                      rw [List.drop_set_of_lt (by omega)]; exact HDR2.out
                    have HO9 := hid (own_putLk HO3.out.drew m c).1
                    have HG9 : Hid (w.grownBy _ (some g)) := HGD3.out.trans (own_putLk HO3.out.drew m c).2
                    clear hc hd
                    go_upto_region 11 with fail
                    go_region
                    all_goals
                      go_wp2_with fail
                      go_roundw
                      case rel => first | exact ⟨m + 1, i + 1, R.set m c, by omega, by omega, by omega, by go_num, by go_num, hR9, HM2, HDR9, HO9, HG9⟩ | ((repeat apply Exists.intro); exact ⟨⟨m + 1, i + 1, R.set m c, by omega, by omega, by omega, by go_num, by go_num, hR9, HM2, HDR9, HO9, HG9⟩, rfl⟩)
                      case measure => simp [intOf]; omega
                · obtain rfl : i = n - k := by omega
                  have ci : ¬ ((n - k : Nat) : Int) < ((n - k : Nat) : Int) := by omega
                  have hnc : n ≤ cap := by obtain ⟨_, _, e, hc⟩ := own_slice' HO3.out; injection e with _ _ e3; omega
                  have hcm : cap ≠ m := by omega
                  have hmn : m ≤ n := by omega
                  have hkn : k + (n - k) = n := by omega
                  have hmc : m ≤ cap := by omega
                  have hcl : ∀ ty, (Builtin.clear_ #[210] ty #[.slice (some ⟨g, m * 2, none⟩) (n - m) (cap - m)]).run Tryz.prog wr = .ok (.tuple #[]) (wr.setCells g (m * 2) (Builtin.zeroCells #[.int .i64 0, .string ⟨#[]⟩] (n - m)).toList) := fun ty =>
                    run_clearLk wr g (m * 2) (n - m) (cap - m) ty (fun j hj => by
                      have hlt : m * 2 + j < (lkvals R).length := by rw [lkvals_length]; omega
                      rw [HO3.out.cellAt (m * 2 + j) (by omega)]
                      simp [List.getElem?_eq_getElem hlt]) (fun j => HO3.out.frozenAt j)
                  have HEND : Hid ((wr.setCells g (m * 2) (Builtin.zeroCells #[.int .i64 0, .string ⟨#[]⟩] (n - m)).toList).ownsRow B 213 2 (.slice (some ⟨g, 0, none⟩) m cap) m (lkvals (ddp l l.length)) ∧ m = (ddp l l.length).length ∧ w.grownBy (wr.setCells g (m * 2) (Builtin.zeroCells #[.int .i64 0, .string ⟨#[]⟩] (n - m)).toList) (some g)) := by
                    obtain ⟨h1, h2⟩ := own_setCells (Builtin.zeroCells #[.int .i64 0, .string ⟨#[]⟩] (n - m)).toList (m * 2) (lkvals R) wr HO3.out (by rw [lkvals_length]; simp [Builtin.zeroCells]; omega)
                    have h3 := own_take2 h1 hmn
                    have hM := HMM.out
                    rw [hkn] at hM
                    rw [hl]
                    refine ⟨?_, hM.1, HG3.out.trans h2⟩
                    rw [← hM.2]
                    have e : ((lkvals R).take (m * 2) ++ (Builtin.zeroCells #[.int .i64 0, .string ⟨#[]⟩] (n - m)).toList ++ (lkvals R).drop (m * 2 + (Builtin.zeroCells #[.int .i64 0, .string ⟨#[]⟩] (n - m)).toList.length)).take (m * 2) = lkvals (R.take m) := by
                      have hll : ((lkvals R).take (m * 2)).length = m * 2 := by rw [List.length_take, lkvals_length]; omega
                      rw [List.append_assoc, List.take_append_of_le_length (by rw [hll]; exact Nat.le_refl _), List.take_take, Nat.min_self]
                      have h5 : lkvals R = lkvals (R.take m) ++ lkvals (R.drop m) := by rw [← lkvals_append, List.take_append_drop]
                      rw [h5, List.take_append_of_le_length (by rw [lkvals_length, List.length_take]; omega), List.take_of_length_le (by rw [lkvals_length, List.length_take]; omega)]
                    rw [← e]; exact h3
                  go_wp2_with fail
                  go_ret
                  exact ⟨_, rfl, by have h := HEND.out; rw [← h.2.1]; exact h.1, HEND.out.2.2⟩
          · have HNE : Hid (l.getD k noLk ≠ l.getD (k - 1) noLk) := fun e => hk2 (by rw [ha, hb] at e; rw [e])
            clear ha hb
            go_upto_region 6 with fail
            go_region
            all_goals
              go_wp2_with fail
              go_roundw
              case rel => first | exact ⟨k + 1, by omega, by omega, by go_num, fun j h1 h3 => (by rcases Nat.lt_or_ge j k with h | h; exact HN.out j h1 h; obtain rfl : j = k := (by omega); exact HNE.out), HO.out.drew, HGD⟩ | ((repeat apply Exists.intro); exact ⟨⟨k + 1, by omega, by omega, by go_num, fun j h1 h3 => (by rcases Nat.lt_or_ge j k with h | h; exact HN.out j h1 h; obtain rfl : j = k := (by omega); exact HNE.out), HO.out.drew, HGD⟩, rfl⟩)
              case measure => simp [intOf]; omega
        · have HNE : Hid (l.getD k noLk ≠ l.getD (k - 1) noLk) := fun e => hk1' (by rw [ha, hb] at e; rw [e])
          clear ha hb
          go_upto_region 6 with fail
          go_region
          all_goals
            go_wp2_with fail
            go_roundw
            case rel => first | exact ⟨k + 1, by omega, by omega, by go_num, fun j h1 h3 => (by rcases Nat.lt_or_ge j k with h | h; exact HN.out j h1 h; obtain rfl : j = k := (by omega); exact HNE.out), HO.out.drew, HGD⟩ | ((repeat apply Exists.intro); exact ⟨⟨k + 1, by omega, by omega, by go_num, fun j h1 h3 => (by rcases Nat.lt_or_ge j k with h | h; exact HN.out j h1 h; obtain rfl : j = k := (by omega); exact HNE.out), HO.out.drew, HGD⟩, rfl⟩)
            case measure => simp [intOf]; omega
      · obtain rfl : k = n := by omega
        have ck : ¬ (k : Int) < k := by omega
        have hd : ddp l l.length = l := by
          rw [hl, ddp_all l k (by omega) HN.out, ← hl, List.take_length]
        have HD := hid hd
        clear hd
        go_wp2_with fail
        go_ret
        refine ⟨_, rfl, ?_, HG.out⟩
        rw [HD.out, hl]; exact HO.out
end Go.Proofs.YtlenfiiocmchdaaGreatDoor
/- What an object names: object.Links. -/
namespace Go.Proofs.YtlenfiiocmchdaaGreatDoor
open Go.RowKit Book Pap Ojt Go.Sort
set_option linter.unusedVariables false
set_option linter.unusedSimpArgs false

theorem Tryz.infoLk : (Tryz.prog.info? 213).map (fun i => (i.zero, i.size, i.bytes)) = some (some (.agg #[.int .i64 0, .string ⟨#[]⟩]), 2, 24) := by kernel_rfl
theorem raw_few {x : Ob} (h : good x = true) : (rawLinks x).length ≤ 1000000 := by
  unfold rawLinks
  split
  · rename_i h2
    unfold good at h
    rw [if_neg (by rw [h2]; decide), if_pos h2] at h
    unfold goodTree at h
    simp only [Bool.and_eq_true, decide_eq_true_eq] at h
    rw [List.length_map]; omega
  · rename_i h2
    split
    · rename_i h3
      unfold good at h
      rw [if_neg (by rw [h3]; decide), if_neg h2, if_pos h3] at h
      unfold goodCommit goodPars at h
      simp only [Bool.and_eq_true, decide_eq_true_eq] at h
      rw [List.length_cons, List.length_map]; omega
    · exact Nat.zero_le _
def LinksOut (x : Ob) (w : World) (e : Ending) (w' : World) : Prop :=
  ∃ v', e = .returned v' ∧ w'.ownsRow w.heap.size 213 2 v' (links x).length (lkvals (links x)) ∧ Below w.heap.size w w'
set_option maxRecDepth 100000 in
set_option maxHeartbeats 8000000 in
theorem links_any (x : Ob) (ev pv : Value) (w : World) (h : ObAt w ev pv x) (hn : ObN x) : Calls Tryz.prog 139 #[.agg (obCs x ev pv)] w (LinksOut x w) := by
  have h0 := h
  obtain ⟨ea, en, ec, pa, pn, pc, rfl, he, rfl, hp⟩ := h
  have hX1 : Blk (w.alloc (.cells (obCs x (.slice ea en ec) (.slice pa pn pc)) 103)) w.heap.size 103 (obCs x (.slice ea en ec) (.slice pa pn pc)) := Blk.new w _ _
  have hB1 : Below w.heap.size w (w.alloc (.cells (obCs x (.slice ea en ec) (.slice pa pn pc)) 103)) := (Below.refl _ _).alloc (Nat.le_refl _) _
  have hO1 : ObAt (w.alloc (.cells (obCs x (.slice ea en ec) (.slice pa pn pc)) 103)) (.slice ea en ec) (.slice pa pn pc) x := h0.later hB1
  unfold obCs at hX1 hB1 hO1 ⊢
  have HX1 := hid hX1; have HB1 := hid hB1; have HO1 := hid hO1; have HON := hid hn
  have HEW := hid he; have HPW := hid hp
  clear h0 he hp hX1 hB1 hO1 hn
  go_enter Tryz.func139, Tryz.ntmps139
  go_upto_region 1 with fail
  obtain ⟨g, hg⟩ : ∃ g, w.heap.size = g := ⟨_, rfl⟩
  have HG := hid hg
  rw [hg] at HX1 HB1 ⊢
  clear hg
  generalize (w.alloc (.cells #[.int .i64 x.kind, .string x.data, .slice ea en ec, .string x.tree, .slice pa pn pc, .int .i64 x.height, .string x.note] 103)) = w1 at HX1 HB1 HO1 ⊢
  have k0 : w1.cell? ⟨g, 0, none⟩ = some (.int .i64 x.kind) := Blk.cell HX1.out 0
  have k1 : w1.cell? ⟨g, 1, none⟩ = some (.string x.data) := Blk.cell HX1.out 1
  have k2 : w1.cell? ⟨g, 2, none⟩ = some (.slice ea en ec) := Blk.cell HX1.out 2
  have k3 : w1.cell? ⟨g, 3, none⟩ = some (.string x.tree) := Blk.cell HX1.out 3
  have k4 : w1.cell? ⟨g, 4, none⟩ = some (.slice pa pn pc) := Blk.cell HX1.out 4
  have k5 : w1.cell? ⟨g, 5, none⟩ = some (.int .i64 x.height) := Blk.cell HX1.out 5
  have k6 : w1.cell? ⟨g, 6, none⟩ = some (.string x.note) := Blk.cell HX1.out 6
  have HGD := hid (obgood_any x _ _ w1 HO1.out HON.out)
  go_wp2_with fail
  refine HGD.out.mono ?_; rintro e w2 ⟨rfl, hb⟩
  have HX2 : Hid (Blk w2 g 103 #[.int .i64 x.kind, .string x.data, .slice ea en ec, .string x.tree, .slice pa pn pc, .int .i64 x.height, .string x.note]) := (hb.block g (Blk.lt HX1.out)).trans HX1.out
  have HO2 : Hid (ObAt w2 (.slice ea en ec) (.slice pa pn pc) x) := HO1.out.later hb
  have HB2 : Hid (Below g w w2) := HB1.out.trans (hb.mono (Nat.le_of_lt (Blk.lt HX1.out)))
  clear k0 k1 k2 k3 k4 k5 k6 hb HX1 HB1 HO1 HGD
  cases hgx : good x
  · have HE : Hid (links x = []) := by
      show _ = _
      unfold links; rw [if_neg (by rw [hgx]; simp)]
    go_wp2_with fail
    go_ret
    refine ⟨_, rfl, ?_, by rw [HG.out]; exact HB2.out⟩
    rw [HE.out]; exact World.ownsRow_nil _ _ _ _
  · have HGX := hid hgx
    clear hgx
    have hrn : (rawLinks x).length ≤ 1000000 := raw_few HGX.out
    have HLK : Hid (ddp (sortL (rawLinks x)) (sortL (rawLinks x)).length = links x) := ddp_links HGX.out
    have hgw : g ≤ w2.heap.size := by have := HB2.out.size; rw [HG.out] at this; exact this
    have k0 : w2.cell? ⟨g, 0, none⟩ = some (.int .i64 x.kind) := Blk.cell HX2.out 0
    have k2 : w2.cell? ⟨g, 2, none⟩ = some (.slice ea en ec) := Blk.cell HX2.out 2
    have k3 : w2.cell? ⟨g, 3, none⟩ = some (.string x.tree) := Blk.cell HX2.out 3
    have k4 : w2.cell? ⟨g, 4, none⟩ = some (.slice pa pn pc) := Blk.cell HX2.out 4
    go_upto_block 0 with fail
    go_cut [3] (fun s3 wx => ∃ v, s3 = v ∧ Hid (wx.ownsRow g 213 2 v (rawLinks x).length (lkvals (rawLinks x))) ∧ Hid (Below g w wx))
    case first =>
      obtain ⟨i0, hi0, hz0, hz1, hz2⟩ := info_parts Tryz.infoLk
      by_cases h2 : x.kind = 2
      · have HRW : Hid (rawLinks x = x.ents.map (fun e => ⟨e.kind, e.id⟩)) := by show _ = _; unfold rawLinks; rw [if_pos h2]
        have hel : x.ents.length = en := HEW.out.1
        have hen : en ≤ 1000000 := by rw [HRW.out, List.length_map] at hrn; omega
        have hkd : (x.kind == 2) = true := by rw [h2]; rfl
        have hkd2 : decide (x.kind = 2) = true := decide_eq_true h2
        clear h2
        go_wp2_with fail
        go_loopw [3, 18] (fun ov iv wr => ∃ i : Nat, i ≤ en ∧ iv = .int .i64 i ∧ Hid (wr.ownsRow g 213 2 ov i (lkvals ((rawLinks x).take i))) ∧ Hid (Below g w wr)) (fun _ iv _ => en - (intOf iv).toNat)
        case atStart => exact ⟨0, Nat.zero_le _, rfl, World.ownsRow_nil _ _ _ _, HB2.out⟩
        case round =>
          obtain ⟨i, hi, rfl, HO, HB⟩ := hrel
          obtain ⟨oa, oc, rfl, hoc⟩ := own_slice' HO.out
          by_cases hlt : i < en
          · have ci : (i : Int) < en := by omega
            have ci0 : (0 : Int) ≤ (i : Int) := by omega
            obtain ⟨-, -, h3⟩ := HEW.out.later (by rw [HG.out]; exact HB.out)
            obtain ⟨b, off, rfl, hc⟩ := h3.resolve_left (by omega)
            obtain ⟨q0, q1, q2⟩ := hc i hlt
            have hil : i < x.ents.length := by omega
            have HT : Hid (lkvals ((rawLinks x).take (i + 1)) = lkvals ((rawLinks x).take i) ++ [.int .i64 (x.ents.getD i ⟨ByteArray.empty, 0, ByteArray.empty⟩).kind, .string (x.ents.getD i ⟨ByteArray.empty, 0, ByteArray.empty⟩).id]) := by
              show _ = _
              rw [List.take_succ_eq_append_getElem (by rw [HRW.out, List.length_map]; exact hil), lkvals_append]
              congr 1
              simp only [HRW.out, List.getElem_map, List.getD_eq_getElem?_getD, List.getElem?_eq_getElem hil]; rfl
            obtain ⟨y, hy⟩ : ∃ y, x.ents.getD i ⟨ByteArray.empty, 0, ByteArray.empty⟩ = y := ⟨_, rfl⟩
            rw [hy] at q0 q1 q2 HT
            obtain ⟨yn, yk, yi⟩ := y
            simp only at q0 q1 q2 HT
            clear hc h3 hy
            go_upto_region 9 with fail
            have HX4 : Hid (Blk (wr.alloc (.cells #[.string yn, .int .i64 yk, .string yi] 40)) wr.heap.size 40 #[.string yn, .int .i64 yk, .string yi]) := Blk.new wr _ _
            have HO4 : Hid ((wr.alloc (.cells #[.string yn, .int .i64 yk, .string yi] 40)).ownsRow g 213 2 (.slice oa i oc) i (lkvals ((rawLinks x).take i))) := HO.out.alloc _
            have hgr : g ≤ wr.heap.size := by have := HB.out.size; rw [HG.out] at this; exact this
            have HB4 : Hid (Below g w (wr.alloc (.cells #[.string yn, .int .i64 yk, .string yi] 40))) := HB.out.alloc hgr _
            generalize (wr.alloc (.cells #[.string yn, .int .i64 yk, .string yi] 40)) = w4 at HX4 HO4 HB4 ⊢
            generalize wr.heap.size = xb at HX4 ⊢
            have j1 : w4.cell? ⟨xb, 1, none⟩ = some (.int .i64 yk) := Blk.cell HX4.out 1
            have j2 : w4.cell? ⟨xb, 2, none⟩ = some (.string yi) := Blk.cell HX4.out 2
            have hg4 : g ≤ w4.heap.size := by have := HB4.out.size; rw [HG.out] at this; exact this
            clear HO HB q0 q1 q2
            go_wp2_with (at_builtin; refine wpList_append_own _ rfl (.tmp 22) (.tmp 28) 210 rfl g 213 i0 (.agg #[.int .i64 0, .string ⟨#[]⟩]) 2 24 Tryz.underlying210 hi0 hz0 hz1 hz2 rfl (by decide) (.slice oa i oc) _ _ rfl (HO4.out.alloc _) ⟨w4.heap.size, 0, none⟩ 1 1 [.int .i64 yk, .string yi] rfl rfl (cellNew2 _ _ _ _) (one2 rfl rfl) (by unfold maxLen; omega) (by omega) (by rw [World.size_alloc]; omega) ?_; intro v' w9 hown' hgrow _; have HOWN := hid hown'; have HGR := hid hgrow; clear hown' hgrow)
            have HO9 : Hid (w9.ownsRow g 213 2 v' (i + 1) (lkvals ((rawLinks x).take (i + 1)))) := by
              show World.ownsRow _ _ _ _ _ _ _
              rw [HT.out]; exact HOWN.out
            have HB9 : Hid (Below g w w9) := (HB4.out.alloc hg4 _).grown HGR.out (by rw [World.size_alloc]; omega) (fun j hj => (HO4.out.lt j hj).1)
            go_roundw
            case rel => first | exact ⟨i + 1, by omega, by go_num, HO9, HB9⟩ | ((repeat apply Exists.intro); exact ⟨⟨i + 1, by omega, by go_num, HO9, HB9⟩, rfl⟩)
            case measure => simp [intOf]; omega
          · obtain rfl : i = en := by omega
            have ci : ¬ (i : Int) < i := by omega
            have hrl : (rawLinks x).length = i := by rw [HRW.out, List.length_map]; exact hel
            have hall : (rawLinks x).take i = rawLinks x := List.take_of_length_le (by omega)
            rw [hall] at HO
            clear hall
            go_wp2_with fail
            go_meet
            case rel => exact ⟨_, rfl, by rw [hrl]; exact HO, HB⟩
      · by_cases h3 : x.kind = 3
        · have HRW : Hid (rawLinks x = ⟨2, x.tree⟩ :: x.pars.map (fun p => ⟨3, p⟩)) := by show _ = _; unfold rawLinks; rw [if_neg h2, if_pos h3]
          have hpl : x.pars.length = pn := HPW.out.1
          have hpn : pn + 1 ≤ 1000000 := by rw [HRW.out, List.length_cons, List.length_map] at hrn; omega
          have hkd : (x.kind == 2) = false := by rw [h3]; rfl
          have hkd2 : decide (x.kind = 2) = false := decide_eq_false h2
          have hkd3 : (x.kind == 3) = true := by rw [h3]; rfl
          have hkd4 : decide (x.kind = 3) = true := decide_eq_true h3
          have H20 := hid h2; have H30 := hid h3
          have HT0 : Hid (lkvals ((rawLinks x).take 1) = [.int .i64 2, .string x.tree]) := by show _ = _; rw [HRW.out]; rfl
          clear h2 h3
          go_wp2_with (at_builtin; refine wpList_append_own _ rfl (.tmp 33) (.tmp 37) 210 rfl g 213 i0 (.agg #[.int .i64 0, .string ⟨#[]⟩]) 2 24 Tryz.underlying210 hi0 hz0 hz1 hz2 rfl (by decide) (.slice none 0 0) 0 [] rfl (World.ownsRow_nil _ _ _ _) ⟨w2.heap.size, 0, none⟩ 1 1 [.int .i64 2, .string x.tree] rfl rfl (cellNew2 _ _ _ _) (one2 rfl rfl) (by unfold maxLen; omega) (by omega) (by rw [World.size_alloc]; omega) ?_; intro v' w9 hown' hgrow _; obtain ⟨oa, oc, hov, -⟩ := own_slice' hown'; subst hov; have HOWN := hid hown'; have HGR := hid hgrow; clear hown' hgrow; have HX9 := hid ((HX2.out.alloc _).grown HGR.out (fun e => by simp [Value.ownBlock] at e)); have k49 : w9.cell? ⟨g, 4, none⟩ = some (.slice pa pn pc) := Blk.cell HX9.out 4)
          have HO9 : Hid (w9.ownsRow g 213 2 (.slice oa 1 oc) 1 (lkvals ((rawLinks x).take 1))) := by
            show World.ownsRow _ _ _ _ _ _ _
            rw [HT0.out]; exact HOWN.out
          have HB9 : Hid (Below g w w9) := (HB2.out.alloc hgw _).grown HGR.out (by rw [World.size_alloc]; omega) (fun j hj => by simp [Value.ownBlock] at hj)
          go_loopw [3, 42] (fun ov iv wr => ∃ i : Nat, i ≤ pn ∧ iv = .int .i64 i ∧ Hid (wr.ownsRow g 213 2 ov (i + 1) (lkvals ((rawLinks x).take (i + 1)))) ∧ Hid (Below g w wr)) (fun _ iv _ => pn - (intOf iv).toNat)
          case atStart => exact ⟨0, Nat.zero_le _, rfl, HO9, HB9⟩
          case round =>
            obtain ⟨i, hi, rfl, HO, HB⟩ := hrel
            obtain ⟨ob, od, rfl, hoc⟩ := own_slice' HO.out
            by_cases hlt : i < pn
            · have ci : (i : Int) < pn := by omega
              have ci0 : (0 : Int) ≤ (i : Int) := by omega
              obtain ⟨-, -, h3⟩ := HPW.out.later (by rw [HG.out]; exact HB.out)
              obtain ⟨b, off, rfl, hc⟩ := h3.resolve_left (by omega)
              have q0 := hc i hlt
              have hil : i < x.pars.length := by omega
              have HT : Hid (lkvals ((rawLinks x).take (i + 1 + 1)) = lkvals ((rawLinks x).take (i + 1)) ++ [.int .i64 3, .string (x.pars.getD i ByteArray.empty)]) := by
                show _ = _
                rw [List.take_succ_eq_append_getElem (by rw [HRW.out, List.length_cons, List.length_map]; omega), lkvals_append]
                congr 1
                simp only [HRW.out, List.getElem_cons_succ, List.getElem_map, List.getD_eq_getElem?_getD, List.getElem?_eq_getElem hil]; rfl
              obtain ⟨y, hy⟩ : ∃ y, x.pars.getD i ByteArray.empty = y := ⟨_, rfl⟩
              rw [hy] at q0 HT
              have hgr : g ≤ wr.heap.size := by have := HB.out.size; rw [HG.out] at this; exact this
              clear hc h3 hy
              go_wp2_with (at_builtin; refine wpList_append_own _ rfl (.tmp 46) (.tmp 49) 210 rfl g 213 i0 (.agg #[.int .i64 0, .string ⟨#[]⟩]) 2 24 Tryz.underlying210 hi0 hz0 hz1 hz2 rfl (by decide) (.slice ob (i + 1) od) _ _ rfl (HO.out.alloc _) ⟨wr.heap.size, 0, none⟩ 1 1 [.int .i64 3, .string y] rfl rfl (cellNew2 _ _ _ _) (one2 rfl rfl) (by unfold maxLen; omega) (by omega) (by rw [World.size_alloc]; omega) ?_; intro v' wn hown' hgrow _; have HOWM := hid hown'; have HGS := hid hgrow; clear hown' hgrow)
              have HOn : Hid (wn.ownsRow g 213 2 v' (i + 1 + 1) (lkvals ((rawLinks x).take (i + 1 + 1)))) := by
                show World.ownsRow _ _ _ _ _ _ _
                rw [HT.out]; exact HOWM.out
              have HBn : Hid (Below g w wn) := (HB.out.alloc hgr _).grown HGS.out (by rw [World.size_alloc]; omega) (fun j hj => (HO.out.lt j hj).1)
              go_roundw
              case rel => first | exact ⟨i + 1, by omega, by go_num, HOn, HBn⟩ | ((repeat apply Exists.intro); exact ⟨⟨i + 1, by omega, by go_num, HOn, HBn⟩, rfl⟩)
              case measure => simp [intOf]; omega
            · obtain rfl : i = pn := by omega
              have ci : ¬ (i : Int) < i := by omega
              have hrl : (rawLinks x).length = i + 1 := by rw [HRW.out, List.length_cons, List.length_map]; omega
              have hall : (rawLinks x).take (i + 1) = rawLinks x := List.take_of_length_le (by omega)
              rw [hall] at HO
              clear hall
              go_wp2_with fail
              go_meet
              case rel => exact ⟨_, rfl, by rw [hrl]; exact HO, HB⟩
        · have HRW : Hid (rawLinks x = []) := by show _ = _; unfold rawLinks; rw [if_neg h2, if_neg h3]
          have hkd : (x.kind == 2) = false := by rw [beq_eq_false_iff_ne]; exact h2
          have hkd2 : decide (x.kind = 2) = false := decide_eq_false h2
          have hkd3 : (x.kind == 3) = false := by rw [beq_eq_false_iff_ne]; exact h3
          have hkd4 : decide (x.kind = 3) = false := decide_eq_false h3
          go_wp2_with fail
          go_meet
          case rel => exact ⟨_, rfl, by rw [HRW.out]; exact World.ownsRow_nil _ _ _ _, HB2⟩
    case rest =>
      obtain ⟨v3, rfl, HO3, HB3⟩ := hcut
      have hgc : g ≤ wc.heap.size := by have := HB3.out.size; rw [HG.out] at this; exact this
      have HST := hid (sortLk_own g (rawLinks x).length _ (rawLinks x) wc HO3.out hrn)
      go_wp2_with fail
      refine HST.out.mono ?_; rintro e w5 ⟨rfl, ho5, hg5⟩
      have hsl : (sortL (rawLinks x)).length = (rawLinks x).length := (sortL_perm _).length_eq
      have HB5 : Hid (Below g w w5) := HB3.out.grown hg5 hgc (fun j hj => (HO3.out.lt j hj).1)
      have hg5c : g ≤ w5.heap.size := Nat.le_trans hgc hg5.size
      have HO5 := hid ho5
      have HCP := hid (compLk_own g (rawLinks x).length _ (sortL (rawLinks x)) w5 ho5 hrn)
      clear ho5 hg5 HST
      go_wp2_with fail
      refine HCP.out.mono ?_; rintro e w6 ⟨v6, rfl, ho6, hg6⟩
      rw [HLK.out] at ho6
      have HO6 := hid ho6
      have HB6 : Hid (Below g w w6) := HB5.out.grown hg6 hg5c (fun j hj => (HO5.out.lt j hj).1)
      clear ho6 hg6 HCP
      go_wp2_with fail
      go_ret
      exact ⟨v6, rfl, by rw [HG.out]; exact HO6.out, by rw [HG.out]; exact HB6.out⟩
end Go.Proofs.YtlenfiiocmchdaaGreatDoor
/- What a commit's objects are: each names only those ahead of it; Admit takes them all (plain). -/
namespace Go.Proofs.YtlenfiiocmchdaaGreatDoor
open Go.RowKit Book Pap Ojt Sn
set_option linter.unusedVariables false
set_option linter.unusedSimpArgs false

/-- an object whose links stand among some texts -/
def FitIn (P : List ByteArray) (o : Ob) : Prop :=
  good o = true ∧ (∀ k ∈ rawLinks o, k.kind ≠ 3 ∧ ∃ t ∈ P, ∃ y, Sw.idOf t = k.id ∧ Sw.decO t = some y ∧ y.kind = k.kind) ∧ (o.kind = 3 → o.height = 0)
/-- a text that may stand behind some -/
def Step (P : List ByteArray) (t : ByteArray) : Prop := t ∉ P ∧ t.size ≤ 131072 ∧ ∃ o, Sw.decO t = some o ∧ FitIn P o
/-- texts, each naming only those ahead -/
def Stair (L : List ByteArray) : Prop := ∀ i, i < L.length → Step (L.take i) (L.getD i ByteArray.empty)
theorem Stair.nil : Stair [] := fun i h => by simp at h
theorem Stair.snoc {L : List ByteArray} {t : ByteArray} (h : Stair L) (ht : Step L t) : Stair (L ++ [t]) := fun i hi => by
  rw [List.length_append, List.length_singleton] at hi
  rcases Nat.lt_or_ge i L.length with h1 | h1
  · have := h i h1
    rw [List.take_append_of_le_length (by omega)]
    rw [List.getD_eq_getElem?_getD, List.getElem?_append_left h1, ← List.getD_eq_getElem?_getD]
    exact this
  · obtain rfl : i = L.length := by omega
    rw [List.take_left' rfl, List.getD_eq_getElem?_getD, List.getElem?_append_right (Nat.le_refl _), Nat.sub_self]
    exact ht
theorem Stair.lay {L : List ByteArray} {x : Ob} (h : Stair L) (hg : good x = true) (hd : dec (encL x) = some x) (hf : FitIn L x) : Stair (layS L x).1 := by
  unfold layS
  simp only
  split
  · exact h
  · rename_i hn
    have hn : encP x ∉ L := fun e => hn (hasN_iff.2 e)
    exact h.snoc ⟨hn, by have := encP_size x; omega, x, decO_encP hg hd, hf⟩
/-- none is a commit -/
def NoCom (L : List ByteArray) : Prop := ∀ t ∈ L, ∃ o, Sw.decO t = some o ∧ o.kind ≠ 3
theorem NoCom.lay {L : List ByteArray} {x : Ob} (h : NoCom L) (hg : good x = true) (hd : dec (encL x) = some x) (hk : x.kind ≠ 3) : NoCom (layS L x).1 := fun t ht => by
  rcases (layS_mem L x t).1 ht with ht | rfl
  · exact h t ht
  · exact ⟨x, decO_encP hg hd, hk⟩
theorem fit_blob (P : List ByteArray) {s : ByteArray} (hg : good (blobOf s) = true) : FitIn P (blobOf s) :=
  ⟨hg, ⟨fun k hk => (by cases hk), fun h => (by cases h)⟩⟩
theorem ents_stair {rec : List Fl → List ByteArray → List ByteArray × ByteArray} {fs : List Fl} (hg : GoodFl fs) (hr : ∀ n L, sub n fs ≠ [] → Stair L → NoCom L → Stair (rec (sub n fs) L).1 ∧ NoCom (rec (sub n fs) L).1) :
    ∀ (ns : List ByteArray) (L : List ByteArray) (E : List Ent), Stair L → NoCom L → Stair (entsS rec fs ns L E).1 ∧ NoCom (entsS rec fs ns L E).1
  | [], L, E, h, k => ⟨h, k⟩
  | n :: r, L, E, h, k => by
    have h1 : Stair (nameS rec fs L n).1 ∧ NoCom (nameS rec fs L n).1 := by
      unfold nameS
      split
      · have hb := leaf_good hg n
        exact ⟨h.lay hb (dec_blob hb) (fit_blob L hb), k.lay hb (dec_blob hb) (by show (1 : Int) ≠ 3; decide)⟩
      · rename_i hs
        exact hr n L hs h k
    exact ents_stair hg hr r _ _ h1.1 h1.2
theorem tree_stair : ∀ (d : Nat) (fs : List Fl) (L : List ByteArray), AptL fs → (∀ f ∈ fs, f.1.length ≤ d + 1) → GoodFl fs → fs.length ≤ 256 → Stair L → NoCom L → Stair (treeS (d + 1) fs L).1 ∧ NoCom (treeS (d + 1) fs L).1 := by
  intro d
  induction d with
  | zero =>
    intro fs L ha hl hg hn h k
    have hgt := tree_good 0 ha hl hg hn
    obtain ⟨s1, s2⟩ := ents_stair (rec := treeS 0) hg (fun n L hs => absurd (sub_zero ha hl n) hs) (namesF fs) L [] h k
    obtain ⟨m1, m2⟩ := entsS_mem (treeS_mem 0) fs (namesF fs) L []
    rw [List.nil_append] at m1
    show Stair (layS _ (treeOf _)).1 ∧ NoCom (layS _ (treeOf _)).1
    rw [m1]
    refine ⟨s1.lay hgt (dec_tree hgt) ⟨hgt, fun l hl' => ?_, fun e => (by cases e)⟩, s2.lay hgt (dec_tree hgt) (by show (2 : Int) ≠ 3; decide)⟩
    obtain ⟨e, he, rfl⟩ := List.mem_map.1 (show l ∈ (tents 0 fs).map (fun e => (⟨e.kind, e.id⟩ : Lnk)) from hl')
    obtain ⟨n, hn', rfl⟩ := List.mem_map.1 he
    have hb := leaf_good hg n
    have e1 : entOf (tid 0) fs n = ⟨n, 1, Sw.idOf (leafT fs n)⟩ := by unfold entOf; rw [if_pos (sub_zero ha hl n)]
    rw [e1]
    refine ⟨by show (1 : Int) ≠ 3; decide, leafT fs n, (m2 _).2 (.inr (List.mem_flatMap.2 ⟨n, hn', ?_⟩)), _, rfl, decO_encP hb (dec_blob hb), rfl⟩
    unfold textOf; rw [if_pos (sub_zero ha hl n)]; exact List.mem_singleton.2 rfl
  | succ d ih =>
    intro fs L ha hl hg hn h k
    have hgt := tree_good (d + 1) ha hl hg hn
    obtain ⟨s1, s2⟩ := ents_stair (rec := treeS (d + 1)) hg (fun n L hs h k => ih (sub n fs) L (ha.sub n) (sub_len hl) (hg.sub n) (Nat.le_trans (sub_few n fs) hn) h k) (namesF fs) L [] h k
    obtain ⟨m1, m2⟩ := entsS_mem (treeS_mem (d + 1)) fs (namesF fs) L []
    rw [List.nil_append] at m1
    show Stair (layS _ (treeOf _)).1 ∧ NoCom (layS _ (treeOf _)).1
    rw [m1]
    refine ⟨s1.lay hgt (dec_tree hgt) ⟨hgt, fun l hl' => ?_, fun e => (by cases e)⟩, s2.lay hgt (dec_tree hgt) (by show (2 : Int) ≠ 3; decide)⟩
    obtain ⟨e, he, rfl⟩ := List.mem_map.1 (show l ∈ (tents (d + 1) fs).map (fun e => (⟨e.kind, e.id⟩ : Lnk)) from hl')
    obtain ⟨n, hn', rfl⟩ := List.mem_map.1 he
    by_cases hs : sub n fs = []
    · have hb := leaf_good hg n
      have e1 : entOf (tid (d + 1)) fs n = ⟨n, 1, Sw.idOf (leafT fs n)⟩ := by unfold entOf; rw [if_pos hs]
      rw [e1]
      refine ⟨by show (1 : Int) ≠ 3; decide, leafT fs n, (m2 _).2 (.inr (List.mem_flatMap.2 ⟨n, hn', ?_⟩)), _, rfl, decO_encP hb (dec_blob hb), rfl⟩
      unfold textOf; rw [if_pos hs]; exact List.mem_singleton.2 rfl
    · have hgs := tree_good d (ha.sub n) (sub_len hl) (hg.sub n) (Nat.le_trans (sub_few n fs) hn)
      have e1 : entOf (tid (d + 1)) fs n = ⟨n, 2, tid (d + 1) (sub n fs)⟩ := by unfold entOf; rw [if_neg hs]
      rw [e1]
      refine ⟨by show (2 : Int) ≠ 3; decide, encP (treeOf (tents d (sub n fs))), (m2 _).2 (.inr (List.mem_flatMap.2 ⟨n, hn', ?_⟩)), _, rfl, decO_encP hgs (dec_tree hgs), rfl⟩
      unfold textOf; rw [if_neg hs]
      exact List.mem_append.2 (.inr (List.mem_singleton.2 rfl))
/-- the objects of a commit without parents -/
theorem com_stair {l : List Fi} {note : ByteArray} (h : OkFs l) (hn : note.size ≤ 1000) : Stair (comL l note) ∧ comL l note = (treeS 64 (l.map flOf) []).1 ++ [encP (commitOf (tid 64 (l.map flOf)) [] 0 note)] := by
  obtain ⟨s1, s2⟩ := tree_stair 63 (l.map flOf) [] h.apt (fun f hf => h.len f hf) h.goodFl (by rw [List.length_map]; exact h.few) Stair.nil (fun t ht => by cases ht)
  have hg := commit_good (fs := l) hn
  have hd := dec_commit hg
  have hgt := tree_good 63 h.apt (fun f hf => h.len f hf) h.goodFl (by rw [List.length_map]; exact h.few)
  refine ⟨s1.lay hg hd ⟨hg, fun k hk => ?_, fun _ => rfl⟩, ?_⟩
  · obtain rfl : k = ⟨2, tid 64 (l.map flOf)⟩ := List.mem_singleton.1 hk
    refine ⟨by show (2 : Int) ≠ 3; decide, encP (treeOf (tents 63 (l.map flOf))), ((treeS_mem 64 _ []).2 _).2 (.inr (List.mem_append.2 (.inr (List.mem_singleton.2 rfl)))), _, rfl, decO_encP hgt (dec_tree hgt), rfl⟩
  · show (if hasN _ _ = true then _ else _) = _
    rw [if_neg]
    intro e
    obtain ⟨o, ho, hk⟩ := s2 _ (hasN_iff.1 e)
    rw [decO_encP hg hd] at ho
    cases ho
    exact hk rfl
/-! Admit takes them -/
theorem none_none : (none : Option ByteArray).isNone = true := rfl
def itL (L : List ByteArray) : List Sw.It := L.map (fun t => ⟨Sw.idOf t, t⟩)
def itFi (l : List Sw.It) : List Fi := l.map (fun x => ⟨x.id, x.data⟩)
theorem itFi_itL (L : List ByteArray) : itFi (itL L) = itemsS L := by
  unfold itFi itL itemsS
  rw [List.map_map]; rfl
theorem itL_mem {P : List ByteArray} {id u : ByteArray} (h : (⟨id, u⟩ : Sw.It) ∈ itL P) : u ∈ P ∧ Sw.idOf u = id := by
  obtain ⟨t, ht, e⟩ := List.mem_map.1 h
  cases e
  exact ⟨ht, rfl⟩
theorem getI_not {T P : List ByteArray} (hT : Sw.Apart T) (hP : ∀ u ∈ P, u ∈ T) {t : ByteArray} (ht : t ∈ T) (hn : t ∉ P) : Sw.getI (itL P) (Sw.idOf t) = none := by
  cases hg : Sw.getI (itL P) (Sw.idOf t) with
  | none => rfl
  | some u =>
    obtain ⟨h1, h2⟩ := itL_mem (Sw.getI_some hg)
    exact absurd (hT u (hP u h1) t ht h2 ▸ h1) hn
theorem getI_yes {T P : List ByteArray} (hT : Sw.Apart T) (hP : ∀ u ∈ P, u ∈ T) {t : ByteArray} (ht : t ∈ P) : Sw.getI (itL P) (Sw.idOf t) = some t := by
  cases hg : Sw.getI (itL P) (Sw.idOf t) with
  | none => exact absurd rfl (Sw.getI_none hg ⟨Sw.idOf t, t⟩ (List.mem_map.2 ⟨t, ht, rfl⟩))
  | some u =>
    obtain ⟨h1, h2⟩ := itL_mem (Sw.getI_some hg)
    rw [hT u (hP u h1) t (hP t ht) h2]
theorem fitsK_all {H : Sw.Src} : ∀ (l : List Lnk) (hs : List Int), (∀ k ∈ l, (Sw.look H k.id).1 = 0 ∧ (Sw.look H k.id).2.kind = k.kind ∧ k.kind ≠ 3) → Sw.fitsK H l hs = (0, hs)
  | [], _, _ => rfl
  | k :: r, hs, h => by
    obtain ⟨h1, h2, h3⟩ := h k (List.mem_cons_self ..)
    unfold Sw.fitsK
    rw [if_neg (by simp [h1]), if_neg (by simp [h2]), if_neg h3]
    exact fitsK_all r hs (fun j hj => h j (List.mem_cons_of_mem _ hj))
def noSrc : Sw.Src := fun _ => none
theorem over_noSrc (l : List Sw.It) : Sw.over l noSrc = Sw.getI l := by
  funext id
  unfold Sw.over noSrc
  cases Sw.getI l id <;> rfl
theorem fits_in {T P : List ByteArray} (hT : Sw.Apart T) (hP : ∀ u ∈ P, u ∈ T) {o : Ob} (h : FitIn P o) : Sw.fits (Sw.getI (itL P)) o = 0 := by
  obtain ⟨hg, hk, h3⟩ := h
  have key := fitsK_all (H := Sw.getI (itL P)) (links o) [] (fun k hm => by
    obtain ⟨n3, t, ht, y, e1, e2, e3⟩ := hk k ((links_mem hg k).1 hm)
    have hl : Sw.look (Sw.getI (itL P)) k.id = (0, y) := by
      unfold Sw.look
      rw [← e1, getI_yes hT hP ht]
      simp only [e2]
    rw [hl]
    exact ⟨rfl, e3, n3⟩)
  unfold Sw.fits
  rw [key, if_neg (by simp), if_neg]
  rintro ⟨a1, a2⟩
  exact a2 (h3 a1)
theorem admitF_stair {T : List ByteArray} (hT : Sw.Apart T) : ∀ (R P : List ByteArray), P ++ R = T → Stair T → Sw.admitF noSrc R (itL P) (itL P) = (itL T, 0)
  | [], P, e, _ => by
    rw [List.append_nil] at e
    subst e; rfl
  | t :: R, P, e, hS => by
    have hlen : P.length < T.length := by rw [← e]; simp
    have hs := hS P.length hlen
    have e1 : T.take P.length = P := by rw [← e]; exact List.take_left' rfl
    have e2 : T.getD P.length ByteArray.empty = t := by rw [← e, List.getD_eq_getElem?_getD, List.getElem?_append_right (Nat.le_refl _), Nat.sub_self]; rfl
    rw [e1, e2] at hs
    obtain ⟨hn, hz, o, hd, hf⟩ := hs
    have hP : ∀ u ∈ P, u ∈ T := fun u hu => by rw [← e]; exact List.mem_append.2 (.inl hu)
    have ht : t ∈ T := by rw [← e]; exact List.mem_append.2 (.inr (List.mem_cons_self ..))
    have hg := getI_not hT hP ht hn
    have hov : Sw.over (itL P) noSrc (Sw.idOf t) = none := by rw [over_noSrc]; exact hg
    have he : Sw.errAt noSrc (itL P) t = 0 := by
      unfold Sw.errAt
      rw [if_neg (by omega), hd]
      simp only
      rw [hov, if_pos none_none, over_noSrc]
      exact fits_in hT hP hf
    have e3 : Sw.took (itL P) t = itL (P ++ [t]) := by
      unfold Sw.took
      rw [hg, if_pos none_none]
      unfold itL
      rw [List.map_append]; rfl
    have e4 : Sw.brought noSrc (itL P) (itL P) t = itL (P ++ [t]) := by
      unfold Sw.brought
      rw [hov, if_pos none_none]
      unfold itL
      rw [List.map_append]; rfl
    unfold Sw.admitF
    rw [if_neg (by simp [he]), e3, e4]
    exact admitF_stair hT R (P ++ [t]) (by rw [List.append_assoc]; exact e) hS
theorem admit_com {l : List Fi} {note : ByteArray} (h : OkFs l) (hn : note.size ≤ 1000) (hT : Sw.Apart (comL l note)) : Sw.admitS noSrc (comL l note) = (itL (comL l note), 0) :=
  admitF_stair hT (comL l note) [] rfl (com_stair h hn).1
theorem com_last {l : List Fi} {note : ByteArray} (h : OkFs l) (hn : note.size ≤ 1000) : 0 < (comL l note).length ∧ Sw.idOf ((comL l note).getD ((comL l note).length - 1) ByteArray.empty) = comI l note := by
  obtain ⟨-, e⟩ := com_stair h hn
  constructor
  · rw [e, List.length_append]; simp
  · conv => lhs; rw [e]
    rw [List.length_append, List.length_singleton, Nat.add_sub_cancel, List.getD_eq_getElem?_getD, List.getElem?_append_right (Nat.le_refl _), Nat.sub_self]
    rfl
end Go.Proofs.YtlenfiiocmchdaaGreatDoor
