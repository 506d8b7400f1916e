/- Texts in a row: OrdN, AllO, FactU, OrdG, Slog, SlogP, MkG, LwP, LwQ, LkP, LkR, Best, HiA, LkQ. -/
import Derived.Test.YtmpjdoiogbbcoaaGreatDoorMhI
import Derived.Deep.DeepCutAuto
import Derived.Deep.CutBlock
import Derived.Maps.OwnIn
/- All facts that are met from one on: order.met. -/
namespace Go.Proofs.YtmpjdoiogbbcoaaGreatDoor
open Go.RowKit Book Pap Ojt Sn Go.Sort
set_option linter.unusedVariables false
set_option linter.unusedSimpArgs false

def seenF (A : List ByteArray) : ByteArray → Option Bool := fun q => if hasN A q = true then some true else none
theorem seenF_snoc (A : List ByteArray) (p : ByteArray) : seenF (A ++ [p]) = fun q => if q = p then some true else seenF A q := by
 funext q
 unfold seenF
 by_cases h : q = p
 ·subst h
  rw [if_pos rfl, if_pos (hasN_iff.2 (by simp))]
 ·rw [if_neg h]
  cases hA : hasN A q
  ·have h2 : hasN (A ++ [p]) q = false := hasN_no.2 (fun hm => by
    rcases List.mem_append.1 hm with hm | hm
    ·exact hasN_no.1 hA hm
    ·exact h (List.mem_singleton.1 hm))
   rw [h2]
  ·have h2 : hasN (A ++ [p]) q = true := hasN_iff.2 (List.mem_append.2 (.inl (hasN_iff.1 hA)))
   rw [h2]
theorem zeroBo (w : World) : (zeroValue 4).run Tryz.prog w = .ok (.bool false) w := by kernel_rfl
theorem boMap_get1 {w : World} {m n : Nat} {f : ByteArray → Option Bool} (h : BoMap w m n f) (s : ByteArray) (hs : s.size ≤ maxLen) : (Instr.lookup 225 (.map (some m)) (.string s) false).run Tryz.prog w = .ok (.bool ((f s).getD false)) w :=
 MapFn.get1 Tryz.underlying9 Tryz.underlying225 valB_inj (fun x y h => by injection h with h; injection h) (z0 := false) zeroBo h s hs
/-- the walk's state -/
structure MInv (w wr : World) (F : ByteArray → Fc) (l : List ByteArray) (id : ByteArray) (m2 : Nat) (A : List ByteArray) (va : Option Addr) (vc : Nat) : Prop where
 nd : A.Nodup
 sub : ∀ q ∈ A, q ∈ l
 has : id ∈ A
 row : wr.ownsRow w.heap.size 66 3 (.slice va A.length vc) A.length (fvals (A.map F))
 seen : BoMap wr m2 A.length (seenF A)
 low : w.heap.size ≤ m2
 below : Below w.heap.size w wr
theorem MInv.later {w wr w2 : World} {F : ByteArray → Fc} {l : List ByteArray} {id : ByteArray} {m2 : Nat} {A : List ByteArray} {va : Option Addr} {vc : Nat} (h : MInv w wr F l id m2 A va vc) (hb : Below wr.heap.size wr w2) : MInv w w2 F l id m2 A va vc :=
 ⟨h.nd, h.sub, h.has, own_below h.row hb, h.seen.later hb, h.low, below_then h.below hb⟩
theorem fvals_snoc (F : ByteArray → Fc) (A : List ByteArray) (p : ByteArray) : fvals ((A ++ [p]).map F) = fvals (A.map F) ++ [.string (F p).id, .int .i64 (F p).h, .slice (F p).pa (F p).pn (F p).pc] := by
 rw [List.map_append, fvals_append]; rfl
/-- what met hands back -/
def MetOut (w : World) (F : ByteArray → Fc) (l : List ByteArray) (e : Ending) (w' : World) : Prop :=
 ∃ S a c, e = .returned (.tuple #[.slice a (List.length S) c, .int .i64 0]) ∧ w'.ownsRow w.heap.size 66 3 (.slice a S.length c) S.length (fvals (S.map F)) ∧ S.Pairwise (fun p q => upQ (fun q => (F q).h) p q = true) ∧ (∀ q, q ∈ S ↔ q ∈ l) ∧ Below w.heap.size w w'
theorem met_all {G : Sw.Src} {id : ByteArray} {A l : List ByteArray} (hl : ∀ q, q ∈ l ↔ Rch G id q) (h1 : id ∈ A) (h2 : ∀ q ∈ A, ∀ p ∈ (obF G q).pars, p ∈ A) (h3 : ∀ q ∈ A, q ∈ l) (q : ByteArray) : q ∈ A ↔ q ∈ l := by
 refine ⟨h3 q, fun h => ?_⟩
 have hr := (hl q).1 h
 clear h
 induction hr with
 | root => exact h1
 | step _ hp ih => exact h2 _ ih _ hp
set_option maxRecDepth 100000 in
set_option maxHeartbeats 16000000 in
theorem met_any (G : Sw.Src) (id : ByteArray) (l : List ByteArray) (hl : ∀ q, q ∈ l ↔ Rch G id q) (hl6 : l.length ≤ 500000) (m n : Nat) (fs : List Fc) (F : ByteArray → Fc) (hF : ∀ q, (F q).id = q) (hT : ∀ q ∈ l, tabF fs q = some (F q)) (hsz : ∀ q ∈ l, q.size ≤ maxLen)
  (w : World) (hm : FcMap w m n (tabF fs)) (hp : ∀ q ∈ l, StrsAt w (F q).pa (F q).pn (obF G q).pars) :
  Calls Tryz.prog 89 #[.map (some m), .string id] w (MetOut w F l) := by
 have hmk : ∀ (T : TypeId) (W : World), (Instr.makeMap T none).run Tryz.prog W = .ok (.map (some W.heap.size)) (W.alloc (.map #[] 0)) := fun T W => run_makeMap T W
 have hid0 : id ∈ l := (hl id).2 .root
 have hids : id.size ≤ maxLen := hsz id hid0
 have hlk := fcMap_get2 hm id hids
 rw [hT id hid0] at hlk
 have hF0 := hF id
 have HL := hid hl; have HT := hid hT; have HSZ := hid hsz; have HF := hid hF; have HM := hid hm; have HP := hid hp
 clear hl hT hsz hF hm hp
 obtain ⟨f0, hf0⟩ : ∃ f0, F id = f0 := ⟨_, rfl⟩
 rw [hf0] at hlk hF0
 obtain ⟨fi, fh, fa, fn, fc⟩ := f0
 simp only at hF0
 subst hF0
 have ev : valF ((some (⟨fi, fh, fa, fn, fc⟩ : Fc)).getD noFc) = .agg #[.string fi, .int .i64 fh, .slice fa fn fc] := rfl
 rw [ev] at hlk
 simp only [Option.isSome_some] at hlk
 clear ev
 have HF0 := hid hf0
 have HID := hid hid0
 clear hf0 hid0
 have HX : Hid (Blk (w.alloc (.cells #[.string fi, .int .i64 fh, .slice fa fn fc] 66)) w.heap.size 66 #[.string fi, .int .i64 fh, .slice fa fn fc]) := Blk.new w _ _
 have HB : Hid (Below w.heap.size w (w.alloc (.cells #[.string fi, .int .i64 fh, .slice fa fn fc] 66))) := (Below.refl _ _).alloc (Nat.le_refl _) _
 go_enter Tryz.func89, Tryz.ntmps89
 go_upto_region 2 with fail
 generalize (w.alloc (.cells #[.string fi, .int .i64 fh, .slice fa fn fc] 66)) = w1 at HX HB ⊢
 clear hlk
 have hgl : w.heap.size ≤ w1.heap.size := HB.out.size
 have hg1 : w.heap.size < w1.heap.size := Blk.lt HX.out
 have HM2 : Hid (BoMap (w1.alloc (.map #[] 0)) w1.heap.size 0 (fun _ => none)) := MapFn.made w1
 have HX2 : Hid (Blk (w1.alloc (.map #[] 0)) w.heap.size 66 #[.string fi, .int .i64 fh, .slice fa fn fc]) := Blk.alloc HX.out _
 have HB2 : Hid (Below w.heap.size w (w1.alloc (.map #[] 0))) := HB.out.alloc hgl _
 go_upto_region 5 with (first
  | (refine wpList_mapFn_ins rfl (.tmp 23) (.tmp 24) (.const (.bool true)) 225 rfl Tryz.underlying9 Tryz.underlying225 valB_inj HM2.out (by unfold maxLen; omega) fi hids true rfl rfl rfl ?_; intro w6 hm6 hg6; have HG6 := hid hg6; have HM6 := hid hm6; clear hm6 hg6)
  | go_in)
 have HX6 : Hid (Blk w6 w.heap.size 66 #[.string fi, .int .i64 fh, .slice fa fn fc]) := (HG6.out.block w.heap.size (by rw [World.size_alloc]; omega) (by intro e; injection e with e; omega)).trans HX2.out
 have HB6 : Hid (Below w.heap.size w w6) := HB2.out.grown HG6.out (by rw [World.size_alloc]; omega) (fun j hj => by cases hj; exact hgl)
 have hs6 : w1.heap.size < w6.heap.size := by have := HG6.out.size; rw [World.size_alloc] at this; omega
 clear HG6 HM2 HX2 HB2 HX HB
 generalize w1.heap.size = m2 at HM6 hgl hg1 hs6 ⊢
 have k0 : w6.cell? ⟨w.heap.size, 0, none⟩ = some (.string fi) := Blk.cell HX6.out 0
 have k1 : w6.cell? ⟨w.heap.size, 1, none⟩ = some (.int .i64 fh) := Blk.cell HX6.out 1
 have k2 : w6.cell? ⟨w.heap.size, 2, none⟩ = some (.slice fa fn fc) := Blk.cell HX6.out 2
 go_upto_region 6 with fail
 have HI7 : Hid (MInv w (w6.alloc (.cells #[.string fi, .int .i64 fh, .slice fa fn fc] 66)) F l fi m2 [fi] (some ⟨w6.heap.size, 0, none⟩) 1) := by
  have hlow : w.heap.size ≤ w6.heap.size := by omega
  refine ⟨by simp, fun q hq => by rw [List.mem_singleton.1 hq]; exact HID.out, List.mem_singleton.2 rfl, ⟨rfl, .inr ⟨w6.heap.size, 1, _, rfl, hlow, Blk.new w6 _ _, Nat.le_refl _, by unfold maxLen; omega, rfl, ?_⟩⟩, ?_, hgl, HB6.out.alloc hlow _⟩
  ·simp only [List.map_cons, List.map_nil, HF0.out]; rfl
  ·have e : seenF [fi] = fun q => if q = fi then some true else none := by
    have := seenF_snoc [] fi
    rw [List.nil_append] at this
    rw [this]; funext q; split
    ·rfl
    ·rfl
   rw [e]
   exact HM6.out.later ((Below.refl _ _).alloc (Nat.le_refl _) _)
 clear k0 k1 k2 HX6 HB6 HM6
 generalize (w6.alloc (.cells #[.string fi, .int .i64 fh, .slice fa fn fc] 66)) = w7 at HI7 ⊢
 generalize w6.heap.size = e7 at HI7 hs6 ⊢
 go_wp2_with fail
 go_loopw [10, 9] (fun iv av wr => ∃ i A va vc, i ≤ List.length A ∧ iv = .int .i64 i ∧ av = .slice va (List.length A) vc ∧ Hid (MInv w wr F l fi m2 A va vc) ∧ Hid (∀ q ∈ A.take i, ∀ p ∈ (obF G q).pars, p ∈ A)) (fun iv _ _ => l.length - (intOf iv).toNat)
 case atStart => exact ⟨0, [fi], _, _, Nat.zero_le _, rfl, rfl, HI7, fun q hq => by simp at hq⟩
 case round =>
  obtain ⟨i, A0, va, vc, hi, rfl, rfl, HI, HC⟩ := hrel
  have hAl : A0.length ≤ l.length := nodup_le HI.out.nd HI.out.sub
  by_cases hlt : i < A0.length
  ·have ci : (i : Int) < A0.length := by omega
   have ci0 : (0 : Int) ≤ (i : Int) := by omega
   obtain ⟨x, hx⟩ : ∃ x, A0[i] = x := ⟨_, rfl⟩
   have hxA : x ∈ A0 := by rw [← hx]; exact List.getElem_mem hlt
   have hxl : x ∈ l := HI.out.sub x hxA
   obtain ⟨g1, d1, e1, _, _⟩ := HI.out.row.form (by omega)
   injection e1 with e11 _ e12
   subst e11
   have q2 := HI.out.row.cellAt (i * 3 + 2) (by omega)
   have hgd : (A0.map F).getD i noFc = F x := by
    rw [List.getD_eq_getElem?_getD, List.getElem?_map, List.getElem?_eq_getElem hlt, hx]; rfl
   rw [fvals_get (A0.map F) i 2 (by rw [List.length_map]; exact hlt) (by omega), hgd] at q2
   have HPX := hid (HP.out x hxl)
   have HX0 := hid hx
   have HXA := hid hxA
   have HXL := hid hxl
   obtain ⟨⟨xi, xh, xa, xn, xc⟩, hfx⟩ : ∃ f, F x = f := ⟨_, rfl⟩
   rw [hfx] at q2 HPX
   simp only at HPX
   replace q2 : wr.cell? ⟨g1, i * 3 + 2, none⟩ = some (.slice xa xn xc) := q2
   clear hx hgd hfx e12 hxA hxl
   go_wp2_with fail
   clear q2
   have hA0l := hAl
   have hx63 : xn ≤ 9223372036854775807 := HPX.out.2.1
   go_loopw [40, 9] (fun jv av wr => ∃ k A va vc, k ≤ xn ∧ jv = .int .i64 k ∧ av = .slice va (List.length A) vc ∧ Hid (MInv w wr F l fi m2 A va vc) ∧ Hid (A0 <+: A) ∧ Hid (∀ p ∈ (obF G x).pars.take k, p ∈ A)) (fun jv _ _ => xn - (intOf jv).toNat)
   case atStart => exact ⟨0, A0, _, vc, Nat.zero_le _, rfl, rfl, HI, List.prefix_refl _, fun p hp => by simp at hp⟩
   case round =>
    obtain ⟨k, A, va, vc2, hk, rfl, rfl, HIK, HPRE, HPK⟩ := hrel
    by_cases hlk2 : k < xn
    ·have ck : (k : Int) < xn := by omega
     have ck0 : (0 : Int) ≤ (k : Int) := by omega
     obtain ⟨hpl, -, h3⟩ := HPX.out.later HIK.out.below
     obtain ⟨pb, poff, rfl, hcell⟩ := h3.resolve_left (by omega)
     have q0 := hcell k hlk2
     have hkl : k < (obF G x).pars.length := by omega
     obtain ⟨p, hpe⟩ : ∃ p, (obF G x).pars[k] = p := ⟨_, rfl⟩
     have hgd : (obF G x).pars.getD k ByteArray.empty = p := by rw [List.getD_eq_getElem?_getD, List.getElem?_eq_getElem hkl]; exact hpe
     rw [hgd] at q0
     have hpm : p ∈ (obF G x).pars := by rw [← hpe]; exact List.getElem_mem hkl
     have hpL : p ∈ l := (HL.out p).2 (.step ((HL.out x).1 HXL.out) hpm)
     have HTK : Hid ((obF G x).pars.take (k + 1) = (obF G x).pars.take k ++ [p]) := by
      show _ = _
      rw [List.take_succ_eq_append_getElem hkl, hpe]
     have hps := HSZ.out p hpL
     have HPL := hid hpL
     have hlk := fcMap_get2 (HM.out.later HIK.out.below) p hps
     rw [HT.out p hpL] at hlk
     obtain ⟨⟨yi, yh, ya, yn, yc⟩, hye⟩ : ∃ f, F p = f := ⟨_, rfl⟩
     rw [hye] at hlk
     have HYE := hid hye
     have ev : valF ((some (⟨yi, yh, ya, yn, yc⟩ : Fc)).getD noFc) = .agg #[.string yi, .int .i64 yh, .slice ya yn yc] := rfl
     rw [ev] at hlk
     simp only [Option.isSome_some] at hlk
     have hsx := HIK.out.below.size
     have HIY : Hid (MInv w (wr.alloc (.cells #[.string yi, .int .i64 yh, .slice ya yn yc] 66)) F l fi m2 A va vc2) := HIK.out.later ((Below.refl _ _).alloc (Nat.le_refl _) _)
     have HYB : Hid (Blk (wr.alloc (.cells #[.string yi, .int .i64 yh, .slice ya yn yc] 66)) wr.heap.size 66 #[.string yi, .int .i64 yh, .slice ya yn yc]) := Blk.new wr _ _
     clear hcell h3 hpl hgd hpm hpL hye ev hpe
     go_upto_region 13 with fail
     clear q0 hlk
     generalize (wr.alloc (.cells #[.string yi, .int .i64 yh, .slice ya yn yc] 66)) = w3 at HIY HYB ⊢
     generalize wr.heap.size = g3 at HYB hsx ⊢
     have hlk := boMap_get1 HIY.out.seen p hps
     cases hin : hasN A p with
     | true =>
      have es : (seenF A p).getD false = true := by unfold seenF; rw [hin]; rfl
      rw [es] at hlk
      have HPK2 : Hid (∀ q ∈ (obF G x).pars.take (k + 1), q ∈ A) := fun q hq => by
       rw [HTK.out] at hq
       rcases List.mem_append.1 hq with hq | hq
       ·exact HPK.out q hq
       ·rw [List.mem_singleton.1 hq]; exact hasN_iff.1 hin
      clear es hin
      go_wp2_with fail
      go_roundw
      case rel => first | exact ⟨k + 1, A, va, vc2, by omega, by go_num, rfl, HIY, HPRE, HPK2⟩ | ((repeat apply Exists.intro); exact ⟨⟨k + 1, A, va, vc2, by omega, by go_num, rfl, HIY, HPRE, HPK2⟩, rfl⟩)
      case measure => simp [intOf]; omega
     | false =>
      have es : (seenF A p).getD false = false := by unfold seenF; rw [hin]; rfl
      rw [es] at hlk
      have hAk : A.length ≤ l.length := nodup_le HIY.out.nd HIY.out.sub
      have HNI := hid (hasN_no.1 hin)
      have HEQ := hid (seenF_snoc A p)
      clear es hin
      obtain ⟨i0, hi0, hz0, hz1, hz2⟩ := info_parts Tryz.infoFact
      go_wp2_with (first
       | (at_mapUpdate; refine wpList_mapFn_set rfl (.tmp 56) (.tmp 57) (.const (.bool true)) 225 rfl Tryz.underlying9 Tryz.underlying225 valB_inj HIY.out.seen (by unfold maxLen; omega) p hps true rfl rfl rfl ?_; intro w5 hm5 hg5; have HG5 := hid hg5; have HM5 : Hid (BoMap w5 m2 (A.length + 1) (seenF (A ++ [p]))) := (by rw [HEQ.out]; exact hm5); have HO5 : Hid (Only (· = m2) w3 w5) := (⟨hg5.os, hg5.tape, hg5.output, hg5.size, fun k hk hne => hg5.block k hk (fun e => hne (by cases e; rfl))⟩); have HR5 : Hid (w5.ownsRow w.heap.size 66 3 (.slice va A.length vc2) A.length (fvals (A.map F))) := (own_only HIY.out.row HO5.out (fun k hk e => map_row_ne HIY.out.seen HIY.out.row (by rw [hk]; exact congrArg some e))); have HY5 : Hid (Blk w5 g3 66 #[.string yi, .int .i64 yh, .slice ya yn yc]) := (HYB.out.only HO5.out (fun e => map_blk_ne HIY.out.seen HYB.out e)); have y0 : w5.cell? ⟨g3, 0, none⟩ = some (.string yi) := Blk.cell HY5.out 0; have y1 : w5.cell? ⟨g3, 1, none⟩ = some (.int .i64 yh) := Blk.cell HY5.out 1; have y2 : w5.cell? ⟨g3, 2, none⟩ = some (.slice ya yn yc) := Blk.cell HY5.out 2; have HB5 : Hid (Below w.heap.size w w5) := (HIY.out.below.grown hg5 HIY.out.below.size (fun j hj => by cases hj; exact HIY.out.low)); have hs5 : w.heap.size ≤ w5.heap.size := HB5.out.size; clear hm5 hg5)
       | (at_builtin; refine wpList_append_own_at _ rfl (.tmp 58) (.tmp 60) 35 rfl w.heap.size 66 i0 (.agg #[.string ⟨#[]⟩, .int .i64 0, .slice none 0 0]) 3 48 Tryz.underlying35 hi0 hz0 hz1 hz2 rfl (by decide) (.slice va A.length vc2) _ _ rfl (HR5.out.alloc _) ⟨w5.heap.size, 0, none⟩ 1 1 [.string yi, .int .i64 yh, .slice ya yn yc] rfl rfl (cellBlk3 (Blk.new _ _ _)) (one3 rfl rfl rfl) (by unfold maxLen; omega) (by omega) (by rw [World.size_alloc]; omega) ?_; intro v' w6 hown' hg6 _ hat6; obtain ⟨va', vc', hvv', hvc'⟩ := own_slice' hown'; subst hvv'; have HOWN := hid hown'; have HG6 := hid hg6; clear hown' hg6 hat6)
       | go_in)
      have HI6 : Hid (MInv w w6 F l fi m2 (A ++ [p]) va' vc') := by
       have hnd : (A ++ [p]).Nodup := List.nodup_append.2 ⟨HIY.out.nd, by simp, fun a ha b hb e => HNI.out (by rw [List.mem_singleton.1 hb] at e; rw [← e]; exact ha)⟩
       have hlen : (A ++ [p]).length = A.length + 1 := by simp
       refine ⟨hnd, fun q hq => ?_, List.mem_append.2 (.inl HIY.out.has), ?_, ?_, HIY.out.low, below_grown1 HB5.out HR5.out _ hs5 HG6.out⟩
       ·rcases List.mem_append.1 hq with hq | hq
        ·exact HIY.out.sub q hq
        ·rw [List.mem_singleton.1 hq]; exact HPL.out
       ·rw [hlen, fvals_snoc, HYE.out]; exact HOWN.out
       ·rw [hlen]
        have hm6 : BoMap (w5.alloc (.cells #[.string yi, .int .i64 yh, .slice ya yn yc] 66)) m2 (A.length + 1) (seenF (A ++ [p])) := HM5.out.later ((Below.refl _ _).alloc (Nat.le_refl _) _)
        exact hm6.kept HG6.out (fun e => map_row_ne HM5.out HR5.out e.symm)
      have HPRE2 : Hid (A0 <+: A ++ [p]) := List.IsPrefix.trans HPRE.out (List.prefix_append _ _)
      have HPK2 : Hid (∀ q ∈ (obF G x).pars.take (k + 1), q ∈ A ++ [p]) := fun q hq => by
       rw [HTK.out] at hq
       rcases List.mem_append.1 hq with hq | hq
       ·exact List.mem_append.2 (.inl (HPK.out q hq))
       ·exact List.mem_append.2 (.inr hq)
      have HLA : Hid (A.length + 1 = (A ++ [p]).length) := by unfold Hid; simp
      go_roundw
      case rel => first | exact ⟨k + 1, A ++ [p], va', vc', by omega, by go_num, by rw [HLA.out], HI6, HPRE2, HPK2⟩ | ((repeat apply Exists.intro); exact ⟨⟨k + 1, A ++ [p], va', vc', by omega, by go_num, by rw [HLA.out], HI6, HPRE2, HPK2⟩, rfl⟩)
      case measure => simp [intOf]; omega
    ·obtain rfl : k = xn := by omega
     have ck : ¬ (k : Int) < k := by omega
     have HC2 : Hid (∀ q ∈ A.take (i + 1), ∀ p ∈ (obF G q).pars, p ∈ A) := fun q hq p hp => by
      obtain ⟨R, hR⟩ := HPRE.out
      have e1 : A.take (i + 1) = A0.take i ++ [x] := by
       rw [← hR, List.take_append_of_le_length (by omega), List.take_succ_eq_append_getElem hlt, HX0.out]
      rw [e1] at hq
      rcases List.mem_append.1 hq with hq | hq
      ·rw [← hR]; exact List.mem_append.2 (.inl (HC.out q hq p hp))
      ·rw [List.mem_singleton.1 hq] at hp
       exact HPK.out p (by rw [List.take_of_length_le (by rw [HPX.out.1]; exact Nat.le_refl _)]; exact hp)
     have hAA : A0.length ≤ A.length := HPRE.out.length_le
     go_wp2_with fail
     go_roundw
     case rel => first | exact ⟨i + 1, A, va, vc2, by omega, by go_num, rfl, HIK, HC2⟩ | ((repeat apply Exists.intro); exact ⟨⟨i + 1, A, va, vc2, by omega, by go_num, rfl, HIK, HC2⟩, rfl⟩)
     case measure => simp [intOf]; omega
  ·obtain rfl : i = A0.length := by omega
   have ci : ¬ (A0.length : Int) < A0.length := by omega
   have HALL : Hid (∀ q, q ∈ A0 ↔ q ∈ l) := fun q => met_all HL.out HI.out.has (fun q hq p hp => HC.out q (by rw [List.take_of_length_le (Nat.le_refl _)]; exact hq) p hp) HI.out.sub q
   have HSO := hid (sortFc_own F HF.out w.heap.size A0.length _ A0 wr HI.out.row (by omega))
   go_wp2_with fail
   refine HSO.out.mono ?_; rintro e w9 ⟨rfl, ho9, hg9⟩
   have HO9 := hid ho9
   have HB9 : Hid (Below w.heap.size w w9) := HI.out.below.grown hg9 HI.out.below.size (fun j hj => (HI.out.row.lt j hj).1)
   have HPW := hid (sortD_pw (fun q => (F q).h) HI.out.nd)
   clear ho9 hg9 HSO
   go_wp2_with fail
   go_ret2
   refine ⟨sortD (fun q => (F q).h) A0, va, vc, ?_, ?_, HPW.out, fun q => (sortD_mem _ _ q).trans (HALL.out q), HB9.out⟩
   ·rw [sortD_len]; rfl
   ·rw [sortD_len]; exact HO9.out
end Go.Proofs.YtmpjdoiogbbcoaaGreatDoor
/- The shelf's map of facts gone over by a loop that appends to a list of its own. -/
namespace Go.Proofs.YtmpjdoiogbbcoaaGreatDoor
open Go.RowKit Book Pap
attribute [local go_sem] Oper.semAt_some
set_option linter.unusedVariables false
set_option linter.unusedSimpArgs false

/-- cells from n₀ on stay, but those of the list that the variable in block ob holds -/
def KeepO (n₀ ob : Nat) (A B : World) : Prop := A.heap.size ≤ B.heap.size ∧ ∀ k C t fz, n₀ ≤ k → A.heap[k]? = some (.cells C t fz) → (∀ v, A.cell? ⟨ob, 0, none⟩ = some v → v.ownBlock ≠ some k) → B.heap[k]? = some (.cells C t fz) ∧ ∀ v, B.cell? ⟨ob, 0, none⟩ = some v → v.ownBlock ≠ some k
theorem keepO_t {n₀ ob : Nat} {A B C : World} (h : KeepO n₀ ob A B) (k : KeepO n₀ ob B C) : KeepO n₀ ob A C := ⟨Nat.le_trans h.1 k.1, fun i c t fz hi e hv => by
 obtain ⟨h1, h2⟩ := h.2 i c t fz hi e hv
 exact k.2 i c t fz hi h1 h2⟩
theorem keepO_refl (n₀ ob : Nat) (A : World) : KeepO n₀ ob A A := ⟨Nat.le_refl _, fun _ _ _ _ _ e hv => ⟨e, hv⟩⟩
theorem keepO_b {n₀ ob s : Nat} (hob : ob < s) (W : World) (l : Nat) (o o' : Obj) (hl : s ≤ l) (h : W.heap[l]? = some o) (hc : o.isCells = false) (_ : o.isWalk = false) : KeepO n₀ ob W (W.putObj l o') := by
 refine ⟨by simp, fun k C t fz hk e hv => ⟨?_, fun v hv2 => hv v ?_⟩⟩
 ·by_cases hkl : k = l
  ·subst hkl; rw [h] at e; injection e with e; subst e; simp [Obj.isCells] at hc
  ·rw [World.putObj_heap_other hkl]; exact e
 ·rw [← hv2]
  have e2 : (W.putObj l o').heap[ob]? = W.heap[ob]? := World.putObj_heap_other (by omega)
  exact (World.cell?_of_block (a := ⟨ob, 0, none⟩) e2).symm
theorem own_keepO {n₀ ob B e s n : Nat} {v : Value} {xs : List Value} {A W : World} (h : A.ownsRow B e s v n xs) (hB : n₀ ≤ B) (hk : KeepO n₀ ob A W) (hn : A.cell? ⟨ob, 0, none⟩ = some (.slice none 0 0)) : W.ownsRow B e s v n xs := by
 refine ⟨h.1, h.2.imp id ?_⟩
 rintro ⟨g, cap, cur, hv, hb, hg, r⟩
 refine ⟨g, cap, cur, hv, hb, (hk.2 _ _ _ _ (by omega) hg (fun v hv => ?_)).1, r⟩
 rw [hn] at hv; injection hv with hv; subst hv; simp [Value.ownBlock]
/-- an append to the list that the variable holds -/
theorem keepO_append {n₀ ob g va pn vc cap' : Nat} {a : Option Addr} {W w1 : World} (hn : ob < n₀) (hcell : W.cell? ⟨ob, 0, none⟩ = some (.slice a pn vc)) (C : Obj) (hg : (W.alloc C).grownBy w1 (Value.slice a pn vc).ownBlock) (hb : (Value.slice (some ⟨g, 0, none⟩) (pn + 1) cap').ownBlock = (Value.slice a pn vc).ownBlock ∨ (Value.slice (some ⟨g, 0, none⟩) (pn + 1) cap').ownBlock = some (W.alloc C).heap.size)
  (hs : (w1.setCell ⟨ob, 0, none⟩ (.slice (some ⟨g, 0, none⟩) (pn + 1) cap')).cell? ⟨ob, 0, none⟩ = some (.slice (some ⟨g, 0, none⟩) (pn + 1) cap')) : KeepO n₀ ob W (w1.setCell ⟨ob, 0, none⟩ (.slice (some ⟨g, 0, none⟩) (pn + 1) cap')) := by
 have h1 := hg.size
 rw [World.size_alloc] at h1
 refine ⟨by simp [World.setCell]; omega, fun k C' t fz hk e hv => ?_⟩
 have hkl := (Array.getElem?_eq_some_iff.1 e).1
 have hne := hv _ hcell
 refine ⟨?_, fun v hv2 => ?_⟩
 ·have e1 := (Below.heap_alloc W C k hkl).trans e
  have e2 := (hg.block k (by rw [World.size_alloc]; omega) (fun e => hne e.symm)).trans e1
  exact (Below.heap_setCell _ _ _ k (fun e => by have e : k = ob := e; omega)).trans e2
 ·rw [hs] at hv2
  injection hv2 with hv2
  subst hv2
  rcases hb with hb | hb
  ·rw [hb]; exact hne
  ·rw [hb, World.size_alloc]
   intro e
   injection e with e
   omega
set_option maxRecDepth 100000 in
set_option maxHeartbeats 4000000 in
theorem allStopsO (n Bm m n₀ ob : Nat) (ks vs : Value) (l : List ByteArray) (ps : List Fc) (w : World) (hn : 1 ≤ n) (hq : w.cell? ⟨Bm, 0, none⟩ = some (.pointer (some ⟨m, 0, none⟩))) (hm : MapIsF w m ks vs l ps) (hn0 : n₀ ≤ w.heap.size) (hob : w.cell? ⟨ob, 0, none⟩ = some (.slice none 0 0)) :
  SeqStopsK Fence.wide n Tryz.prog 83 #[.pointer (some ⟨Bm, 0, none⟩)] (encsF l ps) (KeepO n₀ ob) (fun xs => xs = List.finRange l.length) (fun pre => pre <+: List.finRange l.length) l.length w := by
 intro L J Jx W hW hJ hJx hY h0
 have hqW : W.cell? ⟨Bm, 0, none⟩ = some (.pointer (some ⟨m, 0, none⟩)) := (hW.cell (p := ⟨Bm, 0, none⟩) (World.block_lt_of_cell? _ _ hq)).trans hq
 obtain ⟨b1, b2, b3, b4, b5, b6⟩ := hm
 have oW : Only NoF w W := Only.of_below hW _
 have hmW : MapIsF W m ks vs l ps := ⟨b1.only oW (fun e => e), own_only b2 oW (fun _ _ e => e), own_only b3 oW (fun _ _ e => e), b4, b5, b6⟩
 have CC := hid (cloneF vs ps W hmW.2.2.1 (by omega))
 have HK : Hid (∀ W1, Below W.heap.size W W1 → Calls Tryz.prog 85 #[.pointer (some ⟨m, 0, none⟩)] W1 fun e w' => ∃ v, e = .returned v ∧ w'.ownsRow W1.heap.size 9 1 v l.length (svals l) ∧ Below W1.heap.size W1 w') := fun W1 hb => by
  have o1 : Only NoF W W1 := Only.of_below hb _
  exact keysF m ks vs l ps W1 ⟨hmW.1.only o1 (fun e => e), own_only hmW.2.1 o1 (fun _ _ e => e), own_only hmW.2.2.1 o1 (fun _ _ e => e), b4, b5, b6⟩
 have c1 := hmW.1.cell 1
 simp at c1
 obtain ⟨va, vc, rfl, hvc⟩ := own_slice hmW.2.2.1
 have hHY := hid hY; have hHJ := hid hJ
 have hnW : n₀ ≤ W.heap.size := Nat.le_trans hn0 hW.size
 obtain ⟨zs, hzs⟩ : ∃ zs, List.finRange l.length = zs := ⟨_, rfl⟩
 have hzl : zs.length = l.length := by rw [← hzs, List.length_finRange]
 have HZ : Hid (∀ k, (hk : k < l.length) → ∃ h : k < zs.length, zs[k] = ⟨k, hk⟩) := fun k hk => ⟨by omega, by subst hzs; simp⟩
 rw [hzs]
 have HQM : Hid (∀ W1, Below W.heap.size W W1 → W1.cell? ⟨Bm, 0, none⟩ = some (.pointer (some ⟨m, 0, none⟩))) := fun W1 hb => (hb.cell (p := ⟨Bm, 0, none⟩) (World.block_lt_of_cell? _ _ hqW)).trans hqW
 have HOB : Hid (∀ W1, Below W.heap.size W W1 → W1.cell? ⟨ob, 0, none⟩ = some (.slice none 0 0)) := fun W1 hb => by
  have e1 : W.cell? ⟨ob, 0, none⟩ = some (.slice none 0 0) := (hW.cell (p := ⟨ob, 0, none⟩) (World.block_lt_of_cell? _ _ hob)).trans hob
  exact (hb.cell (p := ⟨ob, 0, none⟩) (World.block_lt_of_cell? _ _ e1)).trans e1
 have H0 := hid h0
 have hln : l.length ≤ 1000000 := b6
 have HB4 := hid b4
 have hpl : ps.length ≤ 1000000 := by omega
 have HZL := hid hzl
 clear hY hJ hJx hmW b1 b2 b3 b4 b5 oW hzs hW hq h0 hzl b6 hob
 refine callsIn_of_wp Tryz.func83 rfl trivial ?_ rfl
 simp only [Tryz.ntmps83, List.size_toArray, List.length_cons, List.length_nil, Nat.reduceAdd, Nat.reduceSub, Array.replicate_succ, Array.replicate_zero, List.push_toArray, List.append_toArray, List.nil_append, List.cons_append]
 gi_wp2_with fail
 refine ⟨trivial, (callsIn_wide.2 CC.out).mono ?_⟩; rintro e W1 ⟨v1, rfl, o1, hb1⟩
 have q1 := HQM.out W1 hb1
 have HJ1 : Hid (J [] W1) := hHJ.out _ _ _ none H0.out ⟨hb1.os, hb1.tape, hb1.output, hb1.size, fun k hk _ => hb1.block k hk⟩ (fun _ e => by cases e)
 gi_wp2_with fail
 refine ⟨trivial, (callsIn_wide.2 (HK.out W1 hb1)).mono ?_⟩; rintro e W2 ⟨v2, rfl, o2, hb2⟩
 have HJ2 : Hid (J [] W2) := hHJ.out _ _ _ none HJ1.out ⟨hb2.os, hb2.tape, hb2.output, hb2.size, fun k hk _ => hb2.block k hk⟩ (fun _ e => by cases e)
 have HO2 := hid (HOB.out W2 (below_then hb1 hb2))
 have V2 : W2.ownsRow W.heap.size 66 3 v1 ps.length (fvals ps) := own_only o1 (Only.of_below hb2 NoF) (fun _ _ e => e)
 obtain ⟨a2, c2, rfl, hac2⟩ := own_slice o2
 obtain ⟨a1, c1', rfl, hac1⟩ := own_slice V2
 have hb1s := hb1.size
 have HV2 := hid V2; have HN2 := hid o2
 clear V2 o2 o1 hb1 hb2
 gi_wp2_with fail
 gi_loopw [16] (fun i wr => ∃ (k : Nat) (pre : List (Fin l.length)), k ≤ l.length ∧ i = .int .i64 k ∧ Hid (pre = zs.take k) ∧ J pre wr ∧ KeepO n₀ ob W2 wr) (fun i _ => l.length - (intOf i).toNat)
 case atStart => exact ⟨0, [], Nat.zero_le _, rfl, rfl, HJ2.out, keepO_refl _ _ _⟩
 case round =>
  obtain ⟨k, pre, hk, rfl, HP, hJs, hkp⟩ := hrel
  by_cases hlt : k < l.length
  ·obtain ⟨h3, he⟩ := HZ.out k hlt
   have h1 := hlt
   have h2 : k < ps.length := by rw [HB4.out]; exact hlt
   have ck : wr.ownsRow W1.heap.size 9 1 (.slice a2 l.length c2) l.length (svals l) := own_keepO HN2.out (by omega) hkp HO2.out
   have cv : wr.ownsRow W.heap.size 66 3 (.slice a1 ps.length c1') ps.length (fvals ps) := own_keepO HV2.out hnW hkp HO2.out
   obtain ⟨g2, d2, e2, _, _⟩ := ck.form (by omega)
   obtain ⟨g1, d1, e1, _, _⟩ := cv.form (by omega)
   injection e2 with e21 _ e22
   injection e1 with e11 _ e12
   subst e21 e22 e11 e12
   have hck := ck.cellAt k (by omega)
   have hcv0 := cv.cellAt (k * 3 + 0) (by omega)
   have hcv1 := cv.cellAt (k * 3 + 1) (by omega)
   have hcv2 := cv.cellAt (k * 3 + 2) (by omega)
   rw [fvals_get ps k 0 h2 (by omega)] at hcv0
   rw [fvals_get ps k 1 h2 (by omega)] at hcv1
   rw [fvals_get ps k 2 h2 (by omega)] at hcv2
   obtain ⟨fx, hfx⟩ : ∃ fx, ps.getD k noFc = fx := ⟨_, rfl⟩
   rw [hfx] at hcv0 hcv1 hcv2
   replace hcv0 : wr.cell? ⟨g1, k * 3, none⟩ = some (.string fx.id) := hcv0
   replace hcv1 : wr.cell? ⟨g1, k * 3 + 1, none⟩ = some (.int .i64 fx.h) := hcv1
   replace hcv2 : wr.cell? ⟨g1, k * 3 + 2, none⟩ = some (.slice fx.pa fx.pn fx.pc) := hcv2
   have x1 : (svals l)[k]? = some (.string l[k]) := by unfold svals; rw [List.getElem?_map, List.getElem?_eq_getElem h1]; rfl
   rw [x1] at hck
   obtain ⟨fn, tmps, assign, body, hy, hR⟩ := hHY.out pre ⟨k, hlt⟩ wr hJs (by rw [HP.out, List.length_take, HZL.out]; omega)
   have hpre : pre ++ [⟨k, hlt⟩] = zs.take (k + 1) := by
    rw [HP.out, ← he, List.take_append_getElem h3]
   unfold encsF at hy
   have y1 : l.getD k ByteArray.empty = l[k] := by rw [List.getD_eq_getElem?_getD, List.getElem?_eq_getElem h1]; rfl
   simp only [y1, hfx] at hy
   obtain ⟨nk, hnk⟩ : ∃ nk, l[k] = nk := ⟨_, rfl⟩
   rw [hnk] at hck x1
   rw [hnk] at hy
   unfold fcs at hy
   obtain ⟨j0, hj0⟩ : ∃ j0 : Fin l.length, ⟨k, hlt⟩ = j0 := ⟨_, rfl⟩
   rw [hj0] at hpre hR
   have HPR := hid hpre
   have hkp2 : k < ps.length := h2
   clear x1 he hpre hnk hfx hJs y1 hj0
   gi_wp2
   refine hR.mono ?_
   rintro e W3 (⟨rfl, hJ3, hk3⟩ | ⟨rfl, hJx3⟩)
   ·have HJ3 := hid hJ3; have HK3 := hid hk3
    clear hJ3 hk3
    gi_wp2
    go_roundw
    case rel => exact ⟨k + 1, pre ++ [j0], by omega, by go_num, HPR.out, HJ3.out, keepO_t hkp HK3.out⟩
    case measure => simp [intOf]; omega
   ·have HJ3 := hid hJx3
    clear hJx3
    gi_wp2
    refine bodyPost_ret (results_none rfl _ _ _) rfl ?_
    exact ⟨⟨_, rfl⟩, .inr ⟨pre ++ [j0], by rw [HPR.out]; exact List.take_prefix _ _, HJ3.out⟩⟩
  ·obtain rfl : k = l.length := by omega
   have HPZ : Hid (pre = zs) := by unfold Hid; rw [HP.out, List.take_of_length_le (Nat.le_of_eq HZL.out)]
   gi_wp2
   go_end0
   exact ⟨⟨_, rfl⟩, .inl ⟨_, rfl, by rw [← HPZ.out]; exact hJs⟩⟩
end Go.Proofs.YtmpjdoiogbbcoaaGreatDoor
/- snap.Facts, whatever the commit came from. -/
namespace Go.Proofs.YtmpjdoiogbbcoaaGreatDoor
open Go.RowKit Book Pap Ojt Sn Go.Deep
attribute [local go_sem] Oper.semAt_some
set_option linter.unusedVariables false
set_option linter.unusedSimpArgs false

/-- how many keys the map holds -/
def keysN (w : World) (m : Nat) : Nat := lenV ((w.cell? ⟨m, 0, none⟩).getD undef)
theorem MapIsF.keysN {w : World} {m : Nat} {ks vs : Value} {l : List ByteArray} {fs : List Fc} (h : MapIsF w m ks vs l fs) : Go.Proofs.YtmpjdoiogbbcoaaGreatDoor.keysN w m = l.length := by
 obtain ⟨h1, h2, r⟩ := h
 obtain ⟨ka, kc, rfl, hkc⟩ := own_slice h2
 have c0 : w.cell? ⟨m, 0, none⟩ = some (.slice ka l.length kc) := Blk.cell h1 0
 unfold Go.Proofs.YtmpjdoiogbbcoaaGreatDoor.keysN
 rw [c0]; rfl
theorem factsIs_none {G : Sw.Src} {id : ByteArray} (h : G id = none) : FactsIs G id 12 [] := .inl ⟨h, rfl, rfl⟩
theorem factsIs_err {G : Sw.Src} {id : ByteArray} {l : List ByteArray} {er : Int} (h : G id ≠ none) (hw : Went G id l [] er) (h0 : er ≠ 0) : FactsIs G id er [] := .inr ⟨h, hw.worst, .inl ⟨h0, rfl⟩⟩
theorem factsIs_ok {G : Sw.Src} {id : ByteArray} {l : List ByteArray} (h : G id ≠ none) (hw : Went G id l [] 0) (hr : Rising l) : FactsIs G id 0 (l.map (faOf G)) := .inr ⟨h, hw.worst, .inr ⟨rfl, l, hr, hw.all, rfl⟩⟩
set_option maxRecDepth 100000 in
set_option maxHeartbeats 16000000 in
theorem facts_any (t : TypeId) (rv : Value) (G : Sw.Src) (hz : SrcSz G) (id : ByteArray) (U : List ByteArray) (hU : Univ G id U) (w : World) (hs : SrcAt w t rv G) :
  Calls Tryz.prog 9 #[.iface t rv, .string id] w (FactsOut w G id) := by
 have HS := hid hs
 have HU := hid hU
 obtain ⟨f, r, hm, hen, hget⟩ := hs
 have HGT := hid (hget id w (Below.refl _ _))
 clear hget hU
 unfold GetOut at HGT
 cases hG : G id with
 | none =>
  have HFI := hid (factsIs_none hG)
  rw [hG] at HGT
  clear hG
  refine (callsIn_wide (n := 5)).1 ?_
  refine callsIn_of_wp_marks Tryz.func9 rfl trivial ?_ rfl
  simp only [Tryz.ntmps9, List.size_toArray, List.length_cons, List.length_nil, Nat.reduceAdd, Nat.reduceSub, Array.replicate_succ, Array.replicate_zero, List.push_toArray, List.append_toArray, List.nil_append, List.cons_append]
  refine wpIn_wide.2 ?_
  go_wp2_with fail
  refine HGT.out.mono ?_; rintro e w1 ⟨rfl, hb1⟩
  have HB1 := hid hb1
  clear hb1 HGT hm hen
  go_wp2_with fail
  exact ⟨_, results_tmp2 rfl _ _ _, 12, [], none, 0, 0, [], HFI.out, rfl, ⟨rfl, by omega, .inl rfl⟩, ⟨rfl, fun j hj => by (cases hj)⟩, HB1.out⟩
 | some tx =>
  have hne : G id ≠ none := by rw [hG]; simp
  have HNE := hid hne
  rw [hG] at HGT
  clear hG hne
  refine (callsIn_wide (n := 5)).1 ?_
  refine callsIn_of_wp_marks Tryz.func9 rfl trivial ?_ rfl
  simp only [Tryz.ntmps9, List.size_toArray, List.length_cons, List.length_nil, Nat.reduceAdd, Nat.reduceSub, Array.replicate_succ, Array.replicate_zero, List.push_toArray, List.append_toArray, List.nil_append, List.cons_append]
  refine wpIn_wide.2 ?_
  go_wp2_with fail
  refine HGT.out.mono ?_; rintro e w1 ⟨rfl, hb1⟩
  have HB1 := hid hb1
  have HN := hid (fnew_any w1)
  have hs1 := hb1.size
  clear hb1 HGT hm hen
  go_wp2_with fail
  refine HN.out.mono ?_; rintro e w2 ⟨rfl, hm2, hb2⟩
  have HB2 : Hid (Below w.heap.size w w2) := HB1.out.trans (hb2.mono hs1)
  have hml := Blk.lt hm2
  have hs2 : w.heap.size ≤ w2.heap.size := HB2.out.size
  have HI3 : Hid (FInv w (w2.alloc (.cells #[.string id] 9)) G id w1.heap.size 0 (some ⟨w2.heap.size, 0, none⟩) 1 [id] (.slice none 0 0) (.slice none 0 0) [] []) := by
   have hb3 : Below w.heap.size w (w2.alloc (.cells #[.string id] 9)) := HB2.out.alloc hs2 _
   have hmf : ∀ k, MapF w1.heap.size (.slice none 0 0) (.slice none 0 0) k → k = w1.heap.size := fun k hk => by
    rcases hk with h | h | h
    ·exact h
    ·simp [Value.ownBlock] at h
    ·simp [Value.ownBlock] at h
   refine ⟨Went.start G id, ⟨Blk.alloc hm2 _, World.ownsRow_nil _ _ _ _, World.ownsRow_nil _ _ _ _, rfl, List.Pairwise.nil, by simp⟩, ⟨rfl, Nat.le_refl _, by unfold maxLen; omega, .inr ⟨w2.heap.size, 0, _, rfl, hs2, Blk.new w2 _ _, rfl, rfl⟩⟩, rfl, fun f hf => by (cases hf), fun k hk hq => ?_, fun k hk => by rw [hmf k hk]; exact hs1, hb3, by simp⟩
   have e := hmf k hk
   obtain ⟨_, ad, ha, hb⟩ := hq
   injection ha with ha
   subst ha
   simp only at hb
   omega
  clear hm2 hb2 HN HB2 HB1 hs2
  go_wp2_with fail
  generalize (w2.alloc (.cells #[.string id] 9)) = w3 at HI3 ⊢
  generalize w2.heap.size = g at HI3 ⊢
  generalize w1.heap.size = m at HI3 ⊢
  clear hml hs1
  go_loopw [9, 10] (fun wo tv wr => ∃ er a c td ks vs l fs, wo = .int .i64 er ∧ tv = .slice a td.length c ∧ Hid (FInv w wr G id m er a c td ks vs l fs)) (fun _ tv wr => 9 * (U.length - keysN wr m) + lenV tv)
  case atStart => exact ⟨0, _, 1, [id], _, _, [], [], rfl, rfl, HI3⟩
  case round =>
   obtain ⟨er, a, c, td, ks, vs, l, fs, rfl, rfl, HI⟩ := hrel
   cases td with
   | nil =>
    by_cases h0 : er = 0
    ·subst h0
     have HW := hid HI.out.went
     have HFO := hid (factsIs_ok HNE.out HI.out.went HI.out.map.2.2.2.2.1)
     have hmap := HI.out.map
     have HB := hid HI.out.below
     have HIDS := hid HI.out.ids
     have HFL := hid hmap.2.2.2.1
     have HL6 := hid hmap.2.2.2.2.2
     have HFA : Hid (FaAt wr fs (l.map (faOf G))) := by
      have hids := HI.out.ids
      refine ⟨by rw [List.length_map]; exact HFL.out, fun j hj => ?_⟩
      have hjl : j < l.length := by rw [← HFL.out]; exact hj
      have e1 : fs.getD j noFc = fs[j] := by rw [List.getD_eq_getElem?_getD, List.getElem?_eq_getElem hj]; rfl
      have e2 : (fs[j]).id = l[j] := by
       have h1 : (fs.map (·.id))[j]'(by rw [List.length_map]; exact hj) = l[j] := by simp only [hids]
       rw [List.getElem_map] at h1; exact h1
      have e3 : (l.map (faOf G)).getD j noFa = faOf G l[j] := by
       rw [List.getD_eq_getElem?_getD, List.getElem?_map, List.getElem?_eq_getElem hjl]; rfl
      rw [e1, e3]
      obtain ⟨g1, g2⟩ := HI.out.facts fs[j] (List.getElem_mem hj)
      rw [e2] at g1 g2
      exact ⟨e2, g1, g2.1⟩
     clear HI
     have HMP : Hid (MapIsF ((wr.alloc (.cells #[.slice none 0 0] 35)).alloc (.cells #[.pointer (some ⟨m, 0, none⟩)] 94)) m ks vs l fs) := hmap.only (F := NoF) (((Only.refl NoF wr).alloc _).alloc _) (fun _ _ e => e)
     have HBW : Hid (Below wr.heap.size wr ((wr.alloc (.cells #[.slice none 0 0] 35)).alloc (.cells #[.pointer (some ⟨m, 0, none⟩)] 94))) := ((Below.refl _ wr).alloc (Nat.le_refl _) _).alloc (by rw [World.size_alloc]; omega) _
     have HBO : Hid (Boxed ((wr.alloc (.cells #[.slice none 0 0] 35)).alloc (.cells #[.pointer (some ⟨m, 0, none⟩)] 94)) wr.heap.size 35 (.slice none 0 0)) := (Boxed.new wr _ _).alloc _
     have HQ : Hid (((wr.alloc (.cells #[.slice none 0 0] 35)).alloc (.cells #[.pointer (some ⟨m, 0, none⟩)] 94)).cell? ⟨wr.heap.size + 1, 0, none⟩ = some (.pointer (some ⟨m, 0, none⟩))) := by
      have := (Blk.new (wr.alloc (.cells #[.slice none 0 0] 35)) 94 #[.pointer (some ⟨m, 0, none⟩)]).cell 0
      rw [World.size_alloc] at this
      exact this
     have CA := hid (allF_any (some ⟨m, 0, none⟩) (wr.alloc (.cells #[.slice none 0 0] 35)))
     clear hmap
     go_wp2_with fail
     refine CA.out.mono ?_; rintro e W3 ⟨rfl, rfl⟩
     rw [World.size_alloc]
     generalize hW3 : ((wr.alloc (.cells #[.slice none 0 0] 35)).alloc (.cells #[.pointer (some ⟨m, 0, none⟩)] 94)) = W3 at HMP HBW HBO HQ ⊢
     have hz3 : W3.heap.size = wr.heap.size + 2 := by rw [← hW3, World.size_alloc, World.size_alloc]
     clear CA hW3
     go_wp2_with fail
     obtain ⟨F, hF⟩ : ∃ F : Fin l.length → Fc, F = fun j => fs.getD j.1 noFc := ⟨_, rfl⟩
     have HFF := hid hF
     clear hF
     have hown0 : W3.ownsRow wr.heap.size 66 3 (.slice none 0 0) 0 [] := World.ownsRow_nil _ _ _ _
     refine (wpIn_wide (n := 5)).1 ?_
     generalize hA0 : Act.mk _ _ = A0
     refine wpIn_rangeFunc_ownH (F := Fence.wide) (n := 5) rfl (by omega) (gf := 83) (lb := #[.pointer (some ⟨wr.heap.size + 1, 0, none⟩)]) (by subst hA0; rfl) trivial (enters_of Tryz.func83 (by kernel_rfl) rfl)
      (allStopsO (5 - 1) (wr.heap.size + 1) m W3.heap.size wr.heap.size ks vs l fs W3 (by omega) HQ.out HMP.out (Nat.le_refl _) HBO.out.cell) keepO_t (keepO_b (by omega)) (Below.refl _ _) (fun _ => rfl)
      (fun pre W => (∃ v, Boxed W wr.heap.size 35 v ∧ W.ownsRow wr.heap.size 66 3 v pre.length (fvals (pre.map F)) ∧ (pre = [] → v = .slice none 0 0)) ∧ Below wr.heap.size wr W)
      (fun _ _ _ => False)
      (OwnFrom.and (Own.from (holdsRow_own wr.heap.size wr.heap.size 35 66 3 (fun pre : List (Fin l.length) => pre.length) (fun pre => fvals (pre.map F)) (fun pre v => pre = [] → v = .slice none 0 0)) _) (ownFrom_below (Nat.le_refl _) (by omega)))
      (fun _ _ _ _ _ hs _ _ => hs)
      ⟨⟨_, HBO.out, hown0, fun _ => rfl⟩, HBW.out⟩
      (fun y a' W => ∃ bx, Blk W bx 66 (fcs (F y)).toArray ∧ a' = { tmps := ((A0.tmps.setIfInBounds 72 (.string (l.getD y.1 ByteArray.empty))).setIfInBounds 73 (.agg (fcs (F y)).toArray)).setIfInBounds 18 (.pointer (some ⟨bx, 0, none⟩)), defers := [] })
      (fun y a' _ X Y row hs hg hr => by
       obtain ⟨bx, h1, h2⟩ := hs
       refine ⟨bx, ?_, h2⟩
       have hne : some bx ≠ row := fun e => by
        obtain ⟨o, ho, hc⟩ := (hr bx e.symm).2
        rw [show X.heap[bx]? = _ from h1] at ho; cases ho; cases hc
       exact (hg.block bx (Blk.lt h1) hne).trans h1)
      ?assign ?body ?done ?stop
     case assign =>
      rintro l2 pre y W K ⟨⟨v, hv, hrow, hnil⟩, hB1⟩ hK
      have hy : fs.getD y.1 noFc = F y := by rw [HFF.out]
      unfold encsF
      rw [hy]
      unfold fcs
      obtain ⟨bx, hbx⟩ : ∃ bx, W.heap.size = bx := ⟨_, rfl⟩
      have HK := hid hK
      have HY := hid hy
      have HBX := hid hbx
      have HS1 := hid hB1.size
      clear hK hy
      subst hA0
      gi_wp2
      refine HK.out _ _ ((KeepsOthers.alloc _ _).from _) ⟨by simp, fun k C t fz hk e hvv => ⟨(Below.heap_alloc W _ k (Array.getElem?_eq_some_iff.1 e).1).trans e, fun v2 hv2 => hvv v2 (by rw [hv.cell, ← hv2, (hv.alloc _).cell])⟩⟩ ⟨⟨v, hv.alloc _, hrow.alloc _, hnil⟩, hB1.alloc HS1.out _⟩ ⟨bx, ?_, by simp [fcs]⟩
      have := Blk.new W 66 #[.string (F y).id, .int .i64 (F y).h, .slice (F y).pa (F y).pn (F y).pc]
      rw [HBX.out] at this
      exact this
     case body =>
      rintro l2 pre y a' W hl hlo ⟨⟨v, hv, hrow, hnil⟩, hB⟩ ⟨bx, hbx, rfl⟩ hlt
      have hpl : pre.length < 1000000 := by have h := HL6.out; omega
      have hfin : fvals ((pre ++ [y]).map F) = fvals (pre.map F) ++ [.string (F y).id, .int .i64 (F y).h, .slice (F y).pa (F y).pn (F y).pc] := by
       rw [List.map_append, fvals_append]; rfl
      have hlen : (pre ++ [y]).length = pre.length + 1 := by simp
      obtain ⟨i0, hi0, hz0, hz1, hz2⟩ := info_parts Tryz.infoFact
      have k0 : W.cell? ⟨bx, 0, none⟩ = some (.string (F y).id) := Blk.cell hbx 0
      have k1 : W.cell? ⟨bx, 1, none⟩ = some (.int .i64 (F y).h) := Blk.cell hbx 1
      have k2 : W.cell? ⟨bx, 2, none⟩ = some (.slice (F y).pa (F y).pn (F y).pc) := Blk.cell hbx 2
      have hc := hv.cell
      have hfz := hv.frozen
      have hsz := hB.size
      unfold fcs
      subst hA0
      obtain ⟨pn0, hpn0⟩ : ∃ pn0, pre.length = pn0 := ⟨_, rfl⟩
      obtain ⟨xs0, hxs0⟩ : ∃ xs0, fvals (pre.map F) = xs0 := ⟨_, rfl⟩
      rw [hpn0, hxs0] at hrow
      rw [hpn0] at hpl hlen
      rw [hxs0] at hfin
      have HFIN := hid hfin; have HLEN := hid hlen
      clear hnil hfin hlen hlt hpn0 hxs0
      obtain ⟨va, vc, rfl, hvc⟩ := own_slice' hrow
      gi_wp2_with (gi_at_builtin; refine wpListIn_append_own_at _ rfl _ _ 35 rfl wr.heap.size 66 i0 (.agg #[.string ⟨#[]⟩, .int .i64 0, .slice none 0 0]) 3 48 Tryz.underlying35 hi0 hz0 hz1 hz2 rfl (by decide) (.slice va pn0 vc) _ _ rfl (hrow.alloc _) ⟨W.heap.size, 0, none⟩ 1 1 [.string (F y).id, .int .i64 (F y).h, .slice (F y).pa (F y).pn (F y).pc] rfl rfl (cellBlk3 (Blk.new _ _ _)) (one3 rfl rfl rfl) (by unfold maxLen; omega) (by omega) (by simp; omega) ?_; intro v' w1 hown' hgrow _ hat; obtain ⟨g', cap', rfl⟩ := ownsRow_succ hown'; obtain ⟨hv1, hv2, hr2, hk2, hb2⟩ := hv.appended (by decide) hrow hB.size (Nat.le_refl _) hown' hgrow; have hc1 := hv1.cell; have hf1 := hv1.frozen)
      refine ⟨hk2.from _, keepO_append (va := 0) (by omega) hc _ hgrow hat hv2.cell, ⟨_, hv2, by rw [HLEN.out, HFIN.out]; exact hr2, fun h => by simp at h⟩, hB.trans hb2⟩
     case done =>
      rintro D xs W hD rfl ⟨⟨v, hv, hrow, -⟩, hB⟩ hK
      have hxs : (List.finRange l.length).map F = fs := by
       have hF : F = fun j => fs.getD j.1 noFc := HFF.out
       rw [hF]
       apply List.ext_getElem
       ·rw [List.length_map, List.length_finRange]; exact HFL.out.symm
       ·intro k h1 h2
        rw [List.getElem_map, List.getElem_finRange]
        simp only [Fin.val_cast]
        rw [List.getD_eq_getElem?_getD, List.getElem?_eq_getElem h2]; rfl
      rw [hxs, List.length_finRange] at hrow
      obtain ⟨va, vc, rfl, hvc⟩ := own_slice' hrow
      have hrow2 : W.ownsRow wr.heap.size 66 3 (.slice va l.length vc) l.length (fvals fs) := hrow
      have hc := hv.cell
      have hK2 := hid hK
      have HROW := hid hrow2
      have HBB := hid hB
      subst hA0
      clear hK hrow hB hrow2 hxs
      go_wp2
      refine ⟨by simp, .inl ⟨_, _, rfl, run_takeDeferred hK2.out, ?_⟩⟩
      have hbe : Below wr.heap.size wr (W.putObj D (.deferred none)) := HBB.out.trans (belowK_b (w := wr) (Nat.le_refl _) W D _ _ (by omega) hK2.out rfl rfl)
      obtain ⟨va', vc', hfe, hF⟩ := own_fcs (ownsRow_putObj HROW.out (.deferred none) hK2.out rfl) (by have := HL6.out; omega)
      injection hfe with e1 e2 e3
      subst e1; subst e3
      exact ⟨_, results_tmp2 rfl _ _ _, 0, l.map (faOf G), _, _, _, fs, HFO.out, rfl, hF, HFA.out.later hbe, below_then HB.out hbe⟩
     case stop =>
      rintro D c pre W _ _ h _
      exact h.elim
    ·have HFI := hid (factsIs_err HNE.out HI.out.went h0)
     have HB := hid HI.out.below
     have h1 : (er != 0) = true := by simp [h0]
     have h2 : decide (er = 0) = false := decide_eq_false h0
     have h3 : (er == 0) = false := by simp [h0]
     clear h0 HI
     go_wp2_with fail
     exact ⟨_, results_tmp2 rfl _ _ _, er, [], none, 0, 0, [], HFI.out, rfl, ⟨rfl, by omega, .inl rfl⟩, ⟨rfl, fun j hj => by (cases hj)⟩, HB.out⟩
   | cons x td =>
    obtain ⟨qg, qo, rfl, q0, hq1, hq2⟩ := HI.out.que.head
    have hnc := HI.out.que.2.1
    have hl0 : (0 : Int) < ((x :: td).length : Int) := by rw [List.length_cons]; omega
    have HL : Hid ((x :: td).length = td.length + 1) := rfl
    have HKN := hid HI.out.map.keysN
    obtain ⟨xn, hxn⟩ : ∃ xn, (x :: td).length = xn := ⟨_, rfl⟩
    have HXN : Hid (xn = td.length + 1) := hxn.symm
    rw [hxn] at hnc hl0 hq1 hq2 ⊢
    have hq3 := hid hq1; have hq4 := hid hq2
    clear hq1 hq2 hxn HL
    go_upto_region 9 with fail
    go_cut [10] from 30 to 66 (fun tv wx => ∃ a' c', tv = .slice a' td.length c' ∧ wr = wx ∧ Hid (QAt wr w.heap.size a' td.length c' td ∧ ∀ k, qF a' c' k → qF (some ⟨qg, qo, none⟩) c k))
    case first =>
     have hx1 := HXN.out
     subst hx1
     by_cases hc1 : c = 1
     ·subst hc1
      obtain rfl : td = [] := List.length_eq_zero_iff.1 (by omega)
      go_wp2_with fail
      go_meet
      case rel => exact ⟨_, _, rfl, rfl, hq4.out trivial _, fun k hk => by (exact (qF_none hk).elim)⟩
     ·have hc2 : ¬ (c = 1) := hc1
      have hc3 : ¬ (c - 1 = 0) := by omega
      have hc4 : (c - 1 == 0) = false := by simp [hc3]
      go_wp2_with fail
      go_meet
      case rel => exact ⟨_, _, rfl, rfl, hq3.out (by omega), fun k hk => qF_tail hk⟩
    case rest =>
     obtain ⟨a', c', rfl, rfl, HQ⟩ := hcut
     have HG := hid (getFc m ks vs l fs x wr HI.out.map)
     clear q0
     go_wp2_with fail
     refine HG.out.mono ?_; rintro e w4 ⟨fx, rfl, hb4⟩
     have HB5 : Hid (Below wr.heap.size wr (w4.alloc (.cells #[.string fx.id, .int .i64 fx.h, .slice fx.pa fx.pn fx.pc] 66))) := hb4.alloc hb4.size _
     clear hb4 HG
     go_upto_region 11 with fail
     generalize (w4.alloc (.cells #[.string fx.id, .int .i64 fx.h, .slice fx.pa fx.pn fx.pc] 66)) = w5 at HB5 ⊢
     have HI5 := hid (HI.out.later HB5.out)
     have HM5 := hid HI5.out.map.keysN
     cases hh : hasN l x with
     | true =>
      have HI6 := hid (HI5.out.skip (hasN_iff.1 hh) (HQ.out.1.only (Only.of_below HB5.out NoF) (fun _ _ e => e)) HQ.out.2)
      clear hh
      go_wp2_with fail
      go_roundw
      case rel => exact ⟨er, a', c', td, ks, vs, l, fs, rfl, rfl, HI6⟩
      case measure => rw [HM5.out, HKN.out]; have := HXN.out; simp only [lenV]; omega
     | false =>
      have hx := hid hh
      clear hh
      have HLK := hid (look_any t rv G x 3 21 w5 (HS.out.later HI5.out.below) hz)
      go_wp2_with fail
      refine HLK.out.mono ?_; rintro e w6 ⟨ev, pv, rfl, hO6, hb6, hf6⟩
      obtain ⟨ea, en, ec, pa, pn, pc, rfl, -, rfl, hps⟩ := hO6
      have HPS : Hid (StrsAt w6 pa pn (obF G x).pars) := hps
      have HPF : Hid (∀ k, (Value.slice pa pn pc).ownBlock = some k → w5.heap.size ≤ k) := fun k hk => hf6 k (.inr hk)
      have HB6 := hid hb6
      have eE : (lookK G x 3 21).2 = errF G x := rfl
      have eO : (lookK G x 3 21).1 = obF G x := rfl
      rw [eE, eO]
      obtain ⟨X, hX⟩ : ∃ X, obF G x = X := ⟨_, rfl⟩
      obtain ⟨er2, her2⟩ : ∃ er2, errF G x = er2 := ⟨_, rfl⟩
      rw [hX, her2]
      rw [hX] at HPS
      have HXX := hid hX
      have HER := hid her2
      have HX7 : Hid (Blk (w6.alloc (.cells (obCs X (.slice ea en ec) (.slice pa pn pc)) 98)) w6.heap.size 98 (obCs X (.slice ea en ec) (.slice pa pn pc))) := Blk.new w6 _ _
      have HB7 : Hid (Below w6.heap.size w6 (w6.alloc (.cells (obCs X (.slice ea en ec) (.slice pa pn pc)) 98))) := (Below.refl _ _).alloc (Nat.le_refl _) _
      unfold obCs at HX7 HB7
      simp only [obCs]
      clear hps hb6 hf6 HLK eE eO hX her2
      have HW := hid (worse_any er er2)
      go_upto_region 13 with fail
      generalize (w6.alloc (.cells #[.int .i64 X.kind, .string X.data, .slice ea en ec, .string X.tree, .slice pa pn pc, .int .i64 X.height, .string X.note] 98)) = w7 at HX7 HB7 ⊢
      generalize ho7 : w6.heap.size = o7 at HX7 HB7 ⊢
      have HO7 := hid ho7
      clear ho7
      go_wp2_with fail
      refine (HW.out w7).mono ?_; rintro e w8 ⟨rfl, hb8⟩
      have HX8 : Hid (Blk w8 o7 98 #[.int .i64 X.kind, .string X.data, .slice ea en ec, .string X.tree, .slice pa pn pc, .int .i64 X.height, .string X.note]) := (hb8.block o7 (Blk.lt HX7.out)).trans HX7.out
      have HB8 : Hid (Below w6.heap.size w6 w8) := by have h := HB7.out; rw [← HO7.out] at h; exact below_then h hb8
      clear hb8 HX7 HB7 HW
      have k4 : w8.cell? ⟨o7, 4, none⟩ = some (.slice pa pn pc) := Blk.cell HX8.out 4
      have k5 : w8.cell? ⟨o7, 5, none⟩ = some (.int .i64 X.height) := Blk.cell HX8.out 5
      have HI8 := hid ((HI5.out.later HB6.out).later HB8.out)
      have HCUT := hid (HI8.out.cut HQ.out.2)
      obtain ⟨hU1, hU2, hU3⟩ := HU.out
      have hlU : l.length + 1 ≤ U.length := by
       have hr := HI.out.map.2.2.2.2.1
       have hn : (x :: l).Nodup := List.nodup_cons.2 ⟨hasN_no.1 hx.out, rising_nodup hr⟩
       have := nodup_le hn (m := U) (fun q hq => by
        rcases List.mem_cons.1 hq with rfl | hq
        ·exact hU1 _ (HI.out.went.todo _ (List.mem_cons_self ..))
        ·exact hU1 q (HI.out.went.seen q hq))
       simpa using this
      have hp8 : X.pars.length ≤ 8 := by rw [← HXX.out]; exact hU3 x
      have hpl : X.pars.length = pn := HPS.out.1
      have HPL := hid hpl
      have HPU := hid (putF_no m ks vs l fs x x X.height pa pn pc w8 HI8.out.map hx.out (by omega))
      have HLU := hid hlU
      have HP8 : Hid (pn ≤ 8) := by rw [← hpl]; exact hp8
      have HUL := hid hU2
      have HFEW := hid HI.out.few
      clear hU1 hU2 hU3 hlU hp8 hpl
      go_wp2_with fail
      refine HPU.out.mono ?_; rintro e w9 ⟨rfl, ks', vs', hm9, ho9, hk9⟩
      have HM9 := hid hm9; have HO9 := hid ho9; have HK9 := hid hk9
      have hmo : ¬ MapF m ks vs o7 := fun e => by
       have h1 := HI5.out.map.lt o7 e
       have h2 := HB6.out.size
       rw [HO7.out] at h2; omega
      have k4' : w9.cell? ⟨o7, 4, none⟩ = some (.slice pa pn pc) := Blk.cell ((ho9.block o7 (Blk.lt HX8.out) hmo).trans HX8.out) 4
      have HPS9 : Hid (StrsAt w9 pa pn X.pars) := by
       have h8 : StrsAt w8 pa pn X.pars := HPS.out.later HB8.out
       have hp : PsAt w8 (MapF m ks vs) ⟨x, 0, pa, pn, pc⟩ X.pars := by
        refine ⟨h8, ?_⟩
        rcases h8.2.2 with h0 | ⟨b, off, ha, hc⟩
        ·exact .inl h0
        ·by_cases h0 : pn = 0
         ·exact .inl h0
         ·refine .inr ⟨b, off, ha, fun e => ?_, World.block_lt_of_cell? w8 _ (hc 0 (by omega))⟩
          have hge := HPF.out b (by rw [ha]; rfl)
          have := HI5.out.map.lt b e
          omega
       exact (hp.step (M' := NoF) HO9.out (fun _ _ e => e) (fun _ _ e => e.elim)).1
      have HQ9 : Hid (QAt w9 w.heap.size a' td.length c' td) := by
       have q8 : QAt w8 w.heap.size a' td.length c' td := ((HQ.out.1.only (Only.of_below HB5.out NoF) (fun _ _ e => e)).only (Only.of_below HB6.out NoF) (fun _ _ e => e)).only (Only.of_below HB8.out NoF) (fun _ _ e => e)
       exact q8.only HO9.out (fun k h1 h2 => HCUT.out.2 k h2 h1)
      have hwB : w.heap.size ≤ w9.heap.size := Nat.le_trans HI8.out.below.size ho9.size
      have hfew2 : td.length + pn ≤ 1000000 := by
       have h1 := HFEW.out; have h2 := HP8.out; have h3 := HLU.out; have h4 := HUL.out
       rw [List.length_cons] at h1; omega
      clear hm9 ho9 hk9 hmo HPU k4 k5 HX8
      go_wp2_with (at_builtin; refine wpList_append_q rfl (.tmp 63) (.tmp 65) rfl w.heap.size a' td.length c' td rfl HQ9.out hwB pa pn pc X.pars rfl HPS9.out hfew2 ?_; intro a9 c9 w10 hq10 ho10 hk10; have HQ10 := hid hq10; have HO10 := hid ho10; have HK10 := hid hk10; clear hq10 ho10 hk10)
      have HI10 : Hid (FInv w w10 G id m (worseZ er er2) a9 c9 (td ++ X.pars) ks' vs' (putN l x) (putVF l fs x ⟨x, X.height, pa, pn, pc⟩)) := by
       rw [← HER.out, ← HXX.out]
       refine FInv.take HI5.out hx.out HQ.out.2 HB6.out (by rw [HXX.out]; exact HPS.out) HPF.out HB8.out (by rw [HXX.out, HPL.out]; exact HP8.out) (by rw [HXX.out]; exact HM9.out) HO9.out HK9.out (by rw [HXX.out]; exact HQ10.out) HO10.out HK10.out
      have HL10 : Hid (td.length + pn = (td ++ X.pars).length) := by
       show _ = _
       rw [List.length_append, HPL.out]
      have HM10 := hid HI10.out.map.keysN
      have HN10 : Hid ((putN l x).length = l.length + 1) := by
       show _ = _
       unfold putN
       rw [if_neg (by rw [hx.out]; simp), List.length_append, List.length_cons, List.length_take, List.length_drop]
       have := posOf_le l x; omega
      go_roundw
      case rel => exact ⟨worseZ er er2, a9, c9, td ++ X.pars, ks', vs', _, _, rfl, by rw [HL10.out], HI10⟩
      case measure =>
       rw [HM10.out, HKN.out, HN10.out]
       have h1 := HXN.out; have h2 := HP8.out; have h3 := HLU.out
       simp only [lenV]; omega
end Go.Proofs.YtmpjdoiogbbcoaaGreatDoor
/- What a commit came from, the highest first: order.Log, snap.Log, whatever the commit came from. -/
namespace Go.Proofs.YtmpjdoiogbbcoaaGreatDoor
open Go.RowKit Book Pap Ojt Sn Go.Sort
set_option linter.unusedVariables false
set_option linter.unusedSimpArgs false

def hG (G : Sw.Src) (q : ByteArray) : Int := (obF G q).height
def rightB (G : Sw.Src) (q : ByteArray) : Bool := hG G q == heightL ((obF G q).pars.map (hG G))
def RightF (G : Sw.Src) (q : ByteArray) : Prop := rightB G q = true
def LogIs (G : Sw.Src) (id : ByteArray) (er : Int) (S : List ByteArray) : Prop :=
 (er = 41 ∧ S = [] ∧ ∃ q, Rch G id q ∧ ¬ RightF G q) ∨ (er = 0 ∧ (∀ q, Rch G id q → RightF G q) ∧ S.Pairwise (fun p q => upQ (hG G) p q = true) ∧ ∀ q, q ∈ S ↔ Rch G id q)
def SLogIs (G : Sw.Src) (id : ByteArray) (er : Int) (S : List ByteArray) : Prop :=
 ∃ er0 L, FactsIs G id er0 L ∧ ((er0 ≠ 0 ∧ er = er0 ∧ S = []) ∨ (er0 = 0 ∧ LogIs G id er S))
/-- the fact of an id -/
def facT (fs : List Fc) (q : ByteArray) : Fc := (tabF fs q).getD ⟨q, 0, none, 0, 0⟩
theorem facT_id (fs : List Fc) (q : ByteArray) : (facT fs q).id = q := by
 unfold facT tabF
 cases h : fs.find? (fun f => decide (f.id = q)) with
 | none => rfl
 | some f =>
  have := List.find?_some h
  simpa using this
theorem facT_at {G : Sw.Src} {w : World} {fs : List Fc} {l : List ByteArray} (hfa : FaAt w fs (l.map (faOf G))) {q : ByteArray} (hq : q ∈ l) : tabF fs q = some (facT fs q) ∧ (facT fs q).h = hG G q ∧ StrsAt w (facT fs q).pa (facT fs q).pn (obF G q).pars := by
 have key : ∀ j, (hj : j < fs.length) → ∃ hjl : j < l.length, fs[j].id = l[j] ∧ fs[j].h = hG G l[j] ∧ StrsAt w fs[j].pa fs[j].pn (obF G l[j]).pars := fun j hj => by
  have hjl : j < l.length := by have := hfa.1; rw [List.length_map] at this; omega
  obtain ⟨g1, g2, g3⟩ := hfa.2 j hj
  have e1 : fs.getD j noFc = fs[j] := by rw [List.getD_eq_getElem?_getD, List.getElem?_eq_getElem hj]; rfl
  have e3 : (l.map (faOf G)).getD j noFa = faOf G l[j] := by
   rw [List.getD_eq_getElem?_getD, List.getElem?_map, List.getElem?_eq_getElem hjl]; rfl
  rw [e1, e3] at g1 g2 g3
  exact ⟨hjl, g1, g2, g3⟩
 obtain ⟨j, hj, rfl⟩ := List.getElem_of_mem hq
 have hjf : j < fs.length := by have := hfa.1; rw [List.length_map] at this; omega
 obtain ⟨_, k1, _, _⟩ := key j hjf
 have hs : (fs.find? (fun f => decide (f.id = l[j]))).isSome = true := List.find?_isSome.2 ⟨fs[j], List.getElem_mem hjf, by simp [k1]⟩
 obtain ⟨f, hf⟩ := Option.isSome_iff_exists.1 hs
 have hfm := List.mem_of_find?_eq_some hf
 have hfi : f.id = l[j] := by simpa using List.find?_some hf
 have e : facT fs l[j] = f := by unfold facT tabF; rw [hf]; rfl
 rw [e]
 obtain ⟨k, hk, rfl⟩ := List.getElem_of_mem hfm
 obtain ⟨hkl, c1, c2, c3⟩ := key k hk
 have e2 : l[k] = l[j] := by rw [← c1, hfi]
 rw [e2] at c2 c3
 exact ⟨hf, c2, c3⟩
def LogOut (w : World) (P : Int → List ByteArray → Prop) (e : Ending) (w' : World) : Prop :=
 ∃ er S a n c, P er S ∧ e = .returned (.tuple #[.slice a n c, .int .i64 er]) ∧ StrsAt w' a n S ∧ Below w.heap.size w w'
set_option maxRecDepth 100000 in
set_option maxHeartbeats 16000000 in
theorem log_any (G : Sw.Src) (id : ByteArray) (l : List ByteArray) (hl : ∀ q, q ∈ l ↔ Rch G id q) (hr : Rising l) (hl6 : l.length ≤ 500000) (a : Option Addr) (n c : Nat) (fs : List Fc) (hsz : ∀ q ∈ l, q.size ≤ maxLen) (hp8 : ∀ q, (obF G q).pars.length ≤ 8) (hh : ∀ q, 0 ≤ hG G q ∧ hG G q ≤ 1073741824)
  (w : World) (hf : FcsAt w a n fs) (hfa : FaAt w fs (l.map (faOf G))) :
  Calls Tryz.prog 45 #[.slice a n c, .string id] w (LogOut w (LogIs G id)) := by
 obtain ⟨i0, hi0, hz0, hz1, hz2⟩ := info_parts Tryz.infoS
 have hids : fs.map (·.id) = l := by
  apply List.ext_getElem
  ·rw [List.length_map, hfa.1, List.length_map]
  ·intro j h1 h2
   rw [List.length_map] at h1
   obtain ⟨g1, g2, g3⟩ := hfa.2 j h1
   have e1 : fs.getD j noFc = fs[j] := by rw [List.getD_eq_getElem?_getD, List.getElem?_eq_getElem h1]; rfl
   have e3 : (l.map (faOf G)).getD j noFa = faOf G l[j] := by
    rw [List.getD_eq_getElem?_getD, List.getElem?_map, List.getElem?_eq_getElem h2]; rfl
   rw [e1, e3] at g1
   rw [List.getElem_map]; exact g1
 have HR := hid (read_any a n c fs w hf (by rw [hids]; exact rising_nodup hr) (fun g hg => hsz _ (by rw [← hids]; exact List.mem_map.2 ⟨g, hg, rfl⟩)))
 have HL := hid hl; have HSZ := hid hsz; have HP8 := hid hp8; have HH := hid hh; have HFA := hid hfa
 clear hf hl hsz hp8 hh hfa hr hids
 go_enter Tryz.func45, Tryz.ntmps45
 go_wp2_with fail
 refine HR.out.mono ?_; rintro e w1 ⟨m, rfl, hm1, hml, hb1⟩
 have HM1 := hid hm1
 have HB1 := hid hb1
 have hs1 : w.heap.size ≤ w1.heap.size := hb1.size
 have HFA1 := hid (HFA.out.later hb1)
 have HME := hid (met_any G id l HL.out hl6 m n fs (facT fs) (facT_id fs) (fun q hq => (facT_at HFA1.out hq).1) HSZ.out w1 hm1 (fun q hq => (facT_at HFA1.out hq).2.2))
 clear hm1 hb1 HR
 go_wp2_with fail
 refine HME.out.mono ?_; rintro e w2 ⟨S, fa, fc, rfl, ho2, hpw, hmem, hb2⟩
 have HB2 : Hid (Below w.heap.size w w2) := HB1.out.trans (hb2.mono hs1)
 have HM2 := hid (HM1.out.later hb2)
 have HFA2 := hid (HFA1.out.later hb2)
 have HMEM := hid hmem
 have hndS : S.Nodup := hpw.imp (fun {p q} h e => by subst e; have : upQ (fun q => (facT fs q).h) p p = false := upK_irr _ _; rw [this] at h; cases h)
 have hSl : S.length ≤ 500000 := Nat.le_trans (nodup_le hndS (fun q hq => (hmem q).1 hq)) hl6
 have HPW : Hid (S.Pairwise (fun p q => upQ (hG G) p q = true)) := by
  refine List.Pairwise.imp_of_mem (fun {p q} hp hq h => ?_) hpw
  have e1 := (facT_at HFA2.out ((hmem p).1 hp)).2.1
  have e2 := (facT_at HFA2.out ((hmem q).1 hq)).2.1
  unfold upQ at h ⊢
  rw [← e1, ← e2]; exact h
 obtain ⟨fa', fc', hfe, hF⟩ := own_fcs ho2 (by omega)
 injection hfe with e1 e2 e3
 subst e1; subst e3
 have HFS := hid hF
 have hs2 : w.heap.size ≤ w2.heap.size := HB2.out.size
 clear hF ho2 hb2 HME HM1 HB1 e2 hpw hmem hndS HFA1
 go_wp2_with fail
 go_loopw [31, 9] (fun iv sv wr => ∃ (k : Nat) (sa : Option Addr) (sc : Nat), k ≤ S.length ∧ iv = .int .i64 k ∧ sv = .slice sa k sc ∧ Hid (wr.ownsRow w2.heap.size 9 1 (.slice sa k sc) k (svals (S.take k))) ∧ Hid (Below w2.heap.size w2 wr) ∧ Hid (∀ q ∈ S.take k, RightF G q)) (fun iv _ _ => S.length - (intOf iv).toNat)
 case atStart => exact ⟨0, none, 0, by omega, rfl, rfl, World.ownsRow_nil _ _ _ _, Below.refl _ _, fun q hq => by simp at hq⟩
 case round =>
  obtain ⟨k, sa, sc, hk, rfl, rfl, HO, HBR, HRT⟩ := hrel
  have hsr := HBR.out.size
  by_cases hlt : k < S.length
  ·have ck : (k : Int) < S.length := by omega
   have ck0 : (0 : Int) ≤ (k : Int) := by omega
   obtain ⟨hx0, -, h3⟩ := HFS.out.later HBR.out
   obtain ⟨eb, eoff, rfl, hcell⟩ := h3.resolve_left (by omega)
   obtain ⟨q0, q1, q2⟩ := hcell k hlt
   obtain ⟨x, hx⟩ : ∃ x, S[k] = x := ⟨_, rfl⟩
   have hgd : (S.map (facT fs)).getD k noFc = facT fs x := by
    rw [List.getD_eq_getElem?_getD, List.getElem?_map, List.getElem?_eq_getElem hlt, hx]; rfl
   rw [hgd] at q0 q1 q2
   have hxS : x ∈ S := by rw [← hx]; exact List.getElem_mem hlt
   have hxl : x ∈ l := (HMEM.out x).1 hxS
   have HXL := hid hxl
   have HTK : Hid (S.take (k + 1) = S.take k ++ [x]) := by
    show _ = _
    rw [List.take_succ_eq_append_getElem hlt, hx]
   have hcl : ∀ p ∈ (obF G x).pars, p ∈ l := fun p hp => (HL.out p).2 (.step ((HL.out x).1 hxl) hp)
   have hhp : ∀ p ∈ (obF G x).pars, ((tabF fs p).getD noFc).h = hG G p := fun p hp => by
    obtain ⟨r1, r2, _⟩ := facT_at HFA2.out (hcl p hp)
    rw [r1]; exact r2
   have HRW : Hid (∀ W, Below wr.heap.size wr W → Calls Tryz.prog 90 #[.map (some m), valF (facT fs x)] W fun e w' => e = .returned (.bool (rightB G x)) ∧ Below W.heap.size W w') := fun W hW => by
    have hbW : Below w2.heap.size w2 W := below_then HBR.out hW
    obtain ⟨r1, r2, r3⟩ := facT_at (HFA2.out.later hbW) hxl
    refine (isRight_any m n fs (facT fs x) (obF G x).pars W (HM2.out.later hbW) r3 (by have h8 := HP8.out x; have h9 := r3.1; omega) (fun p hp => HSZ.out p (hcl p hp)) (fun p hp => by rw [hhp p hp]; exact HH.out p)).mono ?_
    rintro e w' ⟨rfl, hb⟩
    refine ⟨?_, hb⟩
    have hmap : (obF G x).pars.map (fun p => ((tabF fs p).getD noFc).h) = (obF G x).pars.map (hG G) := List.map_congr_left hhp
    rw [r2, hmap]; rfl
   have hfi := facT_id fs x
   obtain ⟨⟨xi, xh, xa, xn, xc⟩, hfx⟩ : ∃ f, facT fs x = f := ⟨_, rfl⟩
   rw [hfx] at q0 q1 q2 HRW hfi
   simp only at q0 q1 q2 hfi
   subst hfi
   have ev : valF ⟨xi, xh, xa, xn, xc⟩ = .agg #[.string xi, .int .i64 xh, .slice xa xn xc] := rfl
   rw [ev] at HRW
   have HX : Hid (Blk (wr.alloc (.cells #[.string xi, .int .i64 xh, .slice xa xn xc] 66)) wr.heap.size 66 #[.string xi, .int .i64 xh, .slice xa xn xc]) := Blk.new wr _ _
   have HBX : Hid (Below wr.heap.size wr (wr.alloc (.cells #[.string xi, .int .i64 xh, .slice xa xn xc] 66))) := (Below.refl _ _).alloc (Nat.le_refl _) _
   have HBW : Hid (w.heap.size ≤ wr.heap.size) := Nat.le_trans hs2 hsr
   clear hcell h3 hx0 hgd hx hxS hxl hcl hhp hfx ev
   go_upto_region 11 with fail
   clear q0 q1 q2
   generalize (wr.alloc (.cells #[.string xi, .int .i64 xh, .slice xa xn xc] 66)) = w4 at HX HBX ⊢
   generalize hg4 : wr.heap.size = g4 at HX ⊢
   have HG4 := hid hg4
   clear hg4
   have k0 : w4.cell? ⟨g4, 0, none⟩ = some (.string xi) := Blk.cell HX.out 0
   have k1 : w4.cell? ⟨g4, 1, none⟩ = some (.int .i64 xh) := Blk.cell HX.out 1
   have k2 : w4.cell? ⟨g4, 2, none⟩ = some (.slice xa xn xc) := Blk.cell HX.out 2
   have HIR := hid (HRW.out w4 HBX.out)
   cases hrt : rightB G xi
   case true =>
    rw [hrt] at HIR
    have HRT2 : Hid (∀ q ∈ S.take (k + 1), RightF G q) := fun q hq => by
     rw [HTK.out] at hq
     rcases List.mem_append.1 hq with hq | hq
     ·exact HRT.out q hq
     ·rw [List.mem_singleton.1 hq]; exact hrt
    clear hrt
    go_wp2_with fail
    refine HIR.out.mono ?_; rintro e w5 ⟨rfl, hb5⟩
    have HX5 : Hid (Blk w5 g4 66 #[.string xi, .int .i64 xh, .slice xa xn xc]) := (hb5.block g4 (Blk.lt HX.out)).trans HX.out
    have HB5 : Hid (Below wr.heap.size wr w5) := below_then HBX.out hb5
    have hs5 := HB5.out.size
    have k0' : w5.cell? ⟨g4, 0, none⟩ = some (.string xi) := Blk.cell HX5.out 0
    have HO5 := hid (own_below HO.out HB5.out)
    clear k0 k1 k2 hb5 HIR HX HBX
    have hk5 : k ≤ 500000 := by omega
    have hw5 : w2.heap.size ≤ w5.heap.size := Nat.le_trans hsr hs5
    go_wp2_with (first
     | (at_builtin; refine wpList_append_own _ rfl (.tmp 39) (.tmp 42) 40 rfl w2.heap.size 9 i0 (.string ⟨#[]⟩) 1 16 Tryz.underlying40 hi0 hz0 hz1 hz2 rfl (by decide) (.slice sa k sc) _ _ rfl (HO5.out.alloc _) ⟨w5.heap.size, 0, none⟩ 1 1 [.string xi] rfl rfl (cellNew1 _ _ _) (one_bytes rfl) (by unfold maxLen; omega) (by omega) (by rw [World.size_alloc]; omega) ?_; intro v' w9 hown' hgrow _; have HOWN := hid hown'; have HGR := hid hgrow; clear hown' hgrow))
    obtain ⟨va', vc', rfl, hvc'⟩ := own_slice' HOWN.out
    have HO9 : Hid (w9.ownsRow w2.heap.size 9 1 (.slice va' (k + 1) vc') (k + 1) (svals (S.take (k + 1)))) := by
     have h := HOWN.out
     rw [HTK.out]
     unfold svals at h ⊢
     rw [List.map_append]; exact h
    have HB9 : Hid (Below w2.heap.size w2 w9) := below_grown1 (below_then HBR.out HB5.out) HO5.out _ hw5 HGR.out
    go_roundw
    case rel => first | exact ⟨k + 1, va', vc', by omega, by go_num, rfl, HO9, HB9, HRT2⟩ | ((repeat apply Exists.intro); exact ⟨⟨k + 1, va', vc', by omega, by go_num, rfl, HO9, HB9, HRT2⟩, rfl⟩)
    case measure => simp [intOf]; omega
   case false =>
    rw [hrt] at HIR
    have HLI : Hid (LogIs G id 41 []) := .inl ⟨rfl, rfl, xi, (HL.out xi).1 HXL.out, by unfold RightF; rw [hrt]; simp⟩
    clear hrt
    go_wp2_with fail
    refine HIR.out.mono ?_; rintro e w5 ⟨rfl, hb5⟩
    have HB5 : Hid (Below w.heap.size w w5) := below_then HB2.out (below_then HBR.out (below_then HBX.out hb5))
    clear hb5 HIR k0 k1 k2
    go_wp2_with fail
    go_ret2
    exact ⟨41, [], none, 0, 0, HLI.out, rfl, ⟨rfl, by omega, .inl rfl⟩, HB5.out⟩
  ·obtain rfl : k = S.length := by omega
   have ck : ¬ (S.length : Int) < S.length := by omega
   have hfull : S.take S.length = S := List.take_of_length_le (Nat.le_refl _)
   have HLI : Hid (LogIs G id 0 S) := .inr ⟨rfl, fun q hq => HRT.out q (by rw [hfull]; exact (HMEM.out q).2 ((HL.out q).2 hq)), HPW.out, fun q => (HMEM.out q).trans (HL.out q)⟩
   have HST : Hid (StrsAt wr sa S.length S) := by
    have h := HO.out
    rw [hfull] at h
    obtain ⟨a9, c9, e9, h9⟩ := own_strs h (by omega)
    injection e9 with e91 _ _
    rw [e91]; exact h9
   clear hfull
   go_wp2_with fail
   go_ret2
   exact ⟨0, S, _, _, _, HLI.out, rfl, HST.out, below_then HB2.out HBR.out⟩
end Go.Proofs.YtmpjdoiogbbcoaaGreatDoor
/- snap.Log, whatever the commit came from; how far a commit's history reaches. -/
namespace Go.Proofs.YtmpjdoiogbbcoaaGreatDoor
open Go.RowKit Book Pap Ojt Sn Go.Sort
set_option linter.unusedVariables false
set_option linter.unusedSimpArgs false

theorem obF_good (G : Sw.Src) (q : ByteArray) : (obF G q).pars.length ≤ 8 ∧ (∀ p ∈ (obF G q).pars, p.size = 32) ∧ 0 ≤ hG G q ∧ hG G q ≤ 1073741824 := by
 by_cases h : errF G q = 0
 ·have he : lookK G q 3 21 = (obF G q, 0) := by
   have : (lookK G q 3 21).2 = 0 := h
   unfold obF
   rw [← this]
  obtain ⟨g1, g2⟩ := lookK_ok he (by decide)
  obtain ⟨h1, h2, h3, h4, _⟩ := good_commit g1 g2
  exact ⟨h1, h2, h3, h4⟩
 ·unfold hG
  rw [obF_err h]
  exact ⟨by decide, ⟨fun p hp => (by cases hp), by decide, by decide⟩⟩
theorem rch_size {G : Sw.Src} {id : ByteArray} (h : id.size ≤ maxLen) {q : ByteArray} (hq : Rch G id q) : q.size ≤ maxLen := by
 cases hq with
 | root => exact h
 | step _ hp => rw [(obF_good G _).2.1 _ hp]; unfold maxLen; omega
theorem flat_le {α β : Type} (f : α → List β) (k : Nat) : ∀ l : List α, (∀ x ∈ l, (f x).length ≤ k) → (l.flatMap f).length ≤ l.length * k
 | [], _ => by simp
 | a :: l, h => by
  have h1 := h a (List.mem_cons_self ..)
  have h2 := flat_le f k l (fun x hx => h x (List.mem_cons_of_mem _ hx))
  rw [List.flatMap_cons, List.length_append, List.length_cons, Nat.add_mul]
  omega
theorem univ_of (fs : List Fi) (hn : fs.length ≤ 12000) (id : ByteArray) : Univ (getF fs) id (id :: fs.flatMap (fun f => (obF (getF fs) f.path).pars)) := by
 refine ⟨fun q hq => ?_, ?_, fun q => (obF_good _ q).1⟩
 ·cases hq with
  | root => exact List.mem_cons_self ..
  | step _ hp =>
   rename_i q' _
   refine List.mem_cons_of_mem _ ?_
   have he : errF (getF fs) q' = 0 := by
    by_cases h : errF (getF fs) q' = 0
    ·exact h
    ·rw [obF_err h] at hp; cases hp
   have hsome : ∃ f ∈ fs, f.path = q' := by
    cases hf : fs.find? (fun f => decide (f.path = q')) with
    | none =>
     exfalso
     have : getF fs q' = none := by unfold getF; rw [hf]; rfl
     unfold errF lookK at he
     rw [this] at he
     simp at he
    | some f => exact ⟨f, List.mem_of_find?_eq_some hf, by simpa using List.find?_some hf⟩
   obtain ⟨f, hf, rfl⟩ := hsome
   exact List.mem_flatMap.2 ⟨f, hf, hp⟩
 ·have := flat_le (fun f : Fi => (obF (getF fs) f.path).pars) 8 fs (fun f _ => (obF_good _ _).1)
  rw [List.length_cons]; omega
set_option maxRecDepth 100000 in
set_option maxHeartbeats 8000000 in
theorem slog_any (t : TypeId) (rv : Value) (G : Sw.Src) (hz : SrcSz G) (id : ByteArray) (hi : id.size ≤ maxLen) (U : List ByteArray) (hU : Univ G id U) (w : World) (hs : SrcAt w t rv G) :
  Calls Tryz.prog 12 #[.iface t rv, .string id] w (LogOut w (SLogIs G id)) := by
 have HF := hid (facts_any t rv G hz id U hU w hs)
 have HU := hid hU
 clear hs hU
 go_enter Tryz.func12, Tryz.ntmps12
 go_wp2_with fail
 refine HF.out.mono ?_; rintro e w1 ⟨er, L, a, n, c, fs, hfi, rfl, hfc, hfa, hb1⟩
 have HB1 := hid hb1
 by_cases h0 : er = 0
 ·subst h0
  have hl : ∃ l, Rising l ∧ (∀ q, q ∈ l ↔ Rch G id q) ∧ L = l.map (faOf G) := by
   rcases hfi with ⟨_, h, _⟩ | ⟨_, _, h⟩
   ·cases h
   ·rcases h with ⟨h, _⟩ | ⟨_, h⟩
    ·exact absurd rfl h
    ·exact h
  obtain ⟨l, hr, hmem, rfl⟩ := hl
  have hl6 : l.length ≤ 500000 := by
   have h1 := nodup_le (rising_nodup hr) (m := U) (fun q hq => HU.out.1 q ((hmem q).1 hq))
   have h2 := HU.out.2.1
   omega
  have HL := hid (log_any G id l hmem hr hl6 a n c fs (fun q hq => rch_size hi ((hmem q).1 hq)) (fun q => (obF_good G q).1) (fun q => (obF_good G q).2.2) w1 hfc hfa)
  have HFI := hid hfi
  clear hfi hfc hfa hb1 HF hmem
  go_wp2_with fail
  refine HL.out.mono ?_; rintro e w2 ⟨er2, S, sa, sn, sc, hli, rfl, hst, hb2⟩
  have HST := hid hst
  have HB2 : Hid (Below w.heap.size w w2) := below_then HB1.out hb2
  have HLI : Hid (SLogIs G id er2 S) := ⟨0, _, HFI.out, .inr ⟨rfl, hli⟩⟩
  clear hst hb2 hli HL
  go_wp2_with fail
  go_ret2
  exact ⟨er2, S, _, _, _, HLI.out, rfl, HST.out, HB2.out⟩
 ·have HLI : Hid (SLogIs G id er []) := ⟨er, L, hfi, .inl ⟨h0, rfl, rfl⟩⟩
  have h1 : (er != 0) = true := by simp [h0]
  have h2 : decide (er = 0) = false := decide_eq_false h0
  have h3 : (er == 0) = false := by simp [h0]
  clear hfi hfc hfa hb1 HF h0
  go_wp2_with fail
  go_ret2
  exact ⟨er, [], none, 0, 0, HLI.out, rfl, ⟨rfl, by omega, .inl rfl⟩, HB1.out⟩
end Go.Proofs.YtmpjdoiogbbcoaaGreatDoor
/- Facts and a log where nothing is missing and all heights are right (plain). -/
namespace Go.Proofs.YtmpjdoiogbbcoaaGreatDoor
open Go.RowKit Book Pap Ojt Sn
set_option linter.unusedVariables false
set_option linter.unusedSimpArgs false

theorem worst_zero {G : Sw.Src} {R : ByteArray → Prop} {er : Int} (h : WorstOf G R er) (h0 : ∀ q, R q → errF G q = 0) : er = 0 := by
 rcases h.2.1 with e | ⟨q, hq, e⟩
 ·exact e
 ·rw [h0 q hq] at e; exact e.symm
theorem facts_fine {G : Sw.Src} {id : ByteArray} {er : Int} {L : List Fa} (h : FactsIs G id er L) (hn : G id ≠ none) (h0 : ∀ q, Rch G id q → errF G q = 0) : er = 0 ∧ ∃ l, Rising l ∧ (∀ q, q ∈ l ↔ Rch G id q) ∧ L = l.map (faOf G) := by
 rcases h with ⟨h1, _⟩ | ⟨_, h2, h3⟩
 ·exact absurd h1 hn
 ·have e := worst_zero h2 h0
  rcases h3 with ⟨h4, _⟩ | ⟨_, h5⟩
  ·exact absurd e h4
  ·exact ⟨e, h5⟩
theorem slog_fine {G : Sw.Src} {id : ByteArray} {er : Int} {S : List ByteArray} (h : SLogIs G id er S) (hn : G id ≠ none) (h0 : ∀ q, Rch G id q → errF G q = 0) (hr : ∀ q, Rch G id q → RightF G q) :
  er = 0 ∧ S.Pairwise (fun p q => upQ (hG G) p q = true) ∧ ∀ q, q ∈ S ↔ Rch G id q := by
 obtain ⟨e0, L, h1, h2⟩ := h
 obtain ⟨rfl, -⟩ := facts_fine h1 hn h0
 rcases h2 with ⟨h2, _⟩ | ⟨_, h3⟩
 ·exact absurd rfl h2
 ·rcases h3 with ⟨_, _, q, hq, hb⟩ | ⟨h4, _, h5, h6⟩
  ·exact absurd (hr q hq) hb
  ·exact ⟨h4, h5, h6⟩
theorem found_of {G : Sw.Src} {id : ByteArray} {X : Ob} (hx : lookK G id 3 21 = (X, 0)) : G id ≠ none := by
 intro h
 unfold lookK at hx
 rw [h] at hx
 injection hx with _ hx
 exact absurd hx (by decide)
theorem slog_root {G : Sw.Src} {id : ByteArray} {X : Ob} {er : Int} {S : List ByteArray} (hx : lookK G id 3 21 = (X, 0)) (hp : X.pars = []) (hh : X.height = 0) (h : SLogIs G id er S) : er = 0 ∧ S = [id] := by
 have ho : obF G id = X := by unfold obF; rw [hx]
 have key : ∀ q, Rch G id q → q = id := fun q hq => by
  induction hq with
  | root => rfl
  | step _ hpq ih =>
   subst ih
   rw [ho, hp] at hpq; cases hpq
 obtain ⟨h1, h2, h3⟩ := slog_fine h (found_of hx) (fun q hq => by rw [key q hq]; unfold errF; rw [hx]) (fun q hq => by
  rw [key q hq]
  unfold RightF rightB hG
  rw [ho, hp, hh]; rfl)
 refine ⟨h1, upQ_one h2 (List.pairwise_singleton _ _) (fun q => (h3 q).trans ⟨fun hq => List.mem_singleton.2 (key q hq), fun hq => by rw [List.mem_singleton.1 hq]; exact .root⟩)⟩
end Go.Proofs.YtmpjdoiogbbcoaaGreatDoor
/- The statement on differences, plain: put on the first one's files they give the second one's; turned round they are turned. -/
namespace Go.Proofs.YtmpjdoiogbbcoaaGreatDoor
open Go.RowKit Book Pap Ojt Sn
set_option linter.unusedVariables false
set_option linter.unusedSimpArgs false

/-- the id of a name -/
def idl (l : List Ent) (q : ByteArray) : Option ByteArray := (l.find? (fun e => decide (e.name = q))).map (·.id)
def wasOf (l : List Ent) (q : ByteArray) : ByteArray := (idl l q).getD ByteArray.empty
theorem idl_hit {y : Ent} {r : List Ent} {q : ByteArray} (h : y.name = q) : idl (y :: r) q = some y.id := by
 unfold idl; rw [List.find?_cons_of_pos (by simp [h])]; rfl
theorem idl_miss {y : Ent} {r : List Ent} {q : ByteArray} (h : y.name ≠ q) : idl (y :: r) q = idl r q := by
 unfold idl; rw [List.find?_cons_of_neg (by simp [h])]
theorem idl_none {l : List Ent} {q : ByteArray} : idl l q = none ↔ q ∉ l.map (·.name) := by
 induction l with
 | nil => simp [idl]
 | cons y r ih =>
  by_cases h : y.name = q
  ·rw [idl_hit h]; simp [h]
  ·rw [idl_miss h, ih, List.map_cons, List.mem_cons]
   exact ⟨fun h1 e => e.elim (fun e => h e.symm) h1, fun h1 e => h1 (.inr e)⟩
theorem tabA_val : ∀ (l : List Ent) (f : ByteArray → Option Ch) (q : ByteArray), (l.map (·.name)).Nodup → l.foldl putA f q = match idl l q with | some i => some ⟨q, i, ByteArray.empty⟩ | none => f q
 | [], f, q, _ => rfl
 | y :: r, f, q, h => by
  rw [List.map_cons] at h
  obtain ⟨h1, h2⟩ := List.nodup_cons.1 h
  rw [List.foldl_cons, tabA_val r _ q h2]
  by_cases hq : y.name = q
  ·subst hq
   rw [idl_none.2 h1, idl_hit rfl]
   show putA f y y.name = _
   unfold putA; rw [if_pos rfl]
  ·rw [idl_miss hq]
   cases idl r q with
   | some i => rfl
   | none =>
    show putA f y q = f q
    unfold putA; rw [if_neg (fun e => hq e.symm)]
theorem tabB_val : ∀ (l : List Ent) (f : ByteArray → Option Ch) (q : ByteArray), (l.map (·.name)).Nodup → l.foldl putB f q = match idl l q with | some i => some ⟨q, ((f q).getD noCh).was, i⟩ | none => f q
 | [], f, q, _ => rfl
 | y :: r, f, q, h => by
  rw [List.map_cons] at h
  obtain ⟨h1, h2⟩ := List.nodup_cons.1 h
  rw [List.foldl_cons, tabB_val r _ q h2]
  by_cases hq : y.name = q
  ·subst hq
   rw [idl_none.2 h1, idl_hit rfl]
   show putB f y y.name = _
   unfold putB; rw [if_pos rfl]
  ·rw [idl_miss hq]
   have e : putB f y q = f q := by unfold putB; rw [if_neg (fun e => hq e.symm)]
   rw [e]
theorem tab_iff {l m : List Ent} (hl : (l.map (·.name)).Nodup) (hm : (m.map (·.name)).Nodup) (c : Ch) :
  (tabD l m c.path = some c ∧ c.was ≠ c.is) ↔ (c.was = wasOf l c.path ∧ c.is = wasOf m c.path ∧ c.was ≠ c.is) := by
 obtain ⟨p, wa, is⟩ := c
 simp only
 unfold tabD wasOf
 rw [tabB_val m _ p hm, tabA_val l _ p hl]
 cases hm1 : idl m p with
 | some i =>
  cases hl1 : idl l p with
  | some j =>
   constructor
   ·rintro ⟨h1, h3⟩
    have h1 : (⟨p, j, i⟩ : Ch) = ⟨p, wa, is⟩ := Option.some.inj h1
    injection h1 with _ e1 e2
    exact ⟨e1.symm, e2.symm, h3⟩
   ·rintro ⟨h1, h2, h3⟩
    subst h1; subst h2
    exact ⟨rfl, h3⟩
  | none =>
   constructor
   ·rintro ⟨h1, h3⟩
    have h1 : (⟨p, ByteArray.empty, i⟩ : Ch) = ⟨p, wa, is⟩ := Option.some.inj h1
    injection h1 with _ e1 e2
    exact ⟨e1.symm, e2.symm, h3⟩
   ·rintro ⟨h1, h2, h3⟩
    subst h1; subst h2
    exact ⟨rfl, h3⟩
 | none =>
  cases hl1 : idl l p with
  | some j =>
   constructor
   ·rintro ⟨h1, h3⟩
    have h1 : (⟨p, j, ByteArray.empty⟩ : Ch) = ⟨p, wa, is⟩ := Option.some.inj h1
    injection h1 with _ e1 e2
    exact ⟨e1.symm, e2.symm, h3⟩
   ·rintro ⟨h1, h2, h3⟩
    subst h1; subst h2
    exact ⟨rfl, h3⟩
  | none =>
   constructor
   ·rintro ⟨h1, h3⟩
    cases h1
   ·rintro ⟨h1, h2, h3⟩
    exact absurd (h1.trans h2.symm) h3
theorem diff_mem {l m : List Ent} {D : List Ch} (hl : (l.map (·.name)).Nodup) (hm : (m.map (·.name)).Nodup) (h : IsDiff l m D) (c : Ch) : c ∈ D ↔ (c.was = wasOf l c.path ∧ c.is = wasOf m c.path ∧ c.was ≠ c.is) :=
 (h.2 c).trans (tab_iff hl hm c)
end Go.Proofs.YtmpjdoiogbbcoaaGreatDoor
/- Layer 15's laws: plain: what Build hands back. -/
namespace Go.Proofs.YtmpjdoiogbbcoaaGreatDoor
open Go.RowKit Book Pap Ojt Sn
set_option linter.unusedVariables false
set_option linter.unusedSimpArgs false

theorem buildS_ok {l : List Fi} : (buildS l).2 = 0 ↔ OkFs l := by
 rw [← checkF_iff]
 unfold buildS
 split
 ·rename_i h; exact ⟨fun _ => h, fun _ => rfl⟩
 ·rfl
theorem buildS_of {l : List Fi} (h : OkFs l) : buildS l = (treeS 64 (l.map flOf) [], 0) := by
 unfold buildS
 rw [if_pos ((checkF_iff l).2 h)]
theorem buildS_few {l : List Fi} (h : (buildS l).2 = 0) (hl : l.length ≤ 60) : (buildS l).1.1.length ≤ 3841 := by
 have hk := buildS_ok.1 h
 rw [buildS_of hk]
 have h1 := treeS_cnt 64 (l.map flOf) []
 have h2 := wt_le (k := 64) (l.map flOf) (fun f hf => hk.len f hf)
 rw [List.length_map] at h2
 simp only [List.length_nil] at h1
 have : l.length * 64 ≤ 60 * 64 := Nat.mul_le_mul_right _ hl
 simp only
 omega
theorem sumF_each {l : List Fi} {m : Nat} (h : sumF l ≤ m) : ∀ f ∈ l, f.path.size ≤ m ∧ f.data.size ≤ m := by
 induction l with
 | nil => intro f hf; cases hf
 | cons x r ih =>
  have e : sumF (x :: r) = x.path.size + x.data.size + sumF r := by unfold sumF; simp
  rw [e] at h
  intro f hf
  rcases List.mem_cons.1 hf with rfl | hf
  ·omega
  ·exact ih (by omega) f hf
end Go.Proofs.YtmpjdoiogbbcoaaGreatDoor
/- Layer 15's laws: plain: a commit of files without parents. -/
namespace Go.Proofs.YtmpjdoiogbbcoaaGreatDoor
open Go.RowKit Book Pap Ojt Sn
set_option linter.unusedVariables false
set_option linter.unusedSimpArgs false

/-- the objects of a commit of files that have no parents -/
def comL (l : List Fi) (note : ByteArray) : List ByteArray := (layS (treeS 64 (l.map flOf) []).1 (commitOf (tid 64 (l.map flOf)) [] 0 note)).1
theorem commit_not {G : Sw.Src} {l : List Fi} {note : ByteArray} (h : ¬ OkFs l) : (commitS G l [] note).2 ≠ 0 := by
 have hb : (buildS l).2 ≠ 0 := fun e => h (buildS_ok.1 e)
 unfold commitS
 rw [if_pos hb]
 exact hb
end Go.Proofs.YtmpjdoiogbbcoaaGreatDoor
/- What a commit's objects are: each names only those ahead of it; Admit takes them all (plain). -/
namespace Go.Proofs.YtmpjdoiogbbcoaaGreatDoor
open Go.RowKit Book Pap Ojt Sn
set_option linter.unusedVariables false
set_option linter.unusedSimpArgs false

/-- an object whose links stand among some texts -/
def FitIn (P : List ByteArray) (o : Ob) : Prop :=
 good o = true ∧ (∀ k ∈ rawLinks o, k.kind ≠ 3 ∧ ∃ t ∈ P, ∃ y, Sw.idOf t = k.id ∧ Sw.decO t = some y ∧ y.kind = k.kind) ∧ (o.kind = 3 → o.height = 0)
/-- a text that may stand behind some -/
def Step (P : List ByteArray) (t : ByteArray) : Prop := t ∉ P ∧ t.size ≤ 131072 ∧ ∃ o, Sw.decO t = some o ∧ FitIn P o
/-- texts, each naming only those ahead -/
def Stair (L : List ByteArray) : Prop := ∀ i, i < L.length → Step (L.take i) (L.getD i ByteArray.empty)
theorem Stair.nil : Stair [] := fun i h => by simp at h
theorem Stair.snoc {L : List ByteArray} {t : ByteArray} (h : Stair L) (ht : Step L t) : Stair (L ++ [t]) := fun i hi => by
 rw [List.length_append, List.length_singleton] at hi
 rcases Nat.lt_or_ge i L.length with h1 | h1
 ·have := h i h1
  rw [List.take_append_of_le_length (by omega)]
  rw [List.getD_eq_getElem?_getD, List.getElem?_append_left h1, ← List.getD_eq_getElem?_getD]
  exact this
 ·obtain rfl : i = L.length := by omega
  rw [List.take_left' rfl, List.getD_eq_getElem?_getD, List.getElem?_append_right (Nat.le_refl _), Nat.sub_self]
  exact ht
theorem Stair.lay {L : List ByteArray} {x : Ob} (h : Stair L) (hg : good x = true) (hd : dec (encL x) = some x) (hf : FitIn L x) : Stair (layS L x).1 := by
 unfold layS
 simp only
 split
 ·exact h
 ·rename_i hn
  have hn : encP x ∉ L := fun e => hn (hasN_iff.2 e)
  exact h.snoc ⟨hn, by have := encP_size x; omega, x, decO_encP hg hd, hf⟩
/-- none is a commit -/
def NoCom (L : List ByteArray) : Prop := ∀ t ∈ L, ∃ o, Sw.decO t = some o ∧ o.kind ≠ 3
theorem NoCom.lay {L : List ByteArray} {x : Ob} (h : NoCom L) (hg : good x = true) (hd : dec (encL x) = some x) (hk : x.kind ≠ 3) : NoCom (layS L x).1 := fun t ht => by
 rcases (layS_mem L x t).1 ht with ht | rfl
 ·exact h t ht
 ·exact ⟨x, decO_encP hg hd, hk⟩
theorem fit_blob (P : List ByteArray) {s : ByteArray} (hg : good (blobOf s) = true) : FitIn P (blobOf s) :=
 ⟨hg, ⟨fun k hk => (by cases hk), fun h => (by cases h)⟩⟩
theorem ents_stair {rec : List Fl → List ByteArray → List ByteArray × ByteArray} {fs : List Fl} (hg : GoodFl fs) (hr : ∀ n L, sub n fs ≠ [] → Stair L → NoCom L → Stair (rec (sub n fs) L).1 ∧ NoCom (rec (sub n fs) L).1) :
  ∀ (ns : List ByteArray) (L : List ByteArray) (E : List Ent), Stair L → NoCom L → Stair (entsS rec fs ns L E).1 ∧ NoCom (entsS rec fs ns L E).1
 | [], L, E, h, k => ⟨h, k⟩
 | n :: r, L, E, h, k => by
  have h1 : Stair (nameS rec fs L n).1 ∧ NoCom (nameS rec fs L n).1 := by
   unfold nameS
   split
   ·have hb := leaf_good hg n
    exact ⟨h.lay hb (dec_blob hb) (fit_blob L hb), k.lay hb (dec_blob hb) (by show (1 : Int) ≠ 3; decide)⟩
   ·rename_i hs
    exact hr n L hs h k
  exact ents_stair hg hr r _ _ h1.1 h1.2
theorem tree_stair : ∀ (d : Nat) (fs : List Fl) (L : List ByteArray), AptL fs → (∀ f ∈ fs, f.1.length ≤ d + 1) → GoodFl fs → fs.length ≤ 256 → Stair L → NoCom L → Stair (treeS (d + 1) fs L).1 ∧ NoCom (treeS (d + 1) fs L).1 := by
 intro d
 induction d with
 | zero =>
  intro fs L ha hl hg hn h k
  have hgt := tree_good 0 ha hl hg hn
  obtain ⟨s1, s2⟩ := ents_stair (rec := treeS 0) hg (fun n L hs => absurd (sub_zero ha hl n) hs) (namesF fs) L [] h k
  obtain ⟨m1, m2⟩ := entsS_mem (treeS_mem 0) fs (namesF fs) L []
  rw [List.nil_append] at m1
  show Stair (layS _ (treeOf _)).1 ∧ NoCom (layS _ (treeOf _)).1
  rw [m1]
  refine ⟨s1.lay hgt (dec_tree hgt) ⟨hgt, fun l hl' => ?_, fun e => (by cases e)⟩, s2.lay hgt (dec_tree hgt) (by show (2 : Int) ≠ 3; decide)⟩
  obtain ⟨e, he, rfl⟩ := List.mem_map.1 (show l ∈ (tents 0 fs).map (fun e => (⟨e.kind, e.id⟩ : Lnk)) from hl')
  obtain ⟨n, hn', rfl⟩ := List.mem_map.1 he
  have hb := leaf_good hg n
  have e1 : entOf (tid 0) fs n = ⟨n, 1, Sw.idOf (leafT fs n)⟩ := by unfold entOf; rw [if_pos (sub_zero ha hl n)]
  rw [e1]
  refine ⟨by show (1 : Int) ≠ 3; decide, leafT fs n, (m2 _).2 (.inr (List.mem_flatMap.2 ⟨n, hn', ?_⟩)), _, rfl, decO_encP hb (dec_blob hb), rfl⟩
  unfold textOf; rw [if_pos (sub_zero ha hl n)]; exact List.mem_singleton.2 rfl
 | succ d ih =>
  intro fs L ha hl hg hn h k
  have hgt := tree_good (d + 1) ha hl hg hn
  obtain ⟨s1, s2⟩ := ents_stair (rec := treeS (d + 1)) hg (fun n L hs h k => ih (sub n fs) L (ha.sub n) (sub_len hl) (hg.sub n) (Nat.le_trans (sub_few n fs) hn) h k) (namesF fs) L [] h k
  obtain ⟨m1, m2⟩ := entsS_mem (treeS_mem (d + 1)) fs (namesF fs) L []
  rw [List.nil_append] at m1
  show Stair (layS _ (treeOf _)).1 ∧ NoCom (layS _ (treeOf _)).1
  rw [m1]
  refine ⟨s1.lay hgt (dec_tree hgt) ⟨hgt, fun l hl' => ?_, fun e => (by cases e)⟩, s2.lay hgt (dec_tree hgt) (by show (2 : Int) ≠ 3; decide)⟩
  obtain ⟨e, he, rfl⟩ := List.mem_map.1 (show l ∈ (tents (d + 1) fs).map (fun e => (⟨e.kind, e.id⟩ : Lnk)) from hl')
  obtain ⟨n, hn', rfl⟩ := List.mem_map.1 he
  by_cases hs : sub n fs = []
  ·have hb := leaf_good hg n
   have e1 : entOf (tid (d + 1)) fs n = ⟨n, 1, Sw.idOf (leafT fs n)⟩ := by unfold entOf; rw [if_pos hs]
   rw [e1]
   refine ⟨by show (1 : Int) ≠ 3; decide, leafT fs n, (m2 _).2 (.inr (List.mem_flatMap.2 ⟨n, hn', ?_⟩)), _, rfl, decO_encP hb (dec_blob hb), rfl⟩
   unfold textOf; rw [if_pos hs]; exact List.mem_singleton.2 rfl
  ·have hgs := tree_good d (ha.sub n) (sub_len hl) (hg.sub n) (Nat.le_trans (sub_few n fs) hn)
   have e1 : entOf (tid (d + 1)) fs n = ⟨n, 2, tid (d + 1) (sub n fs)⟩ := by unfold entOf; rw [if_neg hs]
   rw [e1]
   refine ⟨by show (2 : Int) ≠ 3; decide, encP (treeOf (tents d (sub n fs))), (m2 _).2 (.inr (List.mem_flatMap.2 ⟨n, hn', ?_⟩)), _, rfl, decO_encP hgs (dec_tree hgs), rfl⟩
   unfold textOf; rw [if_neg hs]
   exact List.mem_append.2 (.inr (List.mem_singleton.2 rfl))
/-- the objects of a commit without parents -/
theorem com_stair {l : List Fi} {note : ByteArray} (h : OkFs l) (hn : note.size ≤ 1000) : Stair (comL l note) ∧ comL l note = (treeS 64 (l.map flOf) []).1 ++ [encP (commitOf (tid 64 (l.map flOf)) [] 0 note)] := by
 obtain ⟨s1, s2⟩ := tree_stair 63 (l.map flOf) [] h.apt (fun f hf => h.len f hf) h.goodFl (by rw [List.length_map]; exact h.few) Stair.nil (fun t ht => by cases ht)
 have hg := commit_good (fs := l) hn
 have hd := dec_commit hg
 have hgt := tree_good 63 h.apt (fun f hf => h.len f hf) h.goodFl (by rw [List.length_map]; exact h.few)
 refine ⟨s1.lay hg hd ⟨hg, fun k hk => ?_, fun _ => rfl⟩, ?_⟩
 ·obtain rfl : k = ⟨2, tid 64 (l.map flOf)⟩ := List.mem_singleton.1 hk
  refine ⟨by show (2 : Int) ≠ 3; decide, encP (treeOf (tents 63 (l.map flOf))), ((treeS_mem 64 _ []).2 _).2 (.inr (List.mem_append.2 (.inr (List.mem_singleton.2 rfl)))), _, rfl, decO_encP hgt (dec_tree hgt), rfl⟩
 ·show (if hasN _ _ = true then _ else _) = _
  rw [if_neg]
  intro e
  obtain ⟨o, ho, hk⟩ := s2 _ (hasN_iff.1 e)
  rw [decO_encP hg hd] at ho
  cases ho
  exact hk rfl
/-! Admit takes them -/
theorem none_none : (none : Option ByteArray).isNone = true := rfl
def itL (L : List ByteArray) : List Sw.It := L.map (fun t => ⟨Sw.idOf t, t⟩)
def itFi (l : List Sw.It) : List Fi := l.map (fun x => ⟨x.id, x.data⟩)
theorem itFi_itL (L : List ByteArray) : itFi (itL L) = itemsS L := by
 unfold itFi itL itemsS
 rw [List.map_map]; rfl
theorem itL_mem {P : List ByteArray} {id u : ByteArray} (h : (⟨id, u⟩ : Sw.It) ∈ itL P) : u ∈ P ∧ Sw.idOf u = id := by
 obtain ⟨t, ht, e⟩ := List.mem_map.1 h
 cases e
 exact ⟨ht, rfl⟩
theorem getI_not {T P : List ByteArray} (hT : Sw.Apart T) (hP : ∀ u ∈ P, u ∈ T) {t : ByteArray} (ht : t ∈ T) (hn : t ∉ P) : Sw.getI (itL P) (Sw.idOf t) = none := by
 cases hg : Sw.getI (itL P) (Sw.idOf t) with
 | none => rfl
 | some u =>
  obtain ⟨h1, h2⟩ := itL_mem (Sw.getI_some hg)
  exact absurd (hT u (hP u h1) t ht h2 ▸ h1) hn
theorem getI_yes {T P : List ByteArray} (hT : Sw.Apart T) (hP : ∀ u ∈ P, u ∈ T) {t : ByteArray} (ht : t ∈ P) : Sw.getI (itL P) (Sw.idOf t) = some t := by
 cases hg : Sw.getI (itL P) (Sw.idOf t) with
 | none => exact absurd rfl (Sw.getI_none hg ⟨Sw.idOf t, t⟩ (List.mem_map.2 ⟨t, ht, rfl⟩))
 | some u =>
  obtain ⟨h1, h2⟩ := itL_mem (Sw.getI_some hg)
  rw [hT u (hP u h1) t (hP t ht) h2]
theorem fitsK_all {H : Sw.Src} : ∀ (l : List Lnk) (hs : List Int), (∀ k ∈ l, (Sw.look H k.id).1 = 0 ∧ (Sw.look H k.id).2.kind = k.kind ∧ k.kind ≠ 3) → Sw.fitsK H l hs = (0, hs)
 | [], _, _ => rfl
 | k :: r, hs, h => by
  obtain ⟨h1, h2, h3⟩ := h k (List.mem_cons_self ..)
  unfold Sw.fitsK
  rw [if_neg (by simp [h1]), if_neg (by simp [h2]), if_neg h3]
  exact fitsK_all r hs (fun j hj => h j (List.mem_cons_of_mem _ hj))
def noSrc : Sw.Src := fun _ => none
theorem over_noSrc (l : List Sw.It) : Sw.over l noSrc = Sw.getI l := by
 funext id
 unfold Sw.over noSrc
 cases Sw.getI l id <;> rfl
theorem fits_in {T P : List ByteArray} (hT : Sw.Apart T) (hP : ∀ u ∈ P, u ∈ T) {o : Ob} (h : FitIn P o) : Sw.fits (Sw.getI (itL P)) o = 0 := by
 obtain ⟨hg, hk, h3⟩ := h
 have key := fitsK_all (H := Sw.getI (itL P)) (links o) [] (fun k hm => by
  obtain ⟨n3, t, ht, y, e1, e2, e3⟩ := hk k ((links_mem hg k).1 hm)
  have hl : Sw.look (Sw.getI (itL P)) k.id = (0, y) := by
   unfold Sw.look
   rw [← e1, getI_yes hT hP ht]
   simp only [e2]
  rw [hl]
  exact ⟨rfl, e3, n3⟩)
 unfold Sw.fits
 rw [key, if_neg (by simp), if_neg]
 rintro ⟨a1, a2⟩
 exact a2 (h3 a1)
theorem admitF_stair {T : List ByteArray} (hT : Sw.Apart T) : ∀ (R P : List ByteArray), P ++ R = T → Stair T → Sw.admitF noSrc R (itL P) (itL P) = (itL T, 0)
 | [], P, e, _ => by
  rw [List.append_nil] at e
  subst e; rfl
 | t :: R, P, e, hS => by
  have hlen : P.length < T.length := by rw [← e]; simp
  have hs := hS P.length hlen
  have e1 : T.take P.length = P := by rw [← e]; exact List.take_left' rfl
  have e2 : T.getD P.length ByteArray.empty = t := by rw [← e, List.getD_eq_getElem?_getD, List.getElem?_append_right (Nat.le_refl _), Nat.sub_self]; rfl
  rw [e1, e2] at hs
  obtain ⟨hn, hz, o, hd, hf⟩ := hs
  have hP : ∀ u ∈ P, u ∈ T := fun u hu => by rw [← e]; exact List.mem_append.2 (.inl hu)
  have ht : t ∈ T := by rw [← e]; exact List.mem_append.2 (.inr (List.mem_cons_self ..))
  have hg := getI_not hT hP ht hn
  have hov : Sw.over (itL P) noSrc (Sw.idOf t) = none := by rw [over_noSrc]; exact hg
  have he : Sw.errAt noSrc (itL P) t = 0 := by
   unfold Sw.errAt
   rw [if_neg (by omega), hd]
   simp only
   rw [hov, if_pos none_none, over_noSrc]
   exact fits_in hT hP hf
  have e3 : Sw.took (itL P) t = itL (P ++ [t]) := by
   unfold Sw.took
   rw [hg, if_pos none_none]
   unfold itL
   rw [List.map_append]; rfl
  have e4 : Sw.brought noSrc (itL P) (itL P) t = itL (P ++ [t]) := by
   unfold Sw.brought
   rw [hov, if_pos none_none]
   unfold itL
   rw [List.map_append]; rfl
  unfold Sw.admitF
  rw [if_neg (by simp [he]), e3, e4]
  exact admitF_stair hT R (P ++ [t]) (by rw [List.append_assoc]; exact e) hS
def Sw.admitS (G : Sw.Src) (list : List ByteArray) : List Sw.It × Int := Sw.admitF G list [] []
theorem admit_com {l : List Fi} {note : ByteArray} (h : OkFs l) (hn : note.size ≤ 1000) (hT : Sw.Apart (comL l note)) : Sw.admitS noSrc (comL l note) = (itL (comL l note), 0) :=
 admitF_stair hT (comL l note) [] rfl (com_stair h hn).1
end Go.Proofs.YtmpjdoiogbbcoaaGreatDoor
/- SnapBack: plain: a commit's files come back, each is found at its path. -/
namespace Go.Proofs.YtmpjdoiogbbcoaaGreatDoor
open Go.RowKit Book Pap Ojt Sn
set_option linter.unusedVariables false
set_option linter.unusedSimpArgs false

theorem src_none : getF [] = noSrc := by funext id; rfl
end Go.Proofs.YtmpjdoiogbbcoaaGreatDoor
/- The fact above all others: slices.MaxFunc, order.Best. -/
namespace Go.Proofs.YtmpjdoiogbbcoaaGreatDoor
open Go.RowKit Book Pap Ojt Sn Go.Sort
set_option linter.unusedVariables false
set_option linter.unusedSimpArgs false

/-- the greatest of the first ones -/
def maxAt (fs : List Fc) : Nat → Fc
 | 0 => noFc
 | 1 => fs.getD 0 noFc
 | i + 2 => if 0 < cmpZ (fs.getD (i + 1) noFc) (maxAt fs (i + 1)) then fs.getD (i + 1) noFc else maxAt fs (i + 1)
theorem maxAt_step (fs : List Fc) {i : Nat} (hi : 1 ≤ i) : maxAt fs (i + 1) = if 0 < cmpZ (fs.getD i noFc) (maxAt fs i) then fs.getD i noFc else maxAt fs i := by
 obtain ⟨k, rfl⟩ : ∃ k, i = k + 1 := ⟨i - 1, by omega⟩
 rfl
theorem maxAt_mem (fs : List Fc) : ∀ i, 1 ≤ i → ∃ k, k < i ∧ maxAt fs i = fs.getD k noFc
 | 0, h => by omega
 | 1, _ => ⟨0, by omega, rfl⟩
 | i + 2, _ => by
  rw [maxAt_step fs (by omega)]
  split
  ·exact ⟨i + 1, by omega, rfl⟩
  ·obtain ⟨k, hk, e⟩ := maxAt_mem fs (i + 1) (by omega)
   exact ⟨k, by omega, e⟩
theorem maxAt_top (fs : List Fc) (j : Nat) : ∀ i, j < i → (∀ k, k < i → k ≠ j → 0 < cmpZ (fs.getD j noFc) (fs.getD k noFc) ∧ ¬ 0 < cmpZ (fs.getD k noFc) (fs.getD j noFc)) → maxAt fs i = fs.getD j noFc
  | 0, h, _ => by omega
  | 1, h, _ => by obtain rfl : j = 0 := by omega
                  rfl
  | i + 2, h, hk => by
    rw [maxAt_step fs (by omega)]
    by_cases hj : j = i + 1
    · subst hj
      obtain ⟨k, h1, e⟩ := maxAt_mem fs (i + 1) (by omega)
      rw [e, if_pos (hk k (by omega) (by omega)).1]
    · rw [maxAt_top fs j (i + 1) (by omega) (fun k h1 h2 => hk k (by omega) h2), if_neg (hk (i + 1) (by omega) (fun e => hj e.symm)).2]
theorem LaysD.bel {w w' : World} (h : LaysD w w') : Below w.heap.size w w' := by
 obtain ⟨q, os, rfl⟩ := h
 refine ⟨rfl, rfl, rfl, ?_, fun k hk => ?_⟩
 ·show w.heap.size ≤ (w.heap ++ os).size
  rw [Array.size_append]; omega
 ·show (w.heap ++ os)[k]? = w.heap[k]?
  rw [Array.getElem?_append_left hk]
theorem load3 {b : Nat} {f : Fc} {w : World} (h : Blk w b 66 #[.string f.id, .int .i64 f.h, .slice f.pa f.pn f.pc]) : w.cell? ⟨b, 0, none⟩ = some (.string f.id) ∧ w.cell? ⟨b, 1, none⟩ = some (.int .i64 f.h) ∧ w.cell? ⟨b, 2, none⟩ = some (.slice f.pa f.pn f.pc) := ⟨Blk.cell h 0, Blk.cell h 1, Blk.cell h 2⟩
set_option maxRecDepth 100000 in
set_option maxHeartbeats 8000000 in
theorem maxf_any (a : Option Addr) (n c : Nat) (fs : List Fc) (w : World) (h : FcsAt w a n fs) (hn : 0 < n) :
  Calls Tryz.prog 68 #[.slice a n c, .func (.func 69) #[] #[]] w fun e w' => e = .returned (valF (maxAt fs n)) ∧ Below w.heap.size w w' := by
 have HF := hid h
 have hn6 := h.2.1
 obtain ⟨-, -, h3⟩ := h
 obtain ⟨b, off, rfl, hc⟩ := h3.resolve_left (by omega)
 have hc0 := hc 0 hn
 rw [Nat.zero_mul, Nat.add_zero] at hc0
 clear h3 hc
 have hb1 : Below w.heap.size w (w.alloc (.cells #[.string ⟨#[]⟩, .int .i64 0, .slice none 0 0] 66)) := (Below.refl _ _).alloc (Nat.le_refl _) _
 have hr1 : Blk (w.alloc (.cells #[.string ⟨#[]⟩, .int .i64 0, .slice none 0 0] 66)) w.heap.size 66 #[.string ⟨#[]⟩, .int .i64 0, .slice none 0 0] := Blk.new _ _ _
 have ci : ¬ (n : Int) < 1 := by omega
 go_enter Tryz.func68, Tryz.ntmps68
 go_upto_region 1 with fail
 generalize (w.alloc (.cells #[.string ⟨#[]⟩, .int .i64 0, .slice none 0 0] 66)) = w1 at hb1 hr1 ⊢
 generalize hrb : w.heap.size = rb at hr1 ⊢
 have HRB := hid hrb
 rw [hrb] at hb1
 have HB1 : Hid (Below rb w w1) := hb1
 have HR1 := hid hr1
 have c0 : w1.cell? ⟨b, off, none⟩ = some (.string (fs.getD 0 noFc).id) := (hb1.cell (p := ⟨b, off, none⟩) (by rw [← hrb]; exact World.block_lt_of_cell? w _ hc0.1)).trans hc0.1
 have c1 : w1.cell? ⟨b, off + 1, none⟩ = some (.int .i64 (fs.getD 0 noFc).h) := (hb1.cell (p := ⟨b, off + 1, none⟩) (by rw [← hrb]; exact World.block_lt_of_cell? w _ hc0.2.1)).trans hc0.2.1
 have c2 : w1.cell? ⟨b, off + 2, none⟩ = some (.slice (fs.getD 0 noFc).pa (fs.getD 0 noFc).pn (fs.getD 0 noFc).pc) := (hb1.cell (p := ⟨b, off + 2, none⟩) (by rw [← hrb]; exact World.block_lt_of_cell? w _ hc0.2.2)).trans hc0.2.2
 clear hb1 hr1 hrb hc0
 have HM2 : Hid (Blk (w1.alloc (.cells #[.string (maxAt fs 1).id, .int .i64 (maxAt fs 1).h, .slice (maxAt fs 1).pa (maxAt fs 1).pn (maxAt fs 1).pc] 66)) w1.heap.size 66 #[.string (maxAt fs 1).id, .int .i64 (maxAt fs 1).h, .slice (maxAt fs 1).pa (maxAt fs 1).pn (maxAt fs 1).pc]) := Blk.new _ _ _
 have hm1 : maxAt fs 1 = fs.getD 0 noFc := rfl
 have HR2 : Hid (Blk (w1.alloc (.cells #[.string (maxAt fs 1).id, .int .i64 (maxAt fs 1).h, .slice (maxAt fs 1).pa (maxAt fs 1).pn (maxAt fs 1).pc] 66)) rb 66 #[.string ⟨#[]⟩, .int .i64 0, .slice none 0 0]) := Blk.alloc HR1.out _
 have HB2 : Hid (Below rb w (w1.alloc (.cells #[.string (maxAt fs 1).id, .int .i64 (maxAt fs 1).h, .slice (maxAt fs 1).pa (maxAt fs 1).pn (maxAt fs 1).pc] 66))) := HB1.out.alloc (by have := HB1.out.size; have := HRB.out; omega) _
 rw [← hm1] at c0 c1 c2
 have HNE : Hid (rb ≠ w1.heap.size) := fun e => by have := Blk.lt HR1.out; omega
 have HRM : Hid (rb ≤ w1.heap.size) := by have := Blk.lt HR1.out; show _ ≤ _; omega
 clear hm1
 generalize hM : maxAt fs 1 = M at HM2 HR2 HB2 c0 c1 c2
 have HM := hid hM
 clear hM
 go_upto_region 4 with fail
 generalize (w1.alloc (.cells #[.string M.id, .int .i64 M.h, .slice M.pa M.pn M.pc] 66)) = w2 at HM2 HR2 HB2 ⊢
 generalize w1.heap.size = mb at HM2 HNE HRM ⊢
 clear c0 c1 c2 HB1 HR1
 go_wp2_with fail
 go_loopw [6] (fun iv wr => ∃ (i : Nat) (M : Fc), 1 ≤ i ∧ i ≤ n ∧ iv = .int .i64 i ∧ Hid (maxAt fs i = M) ∧ Hid (Blk wr mb 66 #[.string M.id, .int .i64 M.h, .slice M.pa M.pn M.pc]) ∧ Hid (Blk wr rb 66 #[.string ⟨#[]⟩, .int .i64 0, .slice none 0 0]) ∧ Hid (Below rb w wr)) (fun iv _ => n - (intOf iv).toNat)
 case atStart => exact ⟨1, M, Nat.le_refl _, hn, rfl, HM, HM2, HR2, HB2⟩
 case round =>
  clear HM HM2 HR2 HB2
  obtain ⟨i, M, h1, hi, rfl, HM, HMB, HRR, HB⟩ := hrel
  obtain ⟨m0, m1, m2⟩ := load3 HMB.out
  by_cases hlt : i < n
  ·have ck : (i : Int) < n := by omega
   have ck0 : (0 : Int) ≤ (i : Int) := by omega
   have hBw : Below w.heap.size w wr := by rw [HRB.out]; exact HB.out
   obtain ⟨-, -, h3⟩ := HF.out.later hBw
   obtain ⟨xb, xo, e1, hc⟩ := h3.resolve_left (by omega)
   injection e1 with e1
   injection e1 with e1 e2
   subst e1; subst e2
   obtain ⟨x0, x1, x2⟩ := hc i hlt
   obtain ⟨X, hX⟩ : ∃ X, fs.getD i noFc = X := ⟨_, rfl⟩
   rw [hX] at x0 x1 x2
   have HX := hid hX
   have HSTP : Hid (maxAt fs (i + 1) = if 0 < cmpZ X M then X else M) := by
    show _ = _
    rw [maxAt_step fs h1, HM.out, HX.out]
   have EX0 : ∀ z : After wr, z.val.cell? ⟨b, off + i * 3, none⟩ = some (.string X.id) := fun z => (z.below.cell (p := ⟨b, off + i * 3, none⟩) (World.block_lt_of_cell? _ _ x0)).trans x0
   have EX1 : ∀ z : After wr, z.val.cell? ⟨b, off + i * 3 + 1, none⟩ = some (.int .i64 X.h) := fun z => (z.below.cell (p := ⟨b, off + i * 3 + 1, none⟩) (World.block_lt_of_cell? _ _ x1)).trans x1
   have EX2 : ∀ z : After wr, z.val.cell? ⟨b, off + i * 3 + 2, none⟩ = some (.slice X.pa X.pn X.pc) := fun z => (z.below.cell (p := ⟨b, off + i * 3 + 2, none⟩) (World.block_lt_of_cell? _ _ x2)).trans x2
   have EM0 : ∀ z : After wr, z.val.cell? ⟨mb, 0, none⟩ = some (.string M.id) := fun z => (z.below.cell (p := ⟨mb, 0, none⟩) (World.block_lt_of_cell? _ _ m0)).trans m0
   have EM1 : ∀ z : After wr, z.val.cell? ⟨mb, 1, none⟩ = some (.int .i64 M.h) := fun z => (z.below.cell (p := ⟨mb, 1, none⟩) (World.block_lt_of_cell? _ _ m1)).trans m1
   have EM2 : ∀ z : After wr, z.val.cell? ⟨mb, 2, none⟩ = some (.slice M.pa M.pn M.pc) := fun z => (z.below.cell (p := ⟨mb, 2, none⟩) (World.block_lt_of_cell? _ _ m2)).trans m2
   obtain ⟨cz, hcz⟩ : ∃ cz, cmpZ X M = cz := ⟨_, rfl⟩
   have HC : Hid (∀ z : After wr, Calls Tryz.prog 69 #[.agg #[.string X.id, .int .i64 X.h, .slice X.pa X.pn X.pc], .agg #[.string M.id, .int .i64 M.h, .slice M.pa M.pn M.pc]] z.val fun e w' => e = .returned (.int .i64 cz) ∧ Below z.val.heap.size z.val w') := fun z =>
    (ordcmp_any X M z.val).mono fun e w' h => ⟨by rw [← hcz]; exact h.1, h.2.bel⟩
   rw [hcz] at HSTP
   clear hc h3 hX hcz x0 x1 x2 m0 m1 m2 hBw
   go_wp2_with fail
   refine wp_region_after (by kernel_rfl) (by kernel_rfl) ?_
   repeat (go_big_quiet_step ((go_at_call 69; exact calls_after (HC.out _))))
   refine wpQuiet_nil ?_
   intro _ hw'
   obtain ⟨z, rfl⟩ := hw'
   have HZ : Hid (Below wr.heap.size wr z.val) := z.below
   have x0 := EX0 z
   have x1 := EX1 z
   have x2 := EX2 z
   have HMz : Hid (Blk z.val mb 66 #[.string M.id, .int .i64 M.h, .slice M.pa M.pn M.pc]) := (z.below.block mb (Blk.lt HMB.out)).trans HMB.out
   have HRz : Hid (Blk z.val rb 66 #[.string ⟨#[]⟩, .int .i64 0, .slice none 0 0]) := (z.below.block rb (Blk.lt HRR.out)).trans HRR.out
   have HBz : Hid (Below rb w z.val) := HB.out.trans (HZ.out.mono (by have := Blk.lt HRR.out; omega))
   clear EX0 EX1 EX2 EM0 EM1 EM2 HC
   generalize z.val = wz at HZ x0 x1 x2 HMz HRz HBz ⊢
   clear z
   by_cases hg : 0 < cz
   ·have hg2 : cz > 0 := hg
    rw [if_pos hg] at HSTP
    have m0 := Blk.cell HMz.out 0
    have m1 := Blk.cell HMz.out 1
    have m2 := Blk.cell HMz.out 2
    have g0 := Blk.frozen HMz.out 0
    have g1 := Blk.frozen HMz.out 1
    have g2 := Blk.frozen HMz.out 2
    simp at m0 m1 m2
    have HM3 : Hid (Blk (((wz.setCell ⟨mb, 0, none⟩ (.string X.id)).setCell ⟨mb, 1, none⟩ (.int .i64 X.h)).setCell ⟨mb, 2, none⟩ (.slice X.pa X.pn X.pc)) mb 66 #[.string X.id, .int .i64 X.h, .slice X.pa X.pn X.pc]) := by
     have h := ((HMz.out.set 0 (.string X.id)).set 1 (.int .i64 X.h)).set 2 (.slice X.pa X.pn X.pc)
     show Blk _ _ _ _
     simpa using h
    have HR3 : Hid (Blk (((wz.setCell ⟨mb, 0, none⟩ (.string X.id)).setCell ⟨mb, 1, none⟩ (.int .i64 X.h)).setCell ⟨mb, 2, none⟩ (.slice X.pa X.pn X.pc)) rb 66 #[.string ⟨#[]⟩, .int .i64 0, .slice none 0 0]) :=
     ((HRz.out.far (p := ⟨mb, 0, none⟩) HNE.out _).far (p := ⟨mb, 1, none⟩) HNE.out _).far (p := ⟨mb, 2, none⟩) HNE.out _
    have HB3 : Hid (Below rb w (((wz.setCell ⟨mb, 0, none⟩ (.string X.id)).setCell ⟨mb, 1, none⟩ (.int .i64 X.h)).setCell ⟨mb, 2, none⟩ (.slice X.pa X.pn X.pc))) :=
     ((HBz.out.setCell (p := ⟨mb, 0, none⟩) HRM.out _).setCell (p := ⟨mb, 1, none⟩) HRM.out _).setCell (p := ⟨mb, 2, none⟩) HRM.out _
    go_wp2_with fail
    refine ⟨⟨i + 1, X, by omega, by omega, by go_num, HSTP, HM3, HR3, HB3⟩, ?_⟩
    simp [intOf]; omega
   ·rw [if_neg hg] at HSTP
    go_wp2_with fail
    go_roundw
    case rel => first | exact ⟨i + 1, M, by omega, by omega, by go_num, HSTP, HMz, HRz, HBz⟩ | ((repeat apply Exists.intro); exact ⟨⟨i + 1, M, by omega, by omega, by go_num, HSTP, HMz, HRz, HBz⟩, rfl⟩)
    case measure => simp [intOf]; omega
  ·obtain rfl : i = n := by omega
   have ck : ¬ (i : Int) < i := by omega
   have r0 := Blk.cell HRR.out 0
   have r1 := Blk.cell HRR.out 1
   have r2 := Blk.cell HRR.out 2
   have g0 := Blk.frozen HRR.out 0
   have g1 := Blk.frozen HRR.out 1
   have g2 := Blk.frozen HRR.out 2
   simp at r0 r1 r2
   have HR3 : Hid (Blk (((wr.setCell ⟨rb, 0, none⟩ (.string M.id)).setCell ⟨rb, 1, none⟩ (.int .i64 M.h)).setCell ⟨rb, 2, none⟩ (.slice M.pa M.pn M.pc)) rb 66 #[.string M.id, .int .i64 M.h, .slice M.pa M.pn M.pc]) := by
    have h := ((HRR.out.set 0 (.string M.id)).set 1 (.int .i64 M.h)).set 2 (.slice M.pa M.pn M.pc)
    show Blk _ _ _ _
    simpa using h
   have HB3 : Hid (Below rb w (((wr.setCell ⟨rb, 0, none⟩ (.string M.id)).setCell ⟨rb, 1, none⟩ (.int .i64 M.h)).setCell ⟨rb, 2, none⟩ (.slice M.pa M.pn M.pc))) :=
    ((HB.out.setCell (p := ⟨rb, 0, none⟩) (Nat.le_refl _) _).setCell (p := ⟨rb, 1, none⟩) (Nat.le_refl _) _).setCell (p := ⟨rb, 2, none⟩) (Nat.le_refl _) _
   go_wp2_with fail
   generalize (((wr.setCell ⟨rb, 0, none⟩ (.string M.id)).setCell ⟨rb, 1, none⟩ (.int .i64 M.h)).setCell ⟨rb, 2, none⟩ (.slice M.pa M.pn M.pc)) = w9 at HR3 HB3 ⊢
   obtain ⟨t0, t1, t2⟩ := load3 HR3.out
   have HE : Hid (valF (maxAt fs i) = .agg #[.string M.id, .int .i64 M.h, .slice M.pa M.pn M.pc]) := by show valF _ = _; rw [HM.out]; rfl
   rw [HE.out]
   clear HRR HMB HB HM
   refine bodyPost_ret (v := .agg #[.string M.id, .int .i64 M.h, .slice M.pa M.pn M.pc]) (by simp [results, Tryz.results68, go_sem, t0, t1, t2]) rfl ⟨rfl, ?_⟩
   rw [HRB.out]; exact HB3.out
set_option maxRecDepth 100000 in
set_option maxHeartbeats 8000000 in
theorem best_any (a : Option Addr) (n c : Nat) (fs : List Fc) (w : World) (h : FcsAt w a n fs) (hn : 0 < n) :
  Calls Tryz.prog 25 #[.slice a n c] w fun e w' => e = .returned (.tuple #[valF (maxAt fs n), .bool true]) ∧ Below w.heap.size w w' := by
 have hb1 : Below w.heap.size w (w.alloc (.cells #[.string ⟨#[]⟩, .int .i64 0, .slice none 0 0] 66)) := (Below.refl _ _).alloc (Nat.le_refl _) _
 have hr1 : Blk (w.alloc (.cells #[.string ⟨#[]⟩, .int .i64 0, .slice none 0 0] 66)) w.heap.size 66 #[.string ⟨#[]⟩, .int .i64 0, .slice none 0 0] := Blk.new _ _ _
 have HM := hid (maxf_any a n c fs _ (h.later hb1) hn)
 obtain ⟨M, hM⟩ : ∃ M, maxAt fs n = M := ⟨_, rfl⟩
 rw [hM] at HM ⊢
 have e1 : valF M = .agg #[.string M.id, .int .i64 M.h, .slice M.pa M.pn M.pc] := rfl
 rw [e1] at HM ⊢
 have ci : ¬ (n : Int) = 0 := by omega
 have hn6 := h.2.1
 have HB1 := hid hb1; have HR1 := hid hr1
 clear h hb1 hr1 hM e1
 go_enter Tryz.func25, Tryz.ntmps25
 go_wp2_with fail
 generalize (w.alloc (.cells #[.string ⟨#[]⟩, .int .i64 0, .slice none 0 0] 66)) = w1 at HB1 HR1 HM ⊢
 generalize hrb : w.heap.size = rb at HR1 HB1 ⊢
 have HRB := hid hrb
 clear hrb
 refine HM.out.mono ?_; rintro e w2 ⟨rfl, hb2⟩
 have HR2 : Hid (Blk w2 rb 66 #[.string ⟨#[]⟩, .int .i64 0, .slice none 0 0]) := (hb2.block rb (Blk.lt HR1.out)).trans HR1.out
 have HB2 : Hid (Below rb w w2) := HB1.out.trans (hb2.mono (by have := Blk.lt HR1.out; omega))
 clear hb2 HM HR1 HB1
 have r0 := Blk.cell HR2.out 0
 have r1 := Blk.cell HR2.out 1
 have r2 := Blk.cell HR2.out 2
 have g0 := Blk.frozen HR2.out 0
 have g1 := Blk.frozen HR2.out 1
 have g2 := Blk.frozen HR2.out 2
 simp at r0 r1 r2
 have HR3 : Hid (Blk (((w2.setCell ⟨rb, 0, none⟩ (.string M.id)).setCell ⟨rb, 1, none⟩ (.int .i64 M.h)).setCell ⟨rb, 2, none⟩ (.slice M.pa M.pn M.pc)) rb 66 #[.string M.id, .int .i64 M.h, .slice M.pa M.pn M.pc]) := by
  have h := ((HR2.out.set 0 (.string M.id)).set 1 (.int .i64 M.h)).set 2 (.slice M.pa M.pn M.pc)
  show Blk _ _ _ _
  simpa using h
 have HB3 : Hid (Below rb w (((w2.setCell ⟨rb, 0, none⟩ (.string M.id)).setCell ⟨rb, 1, none⟩ (.int .i64 M.h)).setCell ⟨rb, 2, none⟩ (.slice M.pa M.pn M.pc))) :=
  ((HB2.out.setCell (p := ⟨rb, 0, none⟩) (Nat.le_refl _) _).setCell (p := ⟨rb, 1, none⟩) (Nat.le_refl _) _).setCell (p := ⟨rb, 2, none⟩) (Nat.le_refl _) _
 go_wp2_with fail
 generalize (((w2.setCell ⟨rb, 0, none⟩ (.string M.id)).setCell ⟨rb, 1, none⟩ (.int .i64 M.h)).setCell ⟨rb, 2, none⟩ (.slice M.pa M.pn M.pc)) = w9 at HR3 HB3 ⊢
 obtain ⟨t0, t1, t2⟩ := load3 HR3.out
 clear HR2 HB2 HR3 r0 r1 r2 g0 g1 g2
 refine bodyPost_ret (v := .tuple #[.agg #[.string M.id, .int .i64 M.h, .slice M.pa M.pn M.pc], .bool true]) (by simp [results, Tryz.results25, go_sem, t0, t1, t2]) rfl ⟨rfl, ?_⟩
 rw [HRB.out]; exact HB3.out
end Go.Proofs.YtmpjdoiogbbcoaaGreatDoor
/- Commits made one upon another: what each came from, how high each stands (plain). -/
namespace Go.Proofs.YtmpjdoiogbbcoaaGreatDoor
open Go.RowKit Book Pap Ojt Sn
set_option linter.unusedVariables false
set_option linter.unusedSimpArgs false

/-! heights -/
theorem foldl_max_ge : ∀ (l : List Int) (a : Int), a ≤ l.foldl max a ∧ ∀ z ∈ l, z ≤ l.foldl max a
 | [], a => ⟨Int.le_refl _, fun z h => by cases h⟩
 | x :: r, a => by
  obtain ⟨h1, h2⟩ := foldl_max_ge r (max a x)
  rw [List.foldl_cons]
  refine ⟨by omega, fun z hz => ?_⟩
  rcases List.mem_cons.1 hz with rfl | hz
  ·omega
  ·exact h2 z hz
theorem heightL_gt {zs : List Int} {z : Int} (h : z ∈ zs) : z < heightL zs := by
 cases zs with
 | nil => cases h
 | cons a l =>
  show z < l.foldl max a + 1
  obtain ⟨h1, h2⟩ := foldl_max_ge l a
  rcases List.mem_cons.1 h with rfl | h
  ·omega
  ·have := h2 z h; omega
theorem heightL_le {zs : List Int} {m : Int} (h : ∀ z ∈ zs, z < m) (hm : 0 ≤ m) : heightL zs ≤ m := by
 by_cases h0 : zs = []
 ·subst h0; exact hm
 ·rw [heightL_eq zs h0]
  have := h _ (maxOf_mem zs h0)
  omega
theorem heightL_ge0 {zs : List Int} (h : ∀ z ∈ zs, 0 ≤ z) : 0 ≤ heightL zs := by
 by_cases h0 : zs = []
 ·subst h0; exact Int.le_refl _
 ·rw [heightL_eq zs h0]
  have := h _ (maxOf_mem zs h0)
  omega
theorem heightL_set {a b : List Int} (h : ∀ z, z ∈ a ↔ z ∈ b) : heightL a = heightL b := by
 by_cases h0 : a = []
 ·have hb : b = [] := List.eq_nil_iff_forall_not_mem.2 (fun z hz => by have := (h z).2 hz; rw [h0] at this; cases this)
  rw [h0, hb]
 ·have h1 : b ≠ [] := fun e => h0 (List.eq_nil_iff_forall_not_mem.2 (fun z hz => by have := (h z).1 hz; rw [e] at this; cases this))
  have ha := heightL_gt ((h _).1 (maxOf_mem a h0))
  have hb := heightL_gt ((h _).2 (maxOf_mem b h1))
  have ea := heightL_eq a h0
  have eb := heightL_eq b h1
  omega
/-! what a commit came from -/
theorem rch_same {G H : Sw.Src} {id : ByteArray} (h : ∀ q, Rch G id q → obF H q = obF G q) (q : ByteArray) : Rch H id q ↔ Rch G id q := by
 constructor
 ·intro hq
  induction hq with
  | root => exact .root
  | step _ hp ih => exact .step ih (by rw [← h _ ih]; exact hp)
 ·intro hq
  induction hq with
  | root => exact .root
  | step hs hp ih => exact .step ih (by rw [h _ hs]; exact hp)
theorem rch_up {G : Sw.Src} {id p q : ByteArray} (hp : p ∈ (obF G id).pars) (h : Rch G p q) : Rch G id q := by
 induction h with
 | root => exact .step .root hp
 | step _ hpq ih => exact .step ih hpq
theorem rch_down {G : Sw.Src} {id q : ByteArray} : Rch G id q ↔ q = id ∨ ∃ p ∈ (obF G id).pars, Rch G p q := by
 constructor
 ·intro h
  induction h with
  | root => exact .inl rfl
  | step _ hp ih =>
   rcases ih with rfl | ⟨p0, h1, h2⟩
   ·exact .inr ⟨_, hp, .root⟩
   ·exact .inr ⟨p0, h1, .step h2 hp⟩
 ·rintro (rfl | ⟨p, h1, h2⟩)
  ·exact .root
  ·exact rch_up h1 h2
/-- a row of commits, each upon those ahead of it, and what each came from -/
structure CHist (G : Sw.Src) (ids : List ByteArray) (D : List (List ByteArray)) : Prop where
 len : D.length = ids.length
 at_ : ∀ j, (h : j < ids.length) → ∃ x, lookK G ids[j] 3 21 = (x, 0) ∧ (∀ p ∈ x.pars, ∃ k, ∃ hk : k < ids.length, k < j ∧ p = ids[k]) ∧ x.height = heightL (x.pars.map (hG G)) ∧ 0 ≤ x.height ∧ x.height ≤ j
 log : ∀ j, (h : j < ids.length) → (hd : j < D.length) → Rising D[j] ∧ ∀ q, q ∈ D[j] ↔ Rch G ids[j] q
theorem CHist.nil (G : Sw.Src) : CHist G [] [] := ⟨rfl, fun j h => (by cases h), fun j h => (by cases h)⟩
theorem CHist.in_ids {G : Sw.Src} {ids : List ByteArray} {D : List (List ByteArray)} (h : CHist G ids D) {j : Nat} (hj : j < ids.length) {q : ByteArray} (hq : Rch G ids[j] q) : ∃ k, ∃ hk : k < ids.length, k ≤ j ∧ q = ids[k] := by
 induction hq with
 | root => exact ⟨j, hj, Nat.le_refl _, rfl⟩
 | step _ hp ih =>
  obtain ⟨k, hk, hkj, rfl⟩ := ih
  obtain ⟨x, h1, h2, -⟩ := h.at_ k hk
  have e : obF G ids[k] = x := by unfold obF; rw [h1]
  rw [e] at hp
  obtain ⟨m, hm, hmk, rfl⟩ := h2 _ hp
  exact ⟨m, hm, by omega, rfl⟩
theorem CHist.ob {G : Sw.Src} {ids : List ByteArray} {D : List (List ByteArray)} (h : CHist G ids D) {j : Nat} (hj : j < ids.length) : errF G ids[j] = 0 ∧ RightF G ids[j] ∧ 0 ≤ hG G ids[j] ∧ hG G ids[j] ≤ j ∧ G ids[j] ≠ none ∧ ∀ p ∈ (obF G ids[j]).pars, hG G p < hG G ids[j] := by
 obtain ⟨x, h1, h2, h3, h4, h5⟩ := h.at_ j hj
 have e : obF G ids[j] = x := by unfold obF; rw [h1]
 have e2 : hG G ids[j] = x.height := by unfold hG; rw [e]
 refine ⟨by unfold errF; rw [h1], ?_, by rw [e2]; exact h4, by rw [e2]; exact h5, found_of h1, fun p hp => ?_⟩
 ·unfold RightF rightB
  rw [e2, e, h3]; simp
 ·rw [e2, h3]
  rw [e] at hp
  exact heightL_gt (List.mem_map.2 ⟨p, hp, rfl⟩)
theorem CHist.fine {G : Sw.Src} {ids : List ByteArray} {D : List (List ByteArray)} (h : CHist G ids D) {j : Nat} (hj : j < ids.length) {q : ByteArray} (hq : Rch G ids[j] q) : errF G q = 0 ∧ RightF G q ∧ (q = ids[j] ∨ hG G q < hG G ids[j]) := by
 obtain ⟨k, hk, -, e⟩ := h.in_ids hj hq
 have h1 := h.ob hk
 rw [← e] at h1
 refine ⟨h1.1, h1.2.1, ?_⟩
 clear e h1 hk k
 induction hq with
 | root => exact .inl rfl
 | step hs hp ih =>
  rename_i q' p
  obtain ⟨k, hk, -, e⟩ := h.in_ids hj hs
  have h2 := (h.ob hk).2.2.2.2.2
  rw [← e] at h2
  have h3 := h2 _ hp
  rcases ih with rfl | ih
  ·exact .inr h3
  ·exact .inr (by omega)
theorem CHist.later {G H : Sw.Src} {ids : List ByteArray} {D : List (List ByteArray)} (h : CHist G ids D) (he : ∀ j, (hj : j < ids.length) → lookK H ids[j] 3 21 = lookK G ids[j] 3 21) : CHist H ids D ∧ (∀ j, (hj : j < ids.length) → hG H ids[j] = hG G ids[j]) ∧ ∀ j, (hj : j < ids.length) → ∀ q, Rch H ids[j] q ↔ Rch G ids[j] q := by
 have ho : ∀ j, (hj : j < ids.length) → obF H ids[j] = obF G ids[j] := fun j hj => by unfold obF; rw [he j hj]
 have hh : ∀ j, (hj : j < ids.length) → hG H ids[j] = hG G ids[j] := fun j hj => by unfold hG; rw [ho j hj]
 have hr : ∀ j, (hj : j < ids.length) → ∀ q, Rch H ids[j] q ↔ Rch G ids[j] q := fun j hj q => rch_same (fun q hq => by
  obtain ⟨k, hk, -, rfl⟩ := h.in_ids hj hq
  exact ho k hk) q
 refine ⟨⟨h.len, fun j hj => ?_, fun j hj hd => ⟨(h.log j hj hd).1, fun q => ((h.log j hj hd).2 q).trans (hr j hj q).symm⟩⟩, hh, hr⟩
 obtain ⟨x, h1, h2, h3, h4, h5⟩ := h.at_ j hj
 refine ⟨x, (he j hj).trans h1, h2, ?_, h4, h5⟩
 rw [h3]
 congr 1
 refine List.map_congr_left (fun p hp => ?_)
 obtain ⟨k, hk, -, rfl⟩ := h2 p hp
 exact (hh k hk).symm
theorem CHist.more {G : Sw.Src} {ids : List ByteArray} {D : List (List ByteArray)} (h : CHist G ids D) {id : ByteArray} {x : Ob} {want : List ByteArray} (hx : lookK G id 3 21 = (x, 0)) (hp : ∀ p ∈ x.pars, p ∈ ids) (hh : x.height = heightL (x.pars.map (hG G))) (hw : Rising want) (hm : ∀ q, q ∈ want ↔ q = id ∨ ∃ p ∈ x.pars, Rch G p q) :
  CHist G (ids ++ [id]) (D ++ [want]) := by
 have ho : obF G id = x := by unfold obF; rw [hx]
 have hz : ∀ z ∈ x.pars.map (hG G), 0 ≤ z ∧ z < (ids.length : Int) := fun z hz => by
  obtain ⟨p, hp', rfl⟩ := List.mem_map.1 hz
  obtain ⟨k, hk, rfl⟩ := List.getElem_of_mem (hp p hp')
  have := (h.ob hk).2.2
  omega
 refine ⟨by rw [List.length_append, List.length_append, h.len]; rfl, fun j hj => ?_, fun j hj hd => ?_⟩
 ·rw [List.length_append, List.length_singleton] at hj
  by_cases hlt : j < ids.length
  ·obtain ⟨y, h1, h2, h3⟩ := h.at_ j hlt
   rw [List.getElem_append_left hlt]
   refine ⟨y, h1, fun p hp' => ?_, h3⟩
   obtain ⟨k, hk, hkj, e⟩ := h2 p hp'
   exact ⟨k, by rw [List.length_append]; omega, hkj, by rw [List.getElem_append_left hk]; exact e⟩
  ·obtain rfl : j = ids.length := by omega
   rw [List.getElem_concat_length rfl]
   refine ⟨x, hx, fun p hp' => ?_, hh, ?_, ?_⟩
   ·obtain ⟨k, hk, e⟩ := List.getElem_of_mem (hp p hp')
    exact ⟨k, by rw [List.length_append]; omega, hk, by rw [List.getElem_append_left hk]; exact e.symm⟩
   ·rw [hh]; exact heightL_ge0 (fun z h => (hz z h).1)
   ·rw [hh]; exact heightL_le (fun z h => (hz z h).2) (by omega)
 ·rw [List.length_append, List.length_singleton] at hj
  by_cases hlt : j < ids.length
  ·rw [List.getElem_append_left hlt, List.getElem_append_left (by rw [h.len]; exact hlt)]
   exact h.log j hlt _
  ·obtain rfl : j = ids.length := by omega
   rw [List.getElem_concat_length rfl]
   have e : (D ++ [want])[ids.length] = want := by
    rw [List.getElem_append_right (by rw [h.len]; exact Nat.le_refl _)]
    simp [h.len]
   rw [e]
   exact ⟨hw, fun q => by rw [hm q, rch_down, ho]⟩
/-! a log and facts of such a commit -/
theorem log_head {G : Sw.Src} {id : ByteArray} {S : List ByteArray} (hp : S.Pairwise (fun p q => upQ (hG G) p q = true)) (hm : ∀ q, q ∈ S ↔ Rch G id q) (ht : ∀ q, Rch G id q → q = id ∨ hG G q < hG G id) : ∃ r, S = id :: r := by
 cases S with
 | nil => have := (hm id).2 .root; cases this
 | cons a r =>
  refine ⟨r, ?_⟩
  rcases ht a ((hm a).1 (List.mem_cons_self ..)) with rfl | hlt
  ·rfl
  ·rcases List.mem_cons.1 ((hm id).2 .root) with rfl | hr
   ·rfl
   ·have h1 := (List.pairwise_cons.1 hp).1 id hr
    exfalso
    unfold upQ upK at h1
    simp only [Bool.or_eq_true, Bool.and_eq_true, decide_eq_true_eq] at h1
    omega
theorem upq_nodup {hk : ByteArray → Int} {S : List ByteArray} (hp : S.Pairwise (fun p q => upQ hk p q = true)) : S.Nodup := hp.imp (fun {p q} h e => by subst e; have : upQ hk p p = false := upK_irr _ _; rw [this] at h; cases h)
theorem same_len {l m : List ByteArray} (hl : l.Nodup) (hm : m.Nodup) (h : ∀ q, q ∈ l ↔ q ∈ m) : l.length = m.length := Nat.le_antisymm (nodup_le hl (fun q hq => (h q).1 hq)) (nodup_le hm (fun q hq => (h q).2 hq))
theorem cmpZ_gt {f g : Fc} (h : g.h < f.h) : cmpZ f g = 1 ∧ cmpZ g f = -1 := by
 unfold cmpZ orZ Lib.compareInt
 constructor
 ·have h1 : ¬ f.h < g.h := by omega
  simp [h1, h]
 ·simp [h]
theorem best_is {G : Sw.Src} {id : ByteArray} {l : List ByteArray} {w : World} {fs : List Fc} (hf : FaAt w fs (l.map (faOf G))) (hn : l.Nodup) (hm : ∀ q, q ∈ l ↔ Rch G id q) (ht : ∀ q, Rch G id q → q = id ∨ hG G q < hG G id) : (maxAt fs l.length).id = id := by
 obtain ⟨j, hj, e⟩ := List.getElem_of_mem ((hm id).2 .root)
 have hlen : fs.length = l.length := by have := hf.1; rw [List.length_map] at this; exact this
 have key : ∀ k, (hk : k < l.length) → (fs.getD k noFc).id = l[k] ∧ (fs.getD k noFc).h = hG G l[k] := fun k hk => by
  obtain ⟨g1, g2, -⟩ := hf.2 k (by omega)
  have e3 : (l.map (faOf G)).getD k noFa = faOf G l[k] := by rw [List.getD_eq_getElem?_getD, List.getElem?_map, List.getElem?_eq_getElem hk]; rfl
  rw [e3] at g1 g2
  exact ⟨g1, g2⟩
 rw [maxAt_top fs j l.length hj (fun k hk hkj => ?_)]
 ·rw [(key j hj).1, e]
 ·have hne : l[k] ≠ id := fun h => by
   rw [← e] at h
   exact hkj ((List.getElem_inj hn).1 h)
  have hlt : (fs.getD k noFc).h < (fs.getD j noFc).h := by
   rw [(key k hk).2, (key j hj).2, e]
   exact (ht _ ((hm _).1 (List.getElem_mem hk))).resolve_left hne
  obtain ⟨c1, c2⟩ := cmpZ_gt hlt
  rw [c1, c2]; omega
end Go.Proofs.YtmpjdoiogbbcoaaGreatDoor
/- Admit: its plain steps; a source that is asked for short ids alone. -/
namespace Go.Proofs.YtmpjdoiogbbcoaaGreatDoor
open Go.RowKit Book Pap Ojt Sn
set_option linter.unusedVariables false
set_option linter.unusedSimpArgs false

theorem getI_took {came : List Sw.It} {t : ByteArray} (h : Sw.getI came (Sw.idOf t) = none) : Sw.getI (Sw.took came t) = fun q => if q = Sw.idOf t then some t else Sw.getI came q := by
 funext q
 unfold Sw.took
 rw [h, if_pos none_none, Sw.getI_snoc]
 by_cases e : q = Sw.idOf t
 ·rw [if_pos e, e, h]; simp
 ·rw [if_neg e]
  cases Sw.getI came q with
  | none => simp [Ne.symm e]
  | some u => rfl
theorem took_old {came : List Sw.It} {t u : ByteArray} (h : Sw.getI came (Sw.idOf t) = some u) : Sw.took came t = came := by
 unfold Sw.took
 rw [h, if_neg (by simp)]
theorem brought_new {G : Sw.Src} {came out : List Sw.It} {t : ByteArray} (h : (Sw.over came G (Sw.idOf t)).isSome = false) : Sw.brought G came out t = out ++ [⟨Sw.idOf t, t⟩] := by
 unfold Sw.brought
 rw [if_pos (by cases hh : Sw.over came G (Sw.idOf t); rfl; rw [hh] at h; cases h)]
theorem brought_old {G : Sw.Src} {came out : List Sw.It} {t : ByteArray} (h : (Sw.over came G (Sw.idOf t)).isSome = true) : Sw.brought G came out t = out := by
 unfold Sw.brought
 rw [if_neg (by cases hh : Sw.over came G (Sw.idOf t); rw [hh] at h; cases h; simp)]
theorem admitF_bad {G : Sw.Src} {t : ByteArray} {r : List ByteArray} {came out : List Sw.It} {er : Int} (h : Sw.errAt G came t = er) (he : er ≠ 0) : Sw.admitF G (t :: r) came out = ([], er) := by
 show (if Sw.errAt G came t ≠ 0 then ([], Sw.errAt G came t) else _) = _
 rw [h, if_pos he]
theorem admitF_ok {G : Sw.Src} {t : ByteArray} {r : List ByteArray} {came out : List Sw.It} (h : Sw.errAt G came t = 0) : Sw.admitF G (t :: r) came out = Sw.admitF G r (Sw.took came t) (Sw.brought G came out t) := by
 show (if Sw.errAt G came t ≠ 0 then ([], Sw.errAt G came t) else _) = _
 rw [h, if_neg (by simp)]
theorem errAt_long {G : Sw.Src} {came : List Sw.It} {t : ByteArray} (h : 131072 < t.size) : Sw.errAt G came t = 5 := by unfold Sw.errAt; rw [if_pos h]
theorem errAt_form {G : Sw.Src} {came : List Sw.It} {t : ByteArray} (h : ¬ 131072 < t.size) (hd : Sw.decO t = none) : Sw.errAt G came t = 4 := by unfold Sw.errAt; rw [if_neg h, hd]
theorem errAt_new {G : Sw.Src} {came : List Sw.It} {t : ByteArray} {x : Ob} (h : ¬ 131072 < t.size) (hd : Sw.decO t = some x) (hn : (Sw.over came G (Sw.idOf t)).isSome = false) : Sw.errAt G came t = Sw.fits (Sw.over came G) x := by
 unfold Sw.errAt; rw [if_neg h, hd]
 simp only
 rw [if_pos (by cases hh : Sw.over came G (Sw.idOf t); rfl; rw [hh] at hn; cases hn)]
theorem errAt_old {G : Sw.Src} {came : List Sw.It} {t : ByteArray} {x : Ob} (h : ¬ 131072 < t.size) (hd : Sw.decO t = some x) (hn : (Sw.over came G (Sw.idOf t)).isSome = true) : Sw.errAt G came t = 0 := by
 unfold Sw.errAt; rw [if_neg h, hd]
 simp only
 rw [if_neg (by cases hh : Sw.over came G (Sw.idOf t); rw [hh] at hn; cases hn; simp)]
theorem fitsK_err {G : Sw.Src} {k : Lnk} {r : List Lnk} {hs : List Int} {x : Ob} {er : Int} (h : Sw.look G k.id = (er, x)) (he : er ≠ 0) : Sw.fitsK G (k :: r) hs = (er, hs) := by
 unfold Sw.fitsK; rw [h, if_pos he]
theorem fitsK_kind {G : Sw.Src} {k : Lnk} {r : List Lnk} {hs : List Int} {x : Ob} (h : Sw.look G k.id = (0, x)) (hk : x.kind ≠ k.kind) : Sw.fitsK G (k :: r) hs = (22, hs) := by
 unfold Sw.fitsK; rw [h, if_neg (by simp), if_pos hk]
theorem fitsK_com {G : Sw.Src} {k : Lnk} {r : List Lnk} {hs : List Int} {x : Ob} (h : Sw.look G k.id = (0, x)) (hk : x.kind = k.kind) (h3 : k.kind = 3) : Sw.fitsK G (k :: r) hs = Sw.fitsK G r (hs ++ [x.height]) := by
 conv => lhs; unfold Sw.fitsK
 rw [h, if_neg (by simp), if_neg (by simp [hk]), if_pos h3]
theorem fitsK_one {G : Sw.Src} {k : Lnk} {r : List Lnk} {hs : List Int} {x : Ob} (h : Sw.look G k.id = (0, x)) (hk : x.kind = k.kind) (h3 : k.kind ≠ 3) : Sw.fitsK G (k :: r) hs = Sw.fitsK G r hs := by
 conv => lhs; unfold Sw.fitsK
 rw [h, if_neg (by simp), if_neg (by simp [hk]), if_neg h3]
theorem swlook_good {G : Sw.Src} {id : ByteArray} {x : Ob} (h : Sw.look G id = (0, x)) : good x = true := by
 unfold Sw.look at h
 split at h
 ·injection h with h _; cases h
 ·split at h
  ·injection h with h _; cases h
  ·rename_i y hd
   injection h with _ h
   rw [← h]; exact dec_good hd
/-- an interface value is a source for ids that are not long -/
def SrcIn (w : World) (t : TypeId) (rv : Value) (G : Sw.Src) : Prop :=
 ∃ f r, (∀ W, (method 449 t rv "Get").run Tryz.prog W = .ok (f, r) W) ∧ (∀ args W, (callFunc f args).run Tryz.prog W = .ok (.enter f args) W) ∧ ∀ id W, id.size ≤ 1000000 → Below w.heap.size w W → Calls Tryz.prog f #[r, .string id] W (GetOut G id W)
theorem SrcIn.later {w w' : World} {t : TypeId} {rv : Value} {G : Sw.Src} (h : SrcIn w t rv G) (hb : Below w.heap.size w w') : SrcIn w' t rv G := by
 obtain ⟨f, r, h1, h2, h3⟩ := h
 exact ⟨f, r, h1, h2, fun id W hi hW => h3 id W hi (below_then hb hW)⟩
theorem SrcAt.srcIn {w : World} {t : TypeId} {rv : Value} {G : Sw.Src} (h : SrcAt w t rv G) : SrcIn w t rv G := by
 obtain ⟨f, r, h1, h2, h3⟩ := h
 exact ⟨f, r, h1, h2, fun id W _ hW => h3 id W hW⟩
theorem over_sz {came : List Sw.It} {G : Sw.Src} (hc : ∀ x ∈ came, x.data.size ≤ 1000000000) (hz : SrcSz G) : SrcSz (Sw.over came G) := fun id t h => by
 unfold Sw.over at h
 cases hg : Sw.getI came id with
 | some u =>
  rw [hg] at h
  cases h
  exact hc _ (Sw.getI_some hg)
 | none =>
  rw [hg] at h
  exact hz id t h
theorem took_mem {came : List Sw.It} {t : ByteArray} {x : Sw.It} (h : x ∈ Sw.took came t) : x ∈ came ∨ x = ⟨Sw.idOf t, t⟩ := by
 unfold Sw.took at h
 split at h
 ·rcases List.mem_append.1 h with h | h
  ·exact .inl h
  ·exact .inr (List.mem_singleton.1 h)
 ·exact .inl h
end Go.Proofs.YtmpjdoiogbbcoaaGreatDoor
