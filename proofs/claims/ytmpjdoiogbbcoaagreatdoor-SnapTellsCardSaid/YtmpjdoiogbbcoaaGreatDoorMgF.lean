/- Texts in a row: PathWalkD, SnC, SnD, SeqV, SnK, MkA, MkB, MkC, SwQ, MkD, MkE, LwA, LwB, MkF, MkG, AwP, LwC, LwD, InsF, FactM, InsStr, DelStr, Round, AllF, SnW, FactR. -/
import Derived.Test.YtmpjdoiogbbcoaaGreatDoorMgE
import Derived.RangeFuncBox
import Derived.RangeFuncLeaves
import Derived.Shelf.Abstract
import Derived.WalkKit
import Derived.OwnWalkIn
import Derived.TacticsInMore
import Derived.LoopNIn
import Derived.LoopIn
import Derived.Maps.AppendAt
import Derived.BigQuiet
import Derived.Lib.Strings
import Derived.Deep.AppendLies
import Derived.Deep.DeepFit
import Derived.Test.YtmpjdoiogbbcoaaGreatDoorChecked
import Derived.RegionTactic
import Derived.Shelf.RegionOpenPlain
import Derived.Lib.Walk
import Derived.Lib.SliceRun
import Derived.Lib.JoinLaws
import Derived.Lib.AppendZeros
import Derived.Lib.AppendZerosOnto
import Derived.Lib.Overlaps
import Derived.Laws.Externs
import Derived.Laws.IdiomCopy
import Derived.Laws.NewBlocks
import Derived.Deep.RegionLaw
import Derived.Lib.LazyBuf
import Derived.Deep.Quiet
import Derived.StillTail
import Derived.OrdersIn
import Derived.RangeFuncCalls
import Derived.ControlIn
import Derived.RangeFuncNested
import Derived.RangeFuncBound
import Derived.Shelf.RegionOpen
import Derived.Deep.Upon
/- Check of the program. -/
namespace Go.Proofs.YtmpjdoiogbbcoaaGreatDoor
open Go.RowKit Pap
set_option linter.unusedVariables false

set_option maxHeartbeats 1000000 in
theorem meets_any (b : Nat) (p q : ByteArray) (w : World) (hp : p.size < 4294967281) (hq : q.size < 4294967281) (hm : MaxAt w) (hb : w.cell? ⟨b, 0, none⟩ = some (.string p)) :
  Calls Tryz.prog 206 (#[.string q] ++ #[.pointer (some ⟨b, 0, none⟩)]) w fun e w' => e = .returned (.bool (meets p.data.toList q.data.toList)) ∧ Below w.heap.size w w' := by
 have HM := hid hm
 have HB := Below.refl w.heap.size w
 have hlt := World.block_lt_of_cell? w _ hb
 have HC := hid (fun W (h : Below w.heap.size w W) => (h.cell (p := ⟨b, 0, none⟩) hlt).trans hb)
 have m0 : meets p.data.toList q.data.toList = (withinR p.data.toList q.data.toList || withinR q.data.toList p.data.toList) := rfl
 clear hm
 cases h1 : withinR p.data.toList q.data.toList
 ·have HR : Hid (meets p.data.toList q.data.toList = withinR q.data.toList p.data.toList) := by unfold Hid; rw [m0, h1]; rfl
  clear m0
  go_enter Tryz.func206, Tryz.ntmps206
  go_wp2_with (go_at_call 207; refine (within_any _ _ _ (by assumption) (by assumption) (HM.out.later HB)).mono ?_; rintro e w1 ⟨rfl, hb1⟩; replace HB := below_then HB hb1; have c1 := HC.out _ HB; clear hb1)
  go_ret
  exact ⟨ret_bool (by rw [HR.out]), HB⟩
 ·have HR : Hid (meets p.data.toList q.data.toList = true) := by unfold Hid; rw [m0, h1]; rfl
  clear m0
  go_enter Tryz.func206, Tryz.ntmps206
  go_wp2_with (go_at_call 207; refine (within_any _ _ _ (by assumption) (by assumption) (HM.out.later HB)).mono ?_; rintro e w1 ⟨rfl, hb1⟩; replace HB := below_then HB hb1; have c1 := HC.out _ HB; clear hb1)
  go_ret
  exact ⟨ret_bool (by rw [HR.out]), HB⟩

theorem strsAt_take {w : World} {a : Option Addr} {n k : Nat} {l : List ByteArray} (h : StrsAt w a n l) (hk : k ≤ n) : StrsAt w a k (l.take k) := by
 obtain ⟨h1, h2, h3⟩ := h
 refine ⟨by rw [List.length_take]; omega, by omega, ?_⟩
 by_cases h0 : k = 0
 ·exact .inl h0
 ·obtain ⟨b, off, ha, hc⟩ := h3.resolve_left (by omega)
  refine .inr ⟨b, off, ha, fun j hj => ?_⟩
  rw [hc j (by omega)]
  simp [List.getD_eq_getElem?_getD, hj]
theorem any_ls (l : List ByteArray) (k : Nat) (f : List UInt8 → Bool) : (l.take k).any (fun x => f x.data.toList) = ((ls l).take k).any f := by
 unfold ls; rw [← List.map_take, List.any_map]; rfl
theorem mem_ls (l : List ByteArray) (k : Nat) (p : ByteArray) : (∃ o ∈ l.take k, o = p) ↔ p.data.toList ∈ (ls l).take k := by
 unfold ls; rw [← List.map_take, List.mem_map]
 constructor
 ·rintro ⟨o, ho, rfl⟩; exact ⟨o, ho, rfl⟩
 ·rintro ⟨o, ho, e⟩; exact ⟨o, ho, ba_ext e⟩
set_option maxRecDepth 100000 in
set_option maxHeartbeats 4000000 in
theorem pcheck_any (a : Option Addr) (n c : Nat) (l : List ByteArray) (w : World) (hS : StrsAt w a n l) (hc : n ≤ c) (hcm : c ≤ maxLen) (hz : ∀ x ∈ l, x.size < 4294967281) (hm : MaxAt w) :
  Calls Tryz.prog 162 #[.slice a n c] w fun e w' => e = .returned (.tuple #[.int .i64 (checkR (ls l)).1, .int .i64 (checkR (ls l)).2]) ∧ Below w.heap.size w w' := by
 have hnl := hS.1
 have hn := hS.2.1
 have xl := ls_length l
 have HM := hid hm; clear hm
 have HZ := hid hz; clear hz
 unfold maxLen at hcm
 have hmem : ∀ k, k < n → l.getD k ByteArray.empty ∈ l := fun k hk => by rw [List.getD_eq_getElem?_getD, List.getElem?_eq_getElem (by omega)]; exact List.getElem_mem _
 have HE := hid hmem; clear hmem
 go_enter Tryz.func162, Tryz.ntmps162
 go_wp2
 go_loopw [14] (fun i wr => ∃ k : Nat, k ≤ n ∧ i = .int .i64 k ∧ Below w.heap.size w wr ∧ Hid (bad1 0 (ls l) = bad1 k ((ls l).drop k))) (fun i _ => n - (intOf i).toNat)
 case atStart => exact ⟨0, by omega, rfl, Below.refl _ _, rfl⟩
 case round =>
  obtain ⟨k, hk, rfl, hbel, HK⟩ := hrel
  by_cases hlt : k < n
  ·have hSr := hS.later hbel
   obtain ⟨b, off, rfl, hcc⟩ := hSr.2.2.resolve_left (by omega)
   have hck := hcc k hlt
   have st := bad1_step (ls l) k (by omega)
   rw [ls_get] at st
   have hzk := HZ.out _ (HE.out k hlt)
   obtain ⟨p, hp⟩ : ∃ p, l.getD k ByteArray.empty = p := ⟨_, rfl⟩
   rw [hp] at hck st hzk
   clear hp hcc
   by_cases h0 : splitE p.data.toList = 0
   ·have HS : Hid (bad1 0 (ls l) = bad1 ((k + 1 : Nat) : Int) ((ls l).drop (k + 1))) := by rw [if_pos h0] at st; exact HK.out.trans st
    have f1 : (splitE p.data.toList != 0) = false := by simp [h0]
    clear st h0
    go_wp2_with (go_at_call 70; refine (split_any _ _ hzk (HM.out.later hbel)).mono ?_; rintro e w1 ⟨v, rfl, hv, hb1⟩; clear hv)
    go_roundw
    case rel => exact ⟨k + 1, by omega, by go_num, below_then hbel hb1, HS⟩
    case measure => simp [intOf]; omega
   ·have HS : Hid (bad1 0 (ls l) = some ((k : Int), splitE p.data.toList)) := by rw [if_neg h0] at st; exact HK.out.trans st
    have f1 : (splitE p.data.toList != 0) = true := by simp [h0]
    clear st h0
    go_wp2_with (go_at_call 70; refine (split_any _ _ hzk (HM.out.later hbel)).mono ?_; rintro e w1 ⟨v, rfl, hv, hb1⟩; clear hv)
    go_ret2
    exact ⟨by unfold checkR; rw [HS.out]; rfl, below_then hbel hb1⟩
  ·have HN : Hid (checkR (ls l) = pass2 [] 0 (ls l)) := by
    have : bad1 0 (ls l) = none := by rw [HK.out, List.drop_eq_nil_of_le (by omega)]; rfl
    unfold Hid checkR; rw [this]
   clear HK
   go_wp2
   go_loopw [31] (fun i wr => ∃ k : Nat, k ≤ n ∧ i = .int .i64 k ∧ Below w.heap.size w wr ∧ Hid (checkR (ls l) = pass2 ((ls l).take k) k ((ls l).drop k))) (fun i _ => n - (intOf i).toNat)
   case atStart => exact ⟨0, by omega, rfl, hbel, HN.out⟩
   case round =>
    clear hlt hk hbel HN
    obtain ⟨k, hk, rfl, hbel, HK⟩ := hrel
    by_cases hlt : k < n
    ·have hSr := hS.later hbel
     obtain ⟨b, off, rfl, hcc⟩ := hSr.2.2.resolve_left (by omega)
     have hck := hcc k hlt
     have st := pass2_step (ls l) k (by omega)
     rw [ls_get] at st
     have hzk := HZ.out _ (HE.out k hlt)
     obtain ⟨p, hp⟩ : ∃ p, l.getD k ByteArray.empty = p := ⟨_, rfl⟩
     rw [hp] at hck st hzk
     clear hp hcc
     have hbA : Below wr.heap.size wr (wr.alloc (.cells #[.string p] 9)) := (Below.refl _ _).alloc (Nat.le_refl _) _
     obtain ⟨B, hB⟩ : ∃ B, wr.heap.size = B := ⟨_, rfl⟩
     have hcB : (wr.alloc (.cells #[.string p] 9)).cell? ⟨B, 0, none⟩ = some (.string p) := by
      subst hB; rw [World.cell?_alloc_mark]; rfl
     have hSA := strsAt_take (hSr.later hbA) hk
     have hMA := HM.out.later (below_then hbel hbA)
     have cN := contains_any (some ⟨b, off, none⟩) k c (l.take k) p _ hSA
     have cF := containsFunc_grows 206 #[.pointer (some ⟨B, 0, none⟩)] (fun args w => rfl) (fun x => meets p.data.toList x.data.toList) (some ⟨b, off, none⟩) k c (l.take k) _ hSA
      (fun W hW x hx => meets_any B p x W hzk (HZ.out x (List.mem_of_mem_take hx)) (hMA.later hW) ((hW.cell (p := ⟨B, 0, none⟩) (World.block_lt_of_cell? _ _ hcB)).trans hcB))
     rw [any_ls] at cF
     have hbB := below_then hbel hbA
     clear hSr hSA hMA hcB hbA
     by_cases d1 : p.data.toList ∈ (ls l).take k
     ·have HS : Hid (checkR (ls l) = ((k : Int), 31)) := by rw [if_pos d1] at st; exact HK.out.trans st
      rw [decide_eq_true ((mem_ls l k p).2 d1)] at cN
      have CN := hid cN; have HBB := hid hbB; clear cN cF st d1 hbB
      subst hB
      go_wp2_with (go_at_call 208; refine CN.out.mono ?_; rintro e w1 ⟨rfl, rfl⟩)
      go_ret2
      exact ⟨by rw [HS.out]; rfl, HBB.out⟩
     ·rw [if_neg d1] at st
      rw [decide_eq_false (fun e => d1 ((mem_ls l k p).1 e))] at cN
      by_cases d2 : ((ls l).take k).any (meets p.data.toList) = true
      ·have HS : Hid (checkR (ls l) = ((k : Int), 32)) := by rw [if_pos d2] at st; exact HK.out.trans st
       rw [d2] at cF
       have CN := hid cN; have CF := hid cF; have HBB := hid hbB; clear cN cF st d1 d2 hbB
       subst hB
       go_wp2_with (first
        | (go_at_call 208; refine CN.out.mono ?_; rintro e w1 ⟨rfl, rfl⟩)
        | (go_at_call 187; refine CF.out.mono ?_; rintro e w1 ⟨rfl, hb1⟩))
       go_ret2
       exact ⟨by rw [HS.out]; rfl, below_then HBB.out hb1⟩
      ·have HS : Hid (checkR (ls l) = pass2 ((ls l).take (k + 1)) ((k + 1 : Nat) : Int) ((ls l).drop (k + 1))) := by rw [if_neg d2] at st; exact HK.out.trans st
       have d3 : ((ls l).take k).any (meets p.data.toList) = false := by simpa using d2
       rw [d3] at cF
       have CN := hid cN; have CF := hid cF; have HBB := hid hbB; clear cN cF st d1 d2 d3 hbB
       subst hB
       go_wp2_with (first
        | (go_at_call 208; refine CN.out.mono ?_; rintro e w1 ⟨rfl, rfl⟩)
        | (go_at_call 187; refine CF.out.mono ?_; rintro e w1 ⟨rfl, hb1⟩))
       go_roundw
       case rel => exact ⟨k + 1, by omega, by go_num, below_then HBB.out hb1, HS⟩
       case measure => simp [intOf]; omega
    ·have HR : Hid (checkR (ls l) = (0, 0)) := by rw [Hid, HK.out, List.drop_eq_nil_of_le (by omega)]; rfl
     go_wp2
     go_ret2
     exact ⟨by rw [HR.out]; rfl, hbel⟩
end Go.Proofs.YtmpjdoiogbbcoaaGreatDoor
/- Whether files can be a snapshot: check. -/
namespace Go.Proofs.YtmpjdoiogbbcoaaGreatDoor
open Go.RowKit Book Pap Ojt Sn
set_option linter.unusedVariables false
set_option linter.unusedSimpArgs false

def checkF (fs : List Fi) : Int := if 256 < fs.length then 6 else if (checkR (ls (fs.map (·.path)))).2 = 0 ∧ (fs.any fun f => decide (65536 < f.data.size)) = true then 5 else (checkR (ls (fs.map (·.path)))).2
theorem own_cap {w : World} {B e s n c : Nat} {a : Option Addr} {xs : List Value} (h : w.ownsRow B e s (.slice a n c) n xs) : c ≤ maxLen := by
 rcases h.2 with ⟨h1, h0⟩ | ⟨g, cap, cur, h1, hb, hg, hn, hc, r⟩
 ·cases h1; exact Nat.zero_le _
 ·cases h1; exact hc
set_option maxRecDepth 100000 in
set_option maxHeartbeats 8000000 in
theorem scheck_any (a : Option Addr) (n c : Nat) (fs : List Fi) (w : World) (h : FisAt w a n fs) (hz : ∀ f ∈ fs, f.path.size < 4294967281 ∧ f.data.size ≤ 9223372036854775807) (hm : MaxAt w) :
  Calls Tryz.prog 98 #[.slice a n c] w fun e w' => e = .returned (.int .i64 (checkF fs)) ∧ Below w.heap.size w w' := by
 obtain ⟨i0, hi0, hz0, hz1, hz2⟩ := info_parts Tryz.infoS
 obtain ⟨h1, h2, h3⟩ := h
 have HL := hid h1
 have HZ := hid hz
 have HM := hid hm
 clear hz hm
 by_cases hbig : 256 < n
 ·have HR : Hid (checkF fs = 6) := by
   show _ = _
   unfold checkF; rw [if_pos (by omega)]
  have ci : (256 : Int) < n := by omega
  rw [HR.out]
  go_enter Tryz.func98, Tryz.ntmps98
  go_wp2_with fail
  go_ret
  exact ⟨rfl, Below.refl _ _⟩
 have HR : Hid (checkF fs = if (checkR (ls (fs.map (·.path)))).2 = 0 ∧ (fs.any fun f => decide (65536 < f.data.size)) = true then 5 else (checkR (ls (fs.map (·.path)))).2) := by
  show _ = _
  unfold checkF; rw [if_neg (by omega)]
 obtain ⟨R, hR⟩ : ∃ R, checkF fs = R := ⟨_, rfl⟩
 rw [hR] at HR ⊢
 clear hR
 have ci : ¬ (256 : Int) < n := by omega
 go_enter Tryz.func98, Tryz.ntmps98
 go_wp2_with fail
 clear ci
 go_loopw [14, 3, 4] (fun iv v lv wr => ∃ (i : Nat) (lg : Bool), i ≤ n ∧ iv = .int .i64 i ∧ lv = .bool lg ∧ Hid (wr.ownsRow w.heap.size 9 1 v i (svals ((fs.take i).map (·.path)))) ∧ Hid (((fs.take i).any fun f => decide (65536 < f.data.size)) = lg) ∧ Hid (Below w.heap.size w wr)) (fun iv _ _ _ => n - (intOf iv).toNat)
 case atStart => exact ⟨0, false, Nat.zero_le _, rfl, rfl, World.ownsRow_nil _ _ _ _, rfl, Below.refl _ _⟩
 case round =>
  obtain ⟨i, lg, hi, rfl, rfl, HO, HG, HB⟩ := hrel
  obtain ⟨va, vc, rfl, hvc⟩ := own_slice' HO.out
  have hsz := HB.out.size
  by_cases hlt : i < n
  ·obtain ⟨b, off, rfl, hc⟩ := h3.resolve_left (by omega)
   have ci : (i : Int) < n := by omega
   have ci0 : (0 : Int) ≤ (i : Int) := by omega
   obtain ⟨k0, k1⟩ := hc i hlt
   have bl : b < w.heap.size := World.block_lt_of_cell? w _ k0
   have q0 := (HB.out.cell (p := ⟨b, off + i * 2, none⟩) bl).trans k0
   have q1 := (HB.out.cell (p := ⟨b, off + i * 2 + 1, none⟩) bl).trans k1
   have hl : i < fs.length := by rw [HL.out]; exact hlt
   have HT : Hid (fs.take (i + 1) = fs.take i ++ [fs.getD i noFi]) := by
    show _ = _
    rw [List.take_succ_eq_append_getElem hl, List.getD_eq_getElem?_getD, List.getElem?_eq_getElem hl]; rfl
   have HMM : fs.getD i noFi ∈ fs := by
    rw [List.getD_eq_getElem?_getD, List.getElem?_eq_getElem hl]; exact List.getElem_mem hl
   obtain ⟨x, hx⟩ : ∃ x, fs.getD i noFi = x := ⟨_, rfl⟩
   rw [hx] at q0 q1 HT HMM
   obtain ⟨p, dd⟩ := x
   have hds : dd.size ≤ 9223372036854775807 := (HZ.out _ HMM).2
   simp only at q0 q1
   clear hx k0 k1 hc hl HMM
   go_upto_region 8 with fail
   have HX1 : Hid (Blk (wr.alloc (.cells #[.string p, .string dd] 71)) wr.heap.size 71 #[.string p, .string dd]) := Blk.new wr _ _
   have HO1 : Hid ((wr.alloc (.cells #[.string p, .string dd] 71)).ownsRow w.heap.size 9 1 (.slice va i vc) i (svals ((fs.take i).map (·.path)))) := HO.out.alloc _
   have HB1 : Hid (Below w.heap.size w (wr.alloc (.cells #[.string p, .string dd] 71))) := HB.out.alloc hsz _
   have hsz1 : w.heap.size ≤ (wr.alloc (.cells #[.string p, .string dd] 71)).heap.size := by simp; omega
   clear q0 q1 HO HB
   generalize (wr.alloc (.cells #[.string p, .string dd] 71)) = w1 at HX1 HO1 HB1 hsz1 ⊢
   generalize wr.heap.size = g1 at HX1 ⊢
   have k0 : w1.cell? ⟨g1, 0, none⟩ = some (.string p) := Blk.cell HX1.out 0
   have him : i ≤ 256 := by omega
   go_upto_region 9 with (first
    | (at_builtin; refine wpList_append_own _ rfl (.tmp 18) (.tmp 21) 40 rfl w.heap.size 9 i0 (.string ⟨#[]⟩) 1 16 Tryz.underlying40 hi0 hz0 hz1 hz2 rfl (by decide) (.slice va i vc) _ _ rfl (HO1.out.alloc _) ⟨w1.heap.size, 0, none⟩ 1 1 [.string p] rfl rfl (cellNew1 _ _ _) (one_bytes rfl) (by unfold maxLen; omega) (by omega) (by rw [World.size_alloc]; omega) ?_; intro v' w5 hown' hg5 _; obtain ⟨va', vc', hvv', hvc'⟩ := own_slice' hown'; subst hvv'; have HOWN := hid hown'; have HG5 := hid hg5; clear hown' hg5))
   have HX5 : Hid (Blk w5 g1 71 #[.string p, .string dd]) := (HX1.out.alloc _).grown HG5.out (fun e => own_blk_ne HO1.out HX1.out (by decide) e.symm)
   have HB5 : Hid (Below w.heap.size w w5) := below_grown1 HB1.out HO1.out _ hsz1 HG5.out
   have HO5 : Hid (w5.ownsRow w.heap.size 9 1 (.slice va' (i + 1) vc') (i + 1) (svals ((fs.take (i + 1)).map (·.path)))) := by
    have h := HOWN.out
    rw [HT.out, List.map_append, svals_append]; exact h
   have HG2 : Hid (((fs.take (i + 1)).any fun f => decide (65536 < f.data.size)) = (lg || decide (65536 < dd.size))) := by
    show _ = _
    rw [HT.out, List.any_append, HG.out]; simp
   have q1 : w5.cell? ⟨g1, 1, none⟩ = some (.string dd) := Blk.cell HX5.out 1
   clear k0 HOWN HG5 HX1 HO1 HB1 HT
   have fin : ∀ r : Bool, (lg || decide (65536 < dd.size)) = r → Hid (((fs.take (i + 1)).any fun f => decide (65536 < f.data.size)) = r) := fun r hr => by rw [← hr]; exact HG2.out
   have meas : n - (intOf (.int .i64 (↑i + 1))).toNat < n - (intOf (.int .i64 ↑i)).toNat := by simp [intOf]; omega
   cases lg
   ·by_cases hd : 65536 < dd.size
    ·have hd1 : (65536 : Int) < (dd.size : Int) := by omega
     have HG3 := fin true (by simp [hd])
     clear fin HG2
     go_wp2_with fail
     exact ⟨⟨i + 1, _, by omega, by go_num, rfl, HO5, HG3, HB5⟩, meas⟩
    ·have hd1 : ¬ (65536 : Int) < (dd.size : Int) := by omega
     have HG3 := fin false (by simp [hd])
     clear fin HG2
     go_wp2_with fail
     exact ⟨⟨i + 1, _, by omega, by go_num, rfl, HO5, HG3, HB5⟩, meas⟩
   ·have HG3 := fin true rfl
    clear fin HG2
    go_wp2_with fail
    exact ⟨⟨i + 1, _, by omega, by go_num, rfl, HO5, HG3, HB5⟩, meas⟩
  ·obtain rfl : i = n := by omega
   have ci : ¬ (i : Int) < i := by omega
   have hall : fs.take i = fs := List.take_of_length_le (by rw [HL.out]; exact Nat.le_refl _)
   have hg := HG.out
   have hrow := HO.out
   rw [hall] at hg hrow
   have hmx := HM.out.later HB.out
   have hst : StrsAt wr va i (fs.map (·.path)) := by
    have hr : wr.ownsRow w.heap.size 9 1 (.slice va i vc) (fs.map (·.path)).length (svals (fs.map (·.path))) := by rw [List.length_map, HL.out]; exact hrow
    obtain ⟨a', c', e, h⟩ := own_strs hr (by rw [List.length_map, HL.out]; omega)
    rw [List.length_map, HL.out] at e h
    cases e; exact h
   have HPC := hid (pcheck_any va i vc (fs.map (·.path)) wr hst hvc (own_cap HO.out) (fun x hx => by
    obtain ⟨f, hf, rfl⟩ := List.mem_map.1 hx
    exact (HZ.out f hf).1) hmx)
   obtain ⟨⟨pk, pe⟩, hpc⟩ : ∃ r, checkR (ls (fs.map (·.path))) = r := ⟨_, rfl⟩
   rw [hpc] at HPC HR
   rw [hg] at HR
   have HR : Hid (R = if pe = 0 ∧ lg = true then 5 else pe) := HR.out
   clear hpc hst hmx hrow hg hall
   go_wp2_with fail
   refine HPC.out.mono ?_; rintro e w6 ⟨rfl, hb6⟩
   have HB6 : Hid (Below w.heap.size w w6) := HB.out.trans (hb6.mono hsz)
   clear hb6 HPC
   by_cases he : pe = 0
   ·subst he
    cases lg
    ·have hr : R = 0 := by rw [HR.out]; simp
     subst hr
     go_wp2_with fail
     go_ret
     exact ⟨rfl, HB6.out⟩
    ·have hr : R = 5 := by rw [HR.out]; simp
     subst hr
     go_wp2_with fail
     go_ret
     exact ⟨rfl, HB6.out⟩
   ·have hr : R = pe := by rw [HR.out]; simp [he]
    subst hr
    go_wp2_with fail
    go_ret
    exact ⟨rfl, HB6.out⟩
end Go.Proofs.YtmpjdoiogbbcoaaGreatDoor
/- Files built: build, Build. -/
namespace Go.Proofs.YtmpjdoiogbbcoaaGreatDoor
open Go.RowKit Book Pap Ojt Sn
set_option linter.unusedVariables false
set_option linter.unusedSimpArgs false

set_option maxRecDepth 100000 in
set_option maxHeartbeats 1000000 in
theorem splitF_any (s : ByteArray) (w : World) (hs : s.size < 4294967281) (hm : MaxAt w) :
  Calls Tryz.prog 70 #[.string s] w fun e w' => ∃ v, e = .returned (.tuple #[v, .int .i64 (splitE s.data.toList)]) ∧ SplitsC s v w' ∧ Below w.heap.size w w' ∧ ∀ k, v.ownBlock = some k → w.heap.size ≤ k := by
 obtain ⟨m, hm⟩ := hm
 have cS := Tryz.strings_Split s slash m w hs hm (by decide)
 have hlen : (Lib.splitB slash 0 (Lib.countB s slash) s).length = Lib.countB s slash + 1 := Lib.splitB_all slash (by decide) 0 _ s rfl
 have hls := splitB_pieces s
 have hcl := Lib.countB_le slash (by decide) s.size s (Nat.le_refl _)
 obtain ⟨l, hl⟩ : ∃ l, Lib.splitB slash 0 (Lib.countB s slash) s = l := ⟨_, rfl⟩
 rw [hl] at cS hlen hls
 obtain ⟨k, hk⟩ : ∃ k, Lib.countB s slash = k := ⟨_, rfl⟩
 rw [hk] at cS hlen hcl
 have hlm : l.length ≤ 9223372036854775807 := by omega
 have hS := strs_alloc w l 9 hlm
 have hbel : Below w.heap.size w (w.alloc (.cells (l.map Value.string).toArray 9)) := (Below.refl _ _).alloc (Nat.le_refl _) _
 rw [← hlen] at cS
 obtain ⟨w1, hw1⟩ : ∃ w1, w.alloc (.cells (l.map Value.string).toArray 9) = w1 := ⟨_, rfl⟩
 rw [hw1] at cS hS hbel
 obtain ⟨q, hq⟩ : ∃ q, w.heap.size = q := ⟨_, rfl⟩
 have hS' := hS
 rw [hq] at cS hS
 have cC := check_any (some ⟨q, 0, none⟩) l.length l.length l w1 hS
 have hE : checkE (ls l) = splitE s.data.toList := by unfold splitE ls; rw [hls]
 rw [hE] at cC
 have HL : Hid (ls l = pieces s.data.toList) := hls
 obtain ⟨E, hEE⟩ : ∃ E, splitE s.data.toList = E := ⟨_, rfl⟩
 rw [hEE] at cC
 have HEE := hid hEE
 have HQ : Hid (w.heap.size = q) := hq
 have CS := hid cS; have CC := hid cC
 clear cS cC hlen hls hl hk hcl hE hEE hw1 hm hS' hq
 by_cases h0 : E = 0
 ·subst h0
  go_enter Tryz.func70, Tryz.ntmps70
  go_wp2_with (first
   | (go_at_call 123; refine CS.out.mono ?_; rintro e w2 ⟨rfl, hw⟩; obtain rfl := hw.symm)
   | (go_at_call 124; refine CC.out.mono ?_; rintro e w2 ⟨rfl, hb2⟩))
  go_ret2
  exact ⟨_, by rw [HEE.out]; rfl, ⟨_, l, rfl, hS.later hb2, by unfold namesOf; rw [if_pos HEE.out]; exact HL.out, fun h => absurd HEE.out h⟩, below_then hbel hb2, fun k hk => by cases hk; exact Nat.le_of_eq HQ.out⟩
 ·have e1 : (E != 0) = true := by simpa using h0
  have e2 : (E == 0) = false := by simpa using h0
  have H0 := hid h0; clear h0
  go_enter Tryz.func70, Tryz.ntmps70
  go_wp2_with (first
   | (go_at_call 123; refine CS.out.mono ?_; rintro e w2 ⟨rfl, hw⟩; obtain rfl := hw.symm)
   | (go_at_call 124; refine CC.out.mono ?_; rintro e w2 ⟨rfl, hb2⟩))
  go_ret2
  exact ⟨_, by rw [HEE.out]; rfl, ⟨none, [], rfl, ⟨rfl, by simp, .inl rfl⟩, by unfold namesOf; rw [if_neg (by rw [HEE.out]; exact H0.out)]; rfl, fun _ => rfl⟩, below_then hbel hb2, fun k hk => by cases hk⟩

theorem bz_bl (s : ByteArray) : bz s.data.toList = s := ba_ext (by simp [bz])
theorem bl_bz (l : List UInt8) : (bz l).data.toList = l := by simp [bz]
theorem map_bz_inj {x y : List (List UInt8)} (h : x.map bz <+: y.map bz) : x <+: y := by
 obtain ⟨t, ht⟩ := h
 have e := congrArg (List.map (fun s : ByteArray => s.data.toList)) ht
 rw [List.map_append, List.map_map, List.map_map] at e
 have e1 : ∀ l : List (List UInt8), l.map ((fun s : ByteArray => s.data.toList) ∘ bz) = l := fun l => by
  conv => rhs; rw [← List.map_id l]
  exact List.map_congr_left (fun z _ => bl_bz z)
 rw [e1, e1] at e
 exact ⟨_, e⟩
theorem off_of {x y : List UInt8} (hx : splitE x = 0) (hy : splitE y = 0) (h : apart x y) : Off ((pieces x).map bz) ((pieces y).map bz) := by
 have key : ∀ {x y : List UInt8}, splitE x = 0 → splitE y = 0 → apart x y → ¬ (pieces x).map bz <+: (pieces y).map bz := by
  intro x y hx hy h hp
  have hp := map_bz_inj hp
  obtain ⟨h1, h2, h3⟩ := apart_off h
  rw [withinR_ok hx hy, decide_eq_false_iff_not] at h2
  have hl := hp.length_le
  have ht := List.prefix_iff_eq_take.1 hp
  by_cases he : (pieces x).length = (pieces y).length
  ·apply h1
   rw [he, List.take_length] at ht
   rw [← join_pieces x, ← join_pieces y, ht]
  ·exact h2 ⟨by omega, ht⟩
 exact ⟨key hx hy h, key hy hx (apart_symm h)⟩
theorem apt_of {fs : List Fi} (h : (checkR (ls (fs.map (·.path)))).2 = 0) : AptL (fs.map flOf) ∧ ∀ f ∈ fs, splitE f.path.data.toList = 0 := by
 obtain ⟨h1, h2⟩ := (checkR_ok _).1 h
 have hs : ∀ f ∈ fs, splitE f.path.data.toList = 0 := fun f hf => h1 _ (List.mem_map.2 ⟨f.path, List.mem_map.2 ⟨f, hf, rfl⟩, rfl⟩)
 refine ⟨⟨fun f hf => ?_, ?_⟩, hs⟩
 ·obtain ⟨g, hg, rfl⟩ := List.mem_map.1 hf
  have := (check_pieces (hs g hg)).1
  intro e
  exact this (List.map_eq_nil_iff.1 e)
 ·unfold ls at h2
  rw [List.map_map] at h2
  rw [List.pairwise_map]
  refine List.Pairwise.imp_of_mem ?_ (List.pairwise_map.1 h2)
  intro a b ha hb hab
  exact off_of (hs a ha) (hs b hb) hab
theorem checkF_ok {fs : List Fi} (h : checkF fs = 0) : fs.length ≤ 256 ∧ (checkR (ls (fs.map (·.path)))).2 = 0 := by
 unfold checkF at h
 split at h
 ·cases h
 ·rename_i h1
  split at h
  ·cases h
  ·exact ⟨by omega, h⟩
theorem piece_size {s : List UInt8} {p : List UInt8} (h : p ∈ pieces s) : p.length ≤ s.length := by
 have e := join_pieces s
 have key : ∀ l : List (List UInt8), p ∈ l → p.length ≤ (joinL l).length := by
  intro l
  induction l with
  | nil => intro h; cases h
  | cons a r ih =>
   intro h
   cases r with
   | nil =>
    rcases List.mem_cons.1 h with rfl | h
    ·exact Nat.le_refl _
    ·cases h
   | cons b t =>
    have e1 : joinL (a :: b :: t) = a ++ 47 :: joinL (b :: t) := rfl
    rw [e1, List.length_append, List.length_cons]
    rcases List.mem_cons.1 h with rfl | h
    ·omega
    ·have := ih h; omega
 have := key _ h
 rw [e] at this; exact this
/-- files built: the objects, the tree's id, the error -/
def buildS (fs : List Fi) : (List ByteArray × ByteArray) × Int := if checkF fs = 0 then (treeS 64 (fs.map flOf) [], 0) else (([], ByteArray.empty), checkF fs)
def BuildOut (w : World) (r : (List ByteArray × ByteArray) × Int) (e : Ending) (w' : World) : Prop :=
 Below w.heap.size w w' ∧ ((r.2 ≠ 0 ∧ e = .returned (.tuple #[.pointer none, .string ⟨#[]⟩, .int .i64 r.2])) ∨ (r.2 = 0 ∧ ∃ b m v, e = .returned (.tuple #[.pointer (some ⟨b, 0, none⟩), .string r.1.2, .int .i64 0]) ∧ BuAt w.heap.size w' b m v r.1.1))
theorem idsF_nil : idsF [] = fun _ => none := by
 funext s
 unfold idsF
 rw [if_neg (by rw [hasN_iff]; intro h; cases h)]
set_option maxRecDepth 100000 in
set_option maxHeartbeats 8000000 in
theorem build_any (a : Option Addr) (n c : Nat) (fs : List Fi) (w : World) (h : FisAt w a n fs) (hz : ∀ f ∈ fs, f.path.size < 4294967281 ∧ f.data.size ≤ 9223372036854775807) (hm : MaxAt w) :
  Calls Tryz.prog 52 #[.slice a n c] w (BuildOut w (buildS fs)) := by
 have HCK := hid (scheck_any a n c fs w h hz hm)
 have H := hid h
 have HL := hid h.1
 have HZ := hid hz
 have HM := hid hm
 clear h hz hm
 obtain ⟨E, hE⟩ : ∃ E, checkF fs = E := ⟨_, rfl⟩
 have HE := hid hE
 rw [hE] at HCK
 clear hE
 have hmk : ∀ (T : TypeId) (W : World), (Instr.makeMap T none).run Tryz.prog W = .ok (.map (some W.heap.size)) (W.alloc (.map #[] 0)) := fun T W => run_makeMap T W
 by_cases h0 : E = 0
 ·subst h0
  obtain ⟨hn, hcr⟩ := checkF_ok HE.out
  obtain ⟨hapt, hsp⟩ := apt_of hcr
  have HAPT := hid hapt
  have HSP := hid hsp
  clear hapt hsp hcr
  have hn : n ≤ 256 := by rw [← HL.out]; exact hn
  have HNF := hid (fun W => newFolder_any 63 W)
  go_enter Tryz.func52, Tryz.ntmps52
  go_wp2_with fail
  refine HCK.out.mono ?_; rintro e w1 ⟨rfl, hb1⟩
  have HB1 := hid hb1
  clear hb1 HCK
  go_wp2_with fail
  refine (HNF.out w1).mono ?_; rintro e w2 ⟨bf, F0, rfl, hfo, hb2, hfr⟩
  have hs1 : w.heap.size ≤ w1.heap.size := HB1.out.size
  have HB2 : Hid (Below w.heap.size w w2) := HB1.out.trans (hb2.mono hs1)
  have HFO := hid hfo
  have HFR : Hid (∀ k, F0 k → w.heap.size ≤ k) := fun k hk => Nat.le_trans hs1 (hfr k hk)
  clear hfo hb2 hfr HNF HB1
  go_wp2_with fail
  go_loopw [20] (fun iv wr => ∃ (i : Nat) (F : Nat → Prop), i ≤ n ∧ iv = .int .i64 i ∧ Hid (FoAt 64 wr F bf ((fs.take i).map flOf)) ∧ Hid (Below w.heap.size w wr) ∧ Hid (∀ k, F k → w.heap.size ≤ k)) (fun iv _ => n - (intOf iv).toNat)
  case atStart => exact ⟨0, F0, Nat.zero_le _, rfl, HFO, HB2, HFR⟩
  case round =>
   obtain ⟨i, F, hi, rfl, HF, HB, HFk⟩ := hrel
   have hsz := HB.out.size
   by_cases hlt : i < n
   ·have ci : (i : Int) < n := by omega
    have ci0 : (0 : Int) ≤ (i : Int) := by omega
    have h3 := (H.out.later HB.out).2.2
    obtain ⟨b, off, rfl, hc⟩ := h3.resolve_left (by omega)
    obtain ⟨q0, q1⟩ := hc i hlt
    have hl : i < fs.length := by rw [HL.out]; exact hlt
    have HT : Hid (fs.take (i + 1) = fs.take i ++ [fs.getD i noFi]) := by
     show _ = _
     rw [List.take_succ_eq_append_getElem hl, List.getD_eq_getElem?_getD, List.getElem?_eq_getElem hl]; rfl
    have HMM : fs.getD i noFi ∈ fs := by
     rw [List.getD_eq_getElem?_getD, List.getElem?_eq_getElem hl]; exact List.getElem_mem hl
    obtain ⟨x, hx⟩ : ∃ x, fs.getD i noFi = x := ⟨_, rfl⟩
    rw [hx] at q0 q1 HT HMM
    obtain ⟨p, dd⟩ := x
    have hps : p.size < 4294967281 := (HZ.out _ HMM).1
    have hsp : splitE p.data.toList = 0 := HSP.out _ HMM
    simp only at q0 q1
    clear hx hc hl HMM h3
    go_upto_region 8 with fail
    have HX1 : Hid (Blk (wr.alloc (.cells #[.string p, .string dd] 71)) wr.heap.size 71 #[.string p, .string dd]) := Blk.new wr _ _
    have HF1 : Hid (FoAt 64 (wr.alloc (.cells #[.string p, .string dd] 71)) F bf ((fs.take i).map flOf)) := HF.out.only ((Only.refl NoF _).alloc _) (fun _ _ e => e)
    have HB1 : Hid (Below w.heap.size w (wr.alloc (.cells #[.string p, .string dd] 71))) := HB.out.alloc hsz _
    have hsz1 : w.heap.size ≤ (wr.alloc (.cells #[.string p, .string dd] 71)).heap.size := by simp; omega
    clear q0 q1 HF HB
    generalize (wr.alloc (.cells #[.string p, .string dd] 71)) = w3 at HX1 HF1 HB1 hsz1 ⊢
    generalize wr.heap.size = g1 at HX1 ⊢
    have k0 : w3.cell? ⟨g1, 0, none⟩ = some (.string p) := Blk.cell HX1.out 0
    have HSF := hid (splitF_any p w3 hps (HM.out.later HB1.out))
    rw [hsp] at HSF
    have HSPE := hid hsp
    clear hsp
    go_wp2_with fail
    refine HSF.out.mono ?_; rintro e w4 ⟨v, rfl, ⟨na, l, rfl, hst, hls, -⟩, hb4, hfr4⟩
    have HX4 : Hid (Blk w4 g1 71 #[.string p, .string dd]) := (hb4.block g1 (Blk.lt HX1.out)).trans HX1.out
    have HF4 : Hid (FoAt 64 w4 F bf ((fs.take i).map flOf)) := HF1.out.only (Only.of_below hb4 NoF) (fun _ _ e => e)
    have HB4 : Hid (Below w.heap.size w w4) := HB1.out.trans (hb4.mono hsz1)
    have hpl : ls l = pieces p.data.toList := by rw [hls]; unfold namesOf; rw [if_pos HSPE.out]
    have hll : l = (pieces p.data.toList).map bz := by rw [← hpl, ls_back]
    have hlen := (check_pieces HSPE.out)
    have hll2 : l.length = (pieces p.data.toList).length := by rw [hll, List.length_map]
    have hl1 : 1 ≤ l.length := by rw [hll2]; exact List.length_pos_iff.2 hlen.1
    have hl64 : l.length ≤ 64 := by rw [hll2]; exact hlen.2.2
    obtain ⟨nb, noff, rfl⟩ : ∃ nb noff, na = some ⟨nb, noff, none⟩ := by
     obtain ⟨nb, noff, e, _⟩ := hst.2.2.resolve_left (by omega)
     exact ⟨nb, noff, e⟩
    have hnF : ¬ F nb := fun e => by
     have h1 := hfr4 nb rfl
     have h2 := HF1.out.lt nb e
     omega
    have HADD := hid (add_any 64 l dd nb noff l.length l.length bf ((fs.take i).map flOf) F w4 HF4.out hst (Nat.le_refl _) (by omega) hl1 hl64 (fun x hx => by
     rw [hll] at hx
     obtain ⟨q, hq, rfl⟩ := List.mem_map.1 hx
     have h1 := piece_size hq
     have h2 : (bz q).size = q.length := by unfold bz; simp [ByteArray.size]
     have h3 := bx_data p
     rw [h2]; omega) (by rw [List.length_map, List.length_take]; omega) hnF)
    have HT2 : Hid ((fs.take (i + 1)).map flOf = (fs.take i).map flOf ++ [(l, dd)]) := by
     show _ = _
     rw [HT.out, List.map_append]
     unfold flOf
     rw [hll]; rfl
    have k1 : w4.cell? ⟨g1, 1, none⟩ = some (.string dd) := Blk.cell HX4.out 1
    have hs4 : w.heap.size ≤ w4.heap.size := HB4.out.size
    clear k0 hst hls hb4 hfr4 hpl hll hlen hll2 hl1 hl64 hnF HSF HX1 HF1 HB1
    go_wp2_with fail
    refine HADD.out.mono ?_; rintro e w5 ⟨rfl, F', hf5, ho5, hk5⟩
    have HF5 : Hid (FoAt 64 w5 F' bf ((fs.take (i + 1)).map flOf)) := by
     show FoAt _ _ _ _ _
     rw [HT2.out]; exact hf5
    have HB5 : Hid (Below w.heap.size w w5) := HB4.out.trans (ho5.below (fun k hk => HFk.out k hk) hs4)
    have HF5k : Hid (∀ k, F' k → w.heap.size ≤ k) := fun k hk => (hk5 k hk).elim (fun e => HFk.out k e) (fun e => Nat.le_trans hs4 e)
    clear hf5 ho5 hk5 HADD
    go_wp2_with fail
    refine ⟨⟨i + 1, F', by omega, by go_num, HF5, HB5, HF5k⟩, ?_⟩
    simp [intOf]; omega
   ·obtain rfl : i = n := by omega
    have ci : ¬ (i : Int) < i := by omega
    have hall : fs.take i = fs := List.take_of_length_le (by rw [HL.out]; exact Nat.le_refl _)
    have HFA : Hid (FoAt 64 wr F bf (fs.map flOf)) := by
     have h := HF.out
     rw [hall] at h; exact h
    clear HF hall
    obtain ⟨z, hz⟩ : ∃ z, wr.heap.size = z := ⟨_, rfl⟩
    have HZW := hid hz
    rw [hz] at hsz
    have HBU : Hid (BuAt w.heap.size ((wr.alloc (.map #[] 0)).alloc (.cells #[.slice none 0 0, .map (some z)] 134)) (z + 1) z (.slice none 0 0) []) := by
     have z1 : (wr.alloc (.map #[] 0)).heap.size = z + 1 := by rw [World.size_alloc, hz]
     refine ⟨?_, World.ownsRow_nil _ _ _ _, ?_, by omega, hsz⟩
     ·have := Blk.new (wr.alloc (.map #[] 0)) 134 #[.slice none 0 0, .map (some z)]
      rw [z1] at this; exact this
     ·have h : StrMap (wr.alloc (.map #[] 0)) wr.heap.size 0 (fun _ => none) := MapFn.made wr
      rw [hz] at h
      rw [idsF_nil]
      exact h.later ((Below.refl _ _).alloc (Nat.le_refl _) _)
    have HZ2 : Hid (((wr.alloc (.map #[] 0)).alloc (.cells #[.slice none 0 0, .map (some z)] 134)).heap.size = z + 2) := by
     show _ = _
     rw [World.size_alloc, World.size_alloc, hz]
    have HB2' : Hid (Below w.heap.size w ((wr.alloc (.map #[] 0)).alloc (.cells #[.slice none 0 0, .map (some z)] 134))) :=
     (HB.out.alloc (by rw [hz]; exact hsz) _).alloc (by rw [World.size_alloc, hz]; omega) _
    have HFA2 : Hid (FoAt 64 ((wr.alloc (.map #[] 0)).alloc (.cells #[.slice none 0 0, .map (some z)] 134)) F bf (fs.map flOf)) := HFA.out.only (((Only.refl NoF _).alloc _).alloc _) (fun _ _ e => e)
    have hfb : ∀ k, F k → k < z := fun k hk => by have := HFA.out.lt k hk; omega
    have hlen : ∀ f ∈ fs.map flOf, f.1.length ≤ 64 ∧ ∀ m ∈ f.1, m.size ≤ 9223372036854775807 := fun f hf => by
     obtain ⟨g, hg, rfl⟩ := List.mem_map.1 hf
     have h1 := check_pieces (HSP.out g hg)
     refine ⟨by unfold flOf; rw [List.length_map]; exact h1.2.2, fun m hm => ?_⟩
     obtain ⟨q, hq, rfl⟩ := List.mem_map.1 hm
     have h1 := piece_size hq
     have h2 : (bz q).size = q.length := by unfold bz; simp [ByteArray.size]
     have h3 := bx_data g.path
     have h4 := (HZ.out g hg).1
     rw [h2]; omega
    have hfl : (fs.map flOf).length ≤ 256 := by rw [List.length_map, HL.out]; omega
    have hfit : FitD 64 (fs.map flOf) := fitD_of 64 _ HAPT.out (fun f hf m hm => (hlen f hf).2 m hm)
    have hcnt : (treeS 64 (fs.map flOf) []).1.length ≤ 100000 := by
     have h1 := treeS_cnt 64 (fs.map flOf) []
     have h2 := wt_le (k := 64) (fs.map flOf) (fun f hf => (hlen f hf).1)
     simp only [List.length_nil, Nat.zero_add] at h1
     have h3 : (fs.map flOf).length * 64 ≤ 256 * 64 := Nat.mul_le_mul_right _ hfl
     omega
    have HTR := hid (tree_any w.heap.size (z + 1) z 64 (fs.map flOf) F bf [] (.slice none 0 0) ((wr.alloc (.map #[] 0)).alloc (.cells #[.slice none 0 0, .map (some z)] 134)) HFA2.out hfit (by omega) HBU.out (fun k hk e => by
     have h := hfb k hk
     rcases e with e | e | e
     ·omega
     ·omega
     ·cases e) (by rw [HZ2.out]; omega) hcnt)
    have HRS : Hid (buildS fs = (treeS 64 (fs.map flOf) [], 0)) := by
     show _ = _
     unfold buildS; rw [if_pos HE.out]
    clear hlen hfl hfit hcnt hfb
    go_wp2_with fail
    refine HTR.out.mono ?_; rintro e w9 ⟨v9, rfl, hu9, ho9, -⟩
    have HU9 := hid hu9
    have HB9 : Hid (Below w.heap.size w w9) := HB2'.out.trans (ho9.below (fun k hk => by
     rcases hk with e | e | e
     ·omega
     ·omega
     ·cases e) (by rw [HZ2.out]; omega))
    clear hu9 ho9 HTR
    go_wp2_with fail
    go_ret3
    rw [HRS.out]
    exact ⟨HB9.out, .inr ⟨rfl, _, _, _, rfl, HU9.out⟩⟩
 ·have HRS : Hid (buildS fs = (([], ByteArray.empty), E)) := by
   show _ = _
   unfold buildS
   rw [HE.out, if_neg h0]
  go_enter Tryz.func52, Tryz.ntmps52
  go_wp2_with fail
  refine HCK.out.mono ?_; rintro e w1 ⟨rfl, hb1⟩
  go_wp2_with fail
  go_ret3
  rw [HRS.out]
  exact ⟨hb1, .inl ⟨h0, rfl⟩⟩
/-- files built, handed back: the objects, the tree's id, the error -/
def BuildOutL (w : World) (r : (List ByteArray × ByteArray) × Int) (e : Ending) (w' : World) : Prop :=
 Below w.heap.size w w' ∧ ∃ v, e = .returned (.tuple #[v, .string r.1.2, .int .i64 r.2]) ∧ w'.ownsRow w.heap.size 9 1 v r.1.1.length (svals r.1.1)
theorem buildS_err {fs : List Fi} (h : (buildS fs).2 ≠ 0) : buildS fs = (([], ByteArray.empty), (buildS fs).2) := by
 unfold buildS at *
 split
 ·rename_i h1; rw [if_pos h1] at h; exact absurd rfl h
 ·rfl
end Go.Proofs.YtmpjdoiogbbcoaaGreatDoor
/- slices.Sorted of slices.Values: texts sorted, in own memory. -/
namespace Go.Proofs.YtmpjdoiogbbcoaaGreatDoor
open Go.RowKit Go.Shelf Pap
attribute [local go_sem] Oper.semAt_some
set_option linter.unusedVariables false
set_option linter.unusedSimpArgs false

theorem take_snoc_get (zs : List ByteArray) {k : Nat} (hk : k < zs.length) : zs.take (k + 1) = zs.take k ++ [zs.getD k ByteArray.empty] := by
 rw [List.take_succ_eq_append_getElem hk, List.getD_eq_getElem?_getD, List.getElem?_eq_getElem hk]; rfl
set_option maxRecDepth 100000 in
set_option maxHeartbeats 2000000 in
theorem vals1_in (F : Fence) (n : Nat) (h7 : F.fn 103) (hro : F.round = none) (hn : 1 ≤ n) (l Bs n₀ : Nat) (a : Option Addr) (len cap : Nat) (zs : List ByteArray) (hl : zs.length = len) (hl2 : len ≤ 100000)
  (J Jx : List ByteArray → World → Prop)
  (hY : ∀ pre x W, J pre W → pre.length < len → YieldAt F (n - 1) Tryz.prog l #[.string x] W fun e W' =>
   (e = .returned (.bool true) ∧ J (pre ++ [x]) W' ∧ Below n₀ W W') ∨ (e = .returned (.bool false) ∧ Jx (pre ++ [x]) W'))
  (W : World) (hBs : W.cell? ⟨Bs, 0, none⟩ = some (.slice a len cap)) (hc : len = 0 ∨ ∃ b off, a = some ⟨b, off, none⟩ ∧ b < n₀ ∧ ∀ j, j < len → W.cell? ⟨b, off + j, none⟩ = some (.string (zs.getD j ByteArray.empty))) (h0 : J [] W) :
  CallsIn F n Tryz.prog 103 #[.func (.yield l) #[] #[], .pointer (some ⟨Bs, 0, none⟩)] W fun e W' => (∃ v, e = .returned v) ∧
   ((∃ ys, ys = zs ∧ J ys W') ∨ (∃ pre, pre <+: zs ∧ Jx pre W')) := by
 refine callsIn_of_wp Tryz.func103 rfl h7 ?_ hro
 simp only [Tryz.ntmps103, List.size_toArray, List.length_cons, List.length_nil, Nat.reduceAdd, Nat.reduceSub, Array.replicate_succ, Array.replicate_zero, List.push_toArray, List.append_toArray, List.nil_append, List.cons_append]
 gi_wp2
 gi_loopw [7] (fun i wr => ∃ k : Nat, k ≤ len ∧ i = .int .i64 k ∧ J (zs.take k) wr ∧ Below n₀ W wr)
  (fun i _ => len - (intOf i).toNat)
 case atStart => exact ⟨0, Nat.zero_le _, rfl, h0, Below.refl _ _⟩
 case round =>
  obtain ⟨k, hk, rfl, hJs, hnx⟩ := hrel
  by_cases hlt : k < len
  ·obtain ⟨b, off, rfl, hb, hcs⟩ := hc.resolve_left (by omega)
   have hcx' := (hnx.cell (p := ⟨b, off + k, none⟩) hb).trans (hcs k hlt)
   have hsn := take_snoc_get zs (k := k) (by omega)
   obtain ⟨x, hx⟩ : ∃ x, zs.getD k ByteArray.empty = x := ⟨_, rfl⟩
   rw [hx] at hcx' hsn
   clear hx
   obtain ⟨fn, tmps, assign, body, hy, hR⟩ := hY _ x wr hJs (by rw [List.length_take]; omega)
   have ci : (k : Int) < len := by omega
   have ci0 : (0 : Int) ≤ (k : Int) := by omega
   gi_wp2
   refine hR.mono ?_
   rintro e W3 (⟨rfl, hJ3, hk3⟩ | ⟨rfl, hJx3⟩)
   ·gi_wp2
    go_roundw
    case rel => exact ⟨k + 1, by omega, by simp, by rw [hsn]; exact hJ3, hnx.trans hk3⟩
    case measure => simp [intOf]; omega
   ·gi_wp2
    refine bodyPost_ret (results_none rfl _ _ _) rfl ?_
    exact ⟨⟨_, rfl⟩, .inr ⟨_, by rw [← hsn]; exact List.take_prefix _ _, hJx3⟩⟩
  ·obtain rfl : k = len := by omega
   gi_wp2
   go_end0
   exact ⟨⟨_, rfl⟩, .inl ⟨_, List.take_of_length_le (by omega), hJs⟩⟩
set_option maxHeartbeats 1000000 in
theorem vals_in (F : Fence) (n : Nat) (h5 : F.fn 55) (hro : F.round = none) (a : Option Addr) (len cap : Nat) (w : World) :
  CallsIn F n Tryz.prog 55 #[.slice a len cap] w fun e w' => e = .returned (.func (.func 103) #[] #[.pointer (some ⟨w.heap.size, 0, none⟩)]) ∧ w' = w.alloc (.cells #[.slice a len cap] 40) := by
 refine callsIn_of_wp Tryz.func55 rfl h5 ?_ hro
 simp only [Tryz.ntmps55, List.size_toArray, List.length_cons, List.length_nil, Nat.reduceAdd, Nat.reduceSub, Array.replicate_succ, Array.replicate_zero, List.push_toArray, List.append_toArray, List.nil_append, List.cons_append]
 gi_wp2
 go_ret
 exact ⟨rfl, rfl⟩
theorem vals_stops (F : Fence) (n : Nat) (h7 : F.fn 103) (hro : F.round = none) (hn : 1 ≤ n) (Bs : Nat) (a : Option Addr) (len cap : Nat) (zs : List ByteArray) (hl2 : len ≤ 100000) (n₀ : Nat) (w : World) (hn₀ : n₀ ≤ w.heap.size) (hBs : Bs < w.heap.size)
  (hc : w.cell? ⟨Bs, 0, none⟩ = some (.slice a len cap)) (hA : StrsAt w a len zs) (hAb : len = 0 ∨ ∀ b off, a = some ⟨b, off, none⟩ → b < n₀) :
  SeqStopsK F n Tryz.prog 103 #[.pointer (some ⟨Bs, 0, none⟩)] (fun x : ByteArray => #[Value.string x]) (Below n₀) (fun ys => ys = zs) (fun pre => pre <+: zs) zs.length w := fun l J Jx W hW _ _ hY h0 => by
 obtain ⟨h1, h2, h3⟩ := hA
 refine vals1_in F n h7 hro hn l Bs n₀ a len cap zs h1 hl2 J Jx (by rw [← h1]; exact hY) W ((hW.cell (p := ⟨Bs, 0, none⟩) hBs).trans hc) ?_ h0
 by_cases h0 : len = 0
 ·exact .inl h0
 ·obtain ⟨b, off, rfl, hcs⟩ := h3.resolve_left h0
  exact .inr ⟨b, off, rfl, hAb.resolve_left h0 b off rfl, fun j hj => (hW.cell (p := ⟨b, off + j, none⟩) (World.block_lt_of_cell? w _ (hcs j hj))).trans (hcs j hj)⟩
set_option maxRecDepth 100000 in
set_option maxHeartbeats 2000000 in
theorem appseq_in (F : Fence) (n : Nat) (h3 : F.fn 164) (h5 : F.fn 103) (hro : F.round = none) (hn : 3 ≤ n) (Bs : Nat) (a : Option Addr) (len cap : Nat) (zs : List ByteArray) (hl2 : len ≤ 100000) (w : World) (hBs : Bs < w.heap.size)
  (hc : w.cell? ⟨Bs, 0, none⟩ = some (.slice a len cap)) (hA : StrsAt w a len zs) :
  CallsIn F n Tryz.prog 164 #[.slice none 0 0, .func (.func 103) #[] #[.pointer (some ⟨Bs, 0, none⟩)]] w fun e W' => ∃ v, e = .returned v ∧ W'.ownsRow w.heap.size 9 1 v zs.length (svals zs) ∧ Below w.heap.size w W' := by
 have h1 : 1 ≤ n := by omega
 have hzl := hA.1
 obtain ⟨i0, hi, hz0, hz1, hz2⟩ := info_parts Tryz.infoS
 refine callsIn_of_wp_marks Tryz.func164 rfl h3 ?_ hro
 simp only [Tryz.ntmps164, List.size_toArray, List.length_cons, List.length_nil, Nat.reduceAdd, Nat.reduceSub, Array.replicate_succ, Array.replicate_zero, List.push_toArray, List.append_toArray, List.nil_append, List.cons_append]
 gi_wp2
 have bO := Boxed.new w 40 (.slice none 0 0)
 have hB0 : Below w.heap.size w (w.alloc (.cells #[.slice none 0 0] 40)) := (Below.refl _ w).alloc (Nat.le_refl _) _
 have hA1 : StrsAt (w.alloc (.cells #[.slice none 0 0] 40)) a len zs := hA.later hB0
 have hAb : len = 0 ∨ ∀ b off, a = some ⟨b, off, none⟩ → b < w.heap.size := by
  by_cases h0 : len = 0
  ·exact .inl h0
  ·obtain ⟨b, off, rfl, hcs⟩ := hA.2.2.resolve_left h0
   refine .inr fun b' off' e => ?_
   cases e
   exact World.block_lt_of_cell? w _ (hcs 0 (by omega))
 refine wpIn_rangeFunc_ownG hro h1 (gf := 103) (lb := #[.pointer (some ⟨Bs, 0, none⟩)]) rfl h5 (enters_of Tryz.func103 (by kernel_rfl) rfl)
  (vals_stops F (n - 1) h5 hro (by omega) Bs a len cap zs hl2 w.heap.size _ (by simp) (by simp; omega) ((hB0.cell (p := ⟨Bs, 0, none⟩) hBs).trans hc) hA1 hAb) belowK_t (belowK_b (by simp)) (Below.refl _ _) (fun _ => rfl)
  (fun pre W => (∃ v, Boxed W w.heap.size 40 v ∧ W.ownsRow w.heap.size 9 1 v pre.length (svals pre) ∧ True) ∧ Below w.heap.size w W)
  (fun _ _ _ => False)
  (OwnFrom.and (Own.from (holdsRow_own w.heap.size w.heap.size 40 9 1 (fun pre : List ByteArray => pre.length) (fun pre => svals pre) (fun pre v => True)) _) (ownFrom_below (Nat.le_refl _) (by simp)))
  (fun _ _ _ _ _ hs _ _ => hs)
  ⟨⟨_, bO, World.ownsRow_nil _ _ _ _, trivial⟩, hB0⟩
  (fun x => { tmps := #[.slice none 0 0, .func (.func 103) #[] #[.pointer (some ⟨Bs, 0, none⟩)], .pointer (some ⟨w.heap.size, 0, none⟩), undef, .slice none 0 0, .string x, .func (.func 103) #[] #[.pointer (some ⟨Bs, 0, none⟩)], .string x, undef, undef, undef, undef, undef], defers := [] }) ?assign ?body ?done ?stop
 case assign =>
  intro l x W K hK
  gi_wp2
  exact hK
 case body =>
  rintro l pre x W ⟨⟨v, hv, hrow, -⟩, hB⟩ hlt
  have hc := hv.cell
  have hsz := hB.size
  gi_wp2_with (gi_at_builtin; refine wpListIn_append_own _ rfl _ _ 40 rfl w.heap.size 9 i0 (.string ⟨#[]⟩) 1 16 Tryz.underlying40 hi hz0 hz1 hz2 rfl (by decide) _ _ _ rfl (hrow.alloc _) ⟨W.heap.size, 0, none⟩ 1 1 [.string x] rfl rfl (cell_one_new _ _ _) (by simp [Value.oneCell']) (by unfold maxLen; omega) (by omega) (by simp; omega) ?_; intro v' w1 hown' hgrow _; obtain ⟨g', cap', rfl⟩ := ownsRow_succ hown'; obtain ⟨hv1, hv2, hr2, hk2, hb2⟩ := hv.appended (by decide) hrow hB.size (Nat.le_refl _) hown' hgrow; have hc1 := hv1.cell; have hf1 := hv1.frozen)
  refine ⟨hk2.from _, hb2, ⟨_, hv2, ?_, trivial⟩, hB.trans hb2⟩
  rw [svals_append, List.length_append]; exact hr2
 case done =>
  rintro D ys W hD rfl ⟨⟨v, hv, hrow, -⟩, hB⟩ hK
  have hc := hv.cell
  gi_wp2
  refine ⟨by simp, .inl ⟨_, _, rfl, run_takeDeferred hK, ?_⟩⟩
  exact ⟨_, results_tmp rfl _ _ _, v, rfl, ownsRow_putObj hrow _ hK rfl, hB.trans (belowK_b (w := w) (Nat.le_refl _) W D _ _ (by simp at hD; omega) hK rfl rfl)⟩
 case stop =>
  rintro D c pre W _ _ h _
  exact h.elim
set_option maxHeartbeats 1000000 in
theorem collect_in (F : Fence) (n : Nat) (h8 : F.fn 102) (h3 : F.fn 164) (h5 : F.fn 103) (hro : F.round = none) (hn : 4 ≤ n) (Bs : Nat) (a : Option Addr) (len cap : Nat) (zs : List ByteArray) (hl2 : len ≤ 100000) (w : World) (hBs : Bs < w.heap.size)
  (hc : w.cell? ⟨Bs, 0, none⟩ = some (.slice a len cap)) (hA : StrsAt w a len zs) :
  CallsIn F n Tryz.prog 102 #[.func (.func 103) #[] #[.pointer (some ⟨Bs, 0, none⟩)]] w fun e W' => ∃ v, e = .returned v ∧ W'.ownsRow w.heap.size 9 1 v zs.length (svals zs) ∧ Below w.heap.size w W' := by
 have h1 : 1 ≤ n := by omega
 refine callsIn_of_wp Tryz.func102 rfl h8 ?_ hro
 simp only [Tryz.ntmps102, List.size_toArray, List.length_cons, List.length_nil, Nat.reduceAdd, Nat.reduceSub, Array.replicate_succ, Array.replicate_zero, List.push_toArray, List.append_toArray, List.nil_append, List.cons_append]
 gi_wp2_with (gi_at_call 164; refine (appseq_in F (n - 1) h3 h5 hro (by omega) Bs a len cap zs hl2 w hBs hc hA).mono ?_; rintro e w' ⟨v, rfl, hrow, hb⟩)
 go_ret
 exact ⟨v, rfl, hrow, hb⟩
theorem collect_any (Bs : Nat) (a : Option Addr) (len cap : Nat) (zs : List ByteArray) (hl2 : len ≤ 100000) (w : World) (hBs : Bs < w.heap.size) (hc : w.cell? ⟨Bs, 0, none⟩ = some (.slice a len cap)) (hA : StrsAt w a len zs) :
  Calls Tryz.prog 102 #[.func (.func 103) #[] #[.pointer (some ⟨Bs, 0, none⟩)]] w fun e W' => ∃ v, e = .returned v ∧ W'.ownsRow w.heap.size 9 1 v zs.length (svals zs) ∧ Below w.heap.size w W' :=
 callsIn_wide.1 (collect_in Fence.wide 4 trivial trivial trivial rfl (by omega) Bs a len cap zs hl2 w hBs hc hA)
/-- slices.Values, plain -/
theorem vals_any (a : Option Addr) (len cap : Nat) (w : World) :
  Calls Tryz.prog 55 #[.slice a len cap] w fun e w' => e = .returned (.func (.func 103) #[] #[.pointer (some ⟨w.heap.size, 0, none⟩)]) ∧ w' = w.alloc (.cells #[.slice a len cap] 40) :=
 callsIn_wide.1 (vals_in Fence.wide 1 trivial rfl a len cap w)
set_option maxHeartbeats 1000000 in
theorem sorted_any (Bs : Nat) (a : Option Addr) (len cap : Nat) (zs : List ByteArray) (hl2 : len ≤ 100000) (w : World) (hBs : Bs < w.heap.size) (hc : w.cell? ⟨Bs, 0, none⟩ = some (.slice a len cap)) (hA : StrsAt w a len zs) :
  Calls Tryz.prog 54 #[.func (.func 103) #[] #[.pointer (some ⟨Bs, 0, none⟩)]] w fun e W' => ∃ v, e = .returned v ∧ W'.ownsRow w.heap.size 9 1 v zs.length (svals (sortB zs)) ∧ Below w.heap.size w W' := by
 have HC := hid (collect_any Bs a len cap zs hl2 w hBs hc hA)
 have HL := hid hA.1
 clear hc hA
 go_enter Tryz.func54, Tryz.ntmps54
 go_wp2_with fail
 refine HC.out.mono ?_; rintro e w1 ⟨v, rfl, ho, hb⟩
 have HB := hid hb
 have HO := hid ho
 have HS := hid (sort_own ho (by have := HL.out; omega))
 clear ho hb
 go_wp2_with fail
 refine HS.out.mono ?_; rintro e w2 ⟨rfl, ho2, hg2⟩
 have HO2 := hid ho2
 have HB2 : Hid (Below w.heap.size w w2) := HB.out.grown hg2 HB.out.size (fun j hj => (HO.out.lt j hj).1)
 clear ho2 hg2
 go_wp2_with fail
 go_ret
 exact ⟨_, rfl, HO2.out, HB2.out⟩
end Go.Proofs.YtmpjdoiogbbcoaaGreatDoor
/- A commit made: Commit. -/
namespace Go.Proofs.YtmpjdoiogbbcoaaGreatDoor
open Go.RowKit Book Pap Ojt Sn
set_option linter.unusedVariables false
set_option linter.unusedSimpArgs false

theorem buildS_len (fs : List Fi) : (buildS fs).1.1.length ≤ 16385 := by
 unfold buildS
 split
 ·rename_i h
  obtain ⟨h1, h2⟩ := checkF_ok h
  have hs := (apt_of h2).2
  have h3 := treeS_cnt 64 (fs.map flOf) []
  have h4 := wt_le (k := 64) (fs.map flOf) (fun f hf => by
   obtain ⟨g, hg, rfl⟩ := List.mem_map.1 hf
   have := check_pieces (hs g hg)
   unfold flOf; rw [List.length_map]; exact this.2.2)
  simp only [List.length_nil, Nat.zero_add] at h3
  rw [List.length_map] at h4
  have h5 : fs.length * 64 ≤ 256 * 64 := Nat.mul_le_mul_right _ h1
  simp only; omega
 ·exact Nat.zero_le _
theorem NumsAt.later {w w' : World} {a : Option Addr} {n : Nat} {l : List Int} (h : NumsAt w a n l) (hb : Below w.heap.size w w') : NumsAt w' a n l := by
 obtain ⟨h1, h3⟩ := h
 refine ⟨h1, h3.imp id ?_⟩
 rintro ⟨b, off, ha, hc⟩
 exact ⟨b, off, ha, fun j hj => (hb.cell (World.block_lt_of_cell? w _ (hc j hj))).trans (hc j hj)⟩
def commitOf (tree : ByteArray) (ps : List ByteArray) (h : Int) (note : ByteArray) : Ob := { zero with kind := 3, tree := tree, pars := ps, height := h, note := note }
/-- a commit made: the objects, its id, the error -/
def commitS (G : Sw.Src) (fs : List Fi) (ps : List ByteArray) (note : ByteArray) : (List ByteArray × ByteArray) × Int :=
 if (buildS fs).2 ≠ 0 then (([], ByteArray.empty), (buildS fs).2)
 else if (highS G ps).2 ≠ 0 then (([], ByteArray.empty), (highS G ps).2)
 else if 1073741824 < heightL (highS G ps).1 then (([], ByteArray.empty), 41)
 else if 1000 < note.size then (([], ByteArray.empty), 5)
 else (layS (buildS fs).1.1 (commitOf (buildS fs).1.2 (sortB ps) (heightL (highS G ps).1) note), 0)
theorem heightL_bd {zs : List Int} (h : ∀ z ∈ zs, 0 ≤ z ∧ z ≤ 1073741824) : 0 ≤ heightL zs ∧ heightL zs ≤ 1073741825 := by
 by_cases h0 : zs = []
 ·subst h0; show (0 : Int) ≤ 0 ∧ (0 : Int) ≤ _; omega
 ·rw [heightL_eq zs h0]
  have := h _ (maxOf_mem zs h0)
  omega
set_option maxRecDepth 100000 in
set_option maxHeartbeats 8000000 in
theorem commit_any (t : TypeId) (rv : Value) (G : Sw.Src) (hz : SrcSz G) (a : Option Addr) (n c : Nat) (fs : List Fi) (pa : Option Addr) (pn pc : Nat) (ps : List ByteArray) (note : ByteArray) (w : World) (hs : SrcAt w t rv G)
  (hF : FisAt w a n fs) (hfz : ∀ f ∈ fs, f.path.size < 4294967281 ∧ f.data.size ≤ 9223372036854775807) (hP : StrsAt w pa pn ps) (hnote : note.size ≤ 9223372036854775807) (hm : MaxAt w) :
  Calls Tryz.prog 19 #[.iface t rv, .slice a n c, .slice pa pn pc, .string note] w (BuildOutL w (commitS G fs ps note)) := by
 have HB := hid (build_any a n c fs w hF hfz hm)
 have HER := hid (fun h => buildS_err (fs := fs) h)
 have HLEN := hid (buildS_len fs)
 have HCM : Hid (commitS G fs ps note = if (buildS fs).2 ≠ 0 then (([], ByteArray.empty), (buildS fs).2)
  else if (highS G ps).2 ≠ 0 then (([], ByteArray.empty), (highS G ps).2)
  else if 1073741824 < heightL (highS G ps).1 then (([], ByteArray.empty), 41)
  else if 1000 < note.size then (([], ByteArray.empty), 5)
  else (layS (buildS fs).1.1 (commitOf (buildS fs).1.2 (sortB ps) (heightL (highS G ps).1) note), 0)) := rfl
 have HS := hid hs
 have HP := hid hP
 clear hs hP hF hfz hm
 obtain ⟨⟨⟨L, tr⟩, E⟩, hr⟩ : ∃ r, buildS fs = r := ⟨_, rfl⟩
 rw [hr] at HB HER HLEN HCM
 clear hr
 go_enter Tryz.func19, Tryz.ntmps19
 go_wp2_with fail
 refine HB.out.mono ?_; rintro e w1 ⟨hb, ⟨h0, rfl⟩ | ⟨h0, b, m, v, rfl, hu⟩⟩
 ·have h0 : E ≠ 0 := h0
  have HB1 := hid hb
  have HC : Hid (commitS G fs ps note = (([], ByteArray.empty), E)) := by
   show _ = _
   rw [HCM.out, if_pos h0]
  clear HER hb HB HCM
  go_wp2_with fail
  go_ret3
  rw [HC.out]
  exact ⟨HB1.out, _, rfl, World.ownsRow_nil _ _ _ _⟩
 ·have h0 : E = 0 := h0
  subst h0
  have HB1 := hid hb
  have HU := hid hu
  have hs1 : w.heap.size ≤ w1.heap.size := hb.size
  have HH := hid (heights_any t rv G hz pa pn pc ps w1 (HS.out.later hb) (HP.out.later hb))
  have HCM2 : Hid (commitS G fs ps note = if (highS G ps).2 ≠ 0 then (([], ByteArray.empty), (highS G ps).2)
   else if 1073741824 < heightL (highS G ps).1 then (([], ByteArray.empty), 41)
   else if 1000 < note.size then (([], ByteArray.empty), 5)
   else (layS L (commitOf tr (sortB ps) (heightL (highS G ps).1) note), 0)) := by
   show _ = _
   rw [HCM.out, if_neg (by simp)]
  obtain ⟨⟨zs, E2⟩, hhr⟩ : ∃ r, highS G ps = r := ⟨_, rfl⟩
  have HHR := hid hhr
  rw [hhr] at HH HCM2
  clear HER hb hu HB HCM hhr
  go_wp2_with fail
  refine HH.out.mono ?_; rintro e w2 ⟨za, zn, zc, rfl, hN, hb2, hz8, hzb⟩
  have HN := hid hN
  have HZB := hid hzb
  have HB2 : Hid (Below w.heap.size w w2) := HB1.out.trans (hb2.mono hs1)
  have HU2 := hid (HU.out.below hb2)
  have hs2 : w.heap.size ≤ w2.heap.size := Nat.le_trans hs1 hb2.size
  clear hN hb2 hzb HH HU HB1 hs1
  by_cases he : E2 = 0
  ·subst he
   have HCM3 : Hid (commitS G fs ps note = if 1073741824 < heightL zs then (([], ByteArray.empty), 41)
    else if 1000 < note.size then (([], ByteArray.empty), 5)
    else (layS L (commitOf tr (sortB ps) (heightL zs) note), 0)) := by
    show _ = _
    rw [HCM2.out, if_neg (by simp)]
   have hpn : pn ≤ 8 := by
    have h := HHR.out
    have h1 := HP.out.1
    unfold highS at h
    split at h
    ·cases h
    ·omega
   have HV := hid (vals_any pa pn pc w2)
   have hb3 : Below w2.heap.size w2 (w2.alloc (.cells #[.slice pa pn pc] 40)) := (Below.refl _ _).alloc (Nat.le_refl _) _
   have HP2 : StrsAt w2 pa pn ps := HP.out.later HB2.out
   have HSO := hid (sorted_any w2.heap.size pa pn pc ps (by omega) (w2.alloc (.cells #[.slice pa pn pc] 40)) (by simp) (Blk.cell (Blk.new w2 40 #[.slice pa pn pc]) 0) (HP2.later hb3))
   have HHT := hid (fun W (hW : NumsAt W za zn zs) => objheight_any za zn zc zs W hW (by omega) (fun z hz => by have := HZB.out z hz; omega))
   have HHB := hid (heightL_bd HZB.out)
   obtain ⟨h, hh⟩ : ∃ h, heightL zs = h := ⟨_, rfl⟩
   rw [hh] at HCM3 HHT HHB
   have HB3 : Hid (Below w.heap.size w (w2.alloc (.cells #[.slice pa pn pc] 40))) := HB2.out.trans (hb3.mono hs2)
   have HU3 := hid (HU2.out.below hb3)
   have HN3 := hid (HN.out.later hb3)
   have hs3 : w.heap.size ≤ (w2.alloc (.cells #[.slice pa pn pc] 40)).heap.size := by rw [World.size_alloc]; omega
   clear hb3 HP2 HZB hh HCM2 HHR HB2 HU2 HN hs2
   go_wp2_with fail
   refine HV.out.mono ?_; rintro e w3 ⟨rfl, rfl⟩
   generalize hw3 : w2.alloc (.cells #[.slice pa pn pc] 40) = w3 at HSO HB3 HU3 HN3 hs3 ⊢
   clear HV
   go_wp2_with fail
   refine HSO.out.mono ?_; rintro e w4 ⟨pv, rfl, hpo, hb4⟩
   have HPO := hid hpo
   have HB4 : Hid (Below w.heap.size w w4) := HB3.out.trans (hb4.mono hs3)
   have HU4 := hid (HU3.out.below hb4)
   have HHT4 := hid (HHT.out w4 (HN3.out.later hb4))
   have hs4 : w.heap.size ≤ w4.heap.size := HB4.out.size
   clear hpo hb4 HSO HB3 HU3 HN3 hs3 HHT hw3
   go_wp2_with fail
   refine HHT4.out.mono ?_; rintro e w4' ⟨rfl, rfl⟩
   have hpsl : (sortB ps).length = ps.length := sortB_length ps
   have hpst : ∃ qa qc, pv = .slice qa ps.length qc ∧ StrsAt w4 qa ps.length (sortB ps) ∧ ps.length ≤ qc := by
    have h := HPO.out
    rw [← hpsl] at h
    obtain ⟨qa, qc, e, hst⟩ := own_strs h (by have := HP.out.1; omega)
    obtain ⟨qa', qc', e', hq⟩ := own_slice' h
    rw [e] at e'
    injection e' with _ _ e3
    subst e3
    rw [hpsl] at e hst hq
    exact ⟨qa, qc, e, hst, hq⟩
   obtain ⟨qa, qc, rfl, hst, hqc⟩ := hpst
   have HST := hid hst
   have hhb1 := HHB.out.1
   have hhb2 := HHB.out.2
   clear hst hpsl HHT4 HPO
   have HX5 : Hid (Blk (w4.alloc (.cells #[.int .i64 3, .string ⟨#[]⟩, .slice none 0 0, .string tr, .slice qa ps.length qc, .int .i64 h, .string note] 98)) w4.heap.size 98 #[.int .i64 3, .string ⟨#[]⟩, .slice none 0 0, .string tr, .slice qa ps.length qc, .int .i64 h, .string note]) := Blk.new w4 _ _
   have hb5 : Below w4.heap.size w4 (w4.alloc (.cells #[.int .i64 3, .string ⟨#[]⟩, .slice none 0 0, .string tr, .slice qa ps.length qc, .int .i64 h, .string note] 98)) := (Below.refl _ _).alloc (Nat.le_refl _) _
   have HB5 : Hid (Below w.heap.size w (w4.alloc (.cells #[.int .i64 3, .string ⟨#[]⟩, .slice none 0 0, .string tr, .slice qa ps.length qc, .int .i64 h, .string note] 98))) := HB4.out.trans (hb5.mono hs4)
   have HU5 := hid (HU4.out.below hb5)
   have HST5 := hid (HST.out.later hb5)
   clear hb5 HU4 HB4 HST
   go_upto_region 8 with fail
   generalize (w4.alloc (.cells #[.int .i64 3, .string ⟨#[]⟩, .slice none 0 0, .string tr, .slice qa ps.length qc, .int .i64 h, .string note] 98)) = w5 at HX5 HB5 HU5 HST5 ⊢
   generalize w4.heap.size = g5 at HX5 ⊢
   have k0 : w5.cell? ⟨g5, 0, none⟩ = some (.int .i64 3) := Blk.cell HX5.out 0
   have k1 : w5.cell? ⟨g5, 1, none⟩ = some (.string ⟨#[]⟩) := Blk.cell HX5.out 1
   have k2 : w5.cell? ⟨g5, 2, none⟩ = some (.slice none 0 0) := Blk.cell HX5.out 2
   have k3 : w5.cell? ⟨g5, 3, none⟩ = some (.string tr) := Blk.cell HX5.out 3
   have k4 : w5.cell? ⟨g5, 4, none⟩ = some (.slice qa ps.length qc) := Blk.cell HX5.out 4
   have k5 : w5.cell? ⟨g5, 5, none⟩ = some (.int .i64 h) := Blk.cell HX5.out 5
   have k6 : w5.cell? ⟨g5, 6, none⟩ = some (.string note) := Blk.cell HX5.out 6
   by_cases hhi : 1073741824 < h
   ·have HC : Hid (commitS G fs ps note = (([], ByteArray.empty), 41)) := by
     show _ = _
     rw [HCM3.out, if_pos hhi]
    go_wp2_with fail
    go_ret3
    rw [HC.out]
    exact ⟨HB5.out, _, rfl, World.ownsRow_nil _ _ _ _⟩
   ·by_cases hno : 1000 < note.size
    ·have HC : Hid (commitS G fs ps note = (([], ByteArray.empty), 5)) := by
      show _ = _
      rw [HCM3.out, if_neg hhi, if_pos hno]
     have hno1 : (1000 : Int) < (note.size : Int) := by omega
     go_wp2_with fail
     go_ret3
     rw [HC.out]
     exact ⟨HB5.out, _, rfl, World.ownsRow_nil _ _ _ _⟩
    ·have HC : Hid (commitS G fs ps note = (layS L (commitOf tr (sortB ps) h note), 0)) := by
      show _ = _
      rw [HCM3.out, if_neg hhi, if_neg hno]
     have hno1 : ¬ (1000 : Int) < (note.size : Int) := by omega
     have HLA : Hid (Calls Tryz.prog 57 #[.pointer (some ⟨b, 0, none⟩), .agg #[.int .i64 3, .string ⟨#[]⟩, .slice none 0 0, .string tr, .slice qa ps.length qc, .int .i64 h, .string note]] w5 (LayOut w.heap.size w5 b m v (layS L (commitOf tr (sortB ps) h note)))) :=
      lay_any w.heap.size b m v L (commitOf tr (sortB ps) h note) (.slice none 0 0) (.slice qa ps.length qc) w5 HU5.out ⟨none, 0, 0, qa, ps.length, qc, rfl, ⟨rfl, by omega, .inl rfl⟩, rfl, HST5.out⟩
       ⟨by show (-9223372036854775808 : Int) ≤ 3 ∧ (3 : Int) ≤ _; omega, by show (-9223372036854775808 : Int) ≤ h ∧ h ≤ _; omega, Nat.zero_le _⟩ (fun a n c e => by cases e; exact hqc) (Nat.le_trans HLEN.out (by omega))
     obtain ⟨⟨L9, id9⟩, hl9⟩ : ∃ r, layS L (commitOf tr (sortB ps) h note) = r := ⟨_, rfl⟩
     rw [hl9] at HC HLA
     clear hl9 HCM3 HST5
     go_wp2_with fail
     refine HLA.out.mono ?_; rintro e w9 ⟨v9, rfl, hu9, ho9, -⟩
     have HU9 := hid hu9
     have HB9 : Hid (Below w.heap.size w w9) := by
      have h1 : Below w.heap.size w5 w9 := ho9.below (fun k hk => by
       rcases hk with e | e | e
       ·subst e; exact HU5.out.2.2.2.1
       ·subst e; exact HU5.out.2.2.2.2
       ·exact (HU5.out.2.1.lt k e).1) HB5.out.size
      exact HB5.out.trans h1
     have q0 : w9.cell? ⟨b, 0, none⟩ = some v9 := Blk.cell hu9.1 0
     clear hu9 ho9 HLA k0 k1 k2 k3 k4 k5 k6
     go_wp2_with fail
     go_ret3
     rw [HC.out]
     exact ⟨HB9.out, _, rfl, HU9.out.2.1⟩
  ·have HC : Hid (commitS G fs ps note = (([], ByteArray.empty), E2)) := by
    show _ = _
    rw [HCM2.out, if_pos he]
   clear HCM2 HHR
   go_wp2_with fail
   go_ret3
   rw [HC.out]
   exact ⟨HB2.out, _, rfl, World.ownsRow_nil _ _ _ _⟩
end Go.Proofs.YtmpjdoiogbbcoaaGreatDoor
/- Objects there and back (plain): what is encoded decodes to itself; an id looked up. -/
namespace Go.Proofs.YtmpjdoiogbbcoaaGreatDoor
open Go.RowKit Book Pap Ojt Sn
set_option linter.unusedVariables false
set_option linter.unusedSimpArgs false

end Go.Proofs.YtmpjdoiogbbcoaaGreatDoor
/- A folder's tree: its id, the texts of its objects; the order of files plays no part (plain). -/
namespace Go.Proofs.YtmpjdoiogbbcoaaGreatDoor
open Go.RowKit Book Pap Ojt Sn
set_option linter.unusedVariables false
set_option linter.unusedSimpArgs false

/-! order -/
/-! depth -/
end Go.Proofs.YtmpjdoiogbbcoaaGreatDoor
/- A folder's files in the order of their paths; a tree gone over gives them back (plain). -/
namespace Go.Proofs.YtmpjdoiogbbcoaaGreatDoor
open Go.RowKit Book Pap Ojt Sn
set_option linter.unusedVariables false
set_option linter.unusedSimpArgs false

/-! files that can be -/
end Go.Proofs.YtmpjdoiogbbcoaaGreatDoor
/- What comes leaves all closed (layer 14): plain Lean. -/
namespace Go.Proofs.YtmpjdoiogbbcoaaGreatDoor.Sw
open Go.RowKit Book Ojt
set_option linter.unusedVariables false

/-! one source's items -/
/-! items put by their ids -/
end Go.Proofs.YtmpjdoiogbbcoaaGreatDoor.Sw
/- Files in the order of their paths; the same tree, the same files (plain). -/
namespace Go.Proofs.YtmpjdoiogbbcoaaGreatDoor
open Go.RowKit Book Pap Ojt Sn
set_option linter.unusedVariables false
set_option linter.unusedSimpArgs false

/-! files that can be a snapshot -/
end Go.Proofs.YtmpjdoiogbbcoaaGreatDoor
/- What stands at a path of a tree; the files of a folder (plain). -/
namespace Go.Proofs.YtmpjdoiogbbcoaaGreatDoor
open Go.RowKit Book Pap Ojt Sn
set_option linter.unusedVariables false
set_option linter.unusedSimpArgs false

/-! files of a folder -/
end Go.Proofs.YtmpjdoiogbbcoaaGreatDoor
/- Layer 15's laws: whether items or files are more than is asked: vast, great. -/
namespace Go.Proofs.YtmpjdoiogbbcoaaGreatDoor
open Go.RowKit Book Pap Ojt Sn
set_option linter.unusedVariables false
set_option linter.unusedSimpArgs false

def sumF (l : List Fi) : Nat := (l.map (fun f : Fi => f.path.size + f.data.size)).sum
theorem sumF_snoc (l : List Fi) (f : Fi) : sumF (l ++ [f]) = sumF l + (f.path.size + f.data.size) := by unfold sumF; simp
/-- true, or no more than is asked -/
def MuchOut (m n : Nat) (fs : List Fi) (w : World) (e : Ending) (w' : World) : Prop := ∃ r : Bool, e = .returned (.bool r) ∧ Below w.heap.size w w' ∧ (r = false → n ≤ 60 ∧ sumF fs ≤ m)
set_option maxRecDepth 100000 in
set_option maxHeartbeats 4000000 in
theorem vast_any (a : Option Addr) (n c : Nat) (fs : List Fi) (w : World) (h : FisAt w a n fs) (hz : ∀ f ∈ fs, f.path.size ≤ 140737488355328 ∧ f.data.size ≤ 140737488355328) :
  Calls Tryz.prog 6 #[.slice a n c] w (MuchOut 262144 n fs w) := by
 obtain ⟨h1, h2, h3⟩ := h
 have HL := hid h1
 have HZ := hid hz
 clear hz
 by_cases hbig : 60 < n
 ·have ci : (60 : Int) < n := by omega
  go_enter Tryz.func6, Tryz.ntmps6
  go_wp2_with fail
  go_ret
  exact ⟨true, rfl, Below.refl _ _, fun h => by cases h⟩
 have ci : ¬ (60 : Int) < n := by omega
 go_enter Tryz.func6, Tryz.ntmps6
 go_wp2_with fail
 clear ci
 go_loopw [3, 4] (fun sv iv wr => ∃ i s : Nat, i ≤ n ∧ iv = .int .i64 i ∧ sv = .int .i64 s ∧ s ≤ 1048576 ∧ Hid (sumF (fs.take i) = s) ∧ Hid (Below w.heap.size w wr)) (fun _ iv _ => n - (intOf iv).toNat)
 case atStart => exact ⟨0, 0, Nat.zero_le _, rfl, rfl, by omega, rfl, Below.refl _ _⟩
 case round =>
  obtain ⟨i, s, hi, rfl, rfl, hs, HS, HB⟩ := hrel
  by_cases hlt : i < n
  ·obtain ⟨b, off, rfl, hc⟩ := h3.resolve_left (by omega)
   have ci : (i : Int) < n := by omega
   have ci0 : (0 : Int) ≤ (i : Int) := by omega
   obtain ⟨k0, k1⟩ := hc i hlt
   have bl : b < w.heap.size := World.block_lt_of_cell? w _ k0
   have q0 := (HB.out.cell (p := ⟨b, off + i * 2, none⟩) bl).trans k0
   have q1 := (HB.out.cell (p := ⟨b, off + i * 2 + 1, none⟩) bl).trans k1
   have hl : i < fs.length := by rw [HL.out]; exact hlt
   have HT : Hid (fs.take (i + 1) = fs.take i ++ [fs.getD i noFi]) := by
    show _ = _
    rw [List.take_succ_eq_append_getElem hl, List.getD_eq_getElem?_getD, List.getElem?_eq_getElem hl]; rfl
   have HMM : fs.getD i noFi ∈ fs := by
    rw [List.getD_eq_getElem?_getD, List.getElem?_eq_getElem hl]; exact List.getElem_mem hl
   obtain ⟨x, hx⟩ : ∃ x, fs.getD i noFi = x := ⟨_, rfl⟩
   rw [hx] at q0 q1 HT HMM
   obtain ⟨p, dd⟩ := x
   obtain ⟨hp1, hp2⟩ := HZ.out _ HMM
   simp only at q0 q1 hp1 hp2
   clear hx k0 k1 hc hl HMM
   have e1 : IntKind.i64.wrap ((p.size : Int) + dd.size) = (p.size : Int) + dd.size := by rw [IntKind.wrap_i64]; omega
   have e2 : IntKind.i64.wrap ((s : Int) + ((p.size : Int) + dd.size)) = (s : Int) + ((p.size : Int) + dd.size) := by rw [IntKind.wrap_i64]; omega
   have HS2 : Hid (sumF (fs.take (i + 1)) = s + (p.size + dd.size)) := by
    show _ = _
    rw [HT.out, sumF_snoc, HS.out]
   by_cases hgt : 1048576 < s + (p.size + dd.size)
   ·have g1 : (1048576 : Int) < (s : Int) + ((p.size : Int) + dd.size) := by omega
    go_upto_region 7 with fail
    go_region
    all_goals
     go_wp2_with fail
     go_ret
     exact ⟨true, rfl, by first | exact HB.out | exact HB.out.drew, fun h => by cases h⟩
   ·have g1 : ¬ (1048576 : Int) < (s : Int) + ((p.size : Int) + dd.size) := by omega
    go_upto_region 7 with fail
    go_region
    all_goals
     go_wp2_with fail
     refine ⟨⟨i + 1, s + (p.size + dd.size), by omega, by go_num, by push_cast; rfl, by omega, HS2, by first | exact HB.out | exact HB.out.drew⟩, ?_⟩
     simp [intOf]; omega
  ·obtain rfl : i = n := by omega
   have ci : ¬ (i : Int) < i := by omega
   have hall : fs.take i = fs := List.take_of_length_le (by rw [HL.out]; exact Nat.le_refl _)
   have HSA : Hid (sumF fs = s) := by have h := HS.out; rw [hall] at h; exact h
   clear HS hall
   by_cases hf : 262144 < s
   ·have g1 : (262144 : Int) < (s : Int) := by omega
    go_wp2_with fail
    go_ret
    exact ⟨true, rfl, HB.out, fun h => by cases h⟩
   ·have g1 : ¬ (262144 : Int) < (s : Int) := by omega
    go_wp2_with fail
    go_ret
    exact ⟨false, rfl, HB.out, fun _ => ⟨by omega, by rw [HSA.out]; omega⟩⟩
end Go.Proofs.YtmpjdoiogbbcoaaGreatDoor
/- Layer 15's laws: a Book as a source; ref14.Get. -/
namespace Go.Proofs.YtmpjdoiogbbcoaaGreatDoor
open Go.RowKit Book Pap Ojt Sn
set_option linter.unusedVariables false
set_option linter.unusedSimpArgs false

/-- the bytes of an id in a list of items -/
def getF (l : List Fi) : Sw.Src := fun id => (l.find? (fun f => decide (f.path = id))).map (·.data)
theorem getF_hit {l : List Fi} {k : Nat} {id : ByteArray} (hk : k < l.length) (h : ∀ j, j < k → (l.getD j noFi).path ≠ id) (hp : (l.getD k noFi).path = id) : getF l id = some (l.getD k noFi).data := by
 induction l generalizing k with
 | nil => simp at hk
 | cons f r ih =>
  cases k with
  | zero =>
   have hp : f.path = id := hp
   show ((f :: r).find? _).map _ = _
   rw [List.find?_cons_of_pos (by simp [hp])]; rfl
  | succ k =>
   have h0 : f.path ≠ id := h 0 (by omega)
   show ((f :: r).find? _).map _ = _
   rw [List.find?_cons_of_neg (by simp [h0])]
   exact ih (k := k) (by simp only [List.length_cons] at hk; omega) (fun j hj => h (j + 1) (by omega)) hp
theorem getF_miss {l : List Fi} {id : ByteArray} (h : ∀ j, j < l.length → (l.getD j noFi).path ≠ id) : getF l id = none := by
 induction l with
 | nil => rfl
 | cons f r ih =>
  have h0 : f.path ≠ id := h 0 (by simp)
  show ((f :: r).find? _).map _ = _
  rw [List.find?_cons_of_neg (by simp [h0])]
  exact ih (fun j hj => h (j + 1) (by simp only [List.length_cons]; omega))
set_option maxRecDepth 100000 in
set_option maxHeartbeats 4000000 in
theorem r14get_any (a : Option Addr) (n c : Nat) (fs : List Fi) (id : ByteArray) (w : World) (h : FisAt w a n fs) :
  Calls Tryz.prog 42 #[.slice a n c, .string id] w (GetOut (getF fs) id w) := by
 obtain ⟨h1, h2, h3⟩ := h
 have HL := hid h1
 go_enter Tryz.func42, Tryz.ntmps42
 go_wp2_with fail
 go_loopw [6] (fun iv wr => ∃ i : Nat, i ≤ n ∧ iv = .int .i64 i ∧ w = wr ∧ Hid (∀ j, j < i → (fs.getD j noFi).path ≠ id)) (fun iv _ => n - (intOf iv).toNat)
 case atStart => exact ⟨0, Nat.zero_le _, rfl, rfl, fun j hj => by omega⟩
 case round =>
  obtain ⟨i, hi, rfl, rfl, HN⟩ := hrel
  by_cases hlt : i < n
  ·obtain ⟨b, off, rfl, hc⟩ := h3.resolve_left (by omega)
   have ci : (i : Int) < n := by omega
   have ci0 : (0 : Int) ≤ (i : Int) := by omega
   obtain ⟨q0, q1⟩ := hc i hlt
   have hl : i < fs.length := by rw [HL.out]; exact hlt
   obtain ⟨x, hx⟩ : ∃ x, fs.getD i noFi = x := ⟨_, rfl⟩
   rw [hx] at q0 q1
   have HX := hid hx
   obtain ⟨p, dd⟩ := x
   simp only at q0 q1
   clear hx hc
   by_cases he : p = id
   ·have HR : Hid (getF fs id = some dd) := by
     have h := getF_hit (id := id) hl HN.out (by rw [HX.out]; exact he)
     rw [HX.out] at h; exact h
    have e1 : (p.toList == id.toList) = true := by rw [he]; simp
    clear hl he
    go_wp2_with fail
    go_ret2
    unfold GetOut
    rw [HR.out]
    exact ⟨rfl, Below.refl _ _⟩
   ·have e1 : (p.toList == id.toList) = false := by
     rw [ba_toList, ba_toList, beq_eq_false_iff_ne]
     exact fun e => he (ba_ext e)
    have HN2 : Hid (∀ j, j < i + 1 → (fs.getD j noFi).path ≠ id) := fun j hj => by
     by_cases hji : j = i
     ·subst hji; rw [HX.out]; exact he
     ·exact HN.out j (by omega)
    clear hl he
    go_wp2_with fail
    go_roundw
    case rel => first | exact ⟨i + 1, by omega, by go_num, by first | rfl | trivial, HN2⟩ | ((repeat apply Exists.intro); exact ⟨⟨i + 1, by omega, by go_num, by first | rfl | trivial, HN2⟩, rfl⟩)
    case measure => simp [intOf]; omega
  ·obtain rfl : i = n := by omega
   have ci : ¬ (i : Int) < i := by omega
   have HR : Hid (getF fs id = none) := getF_miss (fun j hj => HN.out j (by rw [← HL.out]; exact hj))
   go_wp2_with fail
   go_ret2
   unfold GetOut
   rw [HR.out]
   exact ⟨rfl, Below.refl _ _⟩
/-- a Book in memory -/
def BookAt (w : World) (bb : Nat) (fs : List Fi) : Prop := ∃ a n c, Blk w bb 31 #[.slice a n c] ∧ FisAt w a n fs
theorem BookAt.later {w w' : World} {bb : Nat} {fs : List Fi} (h : BookAt w bb fs) (hb : Below w.heap.size w w') : BookAt w' bb fs := by
 obtain ⟨a, n, c, h1, h2⟩ := h
 exact ⟨a, n, c, (hb.block bb (Blk.lt h1)).trans h1, h2.later hb⟩
theorem bookget_any (bb : Nat) (fs : List Fi) (id : ByteArray) (w : World) (h : BookAt w bb fs) :
  Calls Tryz.prog 292 #[.pointer (some ⟨bb, 0, none⟩), .string id] w (GetOut (getF fs) id w) := by
 obtain ⟨a, n, c, h1, h2⟩ := h
 have k0 : w.cell? ⟨bb, 0, none⟩ = some (.slice a n c) := Blk.cell h1 0
 have HG := hid (r14get_any a n c fs id w h2)
 clear h1 h2
 go_enter Tryz.func292, Tryz.ntmps292
 go_wp2_with fail
 refine HG.out.mono ?_; rintro e w1 ⟨rfl, hb⟩
 have HB := hid hb
 clear hb
 go_wp2_with fail
 go_ret2
 exact ⟨rfl, HB.out⟩
theorem book_src (bb : Nat) (fs : List Fi) (w : World) (h : BookAt w bb fs) : SrcAt w 29 (.pointer (some ⟨bb, 0, none⟩)) (getF fs) :=
 ⟨292, .pointer (some ⟨bb, 0, none⟩), fun W => by kernel_rfl, enters_of Tryz.func292 (by kernel_rfl) rfl, fun id W hW => bookget_any bb fs id W (h.later hW)⟩
end Go.Proofs.YtmpjdoiogbbcoaaGreatDoor
/- The statement on folders, plain: what stands at a folder's path is the tree of the files in it. -/
namespace Go.Proofs.YtmpjdoiogbbcoaaGreatDoor
open Go.RowKit Book Pap Ojt Sn
set_option linter.unusedVariables false
set_option linter.unusedSimpArgs false

/-! objects as items -/
def itemsS (l : List ByteArray) : List Fi := l.map (fun t => ⟨Sw.idOf t, t⟩)
end Go.Proofs.YtmpjdoiogbbcoaaGreatDoor
/- The statement on differences, plain: put on the first one's files they give the second one's; turned round they are turned. -/
namespace Go.Proofs.YtmpjdoiogbbcoaaGreatDoor
open Go.RowKit Book Pap Ojt Sn
set_option linter.unusedVariables false
set_option linter.unusedSimpArgs false

/-- the id of a name -/
def idl (l : List Ent) (q : ByteArray) : Option ByteArray := (l.find? (fun e => decide (e.name = q))).map (·.id)
def wasOf (l : List Ent) (q : ByteArray) : ByteArray := (idl l q).getD ByteArray.empty
theorem idl_hit {y : Ent} {r : List Ent} {q : ByteArray} (h : y.name = q) : idl (y :: r) q = some y.id := by
 unfold idl; rw [List.find?_cons_of_pos (by simp [h])]; rfl
theorem idl_miss {y : Ent} {r : List Ent} {q : ByteArray} (h : y.name ≠ q) : idl (y :: r) q = idl r q := by
 unfold idl; rw [List.find?_cons_of_neg (by simp [h])]
theorem idl_none {l : List Ent} {q : ByteArray} : idl l q = none ↔ q ∉ l.map (·.name) := by
 induction l with
 | nil => simp [idl]
 | cons y r ih =>
  by_cases h : y.name = q
  ·rw [idl_hit h]; simp [h]
  ·rw [idl_miss h, ih, List.map_cons, List.mem_cons]
   exact ⟨fun h1 e => e.elim (fun e => h e.symm) h1, fun h1 e => h1 (.inr e)⟩
theorem idl_some {l : List Ent} (hn : (l.map (·.name)).Nodup) {y : Ent} (hy : y ∈ l) : idl l y.name = some y.id := by
 induction l with
 | nil => cases hy
 | cons z r ih =>
  rw [List.map_cons] at hn
  obtain ⟨h1, h2⟩ := List.nodup_cons.1 hn
  rcases List.mem_cons.1 hy with rfl | hy
  ·exact idl_hit rfl
  ·have hne : z.name ≠ y.name := fun e => h1 (by rw [e]; exact List.mem_map.2 ⟨y, hy, rfl⟩)
   rw [idl_miss hne]; exact ih h2 hy
theorem tabA_val : ∀ (l : List Ent) (f : ByteArray → Option Ch) (q : ByteArray), (l.map (·.name)).Nodup → l.foldl putA f q = match idl l q with | some i => some ⟨q, i, ByteArray.empty⟩ | none => f q
 | [], f, q, _ => rfl
 | y :: r, f, q, h => by
  rw [List.map_cons] at h
  obtain ⟨h1, h2⟩ := List.nodup_cons.1 h
  rw [List.foldl_cons, tabA_val r _ q h2]
  by_cases hq : y.name = q
  ·subst hq
   rw [idl_none.2 h1, idl_hit rfl]
   show putA f y y.name = _
   unfold putA; rw [if_pos rfl]
  ·rw [idl_miss hq]
   cases idl r q with
   | some i => rfl
   | none =>
    show putA f y q = f q
    unfold putA; rw [if_neg (fun e => hq e.symm)]
theorem tabB_val : ∀ (l : List Ent) (f : ByteArray → Option Ch) (q : ByteArray), (l.map (·.name)).Nodup → l.foldl putB f q = match idl l q with | some i => some ⟨q, ((f q).getD noCh).was, i⟩ | none => f q
 | [], f, q, _ => rfl
 | y :: r, f, q, h => by
  rw [List.map_cons] at h
  obtain ⟨h1, h2⟩ := List.nodup_cons.1 h
  rw [List.foldl_cons, tabB_val r _ q h2]
  by_cases hq : y.name = q
  ·subst hq
   rw [idl_none.2 h1, idl_hit rfl]
   show putB f y y.name = _
   unfold putB; rw [if_pos rfl]
  ·rw [idl_miss hq]
   have e : putB f y q = f q := by unfold putB; rw [if_neg (fun e => hq e.symm)]
   rw [e]
theorem tab_iff {l m : List Ent} (hl : (l.map (·.name)).Nodup) (hm : (m.map (·.name)).Nodup) (c : Ch) :
  (tabD l m c.path = some c ∧ c.was ≠ c.is) ↔ (c.was = wasOf l c.path ∧ c.is = wasOf m c.path ∧ c.was ≠ c.is) := by
 obtain ⟨p, wa, is⟩ := c
 simp only
 unfold tabD wasOf
 rw [tabB_val m _ p hm, tabA_val l _ p hl]
 cases hm1 : idl m p with
 | some i =>
  cases hl1 : idl l p with
  | some j =>
   constructor
   ·rintro ⟨h1, h3⟩
    have h1 : (⟨p, j, i⟩ : Ch) = ⟨p, wa, is⟩ := Option.some.inj h1
    injection h1 with _ e1 e2
    exact ⟨e1.symm, e2.symm, h3⟩
   ·rintro ⟨h1, h2, h3⟩
    subst h1; subst h2
    exact ⟨rfl, h3⟩
  | none =>
   constructor
   ·rintro ⟨h1, h3⟩
    have h1 : (⟨p, ByteArray.empty, i⟩ : Ch) = ⟨p, wa, is⟩ := Option.some.inj h1
    injection h1 with _ e1 e2
    exact ⟨e1.symm, e2.symm, h3⟩
   ·rintro ⟨h1, h2, h3⟩
    subst h1; subst h2
    exact ⟨rfl, h3⟩
 | none =>
  cases hl1 : idl l p with
  | some j =>
   constructor
   ·rintro ⟨h1, h3⟩
    have h1 : (⟨p, j, ByteArray.empty⟩ : Ch) = ⟨p, wa, is⟩ := Option.some.inj h1
    injection h1 with _ e1 e2
    exact ⟨e1.symm, e2.symm, h3⟩
   ·rintro ⟨h1, h2, h3⟩
    subst h1; subst h2
    exact ⟨rfl, h3⟩
  | none =>
   constructor
   ·rintro ⟨h1, h3⟩
    cases h1
   ·rintro ⟨h1, h2, h3⟩
    exact absurd (h1.trans h2.symm) h3
theorem diff_mem {l m : List Ent} {D : List Ch} (hl : (l.map (·.name)).Nodup) (hm : (m.map (·.name)).Nodup) (h : IsDiff l m D) (c : Ch) : c ∈ D ↔ (c.was = wasOf l c.path ∧ c.is = wasOf m c.path ∧ c.was ≠ c.is) :=
 (h.2 c).trans (tab_iff hl hm c)
def Full (l : List Ent) : Prop := ∀ y ∈ l, y.id.size = 32
end Go.Proofs.YtmpjdoiogbbcoaaGreatDoor
/- What awake() asks, plain: reckoned by the kernel. -/
namespace Go.Proofs.YtmpjdoiogbbcoaaGreatDoor
open Go.RowKit Book Pap Ojt Sn
set_option linter.unusedVariables false
set_option linter.unusedSimpArgs false

def awF : List Fi := [⟨⟨#[98]⟩, ⟨#[50]⟩⟩, ⟨⟨#[97, 47, 120]⟩, ⟨#[49]⟩⟩]
def awR : (List ByteArray × ByteArray) × Int := commitS (getF []) awF [] ⟨#[110]⟩
def awL : List ByteArray := awR.1.1
def awI : ByteArray := awR.1.2
def awG : Sw.Src := getF (itemsS awL)
theorem aw_err : awR.2 = 0 := by decide +kernel
theorem aw_len : awL.length = 5 := by decide +kernel
theorem aw_0 : awL.getD 0 ByteArray.empty = ⟨#[1, 49]⟩ := by decide +kernel
theorem aw_2 : awL.getD 2 ByteArray.empty = ⟨#[1, 50]⟩ := by decide +kernel
theorem aw_sz : ∀ s ∈ awL, s.size ≤ 1000 := by decide +kernel
theorem aw_id : awI.size = 32 := by decide +kernel
theorem aw_files : filesS awG awI = ([⟨⟨#[97, 47, 120]⟩, ⟨#[49]⟩⟩, ⟨⟨#[98]⟩, ⟨#[50]⟩⟩], 0) := by decide +kernel
theorem aw_find : (findS awG awI ⟨#[97, 47, 120]⟩).2 = 0 ∧ (findS awG awI ⟨#[97, 47, 120]⟩).1.name = ⟨#[120]⟩ := by decide +kernel
theorem aw_look : (lookK awG awI 3 21).2 = 0 ∧ (lookK awG awI 3 21).1.pars = [] ∧ (lookK awG awI 3 21).1.height = 0 := by decide +kernel
theorem aw_list : (listS awG awI).2 = 0 := by decide +kernel
theorem aw_none : (filesS awG ⟨#[120]⟩).2 = 12 := by decide +kernel
theorem aw_names : ((listS awG awI).1.map (fun e => e.name)).Nodup := by decide +kernel
/-- a commit differs from itself in nothing -/
theorem aw_diff {D : List Ch} (h : IsDiff (listS awG awI).1 (listS awG awI).1 D) : D = [] := by
 cases D with
 | nil => rfl
 | cons c r =>
  have h1 := (diff_mem aw_names aw_names h c).1 (List.mem_cons_self ..)
  exact absurd (h1.1.trans h1.2.1.symm) h1.2.2
end Go.Proofs.YtmpjdoiogbbcoaaGreatDoor
/- Layer 15's laws: whether two lists of files are the same: same. -/
namespace Go.Proofs.YtmpjdoiogbbcoaaGreatDoor
open Go.RowKit Book Pap Ojt Sn
set_option linter.unusedVariables false
set_option linter.unusedSimpArgs false

end Go.Proofs.YtmpjdoiogbbcoaaGreatDoor
/- Layer 15's laws: texts under their ids (items). -/
namespace Go.Proofs.YtmpjdoiogbbcoaaGreatDoor
open Go.RowKit Book Pap Ojt Sn
set_option linter.unusedVariables false
set_option linter.unusedSimpArgs false

theorem own_items {w : World} {B : Nat} {v : Value} {n : Nat} {l : List Fi} (h : w.ownsRow B 80 2 v n (fivals l)) (hm : n ≤ 9223372036854775807) : ∃ a c, v = .slice a n c ∧ FisAt w a n l := by
 have h' := h
 have hl := fivals_length l
 have hln : l.length = n := by have := h.1; omega
 rcases h.2 with ⟨rfl, h0⟩ | ⟨g, cap, cur, rfl, hb, hg, hn, hc, hsz, htk⟩
 ·exact ⟨none, 0, by rw [h0], hln, hm, .inl h0⟩
 ·refine ⟨_, _, rfl, hln, hm, .inr ⟨g, 0, rfl, fun j hj => ?_⟩⟩
  obtain ⟨x0, x1⟩ := fivals_get l j (by omega)
  have h1 := h'.cellAt (j * 2) (by omega)
  have h2 := h'.cellAt (j * 2 + 1) (by omega)
  rw [Nat.zero_add]
  rw [x0] at h1
  rw [x1] at h2
  exact ⟨h1, h2⟩
theorem own_noneI (w : World) : (w.alloc (.cells #[] 80)).ownsRow w.heap.size 80 2 (.slice (some ⟨w.heap.size, 0, none⟩) 0 0) 0 [] :=
 ⟨rfl, .inr ⟨w.heap.size, 0, #[], rfl, Nat.le_refl _, by show (w.heap.push _)[w.heap.size]? = _; simp, Nat.le_refl _, by unfold maxLen; omega, rfl, rfl⟩⟩
theorem Tryz.infoIt : (Tryz.prog.info? 80).map (fun i => (i.zero, i.size, i.bytes)) = some (some (.agg #[.string ⟨#[]⟩, .string ⟨#[]⟩]), 2, 32) := by kernel_rfl
theorem objid_id (s : ByteArray) (hs : s.size ≤ 1000000000) (w : World) : Calls Tryz.prog 60 #[.string s] w fun e w' => e = .returned (.string (Sw.idOf s)) ∧ Below w.heap.size w w' := objid_any s hs w
set_option maxRecDepth 100000 in
set_option maxHeartbeats 8000000 in
theorem items_any (a : Option Addr) (n c : Nat) (l : List ByteArray) (w : World) (h : StrsAt w a n l) (hn : n ≤ 1000000) (hz : ∀ s ∈ l, s.size ≤ 1000000000) :
  Calls Tryz.prog 26 #[.slice a n c] w fun e w' => ∃ a' c', e = .returned (.slice a' n c') ∧ w'.ownsRow w.heap.size 80 2 (.slice a' n c') n (fivals (itemsS l)) ∧ Below w.heap.size w w' := by
 obtain ⟨i0, hi0, hz0, hz1, hz2⟩ := info_parts Tryz.infoIt
 have HS := hid h
 have HL := hid h.1
 have HZ := hid hz
 have HO1 : Hid ((w.alloc (.cells #[] 80)).ownsRow w.heap.size 80 2 (.slice (some ⟨w.heap.size, 0, none⟩) 0 0) 0 (fivals (itemsS (l.take 0)))) := own_noneI w
 have HB1 : Hid (Below w.heap.size w (w.alloc (.cells #[] 80))) := (Below.refl _ _).alloc (Nat.le_refl _) _
 clear h hz
 go_enter Tryz.func26, Tryz.ntmps26
 go_upto_region 2 with fail
 generalize (w.alloc (.cells #[] 80)) = w1 at HO1 HB1 ⊢
 generalize hg : w.heap.size = g at HO1 HB1 ⊢
 have HG := hid hg
 clear hg
 go_wp2_with fail
 go_loopw [4, 3] (fun iv ov wr => ∃ i : Nat, i ≤ n ∧ iv = .int .i64 i ∧ Hid (wr.ownsRow g 80 2 ov i (fivals (itemsS (l.take i)))) ∧ Hid (Below g w wr)) (fun iv _ _ => n - (intOf iv).toNat)
 case atStart => exact ⟨0, Nat.zero_le _, rfl, HO1, HB1⟩
 case round =>
  obtain ⟨i, hi, rfl, HO, HB⟩ := hrel
  obtain ⟨va, vc, rfl, hvc⟩ := own_slice' HO.out
  by_cases hlt : i < n
  ·have ci : (i : Int) < n := by omega
   have ci0 : (0 : Int) ≤ (i : Int) := by omega
   obtain ⟨-, -, h3⟩ := HS.out.later (by rw [HG.out]; exact HB.out)
   obtain ⟨b, off, rfl, hc⟩ := h3.resolve_left (by omega)
   have q0 := hc i hlt
   have hil : i < l.length := by rw [HL.out]; exact hlt
   have hsz := HZ.out (l.getD i ByteArray.empty) (by rw [List.getD_eq_getElem?_getD, List.getElem?_eq_getElem hil]; exact List.getElem_mem hil)
   have HT : Hid (fivals (itemsS (l.take (i + 1))) = fivals (itemsS (l.take i)) ++ [.string (Sw.idOf (l.getD i ByteArray.empty)), .string (l.getD i ByteArray.empty)]) := by
    show _ = _
    rw [List.take_succ_eq_append_getElem hil]
    unfold itemsS
    rw [List.map_append, fivals_append, List.getD_eq_getElem?_getD, List.getElem?_eq_getElem hil]; rfl
   obtain ⟨s, hs⟩ : ∃ s, l.getD i ByteArray.empty = s := ⟨_, rfl⟩
   rw [hs] at q0 hsz HT
   have HID := hid (fun W => objid_id s hsz W)
   obtain ⟨idv, hidv⟩ : ∃ z, Sw.idOf s = z := ⟨_, rfl⟩
   rw [hidv] at HID HT
   have hgr : g ≤ wr.heap.size := by have := HB.out.size; rw [HG.out] at this; exact this
   have hbb := World.block_lt_of_cell? wr _ q0
   clear hs hidv hc h3 hil hsz
   go_upto_region 5 with fail
   go_region_law (first
    | (go_simp; go_at_call 60; (refine (HID.out _).mono ?_; rintro e w5 ⟨rfl, hb5⟩; have HO5 := hid (own_below HO.out.drew hb5); have HB5 := hid (HB.out.drew.trans (hb5.mono hgr)); have q1 : w5.cell? ⟨b, off + i, none⟩ = some (.string s) := ((hb5.cell (p := ⟨b, off + i, none⟩) hbb).trans q0); have hg5 : g ≤ w5.heap.size := (Nat.le_trans hgr hb5.size); clear hb5))
    | (refine step_append_lies _ (by rfl) (.tmp 12) (.tmp 23) 22 (by rfl) g 80 i0 (.agg #[.string ⟨#[]⟩, .string ⟨#[]⟩]) 2 32 Tryz.underlying22 hi0 hz0 hz1 hz2 rfl (by decide) (.slice va i vc) i (fivals (itemsS (l.take i))) (by simp [Act.eval, Act.put]) (HO5.out.alloc _) ⟨w5.heap.size, 0, none⟩ 1 1 [.string idv, .string s] (by simp [Act.eval, Act.put]) rfl (cellNew2 _ _ _ _) (one2 rfl rfl) (by decide) (by unfold maxLen; omega) (by omega) (by rw [World.size_alloc]; omega) (w5.heap.size + 1) (by simp) ?_; intro g1 cap1 wf hown hgrow hat hglt; have HOWN := hid hown; have HGR := hid hgrow; clear hown hgrow hat hglt))
   all_goals
    have HO9 : Hid (wf.ownsRow g 80 2 (.slice (some ⟨g1, 0, none⟩) (i + 1) cap1) (i + 1) (fivals (itemsS (l.take (i + 1))))) := by
     show World.ownsRow _ _ _ _ _ _ _
     rw [HT.out]; exact HOWN.out
    have HB9 : Hid (Below g w wf) := (HB5.out.alloc hg5 _).grown HGR.out (by rw [World.size_alloc]; omega) (fun j hj => (HO5.out.lt j hj).1)
    go_wp2_with fail
    go_roundw
    case rel => first | exact ⟨i + 1, by omega, by go_num, HO9, HB9⟩ | ((repeat apply Exists.intro); exact ⟨⟨i + 1, by omega, by go_num, HO9, HB9⟩, rfl⟩)
    case measure => simp [intOf]; omega
  ·obtain rfl : i = n := by omega
   have ci : ¬ (i : Int) < i := by omega
   have HE : Hid (wr.ownsRow g 80 2 (.slice va i vc) i (fivals (itemsS l))) := by
    have h := HO.out
    rw [List.take_of_length_le (by rw [HL.out]; exact Nat.le_refl _)] at h; exact h
   go_wp2_with fail
   go_ret
   rw [HG.out]
   exact ⟨_, _, rfl, HE.out, HB.out⟩
end Go.Proofs.YtmpjdoiogbbcoaaGreatDoor
/- The first element put into an empty slice: slices.Insert at []api.Fact and []string. -/
namespace Go.Proofs.YtmpjdoiogbbcoaaGreatDoor
open Go.RowKit Book Pap
set_option linter.unusedVariables false
set_option linter.unusedSimpArgs false

theorem Tryz.infoFact : (Tryz.prog.info? 66).map (fun i => (i.zero, i.size, i.bytes)) = some (some (.agg #[.string ⟨#[]⟩, .int .i64 0, .slice none 0 0]), 3, 48) := by kernel_rfl
theorem cellBlk3 {w : World} {b : Nat} {t : TypeId} {x0 x1 x2 : Value} (h : Blk w b t #[x0, x1, x2]) : ∀ j u, [x0, x1, x2][j]? = some u → w.cell? ((⟨b, 0, none⟩ : Addr).add j) = some u := by
 intro j u hj
 rw [Addr.add_lit, Nat.zero_add, h.cell]
 rw [← hj]; simp
end Go.Proofs.YtmpjdoiogbbcoaaGreatDoor
/- shelf.Map[string, api.Fact] while it is empty: New, find, Get; Put of the first. -/
namespace Go.Proofs.YtmpjdoiogbbcoaaGreatDoor
open Go.RowKit Book Pap
set_option linter.unusedVariables false
set_option linter.unusedSimpArgs false

def FM0 (w : World) (b : Nat) : Prop := Blk w b 160 #[.slice none 0 0, .slice none 0 0]
theorem fnew_any (w : World) : Calls Tryz.prog 36 #[] w fun e w' => e = .returned (.pointer (some ⟨w.heap.size, 0, none⟩)) ∧ FM0 w' w.heap.size ∧ Below w.heap.size w w' := by
 have HX : Hid (FM0 (w.alloc (.cells #[.slice none 0 0, .slice none 0 0] 160)) w.heap.size) := Blk.new w _ _
 have HB : Hid (Below w.heap.size w (w.alloc (.cells #[.slice none 0 0, .slice none 0 0] 160))) := (Below.refl _ _).alloc (Nat.le_refl _) _
 go_enter Tryz.func36, Tryz.ntmps36
 go_wp2_with fail
 go_ret
 exact ⟨rfl, HX.out, HB.out⟩
set_option maxRecDepth 100000 in
set_option maxHeartbeats 8000000 in
theorem own_mono {w : World} {B B' : Nat} {e : TypeId} {k n : Nat} {v : Value} {xs : List Value} (h : w.ownsRow B e k v n xs) (hB : B' ≤ B) : w.ownsRow B' e k v n xs := by
 refine ⟨h.1, h.2.imp id ?_⟩
 rintro ⟨g, cap, cur, h1, h2, r⟩
 exact ⟨g, cap, cur, h1, Nat.le_trans hB h2, r⟩
end Go.Proofs.YtmpjdoiogbbcoaaGreatDoor
/- slices.Insert of one thing, over a slice of the program's own: Str. -/
namespace Go.Proofs.YtmpjdoiogbbcoaaGreatDoor
open Go.RowKit
set_option linter.unusedVariables false
set_option linter.unusedSimpArgs false

theorem Tryz.infoStr : (Tryz.prog.info? 9).map (fun i => (i.zero, i.size, i.bytes)) = some (some (.string ⟨#[]⟩), 1, 16) := by kernel_rfl

/-- a copy whose run is known -/
theorem wp_copy_isStr {P : Program} (w : World) {o : Oper} {a : Act} {K : Act → World → Prop} {Q : Exit → Act → World → Prop} (d s : Operand) (t t' : TypeId)
  (ho : o.op = .call { callee := .builtin .copy, args := #[d, s], argTypes := #[t, t'] }) (v u : Value) (hd : a.eval d = v) (hs : a.eval s = u) {v' : Value} {w' : World}
  (hr : (Builtin.copy_ #[t, t'] o.type #[v, u]).run P w = .ok v' w') (h : K (a.put o.dst v') w') : o.wp P a w K Q := by
 unfold Oper.wp execOp
 simp only [ho, resolve, invoke, builtin, Sem.run_bind, Sem.run_pure, Result.andThen_ok, List.map_toArray, List.map_cons, List.map_nil, hd, hs, hr]
 exact h
theorem wpList_copy_isStr {P : Program} (w : World) {ops : Array Oper} {rest : List Oper} {o : Oper} {a : Act} {Q : Exit → Act → World → Prop} (hgd : o.guard = none) (d s : Operand) (t t' : TypeId)
  (ho : o.op = .call { callee := .builtin .copy, args := #[d, s], argTypes := #[t, t'] }) (v u : Value) (hd : a.eval d = v) (hs : a.eval s = u) {v' : Value} {w' : World}
  (hr : (Builtin.copy_ #[t, t'] o.type #[v, u]).run P w = .ok v' w') (h : wpList P ops Q rest (a.put o.dst v') w') : wpList P ops Q (o :: rest) a w :=
 wpList_plain hgd fun _ hK => wp_copy_isStr w d s t t' ho v u hd hs hr (hK _ _ h)
theorem step_copy_isStr {P : Program} {ops : Array Oper} {o : Oper} {a : Act} {w : World} {K : Act → World → Prop} {Q : Exit → Act → World → Prop} {E : Prop}
  (hg : o.guard = none) (d x : Operand) (dT sT : TypeId) (hop : o.op = Op.call { callee := Callee.builtin Builtin.copy, args := #[d, x], argTypes := #[dT, sT] })
  (v u : Value) (hd : a.eval d = v) (hx : a.eval x = u) {v' : Value} {w' : World} (hr : (Builtin.copy_ #[dT, sT] o.type #[v, u]).run P w = .ok v' w') (hK : K (a.put o.dst v') w') :
  if Region.wanted o (yielded ops a.tmps) = true then Oper.wp P o a w K Q else E := by
 have hw : Region.wanted o (yielded ops a.tmps) = true := by simp [Region.wanted, hg]
 rw [if_pos hw]
 exact wp_copy_isStr w d x dT sT hop v u hd hx hr hK

theorem ins_listStr {cur : Array Value} {xs : List Value} {n i : Nat} (x : Value) (hsz : n + 1 ≤ cur.size) (ht : cur.toList.take n = xs) (hi : i < n) : (wr (wr cur (i + 1) (xs.drop i)) i [x]).toList.take (n + 1) = xs.take i ++ x :: xs.drop i := by
 have hl : xs.length = n := by rw [← ht, List.length_take]; simp; omega
 have hd : (xs.drop i).length = n - i := by rw [List.length_drop, hl]
 rw [wr_toList _ _ _ (by rw [wr_size]; simp; omega), wr_toList _ _ _ (by rw [hd]; omega), hd]
 have e1 : cur.toList.take (i + 1) = (cur.toList.take (i + 1)).take i ++ (cur.toList.take (i + 1)).drop i := (List.take_append_drop _ _).symm
 have hc : (cur.toList.take (i + 1)).length = i + 1 := by rw [List.length_take]; simp; omega
 have e2 : (cur.toList.take (i + 1) ++ xs.drop i ++ cur.toList.drop (i + 1 + (n - i))).take i = xs.take i := by
  rw [List.append_assoc, List.take_append_of_le_length (by omega), List.take_take, ← ht, List.take_take, Nat.min_eq_left (by omega), Nat.min_eq_left (by omega)]
 have e3 : (cur.toList.take (i + 1) ++ xs.drop i ++ cur.toList.drop (i + 1 + (n - i))).drop (i + [x].length) = xs.drop i ++ cur.toList.drop (i + 1 + (n - i)) := by
  rw [List.append_assoc, show i + [x].length = (cur.toList.take (i + 1)).length from hc.symm, List.drop_left]
 rw [e2, e3]
 have e4 : (xs.take i).length = i := by rw [List.length_take]; omega
 rw [show xs.take i ++ [x] ++ (xs.drop i ++ cur.toList.drop (i + 1 + (n - i))) = (xs.take i ++ x :: xs.drop i) ++ cur.toList.drop (i + 1 + (n - i)) by simp]
 rw [List.take_append_of_le_length (by rw [List.length_append, List.length_cons, hd, e4]; omega), List.take_of_length_le (by rw [List.length_append, List.length_cons, hd, e4]; omega)]
theorem ins_list2Str {cur : Array Value} {xs : List Value} {n i : Nat} (x : Value) (hsz : n + 1 ≤ cur.size) (hl : xs.length = n) (ht : cur.toList.take i = xs.take i) (hi : i < n) : (wr (wr cur i [x]) (i + 1) (xs.drop i)).toList.take (n + 1) = xs.take i ++ x :: xs.drop i := by
 have hd : (xs.drop i).length = n - i := by rw [List.length_drop, hl]
 have e4 : (xs.take i).length = i := by rw [List.length_take]; omega
 have e5 : (xs.take i ++ [x] ++ cur.toList.drop (i + [x].length)).take (i + 1) = xs.take i ++ [x] := by
  rw [List.take_append_of_le_length (by rw [List.length_append, e4]; exact Nat.le_refl _), List.take_of_length_le (by rw [List.length_append, e4]; exact Nat.le_refl _)]
 rw [wr_toList _ _ _ (by rw [wr_size, hd]; omega), wr_toList [x] _ _ (by simp; omega), ht, e5]
 have e6 : (xs.take i ++ [x] ++ xs.drop i).length = n + 1 := by rw [List.length_append, List.length_append, e4, hd, List.length_singleton]; omega
 rw [List.take_append_of_le_length (by omega), List.take_of_length_le (by omega)]
 simp

set_option maxRecDepth 100000 in
set_option maxHeartbeats 4000000 in
/-- at the end -/
theorem insEndStr (v : Value) (n : Nat) (xs : List Value) (x : Value) (vb : Nat) (w : World) (hown : w.ownsRow 0 9 1 v n xs) (hx1 : x.oneCell' = true) (hn : n ≤ 1048576) (hblk : Blk w vb 9 #[x]) :
    Calls Tryz.prog 81 #[v, .int .i64 n, .slice (some ⟨vb, 0, none⟩) 1 1] w fun e w' => ∃ v', e = .returned v' ∧ w'.ownsRow 0 9 1 v' (n + 1) (xs ++ [x]) ∧ w.grownBy w' v.ownBlock ∧ (v'.ownBlock = v.ownBlock ∨ v'.ownBlock = some w.heap.size) := by
  obtain ⟨i0, hi0, hz0, hz1, hz2⟩ := info_parts Tryz.infoStr
  have HC := hid (show ∀ j u, [x][j]? = some u → w.cell? ((⟨vb, 0, none⟩ : Addr).add j) = some u from fun j u hu => by
    cases j with
    | zero => simp at hu; subst hu; simpa [Addr.add] using hblk.cell 0
    | succ j => simp at hu)
  have HX : Hid (∀ u ∈ [x], u.oneCell' = true) := fun u hu => by rw [List.mem_singleton] at hu; subst hu; exact hx1
  have hown0 := hown
  rcases hown.2 with ⟨rfl, rfl⟩ | ⟨g, cap, cur, rfl, hb, hg, hnc, hcm, hsz, htk⟩
  · clear hown hx1 hblk
    go_enter Tryz.func81, Tryz.ntmps81
    go_wp2_with (at_builtin; refine wpList_append_own_at _ rfl (.tmp 23) (.tmp 24) 40 rfl 0 9 i0 (.string ⟨#[]⟩) 1 16 Tryz.underlying40 hi0 hz0 hz1 hz2 rfl (by decide) _ _ _ rfl hown0 _ 1 1 [x] rfl rfl HC.out HX.out (by unfold maxLen; omega) (by omega) (Nat.zero_le _) ?_; intro v' w3 hown' hgrow _ hbk)
    go_ret
    exact ⟨_, rfl, hown', hgrow, hbk⟩
  · have HT := hid htk
    have HS := hid hsz
    have HG := hid hg
    unfold maxLen at hcm
    clear hown hx1 hblk htk hsz hg hb
    have hd : decide (n ≤ cap) = true := decide_eq_true hnc
    go_enter Tryz.func81, Tryz.ntmps81
    go_wp2_with (at_builtin; refine wpList_append_own_at _ rfl (.tmp 23) (.tmp 24) 40 rfl 0 9 i0 (.string ⟨#[]⟩) 1 16 Tryz.underlying40 hi0 hz0 hz1 hz2 rfl (by decide) _ _ _ rfl hown0 _ 1 1 [x] rfl rfl HC.out HX.out (by unfold maxLen; omega) (by omega) (Nat.zero_le _) ?_; intro v' w3 hown' hgrow _ hbk)
    all_goals (go_ret; exact ⟨_, rfl, hown', hgrow, hbk⟩)

set_option maxHeartbeats 4000000 in
set_option maxRecDepth 100000 in
/-- ahead of the end, where there is room -/
theorem insRoomStr (g n c i vb : Nat) (cs : List Value) (x : Value) (w : World) (hi : i < n) (hroom : n + 1 ≤ c) (hc63 : c ≤ 9223372036854775807) (hn : n ≤ 1048576) (hvb : vb ≠ g)
    (cur : Array Value) (hcur : Blk w g 9 cur) (hsz : cur.size = c) (htk : cur.toList.take n = cs) (h1c : ∀ v ∈ cs, v.oneCell' = true) (hx1 : x.oneCell' = true) (hblk : Blk w vb 9 #[x]) :
    Calls Tryz.prog 81 #[.slice (some ⟨g, 0, none⟩) n c, .int .i64 i, .slice (some ⟨vb, 0, none⟩) 1 1] w fun e w' =>
      e = .returned (.slice (some ⟨g, 0, none⟩) (n + 1) c) ∧ w' = (w.drew.setCells g (i + 1) (cs.drop i)).setCells g i [x] := by
  have hcl : cs.length = n := by rw [← htk, List.length_take]; simp; omega
  have hcs : ∀ j v, cs[j]? = some v → w.cell? ⟨g, j, none⟩ = some v := fun j v hj => by
    rw [hcur.cell j, ← hj, ← htk, List.getElem?_take, if_pos (by have := (List.getElem?_eq_some_iff.1 hj).1; omega)]; simp
  have hsp : ∀ j, j < n + 1 → (w.cell? ⟨g, j, none⟩).isSome = true := fun j hj => by rw [hcur.cell j, Array.getElem?_eq_getElem (by omega)]; rfl
  have hfz : ∀ j, w.frozen? ⟨g, j, none⟩ = false := fun j => hcur.frozen j
  have hu := Tryz.underlying40
  have hsize : (Tryz.prog.info? 9).map (·.size) = some 1 := by
    obtain ⟨i0, hi0, h0, h1, h2⟩ := info_parts Tryz.infoStr
    rw [hi0]; simp [h1]
  have hz1 : ∀ w : World, (Go.sizeOf 9).run Tryz.prog w = .ok 1 w := fun w => by
    obtain ⟨i0, hi0, h0, h1, h2⟩ := info_parts Tryz.infoStr
    simp [Go.sizeOf, typeInfo, hi0, h1]
  have hsa : w.shape? vb = some (9, 1) := by have := hblk; unfold Blk at this; simp [World.shape?, this]
  have hsb : w.shape? g = some (9, c) := by have := hcur; unfold Blk at this; simp [World.shape?, this, hsz]
  have hov : ∀ lb cb, (callFunc 139 #[.slice (some ⟨vb, 0, none⟩) 1 1, .slice (some ⟨g, i + 1, none⟩) lb cb]).run Tryz.prog w = .ok (.value (.bool false)) w := fun lb cb => by
    rw [run_callFunc_extern Tryz.func139 (by kernel_rfl) (by kernel_rfl) (by kernel_rfl) (e := Extern.SlicesOverlaps.overlaps #[40, 40] #[4]) (by kernel_rfl),
      Lib.run_overlaps_apart w 40 4 9 hu 1 hz1 ⟨vb, 0, none⟩ ⟨g, i + 1, none⟩ 1 1 lb cb hvb 9 9 1 c hsa hsb (by omega) (hblk.frozen 0) (hblk.frozen 1)]
    rfl
  have hdl : (cs.drop i).length = n - i := by rw [List.length_drop, hcl]
  have hw1 : IntKind.i64.wrap ((i : Int) + 1) = (i : Int) + 1 := by rw [IntKind.wrap_i64]; omega
  have hb1 : (0 : Int) ≤ (i : Int) + 1 := by omega
  have hin : i ≤ n := by omega
  have htn : ((i : Int) + 1).toNat = i + 1 := by omega
  have hb2 : ¬ (c = i + 1) := by omega
  have hb3 : (i : Int) ≤ (n : Int) + 1 := by omega
  have hb4 : ¬ (c = i) := by omega
  have hz2 : ¬ ((i : Int) = (n : Int)) := by omega
  have hcp1 : ∀ ty dc sc, (Builtin.copy_ #[40, 40] ty #[.slice (some ⟨g, i + 1, none⟩) (n - i) dc, .slice (some ⟨g, i, none⟩) (n + 1 - i) sc]).run Tryz.prog w.drew = .ok (goInt (cs.drop i).length) (w.drew.setCells g (i + 1) (cs.drop i)) := fun ty dc sc =>
    run_copy_cells w.drew _ _ ty 9 g (i + 1) (n - i) dc ⟨g, i, none⟩ (n + 1 - i) sc (cs.drop i) hu hsize (by rw [hdl]; simp only [Nat.min_def]; split <;> omega)
      (fun j v hj => by rw [Addr.add_lit]; exact hcs (i + j) v (by rwa [List.getElem?_drop] at hj))
      (fun j hj => hsp _ (by omega)) (fun j hj => hfz _) (fun v hv => h1c v (List.mem_of_mem_drop hv))
  obtain ⟨W1, hW1⟩ : ∃ W1, W1 = w.drew.setCells g (i + 1) (cs.drop i) := ⟨_, rfl⟩
  have hB1 : Blk W1 g 9 (wr cur (i + 1) (cs.drop i)) := by rw [hW1]; exact heap_setCells _ _ _ _ hcur
  have hX1 : Blk W1 vb 9 #[x] := by rw [hW1]; exact hblk.only (only_setCells (F := (· = g)) (.inl rfl) (cs.drop i) (i + 1) w.drew (Only.refl (· = g) w).drew) hvb
  have hcp2 : ∀ (W : World), (∀ x, W.cell? x = W1.cell? x) → (∀ x, W.frozen? x = W1.frozen? x) → ∀ ty dc, (Builtin.copy_ #[40, 40] ty #[.slice (some ⟨g, i, none⟩) (n + 1 - i) dc, .slice (some ⟨vb, 0, none⟩) 1 1]).run Tryz.prog W = .ok (goInt 1) (W.setCells g i [x]) := fun W hWc hWf ty dc =>
    run_copy_cells W _ _ ty 9 g i (n + 1 - i) dc ⟨vb, 0, none⟩ 1 1 [x] hu hsize (by simp only [Nat.min_def, List.length_singleton]; split <;> omega)
      (fun j v hj => by
        cases j with
        | zero => simp at hj; subst hj; rw [Addr.add_lit, hWc]; exact hX1.cell 0
        | succ j => simp at hj)
      (fun j hj => by rw [hWc, hB1.cell, Array.getElem?_eq_getElem (by rw [wr_size]; simp at hj; omega)]; rfl) (fun j hj => by rw [hWf]; exact hB1.frozen _) (fun u hu => by rw [List.mem_singleton] at hu; subst hu; exact hx1)
  rw [← hW1] at hcp1
  clear hcs hsp hfz hsa hsb hcur hblk htk h1c hx1 hB1 hX1 hsz hcl hz1 hsize
  have HCP2 := hid hcp2
  clear hcp2
  have HDL := hid hdl; clear hdl
  have HW1 := hid hW1; clear hW1
  have mixed : Tryz.prog.follows .mixedOrders = true := by kernel_rfl
  go_enter Tryz.func81, Tryz.ntmps81
  go_wp2_with (simp only [hov])
  go_region_law (refine step_copy_isStr rfl _ _ 40 40 rfl _ _ (by simp [Act.eval, Act.put]) (by simp [Act.eval, Act.put]) (hcp1 _ _ _) ?_)
  go_wp2_with (refine wpList_copy_isStr _ rfl (.tmp 80) (.tmp 81) 40 40 rfl _ _ rfl rfl (HCP2.out _ (fun _ => rfl) (fun _ => rfl) _ _) ?_)
  go_ret
  exact ⟨rfl, by rw [HW1.out]⟩

set_option maxHeartbeats 4000000 in
set_option maxRecDepth 100000 in
/-- ahead of the end, where there is no room -/
theorem insGrowStr (g n c i vb : Nat) (cs : List Value) (x : Value) (w : World) (hi : i < n) (hnc : n ≤ c) (hroom : c < n + 1) (hn : n ≤ 1048576)
    (cur : Array Value) (hcur : Blk w g 9 cur) (hsz : cur.size = c) (htk : cur.toList.take n = cs) (h1c : ∀ v ∈ cs, v.oneCell' = true) (hx1 : x.oneCell' = true) (hblk : Blk w vb 9 #[x]) :
    Calls Tryz.prog 81 #[.slice (some ⟨g, 0, none⟩) n c, .int .i64 i, .slice (some ⟨vb, 0, none⟩) 1 1] w fun e w' =>
      ∃ v', e = .returned v' ∧ w'.ownsRow 0 9 1 v' (n + 1) (cs.take i ++ x :: cs.drop i) ∧ Below w.heap.size w w' ∧ v'.ownBlock = some w.heap.size := by
  have hcl : cs.length = n := by rw [← htk, List.length_take]; simp; omega
  have hcs : ∀ j v, cs[j]? = some v → w.cell? ⟨g, j, none⟩ = some v := fun j v hj => by
    rw [hcur.cell j, ← hj, ← htk, List.getElem?_take, if_pos (by have := (List.getElem?_eq_some_iff.1 hj).1; omega)]; simp
  have hu := Tryz.underlying40
  obtain ⟨i0, hi0, hz0, hzs, hzb⟩ := info_parts Tryz.infoStr
  have hsize : (Tryz.prog.info? 9).map (·.size) = some 1 := by rw [hi0]; simp [hzs]
  have hdl : (cs.drop i).length = n - i := by rw [List.length_drop, hcl]
  have hold : (Builtin.firstCells i0.size i (.slice (some ⟨g, 0, none⟩) i c)).run Tryz.prog w.drew = .ok (cs.take i).toArray w.drew := by
    rw [hzs]
    exact run_firstCells_some w.drew 1 i ⟨g, 0, none⟩ i c (cs.take i) (by rw [List.length_take]; omega) (fun j v hj => by
      rw [Addr.add_lit, Nat.zero_add]
      rw [List.getElem?_take] at hj
      split at hj
      · exact hcs j v hj
      · cases hj)
  obtain ⟨G, hG⟩ : ∃ G, G = grownCap w (n + 1) c 9 := ⟨_, rfl⟩
  obtain ⟨ROW, hROW⟩ : ∃ ROW : Array Value, ROW = (cs.take i).toArray ++ Builtin.zeroCells (Value.cells (.string ⟨#[]⟩)) (n + 1 - i) ++ Builtin.zeroCells (Value.cells (.string ⟨#[]⟩)) (G - (n + 1)) := ⟨_, rfl⟩
  have hkk : (n : Int) + 1 - (i : Int) = ((n + 1 - i : Nat) : Int) := by omega
  have hik : i + (n + 1 - i) = n + 1 := by omega
  have hrz : ∀ ty, (Builtin.append_ #[40, 3] ty #[.slice (some ⟨g, 0, none⟩) i c, .int .i64 ((n : Int) + 1 - (i : Int))]).run Tryz.prog w =
      .ok (.slice (some ⟨w.heap.size, 0, none⟩) (n + 1) G) (w.drew.alloc (.cells ROW 9)) := fun ty => by
    have h := Lib.run_append_grow_zeros w 40 3 ty 9 i0 _ .i64 .i64 hu Tryz.underlying3 hi0 hz0 (some ⟨g, 0, none⟩) i c (cs.take i) hold (n + 1 - i) (by omega) (by omega) (by omega) (by omega) (by rw [hzb]; omega) (by rw [hzb, hik]; exact growslice_fits hroom (by omega))
    rw [hik] at h
    rw [hkk, hROW, hG]
    exact h
  have hGn : n + 1 ≤ G := by rw [hG]; exact grownCap_ge w _ _ _
  have hG63 : G ≤ 9223372036854775807 := by
    have := grownCap_le_maxLen w (n + 1) c 9 (by unfold maxLen; omega)
    rw [← hG] at this
    unfold maxLen at this
    omega
  have hRs : ROW.size = G := by
    rw [hROW]
    simp [Builtin.zeroCells, Value.cells]
    omega
  have hRt : ROW.toList.take i = cs.take i := by
    rw [hROW, Array.toList_append, Array.toList_append, List.append_assoc, List.take_append_of_le_length (by simp; omega)]
    show List.take i (cs.take i) = _
    rw [List.take_take, Nat.min_self]
  have hgl := hcur.lt
  have hvl := hblk.lt
  obtain ⟨W1, hW1⟩ : ∃ W1, W1 = w.drew.alloc (.cells ROW 9) := ⟨_, rfl⟩
  have hN1 : Blk W1 w.heap.size 9 ROW := by rw [hW1]; exact Blk.new w.drew _ _
  have hC1 : Blk W1 g 9 cur := by rw [hW1]; exact hcur.drew.alloc _
  have hV1 : Blk W1 vb 9 #[x] := by rw [hW1]; exact hblk.drew.alloc _
  have hb1 : Below w.heap.size w W1 := by rw [hW1]; exact (Below.refl _ _).drew.alloc (Nat.le_refl _) _
  have hcpA : ∀ (W : World), (∀ x, W.cell? x = W1.cell? x) → (∀ x, W.frozen? x = W1.frozen? x) → ∀ ty dc, (Builtin.copy_ #[40, 40] ty #[.slice (some ⟨w.heap.size, i, none⟩) (n + 1 - i) dc, .slice (some ⟨vb, 0, none⟩) 1 1]).run Tryz.prog W = .ok (goInt 1) (W.setCells w.heap.size i [x]) := fun W hWc hWf ty dc =>
    run_copy_cells W _ _ ty 9 w.heap.size i (n + 1 - i) dc ⟨vb, 0, none⟩ 1 1 [x] hu hsize (by simp only [Nat.min_def, List.length_singleton]; split <;> omega)
      (fun j v hj => by
        cases j with
        | zero => simp at hj; subst hj; rw [Addr.add_lit, hWc]; exact hV1.cell 0
        | succ j => simp at hj)
      (fun j hj => by rw [hWc, hN1.cell, Array.getElem?_eq_getElem (by simp at hj; omega)]; rfl) (fun j hj => by rw [hWf]; exact hN1.frozen _) (fun u hu => by rw [List.mem_singleton] at hu; subst hu; exact hx1)
  have hN2 : Blk (W1.setCells w.heap.size i [x]) w.heap.size 9 (wr ROW i [x]) := heap_setCells _ _ _ _ hN1
  have hO2 : Only (· = w.heap.size) W1 (W1.setCells w.heap.size i [x]) := only_setCells (F := (· = w.heap.size)) (.inl rfl) _ _ _ (Only.refl _ _)
  have hC2 : Blk (W1.setCells w.heap.size i [x]) g 9 cur := hC1.only hO2 (by omega)
  have hcpB : ∀ (W : World), (∀ y, W.cell? y = (W1.setCells w.heap.size i [x]).cell? y) → (∀ y, W.frozen? y = (W1.setCells w.heap.size i [x]).frozen? y) → ∀ ty dc sc, (Builtin.copy_ #[40, 40] ty #[.slice (some ⟨w.heap.size, i + 1, none⟩) (n - i) dc, .slice (some ⟨g, i, none⟩) (n - i) sc]).run Tryz.prog W = .ok (goInt (cs.drop i).length) (W.setCells w.heap.size (i + 1) (cs.drop i)) := fun W hWc hWf ty dc sc =>
    run_copy_cells W _ _ ty 9 w.heap.size (i + 1) (n - i) dc ⟨g, i, none⟩ (n - i) sc (cs.drop i) hu hsize (by rw [hdl]; simp only [Nat.min_def]; split <;> omega)
      (fun j v hj => by
        rw [Addr.add_lit, hWc, hC2.cell]
        rw [List.getElem?_drop] at hj
        rw [← hj, ← htk, List.getElem?_take, if_pos (by have := (List.getElem?_eq_some_iff.1 hj).1; omega)]; simp)
      (fun j hj => by rw [hWc, hN2.cell, Array.getElem?_eq_getElem (by rw [wr_size]; omega)]; rfl)
      (fun j hj => by rw [hWf]; exact hN2.frozen _) (fun v hv => h1c v (List.mem_of_mem_drop hv))
  have hGi : ¬ (G = i) := by omega
  have hGim : ¬ (G = i + 1) := by omega
  have hci : ¬ (c = i) := by omega
  have hw1 : IntKind.i64.wrap ((i : Int) + 1) = (i : Int) + 1 := by rw [IntKind.wrap_i64]; omega
  have hb1' : (0 : Int) ≤ (i : Int) + 1 := by omega
  have hin : i ≤ n := by omega
  have htn : ((i : Int) + 1).toNat = i + 1 := by omega
  have hb3 : (i : Int) ≤ (n : Int) := by omega
  have hz2 : ¬ ((i : Int) = (n : Int)) := by omega
  have hz3 : (c : Int) < (n : Int) + 1 := by omega
  have hfin : (∃ v', (Value.slice (some ⟨w.heap.size, 0, none⟩) (n + 1) G) = v' ∧ ((((w.alloc (.cells ROW 9)).drew.setCells w.heap.size i [x]).drew).setCells w.heap.size (i + 1) (cs.drop i)).ownsRow 0 9 1 v' (n + 1) (cs.take i ++ x :: cs.drop i) ∧ Below w.heap.size w ((((w.alloc (.cells ROW 9)).drew.setCells w.heap.size i [x]).drew).setCells w.heap.size (i + 1) (cs.drop i)) ∧ v'.ownBlock = some w.heap.size) := by
    have a1 : Blk ((w.alloc (.cells ROW 9)).drew) w.heap.size 9 ROW := Blk.new w _ _
    have a2 : Blk (((w.alloc (.cells ROW 9)).drew.setCells w.heap.size i [x]).drew) w.heap.size 9 (wr ROW i [x]) := heap_setCells _ _ _ _ a1
    have a3 : Blk ((((w.alloc (.cells ROW 9)).drew.setCells w.heap.size i [x]).drew).setCells w.heap.size (i + 1) (cs.drop i)) w.heap.size 9 (wr (wr ROW i [x]) (i + 1) (cs.drop i)) := heap_setCells _ _ _ _ a2
    have o1 : Only NoF w ((w.alloc (.cells ROW 9)).drew) := ((Only.refl NoF w).alloc _).drew
    have o2 : Only NoF w ((((w.alloc (.cells ROW 9)).drew.setCells w.heap.size i [x]).drew).setCells w.heap.size (i + 1) (cs.drop i)) :=
      only_setCells (.inr (Nat.le_refl _)) _ _ _ (only_setCells (.inr (Nat.le_refl _)) _ _ _ o1).drew
    refine ⟨_, rfl, ⟨by simp; omega, .inr ⟨w.heap.size, G, _, rfl, Nat.zero_le _, a3, hGn, by unfold maxLen; omega, by rw [wr_size, wr_size, hRs]; simp, ?_⟩⟩, o2.below0, rfl⟩
    rw [Nat.mul_one]
    exact ins_list2Str x (by omega) hcl hRt hi
  have HFIN := hid hfin
  have HA := hid hcpA; have HB := hid hcpB; have HE := hid hW1
  have hE1 : Hid (∀ x, ((w.alloc (.cells ROW 9)).drew).cell? x = W1.cell? x) := fun x => by rw [hW1]; rfl
  have hE2 : Hid (∀ x, ((w.alloc (.cells ROW 9)).drew).frozen? x = W1.frozen? x) := fun x => by rw [hW1]; rfl
  have hF1 : Hid (∀ y, (((w.alloc (.cells ROW 9)).drew.setCells w.heap.size i [x]).drew).cell? y = (W1.setCells w.heap.size i [x]).cell? y) := fun y => by rw [hW1]; rfl
  have hF2 : Hid (∀ y, (((w.alloc (.cells ROW 9)).drew.setCells w.heap.size i [x]).drew).frozen? y = (W1.setCells w.heap.size i [x]).frozen? y) := fun y => by rw [hW1]; rfl
  have HZ := hid hrz
  clear hfin hcpA hcpB hrz hW1 hN1 hC1 hV1 hb1 hN2 hO2 hC2 hRt hRs hROW hG hold hcs hcur htk h1c hx1 hblk hsz hcl hkk hik hi0 hz0 hzs hzb hsize hdl
  have mixed : Tryz.prog.follows .mixedOrders = true := by kernel_rfl
  go_enter Tryz.func81, Tryz.ntmps81
  go_wp2_with (first
    | (at_builtin; refine Lib.wpList_append_run _ rfl _ _ _ _ rfl _ _ rfl rfl _ _ (HZ.out _) ?_)
    | (refine wpList_copy_isStr _ rfl (.tmp 43) (.tmp 44) 40 40 rfl _ _ rfl rfl (HA.out _ hE1.out hE2.out _ _) ?_))
  go_region_law (refine step_copy_isStr rfl _ _ 40 40 rfl (.slice (some ⟨w.heap.size, i + 1, none⟩) (n - i) (G - (i + 1))) (.slice (some ⟨g, i, none⟩) (n - i) (c - i)) (by simp [Act.eval, Act.put]) (by simp [Act.eval, Act.put]) (HB.out _ hF1.out hF2.out _ _ _) ?_)
  go_wp2
  go_ret
  obtain ⟨v', h1, h2⟩ := HFIN.out
  exact ⟨v', congrArg Ending.returned h1, h2⟩

/-- one thing more at a place -/
theorem insStr (v : Value) (n i : Nat) (xs : List Value) (x : Value) (vb : Nat) (w : World) (hown : w.ownsRow 0 9 1 v n xs) (h1 : ∀ u ∈ xs, u.oneCell' = true) (hx1 : x.oneCell' = true) (hi : i ≤ n) (hn : n ≤ 1048576) (hblk : Blk w vb 9 #[x]) (hne : v.ownBlock ≠ some vb) :
  Calls Tryz.prog 81 #[v, .int .i64 i, .slice (some ⟨vb, 0, none⟩) 1 1] w fun e w' => ∃ v', e = .returned v' ∧ w'.ownsRow 0 9 1 v' (n + 1) (xs.take i ++ x :: xs.drop i) ∧ w.grownBy w' v.ownBlock ∧ (v'.ownBlock = v.ownBlock ∨ v'.ownBlock = some w.heap.size) := by
 have hxl : xs.length = n := by have := hown.1; omega
 by_cases hin : i = n
 ·subst hin
  rw [List.take_of_length_le (by omega), List.drop_eq_nil_of_le (by omega)]
  exact insEndStr v i xs x vb w hown hx1 hn hblk
 ·rcases hown.2 with ⟨rfl, rfl⟩ | ⟨g, cap, cur, rfl, hb, hg, hnc, hcm, hsz, htk⟩
  ·omega
  ·unfold maxLen at hcm
   rw [Nat.mul_one] at hsz htk
   by_cases hr : n + 1 ≤ cap
   ·refine (insRoomStr g n cap i vb xs x w (by omega) hr hcm hn (fun e => hne (by rw [e]; rfl)) cur hg hsz htk h1 hx1 hblk).mono ?_
    rintro e w' ⟨rfl, rfl⟩
    refine ⟨_, rfl, ⟨by simp; omega, .inr ⟨g, cap, _, rfl, Nat.zero_le _, heap_setCells _ _ _ _ (heap_setCells _ _ w.drew _ hg), hr, by unfold maxLen; omega, by rw [wr_size, wr_size, hsz]; omega, ?_⟩⟩, ?_, .inl rfl⟩
    ·rw [Nat.mul_one]; exact ins_listStr x (by omega) htk (by omega)
    ·exact grownBy_of_only (only_setCells (F := fun k => some g = some k) (.inl rfl) _ _ _ (only_setCells (F := fun k => some g = some k) (.inl rfl) _ _ _ (Only.refl _ w).drew))
   ·refine (insGrowStr g n cap i vb xs x w (by omega) hnc (by omega) hn cur hg hsz htk h1 hx1 hblk).mono ?_
    rintro e w' ⟨v', rfl, h2, hb2, h3⟩
    exact ⟨v', rfl, h2, ⟨hb2.os, hb2.tape, hb2.output, hb2.size, fun k hk _ => hb2.block k hk⟩, .inr h3⟩
end Go.Proofs.YtmpjdoiogbbcoaaGreatDoor
/- slices.Delete of one thing, slices.Clone, over a slice of the program's own: Str. -/
namespace Go.Proofs.YtmpjdoiogbbcoaaGreatDoor
open Go.RowKit
set_option linter.unusedVariables false
set_option linter.unusedSimpArgs false

theorem own_noneStr (w : World) : (w.alloc (.cells #[] 9)).ownsRow w.heap.size 9 1 (.slice (some ⟨w.heap.size, 0, none⟩) 0 0) 0 [] :=
 ⟨rfl, .inr ⟨w.heap.size, 0, #[], rfl, Nat.le_refl _, by show (w.heap.push _)[w.heap.size]? = _; simp, Nat.le_refl _, by unfold maxLen; omega, rfl, rfl⟩⟩
set_option maxHeartbeats 4000000 in
set_option maxRecDepth 100000 in
/-- a copy -/
theorem cloneStr (v : Value) (n : Nat) (xs : List Value) (w : World) (hown : w.ownsRow 0 9 1 v n xs) (h1 : ∀ u ∈ xs, u.oneCell' = true) (hn : n ≤ 1048576) :
    Calls Tryz.prog 47 #[v] w fun e w' => ∃ v', e = .returned v' ∧ w'.ownsRow w.heap.size 9 1 v' n xs ∧ Below w.heap.size w w' := by
  obtain ⟨i0, hi0, hz0, hz1, hz2⟩ := info_parts Tryz.infoStr
  have hxl : xs.length = n := by have := hown.1; omega
  rcases hown.2 with ⟨rfl, rfl⟩ | ⟨g, cap, cur, rfl, hb, hg, hnc, hcm, hsz, htk⟩
  · obtain rfl : xs = [] := List.length_eq_zero_iff.1 hxl
    clear hown h1 hxl
    have hq : ∀ W : World, (binOp .eql 40 (.slice none 0 0) (.slice none 0 0)).run Tryz.prog W = .ok (.bool true) W := fun W => Go.run_eql_slice_nil W 40 9 none 0 0 Tryz.underlying40
    go_enter Tryz.func47, Tryz.ntmps47
    go_wp2
    go_ret
    exact ⟨_, rfl, World.ownsRow_nil _ _ _ _, Below.refl _ _⟩
  · unfold maxLen at hcm
    have hcells := hown.cells (g := g) rfl
    have hgl := (Array.getElem?_eq_some_iff.1 hg).1
    have HC : Hid (∀ j u, xs[j]? = some u → (w.alloc (.cells #[] 9)).cell? ((⟨g, 0, none⟩ : Addr).add j) = some u) := fun j u hu => by
      rw [World.cell?_alloc_lt w _ _ (by rw [Addr.add_lit]; exact hgl)]
      exact hcells j u hu
    have H1 := hid h1
    have HO := own_noneStr w
    have HXL : Hid (xs.length = n * 1) := by unfold Hid; omega
    have HN : Hid (0 + n = n) := by unfold Hid; omega
    clear hown h1 hxl hb hg hsz htk hcells
    have hq : ∀ W : World, (binOp .eql 40 (.slice (some ⟨g, 0, none⟩) n cap) (.slice none 0 0)).run Tryz.prog W = .ok (.bool false) W := fun W => Go.run_eql_slice_nil W 40 9 (some ⟨g, 0, none⟩) n cap Tryz.underlying40
    go_enter Tryz.func47, Tryz.ntmps47
    go_wp2_with (at_builtin; refine wpList_append_own_at _ rfl (.tmp 5) (.tmp 6) 40 rfl w.heap.size 9 i0 (.string ⟨#[]⟩) 1 16 Tryz.underlying40 hi0 hz0 hz1 hz2 rfl (by decide) _ _ _ rfl HO _ n cap xs rfl HXL.out HC.out H1.out (by unfold maxLen; omega) (by omega) (by simp) ?_; intro v' w3 hown' hgrow _ hbk)
    go_ret
    refine ⟨_, rfl, ?_, ?_⟩
    · rw [HN.out] at hown'; exact hown'
    · exact ((Below.refl _ w).alloc (Nat.le_refl _) _).grown hgrow (by simp) (fun k hk => by cases hk; exact Nat.le_refl _)
end Go.Proofs.YtmpjdoiogbbcoaaGreatDoor
/- A region that draws its order, in a round of a loop over an iterator: what holds of it outside a round holds in one. No program. -/
namespace Go.Proofs.YtmpjdoiogbbcoaaGreatDoor
open Go.RowKit
set_option linter.unusedVariables false

section
variable {l n : Nat} {P : Program} {ops : Array Oper} {md : Region.Mode} {Q : Exit → Act → World → Prop}
end
end Go.Proofs.YtmpjdoiogbbcoaaGreatDoor
/- The shelf's map of facts, gone over: clone, Keys, All. -/
namespace Go.Proofs.YtmpjdoiogbbcoaaGreatDoor
open Go.RowKit Book Pap
attribute [local go_sem] Oper.semAt_some
set_option linter.unusedVariables false
set_option linter.unusedSimpArgs false

/-- a fact in memory -/
structure Fc where
 id : ByteArray
 h : Int
 pa : Option Addr
 pn : Nat
 pc : Nat
def noFc : Fc := ⟨⟨#[]⟩, 0, none, 0, 0⟩
def fcs (f : Fc) : List Value := [.string f.id, .int .i64 f.h, .slice f.pa f.pn f.pc]
def fvals (l : List Fc) : List Value := l.flatMap fcs
theorem fvals_append (a b : List Fc) : fvals (a ++ b) = fvals a ++ fvals b := List.flatMap_append
theorem fvals_length : ∀ l : List Fc, (fvals l).length = l.length * 3
 | [] => rfl
 | f :: r => by
  show (fcs f ++ fvals r).length = _
  rw [List.length_append, fvals_length r, List.length_cons]
  show 3 + _ = _; omega
theorem fvals_one (l : List Fc) : ∀ u ∈ fvals l, u.oneCell' = true := by
 intro u hu
 obtain ⟨f, _, hf⟩ := List.mem_flatMap.1 hu
 unfold fcs at hf
 simp only [List.mem_cons, List.not_mem_nil, or_false] at hf
 rcases hf with rfl | rfl | rfl <;> rfl
theorem fvals_get : ∀ (l : List Fc) (k j : Nat), k < l.length → j < 3 → (fvals l)[k * 3 + j]? = (fcs (l.getD k noFc))[j]?
 | [], k, j, h, _ => by cases h
 | f :: r, 0, j, _, hj => by
  show (fcs f ++ fvals r)[0 * 3 + j]? = _
  rw [Nat.zero_mul, Nat.zero_add, List.getElem?_append_left (by exact hj)]; rfl
 | f :: r, k + 1, j, h, hj => by
  show (fcs f ++ fvals r)[(k + 1) * 3 + j]? = _
  rw [List.getElem?_append_right (by show 3 ≤ _; omega)]
  have e : (k + 1) * 3 + j - (fcs f).length = k * 3 + j := by show _ - 3 = _; omega
  rw [e, fvals_get r k j (by simpa using h) hj]; rfl
theorem own_noneF (w : World) : (w.alloc (.cells #[] 66)).ownsRow w.heap.size 66 3 (.slice (some ⟨w.heap.size, 0, none⟩) 0 0) 0 [] :=
 ⟨rfl, .inr ⟨w.heap.size, 0, #[], rfl, Nat.le_refl _, by show (w.heap.push _)[w.heap.size]? = _; simp, Nat.le_refl _, by unfold maxLen; omega, rfl, rfl⟩⟩
set_option maxHeartbeats 4000000 in
set_option maxRecDepth 100000 in
/-- a copy of facts -/
theorem cloneF (v : Value) (fs : List Fc) (w : World) (hown : w.ownsRow 0 66 3 v fs.length (fvals fs)) (hn : fs.length ≤ 1048576) :
    Calls Tryz.prog 84 #[v] w fun e w' => ∃ v', e = .returned v' ∧ w'.ownsRow w.heap.size 66 3 v' fs.length (fvals fs) ∧ Below w.heap.size w w' := by
  obtain ⟨i0, hi0, hz0, hz1, hz2⟩ := info_parts Tryz.infoFact
  obtain ⟨n, hnl⟩ : ∃ n, fs.length = n := ⟨_, rfl⟩
  have hxl : (fvals fs).length = n * 3 := by rw [fvals_length, hnl]
  rw [hnl] at hown hn ⊢
  have h1 := fvals_one fs
  obtain ⟨xs, hxs⟩ : ∃ xs, fvals fs = xs := ⟨_, rfl⟩
  rw [hxs] at hown hxl h1 ⊢
  rcases hown.2 with ⟨rfl, rfl⟩ | ⟨g, cap, cur, rfl, hb, hg, hnc, hcm, hsz, htk⟩
  · obtain rfl : xs = [] := List.length_eq_zero_iff.1 (by omega)
    clear hown h1 hxl hxs hnl
    have hq : ∀ W : World, (binOp .eql 35 (.slice none 0 0) (.slice none 0 0)).run Tryz.prog W = .ok (.bool true) W := fun W => Go.run_eql_slice_nil W 35 66 none 0 0 Tryz.underlying35
    go_enter Tryz.func84, Tryz.ntmps84
    go_wp2
    go_ret
    exact ⟨_, rfl, World.ownsRow_nil _ _ _ _, Below.refl _ _⟩
  · unfold maxLen at hcm
    have hcells := hown.cells (g := g) rfl
    have hgl := (Array.getElem?_eq_some_iff.1 hg).1
    have HC : Hid (∀ j u, xs[j]? = some u → (w.alloc (.cells #[] 66)).cell? ((⟨g, 0, none⟩ : Addr).add j) = some u) := fun j u hu => by
      rw [World.cell?_alloc_lt w _ _ (by rw [Addr.add_lit]; exact hgl)]
      exact hcells j u hu
    have H1 := hid h1
    have HO := own_noneF w
    have HXL : Hid (xs.length = n * 3) := hxl
    have HN : Hid (0 + n = n) := by unfold Hid; omega
    clear hown h1 hxl hb hg hsz htk hcells hxs hnl
    have hq : ∀ W : World, (binOp .eql 35 (.slice (some ⟨g, 0, none⟩) n cap) (.slice none 0 0)).run Tryz.prog W = .ok (.bool false) W := fun W => Go.run_eql_slice_nil W 35 66 (some ⟨g, 0, none⟩) n cap Tryz.underlying35
    go_enter Tryz.func84, Tryz.ntmps84
    go_wp2_with (at_builtin; refine wpList_append_own_at _ rfl (.tmp 5) (.tmp 6) 35 rfl w.heap.size 66 i0 (.agg #[.string ⟨#[]⟩, .int .i64 0, .slice none 0 0]) 3 48 Tryz.underlying35 hi0 hz0 hz1 hz2 rfl (by decide) _ _ _ rfl HO _ n cap xs rfl HXL.out HC.out H1.out (by unfold maxLen; omega) (by omega) (by simp) ?_; intro v' w3 hown' hgrow _ hbk)
    go_ret
    refine ⟨_, rfl, ?_, ?_⟩
    · rw [HN.out] at hown'; exact hown'
    · exact ((Below.refl _ w).alloc (Nat.le_refl _) _).grown hgrow (by simp) (fun k hk => by cases hk; exact Nat.le_refl _)
/-- a map of facts in memory -/
def MapIsF (w : World) (m : Nat) (ks vs : Value) (l : List ByteArray) (fs : List Fc) : Prop :=
 Blk w m 160 #[ks, vs] ∧ w.ownsRow 0 9 1 ks l.length (svals l) ∧ w.ownsRow 0 66 3 vs fs.length (fvals fs) ∧ fs.length = l.length ∧ Rising l ∧ l.length ≤ 1000000
set_option maxHeartbeats 1000000 in
theorem keysF (m : Nat) (ks vs : Value) (l : List ByteArray) (fs : List Fc) (w : World) (h : MapIsF w m ks vs l fs) :
  Calls Tryz.prog 85 #[.pointer (some ⟨m, 0, none⟩)] w fun e w' => ∃ v, e = .returned v ∧ w'.ownsRow w.heap.size 9 1 v l.length (svals l) ∧ Below w.heap.size w w' := by
 obtain ⟨h1, h2, h3, h4, h5, h6⟩ := h
 have CC := hid (cloneStr ks l.length (svals l) w h2 (svals_one l) (by omega))
 obtain ⟨ka, kc, rfl, hS⟩ := own_strs h2 (by omega)
 have c0 := h1.cell 0
 simp at c0
 clear h1 h2 h3 h4 h5 hS
 go_enter Tryz.func85, Tryz.ntmps85
 go_wp2_with (go_at_call 47; refine CC.out.mono ?_; rintro e w1 ⟨v, rfl, h1, h2⟩)
 go_ret
 exact ⟨_, rfl, h1, h2⟩
theorem allF_any (q : Option Addr) (w : World) : Calls Tryz.prog 41 #[.pointer q] w fun e w' => e = .returned (.func (.func 83) #[] #[.pointer (some ⟨w.heap.size, 0, none⟩)]) ∧ w' = w.alloc (.cells #[.pointer q] 94) := by
 go_enter Tryz.func41, Tryz.ntmps41
 go_wp2
 go_ret
 exact ⟨rfl, rfl⟩
/-- what is handed to a round: the j-th name, the j-th fact -/
def encsF (l : List ByteArray) (fs : List Fc) (j : Fin l.length) : Array Value := #[.string (l.getD j.1 ByteArray.empty), .agg (fcs (fs.getD j.1 noFc)).toArray]
end Go.Proofs.YtmpjdoiogbbcoaaGreatDoor
/- The graver one of two errors: worse. -/
namespace Go.Proofs.YtmpjdoiogbbcoaaGreatDoor
open Go.RowKit Book Pap Ojt Sn
set_option linter.unusedVariables false
set_option linter.unusedSimpArgs false

def worseZ (a b : Int) : Int := if a = 4 ∨ b = 4 then 4 else if a = 22 ∨ b = 22 then 22 else if a = 21 ∨ b = 21 then 21 else 0
def errs : List Int := [4, 22, 21]
def worseL (a b : Int) : List Int → Int
 | [] => 0
 | e :: r => if a = e ∨ b = e then e else worseL a b r
set_option maxRecDepth 100000 in
set_option maxHeartbeats 2000000 in
theorem worse_any (a b : Int) (w : World) : Calls Tryz.prog 39 #[.int .i64 a, .int .i64 b] w fun e w' => e = .returned (.int .i64 (worseZ a b)) ∧ Below w.heap.size w w' := by
 have HB0 : Hid (Below w.heap.size w (w.alloc (.cells #[.int .i64 4, .int .i64 22, .int .i64 21] 26))) := (Below.refl _ _).alloc (Nat.le_refl _) _
 have HX0 : Hid (Blk (w.alloc (.cells #[.int .i64 4, .int .i64 22, .int .i64 21] 26)) w.heap.size 26 #[.int .i64 4, .int .i64 22, .int .i64 21]) := Blk.new w _ _
 go_enter Tryz.func39, Tryz.ntmps39
 go_upto_region 2 with fail
 generalize (w.alloc (.cells #[.int .i64 4, .int .i64 22, .int .i64 21] 26)) = w1 at HB0 HX0 ⊢
 go_loopw [9] (fun iv wr => ∃ k : Nat, k ≤ 3 ∧ iv = .int .i64 k ∧ w1 = wr ∧ Hid (worseZ a b = worseL a b (errs.drop k))) (fun iv _ => 3 - (intOf iv).toNat)
 case atStart => exact ⟨0, by omega, rfl, rfl, rfl⟩
 case round =>
  obtain ⟨k, hk, rfl, rfl, HW⟩ := hrel
  by_cases hlt : k < 3
  ·have ci : (k : Int) < 3 := by omega
   have ci0 : (0 : Int) ≤ (k : Int) := by omega
   obtain ⟨e, he⟩ : ∃ e, errs.getD k 0 = e := ⟨_, rfl⟩
   have q0 : w1.cell? ⟨w.heap.size, k, none⟩ = some (.int .i64 e) := by
    rw [Blk.cell HX0.out k]
    subst he
    rcases (by omega : k = 0 ∨ k = 1 ∨ k = 2) with rfl | rfl | rfl <;> rfl
   have HD : Hid (worseZ a b = if a = e ∨ b = e then e else worseL a b (errs.drop (k + 1))) := by
    show _ = _
    rw [HW.out]
    subst he
    rcases (by omega : k = 0 ∨ k = 1 ∨ k = 2) with rfl | rfl | rfl <;> rfl
   clear he HW
   by_cases ha : a = e
   ·have HR : Hid (worseZ a b = e) := by show _ = _; rw [HD.out, if_pos (.inl ha)]
    subst ha
    clear HD
    go_wp2_with fail
    go_ret
    rw [HR.out]
    exact ⟨rfl, HB0.out⟩
   ·have e1 : (a == e) = false := by simpa using ha
    by_cases hb : b = e
    ·have HR : Hid (worseZ a b = e) := by show _ = _; rw [HD.out, if_pos (.inr hb)]
     subst hb
     clear HD
     go_wp2_with fail
     go_ret
     rw [HR.out]
     exact ⟨rfl, HB0.out⟩
    ·have HR : Hid (worseZ a b = worseL a b (errs.drop (k + 1))) := by show _ = _; rw [HD.out, if_neg (by rintro (h | h); exact ha h; exact hb h)]
     have e2 : (b == e) = false := by simpa using hb
     clear HD
     go_wp2_with fail
     go_roundw
     case rel => first | exact ⟨k + 1, by omega, by go_num, by first | rfl | trivial, HR⟩ | ((repeat apply Exists.intro); exact ⟨⟨k + 1, by omega, by go_num, by first | rfl | trivial, HR⟩, rfl⟩)
     case measure => simp [intOf]; omega
  ·obtain rfl : k = 3 := by omega
   have HR : Hid (worseZ a b = 0) := HW.out
   go_wp2_with fail
   go_ret
   rw [HR.out]
   exact ⟨rfl, HB0.out⟩
end Go.Proofs.YtmpjdoiogbbcoaaGreatDoor
/- A commit without parents: its facts. -/
namespace Go.Proofs.YtmpjdoiogbbcoaaGreatDoor
open Go.RowKit Book Pap Ojt Sn Go.Deep
attribute [local go_sem] Oper.semAt_some
set_option linter.unusedVariables false
set_option linter.unusedSimpArgs false

def lenV : Value → Nat
 | .slice _ n _ => n
 | _ => 0
end Go.Proofs.YtmpjdoiogbbcoaaGreatDoor
