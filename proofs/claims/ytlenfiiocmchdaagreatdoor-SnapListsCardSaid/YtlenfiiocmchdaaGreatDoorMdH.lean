/- Texts in a row: SnD, SeqV, SnK, MkA, MkB, MkC, SwQ, MkD, MkE, LwA, LwB, MkF, MkG, AwP, LwC, LwD, InsF, FactM, InsStr, DelStr, Round. -/
import Derived.Test.YtlenfiiocmchdaaGreatDoorMdG
import Derived.RangeFuncBox
import Derived.RangeFuncLeaves
import Derived.Shelf.Abstract
import Derived.WalkKit
import Derived.OwnWalkIn
import Derived.TacticsInMore
import Derived.LoopNIn
import Derived.LoopIn
import Derived.Maps.AppendAt
import Derived.BigQuiet
import Derived.Lib.Strings
import Derived.Deep.AppendLies
import Derived.Deep.DeepFit
import Derived.Test.YtlenfiiocmchdaaGreatDoorChecked
import Derived.RegionTactic
import Derived.Shelf.RegionOpenPlain
import Derived.Lib.Walk
import Derived.Lib.SliceRun
import Derived.Lib.JoinLaws
import Derived.Lib.AppendZeros
import Derived.Lib.AppendZerosOnto
import Derived.Lib.Overlaps
import Derived.Laws.Externs
import Derived.Laws.IdiomCopy
import Derived.Laws.NewBlocks
import Derived.Deep.RegionLaw
import Derived.Lib.LazyBuf
import Derived.Deep.Quiet
import Derived.StillTail
import Derived.OrdersIn
import Derived.RangeFuncCalls
import Derived.ControlIn
/- Files built: build, Build. -/
namespace Go.Proofs.YtlenfiiocmchdaaGreatDoor
open Go.RowKit Book Pap Ojt Sn
set_option linter.unusedVariables false
set_option linter.unusedSimpArgs false

set_option maxRecDepth 100000 in
set_option maxHeartbeats 1000000 in
theorem splitF_any (s : ByteArray) (w : World) (hs : s.size < 4294967281) (hm : MaxAt w) :
    Calls Tryz.prog 54 #[.string s] w fun e w' => ∃ v, e = .returned (.tuple #[v, .int .i64 (splitE s.data.toList)]) ∧ SplitsC s v w' ∧ Below w.heap.size w w' ∧ ∀ k, v.ownBlock = some k → w.heap.size ≤ k := by
  obtain ⟨m, hm⟩ := hm
  have cS := Tryz.strings_Split s slash m w hs hm (by decide)
  have hlen : (Lib.splitB slash 0 (Lib.countB s slash) s).length = Lib.countB s slash + 1 := Lib.splitB_all slash (by decide) 0 _ s rfl
  have hls := splitB_pieces s
  have hcl := Lib.countB_le slash (by decide) s.size s (Nat.le_refl _)
  obtain ⟨l, hl⟩ : ∃ l, Lib.splitB slash 0 (Lib.countB s slash) s = l := ⟨_, rfl⟩
  rw [hl] at cS hlen hls
  obtain ⟨k, hk⟩ : ∃ k, Lib.countB s slash = k := ⟨_, rfl⟩
  rw [hk] at cS hlen hcl
  have hlm : l.length ≤ 9223372036854775807 := by omega
  have hS := strs_alloc w l 9 hlm
  have hbel : Below w.heap.size w (w.alloc (.cells (l.map Value.string).toArray 9)) := (Below.refl _ _).alloc (Nat.le_refl _) _
  rw [← hlen] at cS
  obtain ⟨w1, hw1⟩ : ∃ w1, w.alloc (.cells (l.map Value.string).toArray 9) = w1 := ⟨_, rfl⟩
  rw [hw1] at cS hS hbel
  obtain ⟨q, hq⟩ : ∃ q, w.heap.size = q := ⟨_, rfl⟩
  have hS' := hS
  rw [hq] at cS hS
  have cC := check_any (some ⟨q, 0, none⟩) l.length l.length l w1 hS
  have hE : checkE (ls l) = splitE s.data.toList := by unfold splitE ls; rw [hls]
  rw [hE] at cC
  have HL : Hid (ls l = pieces s.data.toList) := hls
  obtain ⟨E, hEE⟩ : ∃ E, splitE s.data.toList = E := ⟨_, rfl⟩
  rw [hEE] at cC
  have HEE := hid hEE
  have HQ : Hid (w.heap.size = q) := hq
  have CS := hid cS; have CC := hid cC
  clear cS cC hlen hls hl hk hcl hE hEE hw1 hm hS' hq
  by_cases h0 : E = 0
  · subst h0
    go_enter Tryz.func54, Tryz.ntmps54
    go_wp2_with (first
      | (go_at_call 98; refine CS.out.mono ?_; rintro e w2 ⟨rfl, hw⟩; obtain rfl := hw.symm)
      | (go_at_call 99; refine CC.out.mono ?_; rintro e w2 ⟨rfl, hb2⟩))
    go_ret2
    exact ⟨_, by rw [HEE.out]; rfl, ⟨_, l, rfl, hS.later hb2, by unfold namesOf; rw [if_pos HEE.out]; exact HL.out, fun h => absurd HEE.out h⟩, below_then hbel hb2, fun k hk => by cases hk; exact Nat.le_of_eq HQ.out⟩
  · have e1 : (E != 0) = true := by simpa using h0
    have e2 : (E == 0) = false := by simpa using h0
    have H0 := hid h0; clear h0
    go_enter Tryz.func54, Tryz.ntmps54
    go_wp2_with (first
      | (go_at_call 98; refine CS.out.mono ?_; rintro e w2 ⟨rfl, hw⟩; obtain rfl := hw.symm)
      | (go_at_call 99; refine CC.out.mono ?_; rintro e w2 ⟨rfl, hb2⟩))
    go_ret2
    exact ⟨_, by rw [HEE.out]; rfl, ⟨none, [], rfl, ⟨rfl, by simp, .inl rfl⟩, by unfold namesOf; rw [if_neg (by rw [HEE.out]; exact H0.out)]; rfl, fun _ => rfl⟩, below_then hbel hb2, fun k hk => by cases hk⟩

theorem bz_bl (s : ByteArray) : bz s.data.toList = s := ba_ext (by simp [bz])
theorem bl_bz (l : List UInt8) : (bz l).data.toList = l := by simp [bz]
theorem map_bz_inj {x y : List (List UInt8)} (h : x.map bz <+: y.map bz) : x <+: y := by
  obtain ⟨t, ht⟩ := h
  have e := congrArg (List.map (fun s : ByteArray => s.data.toList)) ht
  rw [List.map_append, List.map_map, List.map_map] at e
  have e1 : ∀ l : List (List UInt8), l.map ((fun s : ByteArray => s.data.toList) ∘ bz) = l := fun l => by
    conv => rhs; rw [← List.map_id l]
    exact List.map_congr_left (fun z _ => bl_bz z)
  rw [e1, e1] at e
  exact ⟨_, e⟩
theorem off_of {x y : List UInt8} (hx : splitE x = 0) (hy : splitE y = 0) (h : apart x y) : Off ((pieces x).map bz) ((pieces y).map bz) := by
  have key : ∀ {x y : List UInt8}, splitE x = 0 → splitE y = 0 → apart x y → ¬ (pieces x).map bz <+: (pieces y).map bz := by
    intro x y hx hy h hp
    have hp := map_bz_inj hp
    obtain ⟨h1, h2, h3⟩ := apart_off h
    rw [withinR_ok hx hy, decide_eq_false_iff_not] at h2
    have hl := hp.length_le
    have ht := List.prefix_iff_eq_take.1 hp
    by_cases he : (pieces x).length = (pieces y).length
    · apply h1
      rw [he, List.take_length] at ht
      rw [← join_pieces x, ← join_pieces y, ht]
    · exact h2 ⟨by omega, ht⟩
  exact ⟨key hx hy h, key hy hx (apart_symm h)⟩
theorem apt_of {fs : List Fi} (h : (checkR (ls (fs.map (·.path)))).2 = 0) : AptL (fs.map flOf) ∧ ∀ f ∈ fs, splitE f.path.data.toList = 0 := by
  obtain ⟨h1, h2⟩ := (checkR_ok _).1 h
  have hs : ∀ f ∈ fs, splitE f.path.data.toList = 0 := fun f hf => h1 _ (List.mem_map.2 ⟨f.path, List.mem_map.2 ⟨f, hf, rfl⟩, rfl⟩)
  refine ⟨⟨fun f hf => ?_, ?_⟩, hs⟩
  · obtain ⟨g, hg, rfl⟩ := List.mem_map.1 hf
    have := (check_pieces (hs g hg)).1
    intro e
    exact this (List.map_eq_nil_iff.1 e)
  · unfold ls at h2
    rw [List.map_map] at h2
    rw [List.pairwise_map]
    refine List.Pairwise.imp_of_mem ?_ (List.pairwise_map.1 h2)
    intro a b ha hb hab
    exact off_of (hs a ha) (hs b hb) hab
theorem checkF_ok {fs : List Fi} (h : checkF fs = 0) : fs.length ≤ 256 ∧ (checkR (ls (fs.map (·.path)))).2 = 0 := by
  unfold checkF at h
  split at h
  · cases h
  · rename_i h1
    split at h
    · cases h
    · exact ⟨by omega, h⟩
theorem piece_size {s : List UInt8} {p : List UInt8} (h : p ∈ pieces s) : p.length ≤ s.length := by
  have e := join_pieces s
  have key : ∀ l : List (List UInt8), p ∈ l → p.length ≤ (joinL l).length := by
    intro l
    induction l with
    | nil => intro h; cases h
    | cons a r ih =>
      intro h
      cases r with
      | nil =>
        rcases List.mem_cons.1 h with rfl | h
        · exact Nat.le_refl _
        · cases h
      | cons b t =>
        have e1 : joinL (a :: b :: t) = a ++ 47 :: joinL (b :: t) := rfl
        rw [e1, List.length_append, List.length_cons]
        rcases List.mem_cons.1 h with rfl | h
        · omega
        · have := ih h; omega
  have := key _ h
  rw [e] at this; exact this
/-- files built: the objects, the tree's id, the error -/
def buildS (fs : List Fi) : (List ByteArray × ByteArray) × Int := if checkF fs = 0 then (treeS 64 (fs.map flOf) [], 0) else (([], ByteArray.empty), checkF fs)
def BuildOut (w : World) (r : (List ByteArray × ByteArray) × Int) (e : Ending) (w' : World) : Prop :=
  Below w.heap.size w w' ∧ ((r.2 ≠ 0 ∧ e = .returned (.tuple #[.pointer none, .string ⟨#[]⟩, .int .i64 r.2])) ∨ (r.2 = 0 ∧ ∃ b m v, e = .returned (.tuple #[.pointer (some ⟨b, 0, none⟩), .string r.1.2, .int .i64 0]) ∧ BuAt w.heap.size w' b m v r.1.1))
theorem idsF_nil : idsF [] = fun _ => none := by
  funext s
  unfold idsF
  rw [if_neg (by rw [hasN_iff]; intro h; cases h)]
set_option maxRecDepth 100000 in
set_option maxHeartbeats 8000000 in
theorem build_any (a : Option Addr) (n c : Nat) (fs : List Fi) (w : World) (h : FisAt w a n fs) (hz : ∀ f ∈ fs, f.path.size < 4294967281 ∧ f.data.size ≤ 9223372036854775807) (hm : MaxAt w) :
    Calls Tryz.prog 71 #[.slice a n c] w (BuildOut w (buildS fs)) := by
  have HCK := hid (scheck_any a n c fs w h hz hm)
  have H := hid h
  have HL := hid h.1
  have HZ := hid hz
  have HM := hid hm
  clear h hz hm
  obtain ⟨E, hE⟩ : ∃ E, checkF fs = E := ⟨_, rfl⟩
  have HE := hid hE
  rw [hE] at HCK
  clear hE
  have hmk : ∀ (T : TypeId) (W : World), (Instr.makeMap T none).run Tryz.prog W = .ok (.map (some W.heap.size)) (W.alloc (.map #[] 0)) := fun T W => run_makeMap T W
  by_cases h0 : E = 0
  · subst h0
    obtain ⟨hn, hcr⟩ := checkF_ok HE.out
    obtain ⟨hapt, hsp⟩ := apt_of hcr
    have HAPT := hid hapt
    have HSP := hid hsp
    clear hapt hsp hcr
    have hn : n ≤ 256 := by rw [← HL.out]; exact hn
    have HNF := hid (fun W => newFolder_any 63 W)
    go_enter Tryz.func71, Tryz.ntmps71
    go_wp2_with fail
    refine HCK.out.mono ?_; rintro e w1 ⟨rfl, hb1⟩
    have HB1 := hid hb1
    clear hb1 HCK
    go_wp2_with fail
    refine (HNF.out w1).mono ?_; rintro e w2 ⟨bf, F0, rfl, hfo, hb2, hfr⟩
    have hs1 : w.heap.size ≤ w1.heap.size := HB1.out.size
    have HB2 : Hid (Below w.heap.size w w2) := HB1.out.trans (hb2.mono hs1)
    have HFO := hid hfo
    have HFR : Hid (∀ k, F0 k → w.heap.size ≤ k) := fun k hk => Nat.le_trans hs1 (hfr k hk)
    clear hfo hb2 hfr HNF HB1
    go_wp2_with fail
    go_loopw [20] (fun iv wr => ∃ (i : Nat) (F : Nat → Prop), i ≤ n ∧ iv = .int .i64 i ∧ Hid (FoAt 64 wr F bf ((fs.take i).map flOf)) ∧ Hid (Below w.heap.size w wr) ∧ Hid (∀ k, F k → w.heap.size ≤ k)) (fun iv _ => n - (intOf iv).toNat)
    case atStart => exact ⟨0, F0, Nat.zero_le _, rfl, HFO, HB2, HFR⟩
    case round =>
      obtain ⟨i, F, hi, rfl, HF, HB, HFk⟩ := hrel
      have hsz := HB.out.size
      by_cases hlt : i < n
      · have ci : (i : Int) < n := by omega
        have ci0 : (0 : Int) ≤ (i : Int) := by omega
        have h3 := (H.out.later HB.out).2.2
        obtain ⟨b, off, rfl, hc⟩ := h3.resolve_left (by omega)
        obtain ⟨q0, q1⟩ := hc i hlt
        have hl : i < fs.length := by rw [HL.out]; exact hlt
        have HT : Hid (fs.take (i + 1) = fs.take i ++ [fs.getD i noFi]) := by
          show _ = _
          rw [List.take_succ_eq_append_getElem hl, List.getD_eq_getElem?_getD, List.getElem?_eq_getElem hl]; rfl
        have HMM : fs.getD i noFi ∈ fs := by
          rw [List.getD_eq_getElem?_getD, List.getElem?_eq_getElem hl]; exact List.getElem_mem hl
        obtain ⟨x, hx⟩ : ∃ x, fs.getD i noFi = x := ⟨_, rfl⟩
        rw [hx] at q0 q1 HT HMM
        obtain ⟨p, dd⟩ := x
        have hps : p.size < 4294967281 := (HZ.out _ HMM).1
        have hsp : splitE p.data.toList = 0 := HSP.out _ HMM
        simp only at q0 q1
        clear hx hc hl HMM h3
        go_upto_region 8 with fail
        have HX1 : Hid (Blk (wr.alloc (.cells #[.string p, .string dd] 71)) wr.heap.size 71 #[.string p, .string dd]) := Blk.new wr _ _
        have HF1 : Hid (FoAt 64 (wr.alloc (.cells #[.string p, .string dd] 71)) F bf ((fs.take i).map flOf)) := HF.out.only ((Only.refl NoF _).alloc _) (fun _ _ e => e)
        have HB1 : Hid (Below w.heap.size w (wr.alloc (.cells #[.string p, .string dd] 71))) := HB.out.alloc hsz _
        have hsz1 : w.heap.size ≤ (wr.alloc (.cells #[.string p, .string dd] 71)).heap.size := by simp; omega
        clear q0 q1 HF HB
        generalize (wr.alloc (.cells #[.string p, .string dd] 71)) = w3 at HX1 HF1 HB1 hsz1 ⊢
        generalize wr.heap.size = g1 at HX1 ⊢
        have k0 : w3.cell? ⟨g1, 0, none⟩ = some (.string p) := Blk.cell HX1.out 0
        have HSF := hid (splitF_any p w3 hps (HM.out.later HB1.out))
        rw [hsp] at HSF
        have HSPE := hid hsp
        clear hsp
        go_wp2_with fail
        refine HSF.out.mono ?_; rintro e w4 ⟨v, rfl, ⟨na, l, rfl, hst, hls, -⟩, hb4, hfr4⟩
        have HX4 : Hid (Blk w4 g1 71 #[.string p, .string dd]) := (hb4.block g1 (Blk.lt HX1.out)).trans HX1.out
        have HF4 : Hid (FoAt 64 w4 F bf ((fs.take i).map flOf)) := HF1.out.only (Only.of_below hb4 NoF) (fun _ _ e => e)
        have HB4 : Hid (Below w.heap.size w w4) := HB1.out.trans (hb4.mono hsz1)
        have hpl : ls l = pieces p.data.toList := by rw [hls]; unfold namesOf; rw [if_pos HSPE.out]
        have hll : l = (pieces p.data.toList).map bz := by rw [← hpl, ls_back]
        have hlen := (check_pieces HSPE.out)
        have hll2 : l.length = (pieces p.data.toList).length := by rw [hll, List.length_map]
        have hl1 : 1 ≤ l.length := by rw [hll2]; exact List.length_pos_iff.2 hlen.1
        have hl64 : l.length ≤ 64 := by rw [hll2]; exact hlen.2.2
        obtain ⟨nb, noff, rfl⟩ : ∃ nb noff, na = some ⟨nb, noff, none⟩ := by
          obtain ⟨nb, noff, e, _⟩ := hst.2.2.resolve_left (by omega)
          exact ⟨nb, noff, e⟩
        have hnF : ¬ F nb := fun e => by
          have h1 := hfr4 nb rfl
          have h2 := HF1.out.lt nb e
          omega
        have HADD := hid (add_any 64 l dd nb noff l.length l.length bf ((fs.take i).map flOf) F w4 HF4.out hst (Nat.le_refl _) (by omega) hl1 hl64 (fun x hx => by
          rw [hll] at hx
          obtain ⟨q, hq, rfl⟩ := List.mem_map.1 hx
          have h1 := piece_size hq
          have h2 : (bz q).size = q.length := by unfold bz; simp [ByteArray.size]
          have h3 := bx_data p
          rw [h2]; omega) (by rw [List.length_map, List.length_take]; omega) hnF)
        have HT2 : Hid ((fs.take (i + 1)).map flOf = (fs.take i).map flOf ++ [(l, dd)]) := by
          show _ = _
          rw [HT.out, List.map_append]
          unfold flOf
          rw [hll]; rfl
        have k1 : w4.cell? ⟨g1, 1, none⟩ = some (.string dd) := Blk.cell HX4.out 1
        have hs4 : w.heap.size ≤ w4.heap.size := HB4.out.size
        clear k0 hst hls hb4 hfr4 hpl hll hlen hll2 hl1 hl64 hnF HSF HX1 HF1 HB1
        go_wp2_with fail
        refine HADD.out.mono ?_; rintro e w5 ⟨rfl, F', hf5, ho5, hk5⟩
        have HF5 : Hid (FoAt 64 w5 F' bf ((fs.take (i + 1)).map flOf)) := by
          show FoAt _ _ _ _ _
          rw [HT2.out]; exact hf5
        have HB5 : Hid (Below w.heap.size w w5) := HB4.out.trans (ho5.below (fun k hk => HFk.out k hk) hs4)
        have HF5k : Hid (∀ k, F' k → w.heap.size ≤ k) := fun k hk => (hk5 k hk).elim (fun e => HFk.out k e) (fun e => Nat.le_trans hs4 e)
        clear hf5 ho5 hk5 HADD
        go_wp2_with fail
        refine ⟨⟨i + 1, F', by omega, by go_num, HF5, HB5, HF5k⟩, ?_⟩
        simp [intOf]; omega
      · obtain rfl : i = n := by omega
        have ci : ¬ (i : Int) < i := by omega
        have hall : fs.take i = fs := List.take_of_length_le (by rw [HL.out]; exact Nat.le_refl _)
        have HFA : Hid (FoAt 64 wr F bf (fs.map flOf)) := by
          have h := HF.out
          rw [hall] at h; exact h
        clear HF hall
        obtain ⟨z, hz⟩ : ∃ z, wr.heap.size = z := ⟨_, rfl⟩
        have HZW := hid hz
        rw [hz] at hsz
        have HBU : Hid (BuAt w.heap.size ((wr.alloc (.map #[] 0)).alloc (.cells #[.slice none 0 0, .map (some z)] 138)) (z + 1) z (.slice none 0 0) []) := by
          have z1 : (wr.alloc (.map #[] 0)).heap.size = z + 1 := by rw [World.size_alloc, hz]
          refine ⟨?_, World.ownsRow_nil _ _ _ _, ?_, by omega, hsz⟩
          · have := Blk.new (wr.alloc (.map #[] 0)) 138 #[.slice none 0 0, .map (some z)]
            rw [z1] at this; exact this
          · have h : StrMap (wr.alloc (.map #[] 0)) wr.heap.size 0 (fun _ => none) := MapFn.made wr
            rw [hz] at h
            rw [idsF_nil]
            exact h.later ((Below.refl _ _).alloc (Nat.le_refl _) _)
        have HZ2 : Hid (((wr.alloc (.map #[] 0)).alloc (.cells #[.slice none 0 0, .map (some z)] 138)).heap.size = z + 2) := by
          show _ = _
          rw [World.size_alloc, World.size_alloc, hz]
        have HB2' : Hid (Below w.heap.size w ((wr.alloc (.map #[] 0)).alloc (.cells #[.slice none 0 0, .map (some z)] 138))) :=
          (HB.out.alloc (by rw [hz]; exact hsz) _).alloc (by rw [World.size_alloc, hz]; omega) _
        have HFA2 : Hid (FoAt 64 ((wr.alloc (.map #[] 0)).alloc (.cells #[.slice none 0 0, .map (some z)] 138)) F bf (fs.map flOf)) := HFA.out.only (((Only.refl NoF _).alloc _).alloc _) (fun _ _ e => e)
        have hfb : ∀ k, F k → k < z := fun k hk => by have := HFA.out.lt k hk; omega
        have hlen : ∀ f ∈ fs.map flOf, f.1.length ≤ 64 ∧ ∀ m ∈ f.1, m.size ≤ 9223372036854775807 := fun f hf => by
          obtain ⟨g, hg, rfl⟩ := List.mem_map.1 hf
          have h1 := check_pieces (HSP.out g hg)
          refine ⟨by unfold flOf; rw [List.length_map]; exact h1.2.2, fun m hm => ?_⟩
          obtain ⟨q, hq, rfl⟩ := List.mem_map.1 hm
          have h1 := piece_size hq
          have h2 : (bz q).size = q.length := by unfold bz; simp [ByteArray.size]
          have h3 := bx_data g.path
          have h4 := (HZ.out g hg).1
          rw [h2]; omega
        have hfl : (fs.map flOf).length ≤ 256 := by rw [List.length_map, HL.out]; omega
        have hfit : FitD 64 (fs.map flOf) := fitD_of 64 _ HAPT.out (fun f hf m hm => (hlen f hf).2 m hm)
        have hcnt : (treeS 64 (fs.map flOf) []).1.length ≤ 100000 := by
          have h1 := treeS_cnt 64 (fs.map flOf) []
          have h2 := wt_le (k := 64) (fs.map flOf) (fun f hf => (hlen f hf).1)
          simp only [List.length_nil, Nat.zero_add] at h1
          have h3 : (fs.map flOf).length * 64 ≤ 256 * 64 := Nat.mul_le_mul_right _ hfl
          omega
        have HTR := hid (tree_any w.heap.size (z + 1) z 64 (fs.map flOf) F bf [] (.slice none 0 0) ((wr.alloc (.map #[] 0)).alloc (.cells #[.slice none 0 0, .map (some z)] 138)) HFA2.out hfit (by omega) HBU.out (fun k hk e => by
          have h := hfb k hk
          rcases e with e | e | e
          · omega
          · omega
          · cases e) (by rw [HZ2.out]; omega) hcnt)
        have HRS : Hid (buildS fs = (treeS 64 (fs.map flOf) [], 0)) := by
          show _ = _
          unfold buildS; rw [if_pos HE.out]
        clear hlen hfl hfit hcnt hfb
        go_wp2_with fail
        refine HTR.out.mono ?_; rintro e w9 ⟨v9, rfl, hu9, ho9, -⟩
        have HU9 := hid hu9
        have HB9 : Hid (Below w.heap.size w w9) := HB2'.out.trans (ho9.below (fun k hk => by
          rcases hk with e | e | e
          · omega
          · omega
          · cases e) (by rw [HZ2.out]; omega))
        clear hu9 ho9 HTR
        go_wp2_with fail
        go_ret3
        rw [HRS.out]
        exact ⟨HB9.out, .inr ⟨rfl, _, _, _, rfl, HU9.out⟩⟩
  · have HRS : Hid (buildS fs = (([], ByteArray.empty), E)) := by
      show _ = _
      unfold buildS
      rw [HE.out, if_neg h0]
    go_enter Tryz.func71, Tryz.ntmps71
    go_wp2_with fail
    refine HCK.out.mono ?_; rintro e w1 ⟨rfl, hb1⟩
    go_wp2_with fail
    go_ret3
    rw [HRS.out]
    exact ⟨hb1, .inl ⟨h0, rfl⟩⟩
/-- files built, handed back: the objects, the tree's id, the error -/
def BuildOutL (w : World) (r : (List ByteArray × ByteArray) × Int) (e : Ending) (w' : World) : Prop :=
  Below w.heap.size w w' ∧ ∃ v, e = .returned (.tuple #[v, .string r.1.2, .int .i64 r.2]) ∧ w'.ownsRow w.heap.size 9 1 v r.1.1.length (svals r.1.1)
theorem buildS_err {fs : List Fi} (h : (buildS fs).2 ≠ 0) : buildS fs = (([], ByteArray.empty), (buildS fs).2) := by
  unfold buildS at *
  split
  · rename_i h1; rw [if_pos h1] at h; exact absurd rfl h
  · rfl
end Go.Proofs.YtlenfiiocmchdaaGreatDoor
/- slices.Sorted of slices.Values: texts sorted, in own memory. -/
namespace Go.Proofs.YtlenfiiocmchdaaGreatDoor
open Go.RowKit Go.Shelf Pap
attribute [local go_sem] Oper.semAt_some
set_option linter.unusedVariables false
set_option linter.unusedSimpArgs false

theorem take_snoc_get (zs : List ByteArray) {k : Nat} (hk : k < zs.length) : zs.take (k + 1) = zs.take k ++ [zs.getD k ByteArray.empty] := by
  rw [List.take_succ_eq_append_getElem hk, List.getD_eq_getElem?_getD, List.getElem?_eq_getElem hk]; rfl
set_option maxRecDepth 100000 in
set_option maxHeartbeats 2000000 in
theorem vals1_in (F : Fence) (n : Nat) (h7 : F.fn 122) (hro : F.round = none) (hn : 1 ≤ n) (l Bs n₀ : Nat) (a : Option Addr) (len cap : Nat) (zs : List ByteArray) (hl : zs.length = len) (hl2 : len ≤ 100000)
    (J Jx : List ByteArray → World → Prop)
    (hY : ∀ pre x W, J pre W → pre.length < len → YieldAt F (n - 1) Tryz.prog l #[.string x] W fun e W' =>
      (e = .returned (.bool true) ∧ J (pre ++ [x]) W' ∧ Below n₀ W W') ∨ (e = .returned (.bool false) ∧ Jx (pre ++ [x]) W'))
    (W : World) (hBs : W.cell? ⟨Bs, 0, none⟩ = some (.slice a len cap)) (hc : len = 0 ∨ ∃ b off, a = some ⟨b, off, none⟩ ∧ b < n₀ ∧ ∀ j, j < len → W.cell? ⟨b, off + j, none⟩ = some (.string (zs.getD j ByteArray.empty))) (h0 : J [] W) :
    CallsIn F n Tryz.prog 122 #[.func (.yield l) #[] #[], .pointer (some ⟨Bs, 0, none⟩)] W fun e W' => (∃ v, e = .returned v) ∧
      ((∃ ys, ys = zs ∧ J ys W') ∨ (∃ pre, pre <+: zs ∧ Jx pre W')) := by
  refine callsIn_of_wp Tryz.func122 rfl h7 ?_ hro
  simp only [Tryz.ntmps122, List.size_toArray, List.length_cons, List.length_nil, Nat.reduceAdd, Nat.reduceSub, Array.replicate_succ, Array.replicate_zero, List.push_toArray, List.append_toArray, List.nil_append, List.cons_append]
  gi_wp2
  gi_loopw [7] (fun i wr => ∃ k : Nat, k ≤ len ∧ i = .int .i64 k ∧ J (zs.take k) wr ∧ Below n₀ W wr)
    (fun i _ => len - (intOf i).toNat)
  case atStart => exact ⟨0, Nat.zero_le _, rfl, h0, Below.refl _ _⟩
  case round =>
    obtain ⟨k, hk, rfl, hJs, hnx⟩ := hrel
    by_cases hlt : k < len
    · obtain ⟨b, off, rfl, hb, hcs⟩ := hc.resolve_left (by omega)
      have hcx' := (hnx.cell (p := ⟨b, off + k, none⟩) hb).trans (hcs k hlt)
      have hsn := take_snoc_get zs (k := k) (by omega)
      obtain ⟨x, hx⟩ : ∃ x, zs.getD k ByteArray.empty = x := ⟨_, rfl⟩
      rw [hx] at hcx' hsn
      clear hx
      obtain ⟨fn, tmps, assign, body, hy, hR⟩ := hY _ x wr hJs (by rw [List.length_take]; omega)
      have ci : (k : Int) < len := by omega
      have ci0 : (0 : Int) ≤ (k : Int) := by omega
      gi_wp2
      refine hR.mono ?_
      rintro e W3 (⟨rfl, hJ3, hk3⟩ | ⟨rfl, hJx3⟩)
      · gi_wp2
        go_roundw
        case rel => exact ⟨k + 1, by omega, by simp, by rw [hsn]; exact hJ3, hnx.trans hk3⟩
        case measure => simp [intOf]; omega
      · gi_wp2
        refine bodyPost_ret (results_none rfl _ _ _) rfl ?_
        exact ⟨⟨_, rfl⟩, .inr ⟨_, by rw [← hsn]; exact List.take_prefix _ _, hJx3⟩⟩
    · obtain rfl : k = len := by omega
      gi_wp2
      go_end0
      exact ⟨⟨_, rfl⟩, .inl ⟨_, List.take_of_length_le (by omega), hJs⟩⟩
set_option maxHeartbeats 1000000 in
theorem vals_in (F : Fence) (n : Nat) (h5 : F.fn 74) (hro : F.round = none) (a : Option Addr) (len cap : Nat) (w : World) :
    CallsIn F n Tryz.prog 74 #[.slice a len cap] w fun e w' => e = .returned (.func (.func 122) #[] #[.pointer (some ⟨w.heap.size, 0, none⟩)]) ∧ w' = w.alloc (.cells #[.slice a len cap] 56) := by
  refine callsIn_of_wp Tryz.func74 rfl h5 ?_ hro
  simp only [Tryz.ntmps74, List.size_toArray, List.length_cons, List.length_nil, Nat.reduceAdd, Nat.reduceSub, Array.replicate_succ, Array.replicate_zero, List.push_toArray, List.append_toArray, List.nil_append, List.cons_append]
  gi_wp2
  go_ret
  exact ⟨rfl, rfl⟩
theorem vals_stops (F : Fence) (n : Nat) (h7 : F.fn 122) (hro : F.round = none) (hn : 1 ≤ n) (Bs : Nat) (a : Option Addr) (len cap : Nat) (zs : List ByteArray) (hl2 : len ≤ 100000) (n₀ : Nat) (w : World) (hn₀ : n₀ ≤ w.heap.size) (hBs : Bs < w.heap.size)
    (hc : w.cell? ⟨Bs, 0, none⟩ = some (.slice a len cap)) (hA : StrsAt w a len zs) (hAb : len = 0 ∨ ∀ b off, a = some ⟨b, off, none⟩ → b < n₀) :
    SeqStopsK F n Tryz.prog 122 #[.pointer (some ⟨Bs, 0, none⟩)] (fun x : ByteArray => #[Value.string x]) (Below n₀) (fun ys => ys = zs) (fun pre => pre <+: zs) zs.length w := fun l J Jx W hW _ _ hY h0 => by
  obtain ⟨h1, h2, h3⟩ := hA
  refine vals1_in F n h7 hro hn l Bs n₀ a len cap zs h1 hl2 J Jx (by rw [← h1]; exact hY) W ((hW.cell (p := ⟨Bs, 0, none⟩) hBs).trans hc) ?_ h0
  by_cases h0 : len = 0
  · exact .inl h0
  · obtain ⟨b, off, rfl, hcs⟩ := h3.resolve_left h0
    exact .inr ⟨b, off, rfl, hAb.resolve_left h0 b off rfl, fun j hj => (hW.cell (p := ⟨b, off + j, none⟩) (World.block_lt_of_cell? w _ (hcs j hj))).trans (hcs j hj)⟩
set_option maxRecDepth 100000 in
set_option maxHeartbeats 2000000 in
theorem appseq_in (F : Fence) (n : Nat) (h3 : F.fn 180) (h5 : F.fn 122) (hro : F.round = none) (hn : 3 ≤ n) (Bs : Nat) (a : Option Addr) (len cap : Nat) (zs : List ByteArray) (hl2 : len ≤ 100000) (w : World) (hBs : Bs < w.heap.size)
    (hc : w.cell? ⟨Bs, 0, none⟩ = some (.slice a len cap)) (hA : StrsAt w a len zs) :
    CallsIn F n Tryz.prog 180 #[.slice none 0 0, .func (.func 122) #[] #[.pointer (some ⟨Bs, 0, none⟩)]] w fun e W' => ∃ v, e = .returned v ∧ W'.ownsRow w.heap.size 9 1 v zs.length (svals zs) ∧ Below w.heap.size w W' := by
  have h1 : 1 ≤ n := by omega
  have hzl := hA.1
  obtain ⟨i0, hi, hz0, hz1, hz2⟩ := info_parts Tryz.infoS
  refine callsIn_of_wp_marks Tryz.func180 rfl h3 ?_ hro
  simp only [Tryz.ntmps180, List.size_toArray, List.length_cons, List.length_nil, Nat.reduceAdd, Nat.reduceSub, Array.replicate_succ, Array.replicate_zero, List.push_toArray, List.append_toArray, List.nil_append, List.cons_append]
  gi_wp2
  have bO := Boxed.new w 56 (.slice none 0 0)
  have hB0 : Below w.heap.size w (w.alloc (.cells #[.slice none 0 0] 56)) := (Below.refl _ w).alloc (Nat.le_refl _) _
  have hA1 : StrsAt (w.alloc (.cells #[.slice none 0 0] 56)) a len zs := hA.later hB0
  have hAb : len = 0 ∨ ∀ b off, a = some ⟨b, off, none⟩ → b < w.heap.size := by
    by_cases h0 : len = 0
    · exact .inl h0
    · obtain ⟨b, off, rfl, hcs⟩ := hA.2.2.resolve_left h0
      refine .inr fun b' off' e => ?_
      cases e
      exact World.block_lt_of_cell? w _ (hcs 0 (by omega))
  refine wpIn_rangeFunc_ownG hro h1 (gf := 122) (lb := #[.pointer (some ⟨Bs, 0, none⟩)]) rfl h5 (enters_of Tryz.func122 (by kernel_rfl) rfl)
    (vals_stops F (n - 1) h5 hro (by omega) Bs a len cap zs hl2 w.heap.size _ (by simp) (by simp; omega) ((hB0.cell (p := ⟨Bs, 0, none⟩) hBs).trans hc) hA1 hAb) belowK_t (belowK_b (by simp)) (Below.refl _ _) (fun _ => rfl)
    (fun pre W => (∃ v, Boxed W w.heap.size 56 v ∧ W.ownsRow w.heap.size 9 1 v pre.length (svals pre) ∧ True) ∧ Below w.heap.size w W)
    (fun _ _ _ => False)
    (OwnFrom.and (Own.from (holdsRow_own w.heap.size w.heap.size 56 9 1 (fun pre : List ByteArray => pre.length) (fun pre => svals pre) (fun pre v => True)) _) (ownFrom_below (Nat.le_refl _) (by simp)))
    (fun _ _ _ _ _ hs _ _ => hs)
    ⟨⟨_, bO, World.ownsRow_nil _ _ _ _, trivial⟩, hB0⟩
    (fun x => { tmps := #[.slice none 0 0, .func (.func 122) #[] #[.pointer (some ⟨Bs, 0, none⟩)], .pointer (some ⟨w.heap.size, 0, none⟩), undef, .slice none 0 0, .string x, .func (.func 122) #[] #[.pointer (some ⟨Bs, 0, none⟩)], .string x, undef, undef, undef, undef, undef], defers := [] }) ?assign ?body ?done ?stop
  case assign =>
    intro l x W K hK
    gi_wp2
    exact hK
  case body =>
    rintro l pre x W ⟨⟨v, hv, hrow, -⟩, hB⟩ hlt
    have hc := hv.cell
    have hsz := hB.size
    gi_wp2_with (gi_at_builtin; refine wpListIn_append_own _ rfl _ _ 56 rfl w.heap.size 9 i0 (.string ⟨#[]⟩) 1 16 Tryz.underlying56 hi hz0 hz1 hz2 rfl (by decide) _ _ _ rfl (hrow.alloc _) ⟨W.heap.size, 0, none⟩ 1 1 [.string x] rfl rfl (cell_one_new _ _ _) (by simp [Value.oneCell']) (by unfold maxLen; omega) (by omega) (by simp; omega) ?_; intro v' w1 hown' hgrow _; obtain ⟨g', cap', rfl⟩ := ownsRow_succ hown'; obtain ⟨hv1, hv2, hr2, hk2, hb2⟩ := hv.appended (by decide) hrow hB.size (Nat.le_refl _) hown' hgrow; have hc1 := hv1.cell; have hf1 := hv1.frozen)
    refine ⟨hk2.from _, hb2, ⟨_, hv2, ?_, trivial⟩, hB.trans hb2⟩
    rw [svals_append, List.length_append]; exact hr2
  case done =>
    rintro D ys W hD rfl ⟨⟨v, hv, hrow, -⟩, hB⟩ hK
    have hc := hv.cell
    gi_wp2
    refine ⟨by simp, .inl ⟨_, _, rfl, run_takeDeferred hK, ?_⟩⟩
    exact ⟨_, results_tmp rfl _ _ _, v, rfl, ownsRow_putObj hrow _ hK rfl, hB.trans (belowK_b (w := w) (Nat.le_refl _) W D _ _ (by simp at hD; omega) hK rfl rfl)⟩
  case stop =>
    rintro D c pre W _ _ h _
    exact h.elim
set_option maxHeartbeats 1000000 in
theorem collect_in (F : Fence) (n : Nat) (h8 : F.fn 121) (h3 : F.fn 180) (h5 : F.fn 122) (hro : F.round = none) (hn : 4 ≤ n) (Bs : Nat) (a : Option Addr) (len cap : Nat) (zs : List ByteArray) (hl2 : len ≤ 100000) (w : World) (hBs : Bs < w.heap.size)
    (hc : w.cell? ⟨Bs, 0, none⟩ = some (.slice a len cap)) (hA : StrsAt w a len zs) :
    CallsIn F n Tryz.prog 121 #[.func (.func 122) #[] #[.pointer (some ⟨Bs, 0, none⟩)]] w fun e W' => ∃ v, e = .returned v ∧ W'.ownsRow w.heap.size 9 1 v zs.length (svals zs) ∧ Below w.heap.size w W' := by
  have h1 : 1 ≤ n := by omega
  refine callsIn_of_wp Tryz.func121 rfl h8 ?_ hro
  simp only [Tryz.ntmps121, List.size_toArray, List.length_cons, List.length_nil, Nat.reduceAdd, Nat.reduceSub, Array.replicate_succ, Array.replicate_zero, List.push_toArray, List.append_toArray, List.nil_append, List.cons_append]
  gi_wp2_with (gi_at_call 180; refine (appseq_in F (n - 1) h3 h5 hro (by omega) Bs a len cap zs hl2 w hBs hc hA).mono ?_; rintro e w' ⟨v, rfl, hrow, hb⟩)
  go_ret
  exact ⟨v, rfl, hrow, hb⟩
theorem collect_any (Bs : Nat) (a : Option Addr) (len cap : Nat) (zs : List ByteArray) (hl2 : len ≤ 100000) (w : World) (hBs : Bs < w.heap.size) (hc : w.cell? ⟨Bs, 0, none⟩ = some (.slice a len cap)) (hA : StrsAt w a len zs) :
    Calls Tryz.prog 121 #[.func (.func 122) #[] #[.pointer (some ⟨Bs, 0, none⟩)]] w fun e W' => ∃ v, e = .returned v ∧ W'.ownsRow w.heap.size 9 1 v zs.length (svals zs) ∧ Below w.heap.size w W' :=
  callsIn_wide.1 (collect_in Fence.wide 4 trivial trivial trivial rfl (by omega) Bs a len cap zs hl2 w hBs hc hA)
/-- slices.Values, plain -/
theorem vals_any (a : Option Addr) (len cap : Nat) (w : World) :
    Calls Tryz.prog 74 #[.slice a len cap] w fun e w' => e = .returned (.func (.func 122) #[] #[.pointer (some ⟨w.heap.size, 0, none⟩)]) ∧ w' = w.alloc (.cells #[.slice a len cap] 56) :=
  callsIn_wide.1 (vals_in Fence.wide 1 trivial rfl a len cap w)
set_option maxHeartbeats 1000000 in
theorem sorted_any (Bs : Nat) (a : Option Addr) (len cap : Nat) (zs : List ByteArray) (hl2 : len ≤ 100000) (w : World) (hBs : Bs < w.heap.size) (hc : w.cell? ⟨Bs, 0, none⟩ = some (.slice a len cap)) (hA : StrsAt w a len zs) :
    Calls Tryz.prog 73 #[.func (.func 122) #[] #[.pointer (some ⟨Bs, 0, none⟩)]] w fun e W' => ∃ v, e = .returned v ∧ W'.ownsRow w.heap.size 9 1 v zs.length (svals (sortB zs)) ∧ Below w.heap.size w W' := by
  have HC := hid (collect_any Bs a len cap zs hl2 w hBs hc hA)
  have HL := hid hA.1
  clear hc hA
  go_enter Tryz.func73, Tryz.ntmps73
  go_wp2_with fail
  refine HC.out.mono ?_; rintro e w1 ⟨v, rfl, ho, hb⟩
  have HB := hid hb
  have HO := hid ho
  have HS := hid (sort_own ho (by have := HL.out; omega))
  clear ho hb
  go_wp2_with fail
  refine HS.out.mono ?_; rintro e w2 ⟨rfl, ho2, hg2⟩
  have HO2 := hid ho2
  have HB2 : Hid (Below w.heap.size w w2) := HB.out.grown hg2 HB.out.size (fun j hj => (HO.out.lt j hj).1)
  clear ho2 hg2
  go_wp2_with fail
  go_ret
  exact ⟨_, rfl, HO2.out, HB2.out⟩
end Go.Proofs.YtlenfiiocmchdaaGreatDoor
/- A commit made: Commit. -/
namespace Go.Proofs.YtlenfiiocmchdaaGreatDoor
open Go.RowKit Book Pap Ojt Sn
set_option linter.unusedVariables false
set_option linter.unusedSimpArgs false

theorem buildS_len (fs : List Fi) : (buildS fs).1.1.length ≤ 16385 := by
  unfold buildS
  split
  · rename_i h
    obtain ⟨h1, h2⟩ := checkF_ok h
    have hs := (apt_of h2).2
    have h3 := treeS_cnt 64 (fs.map flOf) []
    have h4 := wt_le (k := 64) (fs.map flOf) (fun f hf => by
      obtain ⟨g, hg, rfl⟩ := List.mem_map.1 hf
      have := check_pieces (hs g hg)
      unfold flOf; rw [List.length_map]; exact this.2.2)
    simp only [List.length_nil, Nat.zero_add] at h3
    rw [List.length_map] at h4
    have h5 : fs.length * 64 ≤ 256 * 64 := Nat.mul_le_mul_right _ h1
    simp only; omega
  · exact Nat.zero_le _
theorem NumsAt.later {w w' : World} {a : Option Addr} {n : Nat} {l : List Int} (h : NumsAt w a n l) (hb : Below w.heap.size w w') : NumsAt w' a n l := by
  obtain ⟨h1, h3⟩ := h
  refine ⟨h1, h3.imp id ?_⟩
  rintro ⟨b, off, ha, hc⟩
  exact ⟨b, off, ha, fun j hj => (hb.cell (World.block_lt_of_cell? w _ (hc j hj))).trans (hc j hj)⟩
def commitOf (tree : ByteArray) (ps : List ByteArray) (h : Int) (note : ByteArray) : Ob := { zero with kind := 3, tree := tree, pars := ps, height := h, note := note }
/-- a commit made: the objects, its id, the error -/
def commitS (G : Sw.Src) (fs : List Fi) (ps : List ByteArray) (note : ByteArray) : (List ByteArray × ByteArray) × Int :=
  if (buildS fs).2 ≠ 0 then (([], ByteArray.empty), (buildS fs).2)
  else if (highS G ps).2 ≠ 0 then (([], ByteArray.empty), (highS G ps).2)
  else if 1073741824 < heightL (highS G ps).1 then (([], ByteArray.empty), 41)
  else if 1000 < note.size then (([], ByteArray.empty), 5)
  else (layS (buildS fs).1.1 (commitOf (buildS fs).1.2 (sortB ps) (heightL (highS G ps).1) note), 0)
theorem heightL_bd {zs : List Int} (h : ∀ z ∈ zs, 0 ≤ z ∧ z ≤ 1073741824) : 0 ≤ heightL zs ∧ heightL zs ≤ 1073741825 := by
  by_cases h0 : zs = []
  · subst h0; show (0 : Int) ≤ 0 ∧ (0 : Int) ≤ _; omega
  · rw [heightL_eq zs h0]
    have := h _ (maxOf_mem zs h0)
    omega
set_option maxRecDepth 100000 in
set_option maxHeartbeats 8000000 in
theorem commit_any (t : TypeId) (rv : Value) (G : Sw.Src) (hz : SrcSz G) (a : Option Addr) (n c : Nat) (fs : List Fi) (pa : Option Addr) (pn pc : Nat) (ps : List ByteArray) (note : ByteArray) (w : World) (hs : SrcAt w t rv G)
    (hF : FisAt w a n fs) (hfz : ∀ f ∈ fs, f.path.size < 4294967281 ∧ f.data.size ≤ 9223372036854775807) (hP : StrsAt w pa pn ps) (hnote : note.size ≤ 9223372036854775807) (hm : MaxAt w) :
    Calls Tryz.prog 32 #[.iface t rv, .slice a n c, .slice pa pn pc, .string note] w (BuildOutL w (commitS G fs ps note)) := by
  have HB := hid (build_any a n c fs w hF hfz hm)
  have HER := hid (fun h => buildS_err (fs := fs) h)
  have HLEN := hid (buildS_len fs)
  have HCM : Hid (commitS G fs ps note = if (buildS fs).2 ≠ 0 then (([], ByteArray.empty), (buildS fs).2)
    else if (highS G ps).2 ≠ 0 then (([], ByteArray.empty), (highS G ps).2)
    else if 1073741824 < heightL (highS G ps).1 then (([], ByteArray.empty), 41)
    else if 1000 < note.size then (([], ByteArray.empty), 5)
    else (layS (buildS fs).1.1 (commitOf (buildS fs).1.2 (sortB ps) (heightL (highS G ps).1) note), 0)) := rfl
  have HS := hid hs
  have HP := hid hP
  clear hs hP hF hfz hm
  obtain ⟨⟨⟨L, tr⟩, E⟩, hr⟩ : ∃ r, buildS fs = r := ⟨_, rfl⟩
  rw [hr] at HB HER HLEN HCM
  clear hr
  go_enter Tryz.func32, Tryz.ntmps32
  go_wp2_with fail
  refine HB.out.mono ?_; rintro e w1 ⟨hb, ⟨h0, rfl⟩ | ⟨h0, b, m, v, rfl, hu⟩⟩
  · have h0 : E ≠ 0 := h0
    have HB1 := hid hb
    have HC : Hid (commitS G fs ps note = (([], ByteArray.empty), E)) := by
      show _ = _
      rw [HCM.out, if_pos h0]
    clear HER hb HB HCM
    go_wp2_with fail
    go_ret3
    rw [HC.out]
    exact ⟨HB1.out, _, rfl, World.ownsRow_nil _ _ _ _⟩
  · have h0 : E = 0 := h0
    subst h0
    have HB1 := hid hb
    have HU := hid hu
    have hs1 : w.heap.size ≤ w1.heap.size := hb.size
    have HH := hid (heights_any t rv G hz pa pn pc ps w1 (HS.out.later hb) (HP.out.later hb))
    have HCM2 : Hid (commitS G fs ps note = if (highS G ps).2 ≠ 0 then (([], ByteArray.empty), (highS G ps).2)
      else if 1073741824 < heightL (highS G ps).1 then (([], ByteArray.empty), 41)
      else if 1000 < note.size then (([], ByteArray.empty), 5)
      else (layS L (commitOf tr (sortB ps) (heightL (highS G ps).1) note), 0)) := by
      show _ = _
      rw [HCM.out, if_neg (by simp)]
    obtain ⟨⟨zs, E2⟩, hhr⟩ : ∃ r, highS G ps = r := ⟨_, rfl⟩
    have HHR := hid hhr
    rw [hhr] at HH HCM2
    clear HER hb hu HB HCM hhr
    go_wp2_with fail
    refine HH.out.mono ?_; rintro e w2 ⟨za, zn, zc, rfl, hN, hb2, hz8, hzb⟩
    have HN := hid hN
    have HZB := hid hzb
    have HB2 : Hid (Below w.heap.size w w2) := HB1.out.trans (hb2.mono hs1)
    have HU2 := hid (HU.out.below hb2)
    have hs2 : w.heap.size ≤ w2.heap.size := Nat.le_trans hs1 hb2.size
    clear hN hb2 hzb HH HU HB1 hs1
    by_cases he : E2 = 0
    · subst he
      have HCM3 : Hid (commitS G fs ps note = if 1073741824 < heightL zs then (([], ByteArray.empty), 41)
        else if 1000 < note.size then (([], ByteArray.empty), 5)
        else (layS L (commitOf tr (sortB ps) (heightL zs) note), 0)) := by
        show _ = _
        rw [HCM2.out, if_neg (by simp)]
      have hpn : pn ≤ 8 := by
        have h := HHR.out
        have h1 := HP.out.1
        unfold highS at h
        split at h
        · cases h
        · omega
      have HV := hid (vals_any pa pn pc w2)
      have hb3 : Below w2.heap.size w2 (w2.alloc (.cells #[.slice pa pn pc] 56)) := (Below.refl _ _).alloc (Nat.le_refl _) _
      have HP2 : StrsAt w2 pa pn ps := HP.out.later HB2.out
      have HSO := hid (sorted_any w2.heap.size pa pn pc ps (by omega) (w2.alloc (.cells #[.slice pa pn pc] 56)) (by simp) (Blk.cell (Blk.new w2 56 #[.slice pa pn pc]) 0) (HP2.later hb3))
      have HHT := hid (fun W (hW : NumsAt W za zn zs) => objheight_any za zn zc zs W hW (by omega) (fun z hz => by have := HZB.out z hz; omega))
      have HHB := hid (heightL_bd HZB.out)
      obtain ⟨h, hh⟩ : ∃ h, heightL zs = h := ⟨_, rfl⟩
      rw [hh] at HCM3 HHT HHB
      have HB3 : Hid (Below w.heap.size w (w2.alloc (.cells #[.slice pa pn pc] 56))) := HB2.out.trans (hb3.mono hs2)
      have HU3 := hid (HU2.out.below hb3)
      have HN3 := hid (HN.out.later hb3)
      have hs3 : w.heap.size ≤ (w2.alloc (.cells #[.slice pa pn pc] 56)).heap.size := by rw [World.size_alloc]; omega
      clear hb3 HP2 HZB hh HCM2 HHR HB2 HU2 HN hs2
      go_wp2_with fail
      refine HV.out.mono ?_; rintro e w3 ⟨rfl, rfl⟩
      generalize hw3 : w2.alloc (.cells #[.slice pa pn pc] 56) = w3 at HSO HB3 HU3 HN3 hs3 ⊢
      clear HV
      go_wp2_with fail
      refine HSO.out.mono ?_; rintro e w4 ⟨pv, rfl, hpo, hb4⟩
      have HPO := hid hpo
      have HB4 : Hid (Below w.heap.size w w4) := HB3.out.trans (hb4.mono hs3)
      have HU4 := hid (HU3.out.below hb4)
      have HHT4 := hid (HHT.out w4 (HN3.out.later hb4))
      have hs4 : w.heap.size ≤ w4.heap.size := HB4.out.size
      clear hpo hb4 HSO HB3 HU3 HN3 hs3 HHT hw3
      go_wp2_with fail
      refine HHT4.out.mono ?_; rintro e w4' ⟨rfl, rfl⟩
      have hpsl : (sortB ps).length = ps.length := sortB_length ps
      have hpst : ∃ qa qc, pv = .slice qa ps.length qc ∧ StrsAt w4 qa ps.length (sortB ps) ∧ ps.length ≤ qc := by
        have h := HPO.out
        rw [← hpsl] at h
        obtain ⟨qa, qc, e, hst⟩ := own_strs h (by have := HP.out.1; omega)
        obtain ⟨qa', qc', e', hq⟩ := own_slice' h
        rw [e] at e'
        injection e' with _ _ e3
        subst e3
        rw [hpsl] at e hst hq
        exact ⟨qa, qc, e, hst, hq⟩
      obtain ⟨qa, qc, rfl, hst, hqc⟩ := hpst
      have HST := hid hst
      have hhb1 := HHB.out.1
      have hhb2 := HHB.out.2
      clear hst hpsl HHT4 HPO
      have HX5 : Hid (Blk (w4.alloc (.cells #[.int .i64 3, .string ⟨#[]⟩, .slice none 0 0, .string tr, .slice qa ps.length qc, .int .i64 h, .string note] 103)) w4.heap.size 103 #[.int .i64 3, .string ⟨#[]⟩, .slice none 0 0, .string tr, .slice qa ps.length qc, .int .i64 h, .string note]) := Blk.new w4 _ _
      have hb5 : Below w4.heap.size w4 (w4.alloc (.cells #[.int .i64 3, .string ⟨#[]⟩, .slice none 0 0, .string tr, .slice qa ps.length qc, .int .i64 h, .string note] 103)) := (Below.refl _ _).alloc (Nat.le_refl _) _
      have HB5 : Hid (Below w.heap.size w (w4.alloc (.cells #[.int .i64 3, .string ⟨#[]⟩, .slice none 0 0, .string tr, .slice qa ps.length qc, .int .i64 h, .string note] 103))) := HB4.out.trans (hb5.mono hs4)
      have HU5 := hid (HU4.out.below hb5)
      have HST5 := hid (HST.out.later hb5)
      clear hb5 HU4 HB4 HST
      go_upto_region 8 with fail
      generalize (w4.alloc (.cells #[.int .i64 3, .string ⟨#[]⟩, .slice none 0 0, .string tr, .slice qa ps.length qc, .int .i64 h, .string note] 103)) = w5 at HX5 HB5 HU5 HST5 ⊢
      generalize w4.heap.size = g5 at HX5 ⊢
      have k0 : w5.cell? ⟨g5, 0, none⟩ = some (.int .i64 3) := Blk.cell HX5.out 0
      have k1 : w5.cell? ⟨g5, 1, none⟩ = some (.string ⟨#[]⟩) := Blk.cell HX5.out 1
      have k2 : w5.cell? ⟨g5, 2, none⟩ = some (.slice none 0 0) := Blk.cell HX5.out 2
      have k3 : w5.cell? ⟨g5, 3, none⟩ = some (.string tr) := Blk.cell HX5.out 3
      have k4 : w5.cell? ⟨g5, 4, none⟩ = some (.slice qa ps.length qc) := Blk.cell HX5.out 4
      have k5 : w5.cell? ⟨g5, 5, none⟩ = some (.int .i64 h) := Blk.cell HX5.out 5
      have k6 : w5.cell? ⟨g5, 6, none⟩ = some (.string note) := Blk.cell HX5.out 6
      by_cases hhi : 1073741824 < h
      · have HC : Hid (commitS G fs ps note = (([], ByteArray.empty), 41)) := by
          show _ = _
          rw [HCM3.out, if_pos hhi]
        go_wp2_with fail
        go_ret3
        rw [HC.out]
        exact ⟨HB5.out, _, rfl, World.ownsRow_nil _ _ _ _⟩
      · by_cases hno : 1000 < note.size
        · have HC : Hid (commitS G fs ps note = (([], ByteArray.empty), 5)) := by
            show _ = _
            rw [HCM3.out, if_neg hhi, if_pos hno]
          have hno1 : (1000 : Int) < (note.size : Int) := by omega
          go_wp2_with fail
          go_ret3
          rw [HC.out]
          exact ⟨HB5.out, _, rfl, World.ownsRow_nil _ _ _ _⟩
        · have HC : Hid (commitS G fs ps note = (layS L (commitOf tr (sortB ps) h note), 0)) := by
            show _ = _
            rw [HCM3.out, if_neg hhi, if_neg hno]
          have hno1 : ¬ (1000 : Int) < (note.size : Int) := by omega
          have HLA : Hid (Calls Tryz.prog 76 #[.pointer (some ⟨b, 0, none⟩), .agg #[.int .i64 3, .string ⟨#[]⟩, .slice none 0 0, .string tr, .slice qa ps.length qc, .int .i64 h, .string note]] w5 (LayOut w.heap.size w5 b m v (layS L (commitOf tr (sortB ps) h note)))) :=
            lay_any w.heap.size b m v L (commitOf tr (sortB ps) h note) (.slice none 0 0) (.slice qa ps.length qc) w5 HU5.out ⟨none, 0, 0, qa, ps.length, qc, rfl, ⟨rfl, by omega, .inl rfl⟩, rfl, HST5.out⟩
              ⟨by show (-9223372036854775808 : Int) ≤ 3 ∧ (3 : Int) ≤ _; omega, by show (-9223372036854775808 : Int) ≤ h ∧ h ≤ _; omega, Nat.zero_le _⟩ (fun a n c e => by cases e; exact hqc) (Nat.le_trans HLEN.out (by omega))
          obtain ⟨⟨L9, id9⟩, hl9⟩ : ∃ r, layS L (commitOf tr (sortB ps) h note) = r := ⟨_, rfl⟩
          rw [hl9] at HC HLA
          clear hl9 HCM3 HST5
          go_wp2_with fail
          refine HLA.out.mono ?_; rintro e w9 ⟨v9, rfl, hu9, ho9, -⟩
          have HU9 := hid hu9
          have HB9 : Hid (Below w.heap.size w w9) := by
            have h1 : Below w.heap.size w5 w9 := ho9.below (fun k hk => by
              rcases hk with e | e | e
              · subst e; exact HU5.out.2.2.2.1
              · subst e; exact HU5.out.2.2.2.2
              · exact (HU5.out.2.1.lt k e).1) HB5.out.size
            exact HB5.out.trans h1
          have q0 : w9.cell? ⟨b, 0, none⟩ = some v9 := Blk.cell hu9.1 0
          clear hu9 ho9 HLA k0 k1 k2 k3 k4 k5 k6
          go_wp2_with fail
          go_ret3
          rw [HC.out]
          exact ⟨HB9.out, _, rfl, HU9.out.2.1⟩
    · have HC : Hid (commitS G fs ps note = (([], ByteArray.empty), E2)) := by
        show _ = _
        rw [HCM2.out, if_pos he]
      clear HCM2 HHR
      go_wp2_with fail
      go_ret3
      rw [HC.out]
      exact ⟨HB2.out, _, rfl, World.ownsRow_nil _ _ _ _⟩
end Go.Proofs.YtlenfiiocmchdaaGreatDoor
/- Objects there and back (plain): what is encoded decodes to itself; an id looked up. -/
namespace Go.Proofs.YtlenfiiocmchdaaGreatDoor
open Go.RowKit Book Pap Ojt Sn
set_option linter.unusedVariables false
set_option linter.unusedSimpArgs false

theorem idOf_size (t : ByteArray) : (Sw.idOf t).size = 32 := by
  have := Sha.shaL_len t.data.toList
  unfold Sw.idOf bz
  simp [ByteArray.size, this]
end Go.Proofs.YtlenfiiocmchdaaGreatDoor
/- A folder's tree: its id, the texts of its objects; the order of files plays no part (plain). -/
namespace Go.Proofs.YtlenfiiocmchdaaGreatDoor
open Go.RowKit Book Pap Ojt Sn
set_option linter.unusedVariables false
set_option linter.unusedSimpArgs false

def leafT (fs : List Fl) (n : ByteArray) : ByteArray := encP (blobOf ((leafs fs n).getD ByteArray.empty))
/-- one name's entry -/
def entOf (rec : List Fl → ByteArray) (fs : List Fl) (n : ByteArray) : Ent :=
  if sub n fs = [] then ⟨n, 1, Sw.idOf (leafT fs n)⟩ else ⟨n, 2, rec (sub n fs)⟩
/-- a folder's tree's id -/
def tid : Nat → List Fl → ByteArray
  | 0, fs => ByteArray.empty
  | d + 1, fs => Sw.idOf (encP (treeOf ((namesF fs).map (entOf (tid d) fs))))
def tents (d : Nat) (fs : List Fl) : List Ent := (namesF fs).map (entOf (tid d) fs)
def textOf (rec : List Fl → List ByteArray) (fs : List Fl) (n : ByteArray) : List ByteArray := if sub n fs = [] then [leafT fs n] else rec (sub n fs)
/-- the texts of a folder's objects -/
def texts : Nat → List Fl → List ByteArray
  | 0, fs => []
  | d + 1, fs => (namesF fs).flatMap (textOf (texts d) fs) ++ [encP (treeOf (tents d fs))]
/-! order -/
/-! depth -/
end Go.Proofs.YtlenfiiocmchdaaGreatDoor
/- A folder's files in the order of their paths; a tree gone over gives them back (plain). -/
namespace Go.Proofs.YtlenfiiocmchdaaGreatDoor
open Go.RowKit Book Pap Ojt Sn
set_option linter.unusedVariables false
set_option linter.unusedSimpArgs false

def under (n : ByteArray) (f : Fl) : Fl := (n :: f.1, f.2)
theorem subOf_of {n : ByteArray} {a : List ByteArray} {x : ByteArray} (ha : a ≠ []) : subOf n (n :: a, x) = some (a, x) := by
  cases a with
  | nil => exact absurd rfl ha
  | cons b r => unfold subOf; simp
theorem mem_sub_iff {n : ByteArray} {fs : List Fl} {g : Fl} : g ∈ sub n fs ↔ g.1 ≠ [] ∧ under n g ∈ fs := by
  constructor
  · intro h
    obtain ⟨f, hf, h1, h2, h3⟩ := mem_sub h
    refine ⟨h2, ?_⟩
    have : under n g = f := by unfold under; rw [← h1, ← h3]
    rw [this]; exact hf
  · rintro ⟨h1, h2⟩
    exact List.mem_filterMap.2 ⟨_, h2, subOf_of h1⟩
/-! files that can be -/
def GoodFl (fs : List Fl) : Prop := ∀ f ∈ fs, (∀ n ∈ f.1, goodL n.data.toList = true) ∧ f.2.size ≤ 65536
theorem GoodFl.sub {fs : List Fl} (h : GoodFl fs) (n : ByteArray) : GoodFl (Sn.sub n fs) := fun f hf => by
  have h1 := h _ (mem_sub_iff.1 hf).2
  exact ⟨fun m hm => h1.1 m (List.mem_cons_of_mem _ hm), h1.2⟩
end Go.Proofs.YtlenfiiocmchdaaGreatDoor
/- What comes leaves all closed (layer 14): plain Lean. -/
namespace Go.Proofs.YtlenfiiocmchdaaGreatDoor.Sw
open Go.RowKit Book Ojt
set_option linter.unusedVariables false

/-- a source that holds at least what another one holds -/
def Ext (G H : Src) : Prop := ∀ id t, G id = some t → H id = some t
theorem Ext.refl (G : Src) : Ext G G := fun _ _ h => h
theorem Ext.trans {G H K : Src} (h1 : Ext G H) (h2 : Ext H K) : Ext G K := fun id t h => h2 id t (h1 id t h)
/-! one source's items -/
/-- items that are texts of some under their digests -/
def Own (T : List ByteArray) (s : List It) : Prop := ∀ x ∈ s, x.data ∈ T ∧ idOf x.data = x.id
theorem Own.nil (T : List ByteArray) : Own T [] := fun _ h => by cases h
/-! items put by their ids -/
end Go.Proofs.YtlenfiiocmchdaaGreatDoor.Sw
/- Files in the order of their paths; the same tree, the same files (plain). -/
namespace Go.Proofs.YtlenfiiocmchdaaGreatDoor
open Go.RowKit Book Pap Ojt Sn
set_option linter.unusedVariables false
set_option linter.unusedSimpArgs false

def insF : List Fi → Fi → List Fi
  | [], f => [f]
  | g :: r, f => if compareR f.path.data.toList g.path.data.toList < 0 then f :: g :: r else g :: insF r f
/-- files in the order of their paths, as the law sorts them -/
def sortF (l : List Fi) : List Fi := l.foldl insF []
theorem insF_perm : ∀ (l : List Fi) (f : Fi), (insF l f).Perm (f :: l)
  | [], f => List.Perm.refl _
  | g :: r, f => by
    unfold insF
    split
    · exact List.Perm.refl _
    · exact ((insF_perm r f).cons g).trans (List.Perm.swap f g r)
theorem sortF_perm (l : List Fi) : (sortF l).Perm l := by
  suffices h : ∀ (l acc : List Fi), (l.foldl insF acc).Perm (l ++ acc) by
    have := h l []
    rw [List.append_nil] at this; exact this
  intro l
  induction l with
  | nil => intro acc; exact List.Perm.refl _
  | cons f r ih =>
    intro acc
    rw [List.foldl_cons]
    refine (ih _).trans ?_
    refine ((insF_perm acc f).append_left r).trans ?_
    exact List.perm_middle
def LtF (f g : Fi) : Prop := cmpP (pieces f.path.data.toList) (pieces g.path.data.toList) = -1
theorem insF_sorted : ∀ (l : List Fi) (f : Fi), splitE f.path.data.toList = 0 → (∀ g ∈ l, splitE g.path.data.toList = 0) → (∀ g ∈ l, g.path ≠ f.path) → l.Pairwise LtF → (insF l f).Pairwise LtF
  | [], f, _, _, _, _ => List.pairwise_singleton _ _
  | g :: r, f, hf, hl, hne, hp => by
    obtain ⟨h1, h2⟩ := List.pairwise_cons.1 hp
    have hg := hl g (List.mem_cons_self ..)
    have hcr : compareR f.path.data.toList g.path.data.toList = cmpP (pieces f.path.data.toList) (pieces g.path.data.toList) := by
      unfold compareR; rw [if_pos ⟨hf, hg⟩]
    unfold insF
    rw [hcr]
    split
    · rename_i hlt
      have hlt : LtF f g := by
        unfold LtF
        rcases cmpP_range (pieces f.path.data.toList) (pieces g.path.data.toList) with e | e | e <;> omega
      refine List.pairwise_cons.2 ⟨fun x hx => ?_, hp⟩
      rcases List.mem_cons.1 hx with rfl | hx
      · exact hlt
      · exact cmpP_trans _ _ _ hlt (h1 x hx)
    · rename_i hlt
      refine List.pairwise_cons.2 ⟨fun x hx => ?_, insF_sorted r f hf (fun x hx => hl x (List.mem_cons_of_mem _ hx)) (fun x hx => hne x (List.mem_cons_of_mem _ hx)) h2⟩
      rcases List.mem_cons.1 ((insF_perm r f).mem_iff.1 hx) with rfl | hx
      · unfold LtF
        have h3 := cmpP_neg (pieces x.path.data.toList) (pieces g.path.data.toList)
        rcases cmpP_range (pieces x.path.data.toList) (pieces g.path.data.toList) with e | e | e
        · omega
        · exfalso
          have := pieces_inj (cmpP_zero _ _ e)
          exact hne g (List.mem_cons_self ..) (ba_ext this.symm)
        · omega
      · exact h1 x hx
theorem sortF_sorted {l : List Fi} (hs : ∀ f ∈ l, splitE f.path.data.toList = 0) (hp : l.Pairwise (fun f g => f.path ≠ g.path)) : (sortF l).Pairwise LtF := by
  suffices h : ∀ (l acc : List Fi), (∀ f ∈ l, splitE f.path.data.toList = 0) → l.Pairwise (fun f g => f.path ≠ g.path) → (∀ f ∈ acc, splitE f.path.data.toList = 0) → (∀ f ∈ acc, ∀ g ∈ l, f.path ≠ g.path) → acc.Pairwise LtF → (l.foldl insF acc).Pairwise LtF by
    exact h l [] hs hp (fun f hf => by cases hf) (fun f hf => by cases hf) List.Pairwise.nil
  intro l
  induction l with
  | nil => intro acc _ _ _ _ h; exact h
  | cons f r ih =>
    intro acc hl hp ha hn h
    obtain ⟨p1, p2⟩ := List.pairwise_cons.1 hp
    rw [List.foldl_cons]
    refine ih _ (fun x hx => hl x (List.mem_cons_of_mem _ hx)) p2 (fun x hx => ?_) (fun x hx y hy => ?_) (insF_sorted acc f (hl f (List.mem_cons_self ..)) ha (fun g hg => hn g hg f (List.mem_cons_self ..)) h)
    · rcases List.mem_cons.1 ((insF_perm acc f).mem_iff.1 hx) with rfl | hx
      · exact hl _ (List.mem_cons_self ..)
      · exact ha x hx
    · rcases List.mem_cons.1 ((insF_perm acc f).mem_iff.1 hx) with rfl | hx
      · exact p1 y hy
      · exact hn x hx y (List.mem_cons_of_mem _ hy)
/-! files that can be a snapshot -/
structure OkFs (fs : List Fi) : Prop where
  few : fs.length ≤ 256
  split : ∀ f ∈ fs, splitE f.path.data.toList = 0
  off : fs.Pairwise (fun f g => apart f.path.data.toList g.path.data.toList)
  size : ∀ f ∈ fs, f.data.size ≤ 65536
theorem OkFs.len {fs : List Fi} (h : OkFs fs) : ∀ f ∈ fs.map flOf, f.1.length ≤ 64 := fun f hf => by
  obtain ⟨g, hg, rfl⟩ := List.mem_map.1 hf
  have := (check_pieces (h.split g hg)).2.2
  unfold flOf
  rw [List.length_map]; exact this
theorem OkFs.sorted {fs : List Fi} (h : OkFs fs) : (sortF fs).Pairwise LtF :=
  sortF_sorted h.split (h.off.imp (fun {a b} h e => h.1 (by rw [e])))
def blobEnt (f : Fi) : Ent := ⟨f.path, 1, Sw.idOf (encP (blobOf f.data))⟩
end Go.Proofs.YtlenfiiocmchdaaGreatDoor
/- What stands at a path of a tree; the files of a folder (plain). -/
namespace Go.Proofs.YtlenfiiocmchdaaGreatDoor
open Go.RowKit Book Pap Ojt Sn
set_option linter.unusedVariables false
set_option linter.unusedSimpArgs false

/-! files of a folder -/
end Go.Proofs.YtlenfiiocmchdaaGreatDoor
/- Layer 15's laws: whether items or files are more than is asked: vast, great. -/
namespace Go.Proofs.YtlenfiiocmchdaaGreatDoor
open Go.RowKit Book Pap Ojt Sn
set_option linter.unusedVariables false
set_option linter.unusedSimpArgs false

def sumF (l : List Fi) : Nat := (l.map (fun f : Fi => f.path.size + f.data.size)).sum
theorem sumF_snoc (l : List Fi) (f : Fi) : sumF (l ++ [f]) = sumF l + (f.path.size + f.data.size) := by unfold sumF; simp
/-- true, or no more than is asked -/
def MuchOut (m n : Nat) (fs : List Fi) (w : World) (e : Ending) (w' : World) : Prop := ∃ r : Bool, e = .returned (.bool r) ∧ Below w.heap.size w w' ∧ (r = false → n ≤ 60 ∧ sumF fs ≤ m)
set_option maxRecDepth 100000 in
set_option maxHeartbeats 4000000 in
theorem vast_any (a : Option Addr) (n c : Nat) (fs : List Fi) (w : World) (h : FisAt w a n fs) (hz : ∀ f ∈ fs, f.path.size ≤ 140737488355328 ∧ f.data.size ≤ 140737488355328) :
    Calls Tryz.prog 11 #[.slice a n c] w (MuchOut 262144 n fs w) := by
  obtain ⟨h1, h2, h3⟩ := h
  have HL := hid h1
  have HZ := hid hz
  clear hz
  by_cases hbig : 60 < n
  · have ci : (60 : Int) < n := by omega
    go_enter Tryz.func11, Tryz.ntmps11
    go_wp2_with fail
    go_ret
    exact ⟨true, rfl, Below.refl _ _, fun h => by cases h⟩
  have ci : ¬ (60 : Int) < n := by omega
  go_enter Tryz.func11, Tryz.ntmps11
  go_wp2_with fail
  clear ci
  go_loopw [3, 4] (fun sv iv wr => ∃ i s : Nat, i ≤ n ∧ iv = .int .i64 i ∧ sv = .int .i64 s ∧ s ≤ 1048576 ∧ Hid (sumF (fs.take i) = s) ∧ Hid (Below w.heap.size w wr)) (fun _ iv _ => n - (intOf iv).toNat)
  case atStart => exact ⟨0, 0, Nat.zero_le _, rfl, rfl, by omega, rfl, Below.refl _ _⟩
  case round =>
    obtain ⟨i, s, hi, rfl, rfl, hs, HS, HB⟩ := hrel
    by_cases hlt : i < n
    · obtain ⟨b, off, rfl, hc⟩ := h3.resolve_left (by omega)
      have ci : (i : Int) < n := by omega
      have ci0 : (0 : Int) ≤ (i : Int) := by omega
      obtain ⟨k0, k1⟩ := hc i hlt
      have bl : b < w.heap.size := World.block_lt_of_cell? w _ k0
      have q0 := (HB.out.cell (p := ⟨b, off + i * 2, none⟩) bl).trans k0
      have q1 := (HB.out.cell (p := ⟨b, off + i * 2 + 1, none⟩) bl).trans k1
      have hl : i < fs.length := by rw [HL.out]; exact hlt
      have HT : Hid (fs.take (i + 1) = fs.take i ++ [fs.getD i noFi]) := by
        show _ = _
        rw [List.take_succ_eq_append_getElem hl, List.getD_eq_getElem?_getD, List.getElem?_eq_getElem hl]; rfl
      have HMM : fs.getD i noFi ∈ fs := by
        rw [List.getD_eq_getElem?_getD, List.getElem?_eq_getElem hl]; exact List.getElem_mem hl
      obtain ⟨x, hx⟩ : ∃ x, fs.getD i noFi = x := ⟨_, rfl⟩
      rw [hx] at q0 q1 HT HMM
      obtain ⟨p, dd⟩ := x
      obtain ⟨hp1, hp2⟩ := HZ.out _ HMM
      simp only at q0 q1 hp1 hp2
      clear hx k0 k1 hc hl HMM
      have e1 : IntKind.i64.wrap ((p.size : Int) + dd.size) = (p.size : Int) + dd.size := by rw [IntKind.wrap_i64]; omega
      have e2 : IntKind.i64.wrap ((s : Int) + ((p.size : Int) + dd.size)) = (s : Int) + ((p.size : Int) + dd.size) := by rw [IntKind.wrap_i64]; omega
      have HS2 : Hid (sumF (fs.take (i + 1)) = s + (p.size + dd.size)) := by
        show _ = _
        rw [HT.out, sumF_snoc, HS.out]
      by_cases hgt : 1048576 < s + (p.size + dd.size)
      · have g1 : (1048576 : Int) < (s : Int) + ((p.size : Int) + dd.size) := by omega
        go_upto_region 7 with fail
        go_region
        all_goals
          go_wp2_with fail
          go_ret
          exact ⟨true, rfl, by first | exact HB.out | exact HB.out.drew, fun h => by cases h⟩
      · have g1 : ¬ (1048576 : Int) < (s : Int) + ((p.size : Int) + dd.size) := by omega
        go_upto_region 7 with fail
        go_region
        all_goals
          go_wp2_with fail
          refine ⟨⟨i + 1, s + (p.size + dd.size), by omega, by go_num, by push_cast; rfl, by omega, HS2, by first | exact HB.out | exact HB.out.drew⟩, ?_⟩
          simp [intOf]; omega
    · obtain rfl : i = n := by omega
      have ci : ¬ (i : Int) < i := by omega
      have hall : fs.take i = fs := List.take_of_length_le (by rw [HL.out]; exact Nat.le_refl _)
      have HSA : Hid (sumF fs = s) := by have h := HS.out; rw [hall] at h; exact h
      clear HS hall
      by_cases hf : 262144 < s
      · have g1 : (262144 : Int) < (s : Int) := by omega
        go_wp2_with fail
        go_ret
        exact ⟨true, rfl, HB.out, fun h => by cases h⟩
      · have g1 : ¬ (262144 : Int) < (s : Int) := by omega
        go_wp2_with fail
        go_ret
        exact ⟨false, rfl, HB.out, fun _ => ⟨by omega, by rw [HSA.out]; omega⟩⟩
end Go.Proofs.YtlenfiiocmchdaaGreatDoor
/- Layer 15's laws: a Book as a source; ref14.Get. -/
namespace Go.Proofs.YtlenfiiocmchdaaGreatDoor
open Go.RowKit Book Pap Ojt Sn
set_option linter.unusedVariables false
set_option linter.unusedSimpArgs false

/-- the bytes of an id in a list of items -/
def getF (l : List Fi) : Sw.Src := fun id => (l.find? (fun f => decide (f.path = id))).map (·.data)
theorem getF_hit {l : List Fi} {k : Nat} {id : ByteArray} (hk : k < l.length) (h : ∀ j, j < k → (l.getD j noFi).path ≠ id) (hp : (l.getD k noFi).path = id) : getF l id = some (l.getD k noFi).data := by
  induction l generalizing k with
  | nil => simp at hk
  | cons f r ih =>
    cases k with
    | zero =>
      have hp : f.path = id := hp
      show ((f :: r).find? _).map _ = _
      rw [List.find?_cons_of_pos (by simp [hp])]; rfl
    | succ k =>
      have h0 : f.path ≠ id := h 0 (by omega)
      show ((f :: r).find? _).map _ = _
      rw [List.find?_cons_of_neg (by simp [h0])]
      exact ih (k := k) (by simp only [List.length_cons] at hk; omega) (fun j hj => h (j + 1) (by omega)) hp
theorem getF_miss {l : List Fi} {id : ByteArray} (h : ∀ j, j < l.length → (l.getD j noFi).path ≠ id) : getF l id = none := by
  induction l with
  | nil => rfl
  | cons f r ih =>
    have h0 : f.path ≠ id := h 0 (by simp)
    show ((f :: r).find? _).map _ = _
    rw [List.find?_cons_of_neg (by simp [h0])]
    exact ih (fun j hj => h (j + 1) (by simp only [List.length_cons]; omega))
set_option maxRecDepth 100000 in
set_option maxHeartbeats 4000000 in
theorem r14get_any (a : Option Addr) (n c : Nat) (fs : List Fi) (id : ByteArray) (w : World) (h : FisAt w a n fs) :
    Calls Tryz.prog 67 #[.slice a n c, .string id] w (GetOut (getF fs) id w) := by
  obtain ⟨h1, h2, h3⟩ := h
  have HL := hid h1
  go_enter Tryz.func67, Tryz.ntmps67
  go_wp2_with fail
  go_loopw [6] (fun iv wr => ∃ i : Nat, i ≤ n ∧ iv = .int .i64 i ∧ w = wr ∧ Hid (∀ j, j < i → (fs.getD j noFi).path ≠ id)) (fun iv _ => n - (intOf iv).toNat)
  case atStart => exact ⟨0, Nat.zero_le _, rfl, rfl, fun j hj => by omega⟩
  case round =>
    obtain ⟨i, hi, rfl, rfl, HN⟩ := hrel
    by_cases hlt : i < n
    · obtain ⟨b, off, rfl, hc⟩ := h3.resolve_left (by omega)
      have ci : (i : Int) < n := by omega
      have ci0 : (0 : Int) ≤ (i : Int) := by omega
      obtain ⟨q0, q1⟩ := hc i hlt
      have hl : i < fs.length := by rw [HL.out]; exact hlt
      obtain ⟨x, hx⟩ : ∃ x, fs.getD i noFi = x := ⟨_, rfl⟩
      rw [hx] at q0 q1
      have HX := hid hx
      obtain ⟨p, dd⟩ := x
      simp only at q0 q1
      clear hx hc
      by_cases he : p = id
      · have HR : Hid (getF fs id = some dd) := by
          have h := getF_hit (id := id) hl HN.out (by rw [HX.out]; exact he)
          rw [HX.out] at h; exact h
        have e1 : (p.toList == id.toList) = true := by rw [he]; simp
        clear hl he
        go_wp2_with fail
        go_ret2
        unfold GetOut
        rw [HR.out]
        exact ⟨rfl, Below.refl _ _⟩
      · have e1 : (p.toList == id.toList) = false := by
          rw [ba_toList, ba_toList, beq_eq_false_iff_ne]
          exact fun e => he (ba_ext e)
        have HN2 : Hid (∀ j, j < i + 1 → (fs.getD j noFi).path ≠ id) := fun j hj => by
          by_cases hji : j = i
          · subst hji; rw [HX.out]; exact he
          · exact HN.out j (by omega)
        clear hl he
        go_wp2_with fail
        go_roundw
        case rel => first | exact ⟨i + 1, by omega, by go_num, by first | rfl | trivial, HN2⟩ | ((repeat apply Exists.intro); exact ⟨⟨i + 1, by omega, by go_num, by first | rfl | trivial, HN2⟩, rfl⟩)
        case measure => simp [intOf]; omega
    · obtain rfl : i = n := by omega
      have ci : ¬ (i : Int) < i := by omega
      have HR : Hid (getF fs id = none) := getF_miss (fun j hj => HN.out j (by rw [← HL.out]; exact hj))
      go_wp2_with fail
      go_ret2
      unfold GetOut
      rw [HR.out]
      exact ⟨rfl, Below.refl _ _⟩
/-- a Book in memory -/
def BookAt (w : World) (bb : Nat) (fs : List Fi) : Prop := ∃ a n c, Blk w bb 31 #[.slice a n c] ∧ FisAt w a n fs
theorem BookAt.later {w w' : World} {bb : Nat} {fs : List Fi} (h : BookAt w bb fs) (hb : Below w.heap.size w w') : BookAt w' bb fs := by
  obtain ⟨a, n, c, h1, h2⟩ := h
  exact ⟨a, n, c, (hb.block bb (Blk.lt h1)).trans h1, h2.later hb⟩
theorem bookget_any (bb : Nat) (fs : List Fi) (id : ByteArray) (w : World) (h : BookAt w bb fs) :
    Calls Tryz.prog 306 #[.pointer (some ⟨bb, 0, none⟩), .string id] w (GetOut (getF fs) id w) := by
  obtain ⟨a, n, c, h1, h2⟩ := h
  have k0 : w.cell? ⟨bb, 0, none⟩ = some (.slice a n c) := Blk.cell h1 0
  have HG := hid (r14get_any a n c fs id w h2)
  clear h1 h2
  go_enter Tryz.func306, Tryz.ntmps306
  go_wp2_with fail
  refine HG.out.mono ?_; rintro e w1 ⟨rfl, hb⟩
  have HB := hid hb
  clear hb
  go_wp2_with fail
  go_ret2
  exact ⟨rfl, HB.out⟩
theorem book_src (bb : Nat) (fs : List Fi) (w : World) (h : BookAt w bb fs) : SrcAt w 29 (.pointer (some ⟨bb, 0, none⟩)) (getF fs) :=
  ⟨306, .pointer (some ⟨bb, 0, none⟩), fun W => by kernel_rfl, enters_of Tryz.func306 (by kernel_rfl) rfl, fun id W hW => bookget_any bb fs id W (h.later hW)⟩
end Go.Proofs.YtlenfiiocmchdaaGreatDoor
/- The statement on folders, plain: what stands at a folder's path is the tree of the files in it. -/
namespace Go.Proofs.YtlenfiiocmchdaaGreatDoor
open Go.RowKit Book Pap Ojt Sn
set_option linter.unusedVariables false
set_option linter.unusedSimpArgs false

/-! objects as items -/
def itemsS (l : List ByteArray) : List Fi := l.map (fun t => ⟨Sw.idOf t, t⟩)
end Go.Proofs.YtlenfiiocmchdaaGreatDoor
/- The statement on differences, plain: put on the first one's files they give the second one's; turned round they are turned. -/
namespace Go.Proofs.YtlenfiiocmchdaaGreatDoor
open Go.RowKit Book Pap Ojt Sn
set_option linter.unusedVariables false
set_option linter.unusedSimpArgs false

/-- the id of a name -/
def idl (l : List Ent) (q : ByteArray) : Option ByteArray := (l.find? (fun e => decide (e.name = q))).map (·.id)
def wasOf (l : List Ent) (q : ByteArray) : ByteArray := (idl l q).getD ByteArray.empty
theorem idl_hit {y : Ent} {r : List Ent} {q : ByteArray} (h : y.name = q) : idl (y :: r) q = some y.id := by
  unfold idl; rw [List.find?_cons_of_pos (by simp [h])]; rfl
theorem idl_miss {y : Ent} {r : List Ent} {q : ByteArray} (h : y.name ≠ q) : idl (y :: r) q = idl r q := by
  unfold idl; rw [List.find?_cons_of_neg (by simp [h])]
theorem idl_none {l : List Ent} {q : ByteArray} : idl l q = none ↔ q ∉ l.map (·.name) := by
  induction l with
  | nil => simp [idl]
  | cons y r ih =>
    by_cases h : y.name = q
    · rw [idl_hit h]; simp [h]
    · rw [idl_miss h, ih, List.map_cons, List.mem_cons]
      exact ⟨fun h1 e => e.elim (fun e => h e.symm) h1, fun h1 e => h1 (.inr e)⟩
theorem tabA_val : ∀ (l : List Ent) (f : ByteArray → Option Ch) (q : ByteArray), (l.map (·.name)).Nodup → l.foldl putA f q = match idl l q with | some i => some ⟨q, i, ByteArray.empty⟩ | none => f q
  | [], f, q, _ => rfl
  | y :: r, f, q, h => by
    rw [List.map_cons] at h
    obtain ⟨h1, h2⟩ := List.nodup_cons.1 h
    rw [List.foldl_cons, tabA_val r _ q h2]
    by_cases hq : y.name = q
    · subst hq
      rw [idl_none.2 h1, idl_hit rfl]
      show putA f y y.name = _
      unfold putA; rw [if_pos rfl]
    · rw [idl_miss hq]
      cases idl r q with
      | some i => rfl
      | none =>
        show putA f y q = f q
        unfold putA; rw [if_neg (fun e => hq e.symm)]
theorem tabB_val : ∀ (l : List Ent) (f : ByteArray → Option Ch) (q : ByteArray), (l.map (·.name)).Nodup → l.foldl putB f q = match idl l q with | some i => some ⟨q, ((f q).getD noCh).was, i⟩ | none => f q
  | [], f, q, _ => rfl
  | y :: r, f, q, h => by
    rw [List.map_cons] at h
    obtain ⟨h1, h2⟩ := List.nodup_cons.1 h
    rw [List.foldl_cons, tabB_val r _ q h2]
    by_cases hq : y.name = q
    · subst hq
      rw [idl_none.2 h1, idl_hit rfl]
      show putB f y y.name = _
      unfold putB; rw [if_pos rfl]
    · rw [idl_miss hq]
      have e : putB f y q = f q := by unfold putB; rw [if_neg (fun e => hq e.symm)]
      rw [e]
theorem tab_iff {l m : List Ent} (hl : (l.map (·.name)).Nodup) (hm : (m.map (·.name)).Nodup) (c : Ch) :
    (tabD l m c.path = some c ∧ c.was ≠ c.is) ↔ (c.was = wasOf l c.path ∧ c.is = wasOf m c.path ∧ c.was ≠ c.is) := by
  obtain ⟨p, wa, is⟩ := c
  simp only
  unfold tabD wasOf
  rw [tabB_val m _ p hm, tabA_val l _ p hl]
  cases hm1 : idl m p with
  | some i =>
    cases hl1 : idl l p with
    | some j =>
      constructor
      · rintro ⟨h1, h3⟩
        have h1 : (⟨p, j, i⟩ : Ch) = ⟨p, wa, is⟩ := Option.some.inj h1
        injection h1 with _ e1 e2
        exact ⟨e1.symm, e2.symm, h3⟩
      · rintro ⟨h1, h2, h3⟩
        subst h1; subst h2
        exact ⟨rfl, h3⟩
    | none =>
      constructor
      · rintro ⟨h1, h3⟩
        have h1 : (⟨p, ByteArray.empty, i⟩ : Ch) = ⟨p, wa, is⟩ := Option.some.inj h1
        injection h1 with _ e1 e2
        exact ⟨e1.symm, e2.symm, h3⟩
      · rintro ⟨h1, h2, h3⟩
        subst h1; subst h2
        exact ⟨rfl, h3⟩
  | none =>
    cases hl1 : idl l p with
    | some j =>
      constructor
      · rintro ⟨h1, h3⟩
        have h1 : (⟨p, j, ByteArray.empty⟩ : Ch) = ⟨p, wa, is⟩ := Option.some.inj h1
        injection h1 with _ e1 e2
        exact ⟨e1.symm, e2.symm, h3⟩
      · rintro ⟨h1, h2, h3⟩
        subst h1; subst h2
        exact ⟨rfl, h3⟩
    | none =>
      constructor
      · rintro ⟨h1, h3⟩
        cases h1
      · rintro ⟨h1, h2, h3⟩
        exact absurd (h1.trans h2.symm) h3
theorem diff_mem {l m : List Ent} {D : List Ch} (hl : (l.map (·.name)).Nodup) (hm : (m.map (·.name)).Nodup) (h : IsDiff l m D) (c : Ch) : c ∈ D ↔ (c.was = wasOf l c.path ∧ c.is = wasOf m c.path ∧ c.was ≠ c.is) :=
  (h.2 c).trans (tab_iff hl hm c)
def Full (l : List Ent) : Prop := ∀ y ∈ l, y.id.size = 32
theorem OkFs.full {fs : List Fi} : Full ((sortF fs).map blobEnt) := fun y hy => by
  obtain ⟨f, -, rfl⟩ := List.mem_map.1 hy
  exact idOf_size _
theorem OkFs.names {fs : List Fi} (h : OkFs fs) : ∀ y ∈ (sortF fs).map blobEnt, splitE y.name.data.toList = 0 := fun y hy => by
  obtain ⟨f, hf, rfl⟩ := List.mem_map.1 hy
  exact h.split f ((sortF_perm fs).mem_iff.1 hf)
end Go.Proofs.YtlenfiiocmchdaaGreatDoor
/- What awake() asks, plain: reckoned by the kernel. -/
namespace Go.Proofs.YtlenfiiocmchdaaGreatDoor
open Go.RowKit Book Pap Ojt Sn
set_option linter.unusedVariables false
set_option linter.unusedSimpArgs false

def awF : List Fi := [⟨⟨#[98]⟩, ⟨#[50]⟩⟩, ⟨⟨#[97, 47, 120]⟩, ⟨#[49]⟩⟩]
def awR : (List ByteArray × ByteArray) × Int := commitS (getF []) awF [] ⟨#[110]⟩
def awL : List ByteArray := awR.1.1
def awI : ByteArray := awR.1.2
def awG : Sw.Src := getF (itemsS awL)
theorem aw_err : awR.2 = 0 := by decide +kernel
theorem aw_len : awL.length = 5 := by decide +kernel
theorem aw_0 : awL.getD 0 ByteArray.empty = ⟨#[1, 49]⟩ := by decide +kernel
theorem aw_2 : awL.getD 2 ByteArray.empty = ⟨#[1, 50]⟩ := by decide +kernel
theorem aw_sz : ∀ s ∈ awL, s.size ≤ 1000 := by decide +kernel
theorem aw_id : awI.size = 32 := by decide +kernel
theorem aw_files : filesS awG awI = ([⟨⟨#[97, 47, 120]⟩, ⟨#[49]⟩⟩, ⟨⟨#[98]⟩, ⟨#[50]⟩⟩], 0) := by decide +kernel
theorem aw_find : (findS awG awI ⟨#[97, 47, 120]⟩).2 = 0 ∧ (findS awG awI ⟨#[97, 47, 120]⟩).1.name = ⟨#[120]⟩ := by decide +kernel
theorem aw_look : (lookK awG awI 3 21).2 = 0 ∧ (lookK awG awI 3 21).1.pars = [] ∧ (lookK awG awI 3 21).1.height = 0 := by decide +kernel
theorem aw_list : (listS awG awI).2 = 0 := by decide +kernel
theorem aw_none : (filesS awG ⟨#[120]⟩).2 = 12 := by decide +kernel
theorem aw_names : ((listS awG awI).1.map (fun e => e.name)).Nodup := by decide +kernel
/-- a commit differs from itself in nothing -/
theorem aw_diff {D : List Ch} (h : IsDiff (listS awG awI).1 (listS awG awI).1 D) : D = [] := by
  cases D with
  | nil => rfl
  | cons c r =>
    have h1 := (diff_mem aw_names aw_names h c).1 (List.mem_cons_self ..)
    exact absurd (h1.1.trans h1.2.1.symm) h1.2.2
end Go.Proofs.YtlenfiiocmchdaaGreatDoor
/- Layer 15's laws: whether two lists of files are the same: same. -/
namespace Go.Proofs.YtlenfiiocmchdaaGreatDoor
open Go.RowKit Book Pap Ojt Sn
set_option linter.unusedVariables false
set_option linter.unusedSimpArgs false

theorem fi_ext {x y : Fi} (h1 : x.path = y.path) (h2 : x.data = y.data) : x = y := by
  obtain ⟨a, b⟩ := x; obtain ⟨c, d⟩ := y; simp only at h1 h2; rw [h1, h2]
theorem getD_ext {α : Type} {d : α} {l m : List α} (hl : l.length = m.length) (h : ∀ j, j < l.length → l.getD j d = m.getD j d) : l = m := by
  apply List.ext_getElem hl
  intro i h1 h2
  have := h i h1
  rw [List.getD_eq_getElem?_getD, List.getD_eq_getElem?_getD, List.getElem?_eq_getElem h1, List.getElem?_eq_getElem h2] at this
  exact this
/-- what comparing hands back -/
def EqOut (p : Prop) (w : World) (e : Ending) (w' : World) : Prop := ∃ r : Bool, e = .returned (.bool r) ∧ (r = true ↔ p) ∧ Below w.heap.size w w'
set_option maxRecDepth 100000 in
set_option maxHeartbeats 4000000 in
theorem same_any (a b : Option Addr) (n m c d : Nat) (x y : List Fi) (w : World) (hx : FisAt w a n x) (hy : FisAt w b m y) :
    Calls Tryz.prog 17 #[.slice a n c, .slice b m d] w (EqOut (x = y) w) := by
  obtain ⟨h1, h2, h3⟩ := hx
  obtain ⟨g1, g2, g3⟩ := hy
  have HL := hid h1
  have HM := hid g1
  by_cases hnm : n = m
  · subst hnm
    have cne : ((n : Int) != n) = false := by simp
    go_enter Tryz.func17, Tryz.ntmps17
    go_wp2_with fail
    go_loopw [5] (fun iv wr => ∃ i : Nat, i ≤ n ∧ iv = .int .i64 i ∧ Hid (Below w.heap.size w wr) ∧ Hid (∀ j, j < i → x.getD j noFi = y.getD j noFi)) (fun iv _ => n - (intOf iv).toNat)
    case atStart => exact ⟨0, Nat.zero_le _, rfl, Below.refl _ _, fun j hj => by omega⟩
    case round =>
      obtain ⟨i, hi, rfl, HB, HN⟩ := hrel
      by_cases hlt : i < n
      · obtain ⟨xb, xo, rfl, hc⟩ := h3.resolve_left (by omega)
        obtain ⟨yb, yo, rfl, hd⟩ := g3.resolve_left (by omega)
        have ci : (i : Int) < n := by omega
        have ci0 : (0 : Int) ≤ (i : Int) := by omega
        obtain ⟨k0, k1⟩ := hc i hlt
        obtain ⟨l0, l1⟩ := hd i hlt
        have bl : xb < w.heap.size := World.block_lt_of_cell? w _ k0
        have bm : yb < w.heap.size := World.block_lt_of_cell? w _ l0
        have q0 := (HB.out.cell (p := ⟨xb, xo + i * 2, none⟩) bl).trans k0
        have q1 := (HB.out.cell (p := ⟨xb, xo + i * 2 + 1, none⟩) bl).trans k1
        have p0 := (HB.out.cell (p := ⟨yb, yo + i * 2, none⟩) bm).trans l0
        have p1 := (HB.out.cell (p := ⟨yb, yo + i * 2 + 1, none⟩) bm).trans l1
        obtain ⟨u, hu⟩ : ∃ u, x.getD i noFi = u := ⟨_, rfl⟩
        obtain ⟨v, hv⟩ : ∃ v, y.getD i noFi = v := ⟨_, rfl⟩
        rw [hu] at q0 q1
        rw [hv] at p0 p1
        have HUV := hid hu; have HVV := hid hv
        obtain ⟨up, ud⟩ := u
        obtain ⟨vp, vd⟩ := v
        simp only at q0 q1 p0 p1
        clear k0 k1 l0 l1 hc hd hu hv
        by_cases hA : up.toList = vp.toList
        · by_cases hB : ud.toList = vd.toList
          · have HN2 : Hid (∀ j, j < i + 1 → x.getD j noFi = y.getD j noFi) := fun j hj => by
              by_cases hji : j = i
              · subst hji
                rw [HUV.out, HVV.out]
                rw [ba_toList, ba_toList] at hA hB
                exact fi_ext (ba_ext hA) (ba_ext hB)
              · exact HN.out j (by omega)
            go_upto_region 6 with fail
            go_region
            all_goals
              go_wp2_with fail
              refine ⟨⟨i + 1, by omega, by go_num, by first | exact HB.out | exact HB.out.drew, HN2⟩, ?_⟩
              simp [intOf]; omega
          · have HNE : Hid (¬ x = y) := fun e => by
              have h := HUV.out
              rw [e, HVV.out] at h
              exact hB (by rw [(Fi.mk.inj h).2])
            go_upto_region 6 with fail
            go_region
            all_goals
              go_wp2_with fail
              go_ret
              exact ⟨false, rfl, ⟨fun h => (by cases h), fun h => absurd h HNE.out⟩, by first | exact HB.out | exact HB.out.drew⟩
        · have HNE : Hid (¬ x = y) := fun e => by
            have h := HUV.out
            rw [e, HVV.out] at h
            exact hA (by rw [(Fi.mk.inj h).1])
          go_upto_region 6 with fail
          go_region
          all_goals
            go_wp2_with fail
            go_ret
            exact ⟨false, rfl, ⟨fun h => (by cases h), fun h => absurd h HNE.out⟩, by first | exact HB.out | exact HB.out.drew⟩
      · obtain rfl : i = n := by omega
        have ci : ¬ (i : Int) < i := by omega
        have HEQ : Hid (x = y) := getD_ext (d := noFi) (by rw [HL.out, HM.out]) (fun j hj => HN.out j (by rw [← HL.out]; exact hj))
        go_wp2_with fail
        go_ret
        exact ⟨true, rfl, ⟨fun _ => HEQ.out, fun _ => rfl⟩, HB.out⟩
  · have cne : ((n : Int) != m) = true := by simp; omega
    have ce : ¬ (n : Int) = m := by omega
    have HNE : Hid (¬ x = y) := fun e => by
      rw [e, HM.out] at h1; exact hnm h1.symm
    go_enter Tryz.func17, Tryz.ntmps17
    go_wp2_with fail
    go_ret
    exact ⟨false, rfl, ⟨fun h => (by cases h), fun h => absurd h HNE.out⟩, Below.refl _ _⟩
theorem ent_ext {x y : Ent} (h1 : x.name = y.name) (h2 : x.kind = y.kind) (h3 : x.id = y.id) : x = y := by
  obtain ⟨a, b, c⟩ := x; obtain ⟨d, e, f⟩ := y; simp only at h1 h2 h3; rw [h1, h2, h3]
def noEn : Ent := ⟨ByteArray.empty, 0, ByteArray.empty⟩
set_option maxRecDepth 100000 in
set_option maxHeartbeats 4000000 in
theorem entries_eq (a b : Option Addr) (n m c d : Nat) (x y : List Ent) (w : World) (hx : EntsAt w a n x) (hy : EntsAt w b m y) :
    Calls Tryz.prog 14 #[.slice a n c, .slice b m d] w (EqOut (x = y) w) := by
  obtain ⟨h1, h2, h3⟩ := hx
  obtain ⟨g1, g2, g3⟩ := hy
  have HL := hid h1
  have HM := hid g1
  by_cases hnm : n = m
  · subst hnm
    have cne : ((n : Int) != n) = false := by simp
    go_enter Tryz.func14, Tryz.ntmps14
    go_wp2_with fail
    go_loopw [5] (fun iv wr => ∃ i : Nat, i ≤ n ∧ iv = .int .i64 i ∧ Hid (Below w.heap.size w wr) ∧ Hid (∀ j, j < i → x.getD j noEn = y.getD j noEn)) (fun iv _ => n - (intOf iv).toNat)
    case atStart => exact ⟨0, Nat.zero_le _, rfl, Below.refl _ _, fun j hj => by omega⟩
    case round =>
      obtain ⟨i, hi, rfl, HB, HN⟩ := hrel
      by_cases hlt : i < n
      · obtain ⟨xb, xo, rfl, hc⟩ := h3.resolve_left (by omega)
        obtain ⟨yb, yo, rfl, hd⟩ := g3.resolve_left (by omega)
        have ci : (i : Int) < n := by omega
        have ci0 : (0 : Int) ≤ (i : Int) := by omega
        obtain ⟨k0, k1, k2⟩ := hc i hlt
        obtain ⟨l0, l1, l2⟩ := hd i hlt
        have bl : xb < w.heap.size := World.block_lt_of_cell? w _ k0
        have bm : yb < w.heap.size := World.block_lt_of_cell? w _ l0
        have q0 := (HB.out.cell (p := ⟨xb, xo + i * 3, none⟩) bl).trans k0
        have q1 := (HB.out.cell (p := ⟨xb, xo + i * 3 + 1, none⟩) bl).trans k1
        have q2 := (HB.out.cell (p := ⟨xb, xo + i * 3 + 2, none⟩) bl).trans k2
        have p0 := (HB.out.cell (p := ⟨yb, yo + i * 3, none⟩) bm).trans l0
        have p1 := (HB.out.cell (p := ⟨yb, yo + i * 3 + 1, none⟩) bm).trans l1
        have p2 := (HB.out.cell (p := ⟨yb, yo + i * 3 + 2, none⟩) bm).trans l2
        obtain ⟨u, hu⟩ : ∃ u, x.getD i noEn = u := ⟨_, rfl⟩
        obtain ⟨v, hv⟩ : ∃ v, y.getD i noEn = v := ⟨_, rfl⟩
        have hu' : x.getD i ⟨ByteArray.empty, 0, ByteArray.empty⟩ = u := hu
        have hv' : y.getD i ⟨ByteArray.empty, 0, ByteArray.empty⟩ = v := hv
        rw [hu'] at q0 q1 q2
        rw [hv'] at p0 p1 p2
        have HUV := hid hu; have HVV := hid hv
        obtain ⟨up, uk, ud⟩ := u
        obtain ⟨vp, vk, vd⟩ := v
        simp only at q0 q1 q2 p0 p1 p2
        clear k0 k1 k2 l0 l1 l2 hc hd hu hv hu' hv'
        by_cases hA : up.toList = vp.toList
        · by_cases hK : uk = vk
          · by_cases hB : ud.toList = vd.toList
            · have HN2 : Hid (∀ j, j < i + 1 → x.getD j noEn = y.getD j noEn) := fun j hj => by
                by_cases hji : j = i
                · subst hji
                  rw [HUV.out, HVV.out]
                  rw [ba_toList, ba_toList] at hA hB
                  exact ent_ext (ba_ext hA) hK (ba_ext hB)
                · exact HN.out j (by omega)
              go_upto_region 6 with fail
              go_region
              all_goals
                go_wp2_with fail
                refine ⟨⟨i + 1, by omega, by go_num, by first | exact HB.out | exact HB.out.drew, HN2⟩, ?_⟩
                simp [intOf]; omega
            · have HNE : Hid (¬ x = y) := fun e => by
                have h := HUV.out
                rw [e, HVV.out] at h
                exact hB (by rw [(Ent.mk.inj h).2.2])
              go_upto_region 6 with fail
              go_region
              all_goals
                go_wp2_with fail
                go_ret
                exact ⟨false, rfl, ⟨fun h => (by cases h), fun h => absurd h HNE.out⟩, by first | exact HB.out | exact HB.out.drew⟩
          · have HNE : Hid (¬ x = y) := fun e => by
              have h := HUV.out
              rw [e, HVV.out] at h
              exact hK ((Ent.mk.inj h).2.1).symm
            go_upto_region 6 with fail
            go_region
            all_goals
              go_wp2_with fail
              go_ret
              exact ⟨false, rfl, ⟨fun h => (by cases h), fun h => absurd h HNE.out⟩, by first | exact HB.out | exact HB.out.drew⟩
        · have HNE : Hid (¬ x = y) := fun e => by
            have h := HUV.out
            rw [e, HVV.out] at h
            exact hA (by rw [(Ent.mk.inj h).1])
          go_upto_region 6 with fail
          go_region
          all_goals
            go_wp2_with fail
            go_ret
            exact ⟨false, rfl, ⟨fun h => (by cases h), fun h => absurd h HNE.out⟩, by first | exact HB.out | exact HB.out.drew⟩
      · obtain rfl : i = n := by omega
        have ci : ¬ (i : Int) < i := by omega
        have HEQ : Hid (x = y) := getD_ext (d := noEn) (by rw [HL.out, HM.out]) (fun j hj => HN.out j (by rw [← HL.out]; exact hj))
        go_wp2_with fail
        go_ret
        exact ⟨true, rfl, ⟨fun _ => HEQ.out, fun _ => rfl⟩, HB.out⟩
  · have cne : ((n : Int) != m) = true := by simp; omega
    have ce : ¬ (n : Int) = m := by omega
    have HNE : Hid (¬ x = y) := fun e => by
      rw [e, HM.out] at h1; exact hnm h1.symm
    go_enter Tryz.func14, Tryz.ntmps14
    go_wp2_with fail
    go_ret
    exact ⟨false, rfl, ⟨fun h => (by cases h), fun h => absurd h HNE.out⟩, Below.refl _ _⟩
end Go.Proofs.YtlenfiiocmchdaaGreatDoor
/- Layer 15's laws: texts under their ids (items). -/
namespace Go.Proofs.YtlenfiiocmchdaaGreatDoor
open Go.RowKit Book Pap Ojt Sn
set_option linter.unusedVariables false
set_option linter.unusedSimpArgs false

theorem own_items {w : World} {B : Nat} {v : Value} {n : Nat} {l : List Fi} (h : w.ownsRow B 99 2 v n (fivals l)) (hm : n ≤ 9223372036854775807) : ∃ a c, v = .slice a n c ∧ FisAt w a n l := by
  have h' := h
  have hl := fivals_length l
  have hln : l.length = n := by have := h.1; omega
  rcases h.2 with ⟨rfl, h0⟩ | ⟨g, cap, cur, rfl, hb, hg, hn, hc, hsz, htk⟩
  · exact ⟨none, 0, by rw [h0], hln, hm, .inl h0⟩
  · refine ⟨_, _, rfl, hln, hm, .inr ⟨g, 0, rfl, fun j hj => ?_⟩⟩
    obtain ⟨x0, x1⟩ := fivals_get l j (by omega)
    have h1 := h'.cellAt (j * 2) (by omega)
    have h2 := h'.cellAt (j * 2 + 1) (by omega)
    rw [Nat.zero_add]
    rw [x0] at h1
    rw [x1] at h2
    exact ⟨h1, h2⟩
theorem own_noneI (w : World) : (w.alloc (.cells #[] 99)).ownsRow w.heap.size 99 2 (.slice (some ⟨w.heap.size, 0, none⟩) 0 0) 0 [] :=
  ⟨rfl, .inr ⟨w.heap.size, 0, #[], rfl, Nat.le_refl _, by show (w.heap.push _)[w.heap.size]? = _; simp, Nat.le_refl _, by unfold maxLen; omega, rfl, rfl⟩⟩
theorem Tryz.infoIt : (Tryz.prog.info? 99).map (fun i => (i.zero, i.size, i.bytes)) = some (some (.agg #[.string ⟨#[]⟩, .string ⟨#[]⟩]), 2, 32) := by kernel_rfl
theorem objid_id (s : ByteArray) (hs : s.size ≤ 1000000000) (w : World) : Calls Tryz.prog 42 #[.string s] w fun e w' => e = .returned (.string (Sw.idOf s)) ∧ Below w.heap.size w w' := objid_any s hs w
set_option maxRecDepth 100000 in
set_option maxHeartbeats 8000000 in
theorem items_any (a : Option Addr) (n c : Nat) (l : List ByteArray) (w : World) (h : StrsAt w a n l) (hn : n ≤ 1000000) (hz : ∀ s ∈ l, s.size ≤ 1000000000) :
    Calls Tryz.prog 34 #[.slice a n c] w fun e w' => ∃ a' c', e = .returned (.slice a' n c') ∧ w'.ownsRow w.heap.size 99 2 (.slice a' n c') n (fivals (itemsS l)) ∧ Below w.heap.size w w' := by
  obtain ⟨i0, hi0, hz0, hz1, hz2⟩ := info_parts Tryz.infoIt
  have HS := hid h
  have HL := hid h.1
  have HZ := hid hz
  have HO1 : Hid ((w.alloc (.cells #[] 99)).ownsRow w.heap.size 99 2 (.slice (some ⟨w.heap.size, 0, none⟩) 0 0) 0 (fivals (itemsS (l.take 0)))) := own_noneI w
  have HB1 : Hid (Below w.heap.size w (w.alloc (.cells #[] 99))) := (Below.refl _ _).alloc (Nat.le_refl _) _
  clear h hz
  go_enter Tryz.func34, Tryz.ntmps34
  go_upto_region 2 with fail
  generalize (w.alloc (.cells #[] 99)) = w1 at HO1 HB1 ⊢
  generalize hg : w.heap.size = g at HO1 HB1 ⊢
  have HG := hid hg
  clear hg
  go_wp2_with fail
  go_loopw [4, 3] (fun iv ov wr => ∃ i : Nat, i ≤ n ∧ iv = .int .i64 i ∧ Hid (wr.ownsRow g 99 2 ov i (fivals (itemsS (l.take i)))) ∧ Hid (Below g w wr)) (fun iv _ _ => n - (intOf iv).toNat)
  case atStart => exact ⟨0, Nat.zero_le _, rfl, HO1, HB1⟩
  case round =>
    obtain ⟨i, hi, rfl, HO, HB⟩ := hrel
    obtain ⟨va, vc, rfl, hvc⟩ := own_slice' HO.out
    by_cases hlt : i < n
    · have ci : (i : Int) < n := by omega
      have ci0 : (0 : Int) ≤ (i : Int) := by omega
      obtain ⟨-, -, h3⟩ := HS.out.later (by rw [HG.out]; exact HB.out)
      obtain ⟨b, off, rfl, hc⟩ := h3.resolve_left (by omega)
      have q0 := hc i hlt
      have hil : i < l.length := by rw [HL.out]; exact hlt
      have hsz := HZ.out (l.getD i ByteArray.empty) (by rw [List.getD_eq_getElem?_getD, List.getElem?_eq_getElem hil]; exact List.getElem_mem hil)
      have HT : Hid (fivals (itemsS (l.take (i + 1))) = fivals (itemsS (l.take i)) ++ [.string (Sw.idOf (l.getD i ByteArray.empty)), .string (l.getD i ByteArray.empty)]) := by
        show _ = _
        rw [List.take_succ_eq_append_getElem hil]
        unfold itemsS
        rw [List.map_append, fivals_append, List.getD_eq_getElem?_getD, List.getElem?_eq_getElem hil]; rfl
      obtain ⟨s, hs⟩ : ∃ s, l.getD i ByteArray.empty = s := ⟨_, rfl⟩
      rw [hs] at q0 hsz HT
      have HID := hid (fun W => objid_id s hsz W)
      obtain ⟨idv, hidv⟩ : ∃ z, Sw.idOf s = z := ⟨_, rfl⟩
      rw [hidv] at HID HT
      have hgr : g ≤ wr.heap.size := by have := HB.out.size; rw [HG.out] at this; exact this
      have hbb := World.block_lt_of_cell? wr _ q0
      clear hs hidv hc h3 hil hsz
      go_upto_region 5 with fail
      go_region_law (first
        | (go_simp; go_at_call 42; (refine (HID.out _).mono ?_; rintro e w5 ⟨rfl, hb5⟩; have HO5 := hid (own_below HO.out.drew hb5); have HB5 := hid (HB.out.drew.trans (hb5.mono hgr)); have q1 : w5.cell? ⟨b, off + i, none⟩ = some (.string s) := ((hb5.cell (p := ⟨b, off + i, none⟩) hbb).trans q0); have hg5 : g ≤ w5.heap.size := (Nat.le_trans hgr hb5.size); clear hb5))
        | (refine step_append_lies _ (by rfl) (.tmp 12) (.tmp 23) 22 (by rfl) g 99 i0 (.agg #[.string ⟨#[]⟩, .string ⟨#[]⟩]) 2 32 Tryz.underlying22 hi0 hz0 hz1 hz2 rfl (by decide) (.slice va i vc) i (fivals (itemsS (l.take i))) (by simp [Act.eval, Act.put]) (HO5.out.alloc _) ⟨w5.heap.size, 0, none⟩ 1 1 [.string idv, .string s] (by simp [Act.eval, Act.put]) rfl (cellNew2 _ _ _ _) (one2 rfl rfl) (by decide) (by unfold maxLen; omega) (by omega) (by rw [World.size_alloc]; omega) (w5.heap.size + 1) (by simp) ?_; intro g1 cap1 wf hown hgrow hat hglt; have HOWN := hid hown; have HGR := hid hgrow; clear hown hgrow hat hglt))
      all_goals
        have HO9 : Hid (wf.ownsRow g 99 2 (.slice (some ⟨g1, 0, none⟩) (i + 1) cap1) (i + 1) (fivals (itemsS (l.take (i + 1))))) := by
          show World.ownsRow _ _ _ _ _ _ _
          rw [HT.out]; exact HOWN.out
        have HB9 : Hid (Below g w wf) := (HB5.out.alloc hg5 _).grown HGR.out (by rw [World.size_alloc]; omega) (fun j hj => (HO5.out.lt j hj).1)
        go_wp2_with fail
        go_roundw
        case rel => first | exact ⟨i + 1, by omega, by go_num, HO9, HB9⟩ | ((repeat apply Exists.intro); exact ⟨⟨i + 1, by omega, by go_num, HO9, HB9⟩, rfl⟩)
        case measure => simp [intOf]; omega
    · obtain rfl : i = n := by omega
      have ci : ¬ (i : Int) < i := by omega
      have HE : Hid (wr.ownsRow g 99 2 (.slice va i vc) i (fivals (itemsS l))) := by
        have h := HO.out
        rw [List.take_of_length_le (by rw [HL.out]; exact Nat.le_refl _)] at h; exact h
      go_wp2_with fail
      go_ret
      rw [HG.out]
      exact ⟨_, _, rfl, HE.out, HB.out⟩
end Go.Proofs.YtlenfiiocmchdaaGreatDoor
/- The first element put into an empty slice: slices.Insert at []api.Fact and []string. -/
namespace Go.Proofs.YtlenfiiocmchdaaGreatDoor
open Go.RowKit Book Pap
set_option linter.unusedVariables false
set_option linter.unusedSimpArgs false

theorem Tryz.infoFact : (Tryz.prog.info? 94).map (fun i => (i.zero, i.size, i.bytes)) = some (some (.agg #[.string ⟨#[]⟩, .int .i64 0, .slice none 0 0]), 3, 48) := by kernel_rfl
theorem cellBlk3 {w : World} {b : Nat} {t : TypeId} {x0 x1 x2 : Value} (h : Blk w b t #[x0, x1, x2]) : ∀ j u, [x0, x1, x2][j]? = some u → w.cell? ((⟨b, 0, none⟩ : Addr).add j) = some u := by
  intro j u hj
  rw [Addr.add_lit, Nat.zero_add, h.cell]
  rw [← hj]; simp
theorem cellBlk1 {w : World} {b : Nat} {t : TypeId} {x0 : Value} (h : Blk w b t #[x0]) : ∀ j u, [x0][j]? = some u → w.cell? ((⟨b, 0, none⟩ : Addr).add j) = some u := by
  intro j u hj
  rw [Addr.add_lit, Nat.zero_add, h.cell]
  rw [← hj]; simp
set_option maxRecDepth 100000 in
set_option maxHeartbeats 4000000 in
theorem insF0 (vb : Nat) (s : ByteArray) (h : Int) (ps : Option Addr) (pn pc : Nat) (w : World) (hb : Blk w vb 94 #[.string s, .int .i64 h, .slice ps pn pc]) :
    Calls Tryz.prog 105 #[.slice none 0 0, .int .i64 0, .slice (some ⟨vb, 0, none⟩) 1 1] w fun e w' => ∃ v', e = .returned v' ∧ w'.ownsRow w.heap.size 94 3 v' 1 [.string s, .int .i64 h, .slice ps pn pc] ∧ Below w.heap.size w w' := by
  obtain ⟨i0, hi0, hz0, hz1, hz2⟩ := info_parts Tryz.infoFact
  have HC := hid (cellBlk3 hb)
  clear hb
  go_enter Tryz.func105, Tryz.ntmps105
  go_wp2_with (first
    | (at_builtin; refine wpList_append_own _ rfl (.tmp 23) (.tmp 24) 51 rfl w.heap.size 94 i0 (.agg #[.string ⟨#[]⟩, .int .i64 0, .slice none 0 0]) 3 48 Tryz.underlying51 hi0 hz0 hz1 hz2 rfl (by decide) (.slice none 0 0) _ _ rfl (World.ownsRow_nil _ _ _ _) ⟨vb, 0, none⟩ 1 1 [.string s, .int .i64 h, .slice ps pn pc] rfl rfl HC.out (one3 rfl rfl rfl) (by unfold maxLen; omega) (by omega) (Nat.le_refl _) ?_; intro v' w5 hown' hg5 _; have HOWN := hid hown'; have HG5 := hid hg5; clear hown' hg5)
    | go_in)
  go_ret
  exact ⟨_, rfl, HOWN.out, (Below.refl _ _).grown HG5.out (Nat.le_refl _) (fun j hj => by cases hj)⟩
set_option maxRecDepth 100000 in
set_option maxHeartbeats 4000000 in
theorem insS0 (vb : Nat) (s : ByteArray) (w : World) (hb : Blk w vb 9 #[.string s]) :
    Calls Tryz.prog 79 #[.slice none 0 0, .int .i64 0, .slice (some ⟨vb, 0, none⟩) 1 1] w fun e w' => ∃ v', e = .returned v' ∧ w'.ownsRow w.heap.size 9 1 v' 1 (svals [s]) ∧ Below w.heap.size w w' := by
  obtain ⟨i0, hi0, hz0, hz1, hz2⟩ := info_parts Tryz.infoS
  have HC := hid (cellBlk1 hb)
  clear hb
  go_enter Tryz.func79, Tryz.ntmps79
  go_wp2_with (first
    | (at_builtin; refine wpList_append_own _ rfl (.tmp 23) (.tmp 24) 56 rfl w.heap.size 9 i0 (.string ⟨#[]⟩) 1 16 Tryz.underlying56 hi0 hz0 hz1 hz2 rfl (by decide) (.slice none 0 0) _ _ rfl (World.ownsRow_nil _ _ _ _) ⟨vb, 0, none⟩ 1 1 [.string s] rfl rfl HC.out (one_bytes rfl) (by unfold maxLen; omega) (by omega) (Nat.le_refl _) ?_; intro v' w5 hown' hg5 _; have HOWN := hid hown'; have HG5 := hid hg5; clear hown' hg5)
    | go_in)
  go_ret
  exact ⟨_, rfl, HOWN.out, (Below.refl _ _).grown HG5.out (Nat.le_refl _) (fun j hj => by cases hj)⟩
end Go.Proofs.YtlenfiiocmchdaaGreatDoor
/- shelf.Map[string, api.Fact] while it is empty: New, find, Get; Put of the first. -/
namespace Go.Proofs.YtlenfiiocmchdaaGreatDoor
open Go.RowKit Book Pap
set_option linter.unusedVariables false
set_option linter.unusedSimpArgs false

def FM0 (w : World) (b : Nat) : Prop := Blk w b 177 #[.slice none 0 0, .slice none 0 0]
theorem fnew_any (w : World) : Calls Tryz.prog 62 #[] w fun e w' => e = .returned (.pointer (some ⟨w.heap.size, 0, none⟩)) ∧ FM0 w' w.heap.size ∧ Below w.heap.size w w' := by
  have HX : Hid (FM0 (w.alloc (.cells #[.slice none 0 0, .slice none 0 0] 177)) w.heap.size) := Blk.new w _ _
  have HB : Hid (Below w.heap.size w (w.alloc (.cells #[.slice none 0 0, .slice none 0 0] 177))) := (Below.refl _ _).alloc (Nat.le_refl _) _
  go_enter Tryz.func62, Tryz.ntmps62
  go_wp2_with fail
  go_ret
  exact ⟨rfl, HX.out, HB.out⟩
theorem ffind0 (b : Nat) (s : ByteArray) (w : World) (h : FM0 w b) : Calls Tryz.prog 104 #[.pointer (some ⟨b, 0, none⟩), .string s] w fun e w' => e = .returned (.tuple #[.int .i64 0, .bool false]) ∧ w = w' := by
  have k0 : w.cell? ⟨b, 0, none⟩ = some (.slice none 0 0) := Blk.cell h 0
  have HS := hid (bs_names none 0 0 [] s w ⟨rfl, by omega, .inl rfl⟩ (by omega) List.Pairwise.nil)
  have hn : hasN [] s = false := by rw [hasN_no]; simp
  rw [hn] at HS
  clear hn h
  go_enter Tryz.func104, Tryz.ntmps104
  go_wp2_with (go_at_call 126; refine HS.out.mono ?_; rintro e w' ⟨rfl, rfl⟩)
  go_ret2
  exact ⟨rfl, rfl⟩
theorem fget_results (tmps : Array Value) (g : Nat) (bo : Bool) (w : World) (h2 : tmps.getD 4 undef = .pointer (some ⟨g, 0, none⟩)) (h3 : tmps.getD 5 undef = .bool bo) (H : Blk w g 94 #[.string ⟨#[]⟩, .int .i64 0, .slice none 0 0]) : (results Tryz.f63 tmps).run Tryz.prog w = .ok (.tuple #[.agg #[.string ⟨#[]⟩, .int .i64 0, .slice none 0 0], .bool bo]) w := by
  have c0 : w.cell? ⟨g, 0, none⟩ = some (.string ⟨#[]⟩) := Blk.cell H 0
  have c1 : w.cell? ⟨g, 1, none⟩ = some (.int .i64 0) := Blk.cell H 1
  have c2 : w.cell? ⟨g, 2, none⟩ = some (.slice none 0 0) := Blk.cell H 2
  have h2' : tmps[4]?.getD undef = .pointer (some ⟨g, 0, none⟩) := by simpa using h2
  have h3' : tmps[5]?.getD undef = .bool bo := by simpa using h3
  simp [results, Tryz.results63, go_sem, h2', h3', c0, c1, c2]
set_option maxRecDepth 100000 in
set_option maxHeartbeats 4000000 in
theorem fget0 (b : Nat) (s : ByteArray) (w : World) (h : FM0 w b) : Calls Tryz.prog 63 #[.pointer (some ⟨b, 0, none⟩), .string s] w fun e w' => e = .returned (.tuple #[.agg #[.string ⟨#[]⟩, .int .i64 0, .slice none 0 0], .bool false]) ∧ Below w.heap.size w w' := by
  have hb := Blk.lt h
  have HX : Hid (Blk (w.alloc (.cells #[.string ⟨#[]⟩, .int .i64 0, .slice none 0 0] 94)) w.heap.size 94 #[.string ⟨#[]⟩, .int .i64 0, .slice none 0 0]) := Blk.new w _ _
  have HB : Hid (Below w.heap.size w (w.alloc (.cells #[.string ⟨#[]⟩, .int .i64 0, .slice none 0 0] 94))) := (Below.refl _ _).alloc (Nat.le_refl _) _
  have HF := hid (ffind0 b s (w.alloc (.cells #[.string ⟨#[]⟩, .int .i64 0, .slice none 0 0] 94)) (Blk.alloc h _))
  clear h
  go_enter Tryz.func63, Tryz.ntmps63
  go_upto_region 1 with fail
  generalize (w.alloc (.cells #[.string ⟨#[]⟩, .int .i64 0, .slice none 0 0] 94)) = w1 at HX HB HF ⊢
  generalize hg : w.heap.size = g at HX ⊢
  have k0 : w1.cell? ⟨g, 0, none⟩ = some (.string ⟨#[]⟩) := Blk.cell HX.out 0
  have k1 : w1.cell? ⟨g, 1, none⟩ = some (.int .i64 0) := Blk.cell HX.out 1
  have k2 : w1.cell? ⟨g, 2, none⟩ = some (.slice none 0 0) := Blk.cell HX.out 2
  have f0 := Blk.frozen HX.out 0
  have f1 := Blk.frozen HX.out 1
  have f2 := Blk.frozen HX.out 2
  go_wp2_with (go_at_call 104; refine HF.out.mono ?_; rintro e w' ⟨rfl, rfl⟩)
  have HX3 : Hid (Blk (((w1.setCell ⟨g, 0, none⟩ (.string ⟨#[]⟩)).setCell ⟨g, 1, none⟩ (.int .i64 0)).setCell ⟨g, 2, none⟩ (.slice none 0 0)) g 94 #[.string ⟨#[]⟩, .int .i64 0, .slice none 0 0]) := by
    have := Blk.set (Blk.set (Blk.set HX.out 0 (.string ⟨#[]⟩)) 1 (.int .i64 0)) 2 (.slice none 0 0)
    show Blk _ _ _ _
    simpa using this
  have HB3 : Below g w (((w1.setCell ⟨g, 0, none⟩ (.string ⟨#[]⟩)).setCell ⟨g, 1, none⟩ (.int .i64 0)).setCell ⟨g, 2, none⟩ (.slice none 0 0)) := by
    rw [hg] at HB
    exact ((HB.out.setCell (p := ⟨g, 0, none⟩) (Nat.le_refl _) _).setCell (p := ⟨g, 1, none⟩) (Nat.le_refl _) _).setCell (p := ⟨g, 2, none⟩) (Nat.le_refl _) _
  refine bodyPost_ret (v := .tuple #[.agg #[.string ⟨#[]⟩, .int .i64 0, .slice none 0 0], .bool false]) ?hr rfl ⟨rfl, by rw [hg]; exact HB3⟩
  case hr => exact fget_results _ g false _ rfl rfl HX3.out
set_option maxRecDepth 100000 in
set_option maxHeartbeats 8000000 in
theorem own_mono {w : World} {B B' : Nat} {e : TypeId} {k n : Nat} {v : Value} {xs : List Value} (h : w.ownsRow B e k v n xs) (hB : B' ≤ B) : w.ownsRow B' e k v n xs := by
  refine ⟨h.1, h.2.imp id ?_⟩
  rintro ⟨g, cap, cur, h1, h2, r⟩
  exact ⟨g, cap, cur, h1, Nat.le_trans hB h2, r⟩
set_option maxRecDepth 100000 in
set_option maxHeartbeats 8000000 in
theorem fput0 (b : Nat) (s s2 : ByteArray) (h : Int) (ps : Option Addr) (pn pc : Nat) (w : World) (hm : FM0 w b) : Calls Tryz.prog 65 #[.pointer (some ⟨b, 0, none⟩), .string s, .agg #[.string s2, .int .i64 h, .slice ps pn pc]] w fun e w' =>
    ∃ kv fv, e = .returned (.bool true) ∧ Blk w' b 177 #[kv, fv] ∧ w'.ownsRow w.heap.size 9 1 kv 1 (svals [s]) ∧ w'.ownsRow w.heap.size 94 3 fv 1 [.string s2, .int .i64 h, .slice ps pn pc] ∧ Only (· = b) w w' := by
  have hb := Blk.lt hm
  have HX : Hid (Blk (w.alloc (.cells #[.string s2, .int .i64 h, .slice ps pn pc] 94)) w.heap.size 94 #[.string s2, .int .i64 h, .slice ps pn pc]) := Blk.new w _ _
  have HO : Hid (Only (· = b) w (w.alloc (.cells #[.string s2, .int .i64 h, .slice ps pn pc] 94))) := (Only.refl _ _).alloc _
  have HM : Hid (FM0 (w.alloc (.cells #[.string s2, .int .i64 h, .slice ps pn pc] 94)) b) := Blk.alloc hm _
  have hs1 : (w.alloc (.cells #[.string s2, .int .i64 h, .slice ps pn pc] 94)).heap.size = w.heap.size + 1 := World.size_alloc _ _
  clear hm
  go_enter Tryz.func65, Tryz.ntmps65
  go_upto_region 1 with fail
  generalize (w.alloc (.cells #[.string s2, .int .i64 h, .slice ps pn pc] 94)) = w1 at HX HO HM hs1 ⊢
  generalize hg : w.heap.size = g at HX hs1 hb ⊢
  have HS1 := hid hs1
  clear hs1
  have HF := hid (ffind0 b s w1 HM.out)
  have HM2 : Hid (FM0 (w1.alloc (.cells #[.string s] 9)) b) := Blk.alloc HM.out _
  have HX2 : Hid (Blk (w1.alloc (.cells #[.string s] 9)) g 94 #[.string s2, .int .i64 h, .slice ps pn pc]) := Blk.alloc HX.out _
  have HO2 : Hid (Only (· = b) w (w1.alloc (.cells #[.string s] 9))) := HO.out.alloc _
  have HI := hid (insS0 w1.heap.size s (w1.alloc (.cells #[.string s] 9)) (Blk.new _ _ _))
  have k0 : w1.cell? ⟨b, 0, none⟩ = some (.slice none 0 0) := Blk.cell HM.out 0
  go_upto_region 3 with (first
    | (go_at_call 104; refine HF.out.mono ?_; rintro e w' ⟨rfl, rfl⟩)
    | (go_at_call 79; refine HI.out.mono ?_; rintro e w3 ⟨kv, rfl, hkv, hb3⟩; obtain ⟨ka, kc, hkk, hkc⟩ := own_slice' hkv; subst hkk; have HKV := hid hkv; have HB3 := hid hb3; have HM3 : Hid (FM0 w3 b) := ((hb3.block b (Blk.lt HM2.out)).trans HM2.out); have q0 : w3.cell? ⟨b, 0, none⟩ = some (.slice none 0 0) := Blk.cell HM3.out 0; have f0 := Blk.frozen HM3.out 0))
  have HS3 : Hid (g + 2 ≤ w3.heap.size) := by
    have h1 := HB3.out.size
    rw [World.size_alloc] at h1
    have := HS1.out
    show _ ≤ _; omega
  have HO3 : Hid (Only (· = b) w (w3.setCell ⟨b, 0, none⟩ (.slice ka 1 kc))) := ((HO2.out.trans (Only.of_below HB3.out (· = b)) (fun k e => .inl e)).setCell (p := ⟨b, 0, none⟩) (.inl rfl) _)
  have HM4 : Hid (Blk (w3.setCell ⟨b, 0, none⟩ (.slice ka 1 kc)) b 177 #[.slice ka 1 kc, .slice none 0 0]) := by
    have := Blk.set HM3.out 0 (.slice ka 1 kc)
    show Blk _ _ _ _
    simpa using this
  have HX4 : Hid (Blk (w3.setCell ⟨b, 0, none⟩ (.slice ka 1 kc)) g 94 #[.string s2, .int .i64 h, .slice ps pn pc]) := Blk.far ((HB3.out.block g (Blk.lt HX2.out)).trans HX2.out) (p := ⟨b, 0, none⟩) (by show g ≠ b; omega) _
  have hg1 : g ≤ (w1.alloc (.cells #[.string s] 9)).heap.size := by rw [World.size_alloc]; have := HS1.out; omega
  have HK4 : Hid ((w3.setCell ⟨b, 0, none⟩ (.slice ka 1 kc)).ownsRow g 9 1 (.slice ka 1 kc) 1 (svals [s])) := by
    have h1 : w3.ownsRow g 9 1 (.slice ka 1 kc) 1 (svals [s]) := own_mono HKV.out hg1
    exact own_only h1 ((Only.refl (· = b) w3).setCell (p := ⟨b, 0, none⟩) (.inl rfl) _) (fun k hk e => by have := (h1.lt k hk).1; have e : k = b := e; omega)
  obtain ⟨w4, hw4⟩ : ∃ w4, w3.setCell ⟨b, 0, none⟩ (.slice ka 1 kc) = w4 := ⟨_, rfl⟩
  have hs4 : w3.heap.size = w4.heap.size := by rw [← hw4]; simp [World.setCell]
  have HS4 : Hid (g + 2 ≤ w4.heap.size) := by rw [← hs4]; exact HS3.out
  rw [hw4] at HO3 HM4 HX4 HK4 ⊢
  clear hw4 hs4 HS3 HM3 HB3 HKV q0 f0 HI HX2 HM2 HO2 k0 HF HM HX HO HS1 hg1
  have k1 : w4.cell? ⟨b, 1, none⟩ = some (.slice none 0 0) := Blk.cell HM4.out 1
  have x0 : w4.cell? ⟨g, 0, none⟩ = some (.string s2) := Blk.cell HX4.out 0
  have x1 : w4.cell? ⟨g, 1, none⟩ = some (.int .i64 h) := Blk.cell HX4.out 1
  have x2 : w4.cell? ⟨g, 2, none⟩ = some (.slice ps pn pc) := Blk.cell HX4.out 2
  have HFIN : Hid (∀ (W W' : World) (fa : Option Addr) (fc : Nat), Below w4.heap.size w4 W → W'.ownsRow W.heap.size 94 3 (.slice fa 1 fc) 1 [.string s2, .int .i64 h, .slice ps pn pc] → Below W.heap.size W W' →
      Blk W' b 177 #[.slice ka 1 kc, .slice none 0 0] ∧ Blk (W'.setCell ⟨b, 1, none⟩ (.slice fa 1 fc)) b 177 #[.slice ka 1 kc, .slice fa 1 fc] ∧ (W'.setCell ⟨b, 1, none⟩ (.slice fa 1 fc)).ownsRow g 9 1 (.slice ka 1 kc) 1 (svals [s]) ∧ (W'.setCell ⟨b, 1, none⟩ (.slice fa 1 fc)).ownsRow g 94 3 (.slice fa 1 fc) 1 [.string s2, .int .i64 h, .slice ps pn pc] ∧ Only (· = b) w (W'.setCell ⟨b, 1, none⟩ (.slice fa 1 fc))) := by
    intro W W' fa fc hW hr hb'
    have hWW : Below w4.heap.size w4 W' := hW.trans (hb'.mono hW.size)
    have hM : Blk W' b 177 #[.slice ka 1 kc, .slice none 0 0] := (hWW.block b (Blk.lt HM4.out)).trans HM4.out
    have ho : Only (· = b) W' (W'.setCell ⟨b, 1, none⟩ (.slice fa 1 fc)) := (Only.refl (· = b) W').setCell (p := ⟨b, 1, none⟩) (.inl rfl) _
    have hgW : g ≤ W.heap.size := by have := HS4.out; have := hW.size; omega
    have h2 : W'.ownsRow g 94 3 (.slice fa 1 fc) 1 [.string s2, .int .i64 h, .slice ps pn pc] := own_mono hr hgW
    have h3 : W'.ownsRow g 9 1 (.slice ka 1 kc) 1 (svals [s]) := own_below HK4.out hWW
    refine ⟨hM, ?_, own_only h3 ho (fun k hk e => by have := (h3.lt k hk).1; have e : k = b := e; omega), own_only h2 ho (fun k hk e => by have := (h2.lt k hk).1; have e : k = b := e; omega), (HO3.out.trans (Only.of_below hWW (· = b)) (fun k e => .inl e)).then ho⟩
    have := Blk.set hM 1 (.slice fa 1 fc)
    show Blk _ _ _ _
    simpa using this
  have k1a : (w4.alloc (.cells #[.string s2, .int .i64 h, .slice ps pn pc] 94)).cell? ⟨b, 1, none⟩ = some (.slice none 0 0) := Blk.cell (Blk.alloc HM4.out _) 1
  have k1b : (w4.alloc (.cells #[.string s2, .int .i64 h, .slice ps pn pc] 94)).drew.cell? ⟨b, 1, none⟩ = some (.slice none 0 0) := Blk.cell (Blk.alloc HM4.out _).drew 1
  have HI2 : Hid (∀ W, W = (w4.alloc (.cells #[.string s2, .int .i64 h, .slice ps pn pc] 94)) ∨ W = (w4.alloc (.cells #[.string s2, .int .i64 h, .slice ps pn pc] 94)).drew → Calls Tryz.prog 105 #[.slice none 0 0, .int .i64 0, .slice (some ⟨w4.heap.size, 0, none⟩) 1 1] W fun e w' => ∃ fa fc, e = .returned (.slice fa 1 fc) ∧ w'.cell? ⟨b, 1, none⟩ = some (.slice none 0 0) ∧ w'.frozen? ⟨b, 1, none⟩ = false ∧ Hid (Blk (w'.setCell ⟨b, 1, none⟩ (.slice fa 1 fc)) b 177 #[.slice ka 1 kc, .slice fa 1 fc] ∧ (w'.setCell ⟨b, 1, none⟩ (.slice fa 1 fc)).ownsRow g 9 1 (.slice ka 1 kc) 1 (svals [s]) ∧ (w'.setCell ⟨b, 1, none⟩ (.slice fa 1 fc)).ownsRow g 94 3 (.slice fa 1 fc) 1 [.string s2, .int .i64 h, .slice ps pn pc] ∧ Only (· = b) w (w'.setCell ⟨b, 1, none⟩ (.slice fa 1 fc)))) := by
    have key : ∀ W, Below w4.heap.size w4 W → Blk W w4.heap.size 94 #[.string s2, .int .i64 h, .slice ps pn pc] → Calls Tryz.prog 105 #[.slice none 0 0, .int .i64 0, .slice (some ⟨w4.heap.size, 0, none⟩) 1 1] W fun e w' => ∃ fa fc, e = .returned (.slice fa 1 fc) ∧ w'.cell? ⟨b, 1, none⟩ = some (.slice none 0 0) ∧ w'.frozen? ⟨b, 1, none⟩ = false ∧ Hid (Blk (w'.setCell ⟨b, 1, none⟩ (.slice fa 1 fc)) b 177 #[.slice ka 1 kc, .slice fa 1 fc] ∧ (w'.setCell ⟨b, 1, none⟩ (.slice fa 1 fc)).ownsRow g 9 1 (.slice ka 1 kc) 1 (svals [s]) ∧ (w'.setCell ⟨b, 1, none⟩ (.slice fa 1 fc)).ownsRow g 94 3 (.slice fa 1 fc) 1 [.string s2, .int .i64 h, .slice ps pn pc] ∧ Only (· = b) w (w'.setCell ⟨b, 1, none⟩ (.slice fa 1 fc))) := by
      intro W hW hB
      refine (insF0 w4.heap.size s2 h ps pn pc W hB).mono ?_
      rintro e w5 ⟨fv, rfl, hfv, hb5⟩
      obtain ⟨fa, fc, rfl, hfc⟩ := own_slice' hfv
      obtain ⟨r1, r2⟩ := HFIN.out W w5 fa fc hW hfv hb5
      exact ⟨fa, fc, rfl, Blk.cell r1 1, Blk.frozen r1 1, r2⟩
    rintro W (rfl | rfl)
    · exact key _ ((Below.refl _ _).alloc (Nat.le_refl _) _) (Blk.new _ _ _)
    · exact key _ (((Below.refl _ _).alloc (Nat.le_refl _) _).drew) ((Blk.new _ _ _).drew)
  clear HFIN
  go_region_with (go_at_call 105; refine (HI2.out _ (by first | exact .inl rfl | exact .inr rfl)).mono ?_; rintro e w5 ⟨fa, fc, rfl, r1, s1, HH⟩)
  all_goals
    go_wp2_with fail
    go_ret
    rw [hg]
    exact ⟨_, _, rfl, HH.out⟩
end Go.Proofs.YtlenfiiocmchdaaGreatDoor
/- slices.Insert of one thing, over a slice of the program's own: Str. -/
namespace Go.Proofs.YtlenfiiocmchdaaGreatDoor
open Go.RowKit
set_option linter.unusedVariables false
set_option linter.unusedSimpArgs false

theorem Tryz.infoStr : (Tryz.prog.info? 9).map (fun i => (i.zero, i.size, i.bytes)) = some (some (.string ⟨#[]⟩), 1, 16) := by kernel_rfl

end Go.Proofs.YtlenfiiocmchdaaGreatDoor
/- slices.Delete of one thing, slices.Clone, over a slice of the program's own: Str. -/
namespace Go.Proofs.YtlenfiiocmchdaaGreatDoor
open Go.RowKit
set_option linter.unusedVariables false
set_option linter.unusedSimpArgs false

theorem own_noneStr (w : World) : (w.alloc (.cells #[] 9)).ownsRow w.heap.size 9 1 (.slice (some ⟨w.heap.size, 0, none⟩) 0 0) 0 [] :=
  ⟨rfl, .inr ⟨w.heap.size, 0, #[], rfl, Nat.le_refl _, by show (w.heap.push _)[w.heap.size]? = _; simp, Nat.le_refl _, by unfold maxLen; omega, rfl, rfl⟩⟩
set_option maxHeartbeats 4000000 in
set_option maxRecDepth 100000 in
/-- a copy -/
theorem cloneStr (v : Value) (n : Nat) (xs : List Value) (w : World) (hown : w.ownsRow 0 9 1 v n xs) (h1 : ∀ u ∈ xs, u.oneCell' = true) (hn : n ≤ 1048576) :
    Calls Tryz.prog 86 #[v] w fun e w' => ∃ v', e = .returned v' ∧ w'.ownsRow w.heap.size 9 1 v' n xs ∧ Below w.heap.size w w' := by
  obtain ⟨i0, hi0, hz0, hz1, hz2⟩ := info_parts Tryz.infoStr
  have hxl : xs.length = n := by have := hown.1; omega
  rcases hown.2 with ⟨rfl, rfl⟩ | ⟨g, cap, cur, rfl, hb, hg, hnc, hcm, hsz, htk⟩
  · obtain rfl : xs = [] := List.length_eq_zero_iff.1 hxl
    clear hown h1 hxl
    have hq : ∀ W : World, (binOp .eql 56 (.slice none 0 0) (.slice none 0 0)).run Tryz.prog W = .ok (.bool true) W := fun W => Go.run_eql_slice_nil W 56 9 none 0 0 Tryz.underlying56
    go_enter Tryz.func86, Tryz.ntmps86
    go_wp2
    go_ret
    exact ⟨_, rfl, World.ownsRow_nil _ _ _ _, Below.refl _ _⟩
  · unfold maxLen at hcm
    have hcells := hown.cells (g := g) rfl
    have hgl := (Array.getElem?_eq_some_iff.1 hg).1
    have HC : Hid (∀ j u, xs[j]? = some u → (w.alloc (.cells #[] 9)).cell? ((⟨g, 0, none⟩ : Addr).add j) = some u) := fun j u hu => by
      rw [World.cell?_alloc_lt w _ _ (by rw [Addr.add_lit]; exact hgl)]
      exact hcells j u hu
    have H1 := hid h1
    have HO := own_noneStr w
    have HXL : Hid (xs.length = n * 1) := by unfold Hid; omega
    have HN : Hid (0 + n = n) := by unfold Hid; omega
    clear hown h1 hxl hb hg hsz htk hcells
    have hq : ∀ W : World, (binOp .eql 56 (.slice (some ⟨g, 0, none⟩) n cap) (.slice none 0 0)).run Tryz.prog W = .ok (.bool false) W := fun W => Go.run_eql_slice_nil W 56 9 (some ⟨g, 0, none⟩) n cap Tryz.underlying56
    go_enter Tryz.func86, Tryz.ntmps86
    go_wp2_with (at_builtin; refine wpList_append_own_at _ rfl (.tmp 5) (.tmp 6) 56 rfl w.heap.size 9 i0 (.string ⟨#[]⟩) 1 16 Tryz.underlying56 hi0 hz0 hz1 hz2 rfl (by decide) _ _ _ rfl HO _ n cap xs rfl HXL.out HC.out H1.out (by unfold maxLen; omega) (by omega) (by simp) ?_; intro v' w3 hown' hgrow _ hbk)
    go_ret
    refine ⟨_, rfl, ?_, ?_⟩
    · rw [HN.out] at hown'; exact hown'
    · exact ((Below.refl _ w).alloc (Nat.le_refl _) _).grown hgrow (by simp) (fun k hk => by cases hk; exact Nat.le_refl _)
end Go.Proofs.YtlenfiiocmchdaaGreatDoor
/- A region that draws its order, in a round of a loop over an iterator: what holds of it outside a round holds in one. No program. -/
namespace Go.Proofs.YtlenfiiocmchdaaGreatDoor
open Go.RowKit
set_option linter.unusedVariables false

section
variable {l n : Nat} {P : Program} {ops : Array Oper} {md : Region.Mode} {Q : Exit → Act → World → Prop}
end
end Go.Proofs.YtlenfiiocmchdaaGreatDoor
