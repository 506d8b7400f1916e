/- Texts in a row: SnD, SeqV, SnK, MkA, MkB, MkC, SwQ, MkD. -/
import Derived.Test.YtlenfiiocmchdaaGreatDoorMaI
import Derived.RangeFuncBox
import Derived.RangeFuncLeaves
import Derived.Shelf.Abstract
import Derived.WalkKit
import Derived.OwnWalkIn
import Derived.TacticsInMore
import Derived.LoopNIn
import Derived.LoopIn
import Derived.Maps.AppendAt
/- Files built: build, Build. -/
namespace Go.Proofs.YtlenfiiocmchdaaGreatDoor
open Go.RowKit Book Pap Ojt Sn
set_option linter.unusedVariables false
set_option linter.unusedSimpArgs false

set_option maxRecDepth 100000 in
set_option maxHeartbeats 1000000 in
theorem splitF_any (s : ByteArray) (w : World) (hs : s.size < 4294967281) (hm : MaxAt w) :
    Calls Tryz.prog 54 #[.string s] w fun e w' => ∃ v, e = .returned (.tuple #[v, .int .i64 (splitE s.data.toList)]) ∧ SplitsC s v w' ∧ Below w.heap.size w w' ∧ ∀ k, v.ownBlock = some k → w.heap.size ≤ k := by
  obtain ⟨m, hm⟩ := hm
  have cS := Tryz.strings_Split s slash m w hs hm (by decide)
  have hlen : (Lib.splitB slash 0 (Lib.countB s slash) s).length = Lib.countB s slash + 1 := Lib.splitB_all slash (by decide) 0 _ s rfl
  have hls := splitB_pieces s
  have hcl := Lib.countB_le slash (by decide) s.size s (Nat.le_refl _)
  obtain ⟨l, hl⟩ : ∃ l, Lib.splitB slash 0 (Lib.countB s slash) s = l := ⟨_, rfl⟩
  rw [hl] at cS hlen hls
  obtain ⟨k, hk⟩ : ∃ k, Lib.countB s slash = k := ⟨_, rfl⟩
  rw [hk] at cS hlen hcl
  have hlm : l.length ≤ 9223372036854775807 := by omega
  have hS := strs_alloc w l 9 hlm
  have hbel : Below w.heap.size w (w.alloc (.cells (l.map Value.string).toArray 9)) := (Below.refl _ _).alloc (Nat.le_refl _) _
  rw [← hlen] at cS
  obtain ⟨w1, hw1⟩ : ∃ w1, w.alloc (.cells (l.map Value.string).toArray 9) = w1 := ⟨_, rfl⟩
  rw [hw1] at cS hS hbel
  obtain ⟨q, hq⟩ : ∃ q, w.heap.size = q := ⟨_, rfl⟩
  have hS' := hS
  rw [hq] at cS hS
  have cC := check_any (some ⟨q, 0, none⟩) l.length l.length l w1 hS
  have hE : checkE (ls l) = splitE s.data.toList := by unfold splitE ls; rw [hls]
  rw [hE] at cC
  have HL : Hid (ls l = pieces s.data.toList) := hls
  obtain ⟨E, hEE⟩ : ∃ E, splitE s.data.toList = E := ⟨_, rfl⟩
  rw [hEE] at cC
  have HEE := hid hEE
  have HQ : Hid (w.heap.size = q) := hq
  have CS := hid cS; have CC := hid cC
  clear cS cC hlen hls hl hk hcl hE hEE hw1 hm hS' hq
  by_cases h0 : E = 0
  · subst h0
    go_enter Tryz.func54, Tryz.ntmps54
    go_wp2_with (first
      | (go_at_call 98; refine CS.out.mono ?_; rintro e w2 ⟨rfl, hw⟩; obtain rfl := hw.symm)
      | (go_at_call 99; refine CC.out.mono ?_; rintro e w2 ⟨rfl, hb2⟩))
    go_ret2
    exact ⟨_, by rw [HEE.out]; rfl, ⟨_, l, rfl, hS.later hb2, by unfold namesOf; rw [if_pos HEE.out]; exact HL.out, fun h => absurd HEE.out h⟩, below_then hbel hb2, fun k hk => by cases hk; exact Nat.le_of_eq HQ.out⟩
  · have e1 : (E != 0) = true := by simpa using h0
    have e2 : (E == 0) = false := by simpa using h0
    have H0 := hid h0; clear h0
    go_enter Tryz.func54, Tryz.ntmps54
    go_wp2_with (first
      | (go_at_call 98; refine CS.out.mono ?_; rintro e w2 ⟨rfl, hw⟩; obtain rfl := hw.symm)
      | (go_at_call 99; refine CC.out.mono ?_; rintro e w2 ⟨rfl, hb2⟩))
    go_ret2
    exact ⟨_, by rw [HEE.out]; rfl, ⟨none, [], rfl, ⟨rfl, by simp, .inl rfl⟩, by unfold namesOf; rw [if_neg (by rw [HEE.out]; exact H0.out)]; rfl, fun _ => rfl⟩, below_then hbel hb2, fun k hk => by cases hk⟩

theorem bz_bl (s : ByteArray) : bz s.data.toList = s := ba_ext (by simp [bz])
theorem bl_bz (l : List UInt8) : (bz l).data.toList = l := by simp [bz]
theorem map_bz_inj {x y : List (List UInt8)} (h : x.map bz <+: y.map bz) : x <+: y := by
  obtain ⟨t, ht⟩ := h
  have e := congrArg (List.map (fun s : ByteArray => s.data.toList)) ht
  rw [List.map_append, List.map_map, List.map_map] at e
  have e1 : ∀ l : List (List UInt8), l.map ((fun s : ByteArray => s.data.toList) ∘ bz) = l := fun l => by
    conv => rhs; rw [← List.map_id l]
    exact List.map_congr_left (fun z _ => bl_bz z)
  rw [e1, e1] at e
  exact ⟨_, e⟩
theorem off_of {x y : List UInt8} (hx : splitE x = 0) (hy : splitE y = 0) (h : apart x y) : Off ((pieces x).map bz) ((pieces y).map bz) := by
  have key : ∀ {x y : List UInt8}, splitE x = 0 → splitE y = 0 → apart x y → ¬ (pieces x).map bz <+: (pieces y).map bz := by
    intro x y hx hy h hp
    have hp := map_bz_inj hp
    obtain ⟨h1, h2, h3⟩ := apart_off h
    rw [withinR_ok hx hy, decide_eq_false_iff_not] at h2
    have hl := hp.length_le
    have ht := List.prefix_iff_eq_take.1 hp
    by_cases he : (pieces x).length = (pieces y).length
    · apply h1
      rw [he, List.take_length] at ht
      rw [← join_pieces x, ← join_pieces y, ht]
    · exact h2 ⟨by omega, ht⟩
  exact ⟨key hx hy h, key hy hx (apart_symm h)⟩
theorem apt_of {fs : List Fi} (h : (checkR (ls (fs.map (·.path)))).2 = 0) : AptL (fs.map flOf) ∧ ∀ f ∈ fs, splitE f.path.data.toList = 0 := by
  obtain ⟨h1, h2⟩ := (checkR_ok _).1 h
  have hs : ∀ f ∈ fs, splitE f.path.data.toList = 0 := fun f hf => h1 _ (List.mem_map.2 ⟨f.path, List.mem_map.2 ⟨f, hf, rfl⟩, rfl⟩)
  refine ⟨⟨fun f hf => ?_, ?_⟩, hs⟩
  · obtain ⟨g, hg, rfl⟩ := List.mem_map.1 hf
    have := (check_pieces (hs g hg)).1
    intro e
    exact this (List.map_eq_nil_iff.1 e)
  · unfold ls at h2
    rw [List.map_map] at h2
    rw [List.pairwise_map]
    refine List.Pairwise.imp_of_mem ?_ (List.pairwise_map.1 h2)
    intro a b ha hb hab
    exact off_of (hs a ha) (hs b hb) hab
theorem checkF_ok {fs : List Fi} (h : checkF fs = 0) : fs.length ≤ 256 ∧ (checkR (ls (fs.map (·.path)))).2 = 0 := by
  unfold checkF at h
  split at h
  · cases h
  · rename_i h1
    split at h
    · cases h
    · exact ⟨by omega, h⟩
theorem piece_size {s : List UInt8} {p : List UInt8} (h : p ∈ pieces s) : p.length ≤ s.length := by
  have e := join_pieces s
  have key : ∀ l : List (List UInt8), p ∈ l → p.length ≤ (joinL l).length := by
    intro l
    induction l with
    | nil => intro h; cases h
    | cons a r ih =>
      intro h
      cases r with
      | nil =>
        rcases List.mem_cons.1 h with rfl | h
        · exact Nat.le_refl _
        · cases h
      | cons b t =>
        have e1 : joinL (a :: b :: t) = a ++ 47 :: joinL (b :: t) := rfl
        rw [e1, List.length_append, List.length_cons]
        rcases List.mem_cons.1 h with rfl | h
        · omega
        · have := ih h; omega
  have := key _ h
  rw [e] at this; exact this
/-- files built: the objects, the tree's id, the error -/
def buildS (fs : List Fi) : (List ByteArray × ByteArray) × Int := if checkF fs = 0 then (treeS 64 (fs.map flOf) [], 0) else (([], ByteArray.empty), checkF fs)
def BuildOut (w : World) (r : (List ByteArray × ByteArray) × Int) (e : Ending) (w' : World) : Prop :=
  Below w.heap.size w w' ∧ ((r.2 ≠ 0 ∧ e = .returned (.tuple #[.pointer none, .string ⟨#[]⟩, .int .i64 r.2])) ∨ (r.2 = 0 ∧ ∃ b m v, e = .returned (.tuple #[.pointer (some ⟨b, 0, none⟩), .string r.1.2, .int .i64 0]) ∧ BuAt w.heap.size w' b m v r.1.1))
theorem idsF_nil : idsF [] = fun _ => none := by
  funext s
  unfold idsF
  rw [if_neg (by rw [hasN_iff]; intro h; cases h)]
set_option maxRecDepth 100000 in
set_option maxHeartbeats 8000000 in
theorem build_any (a : Option Addr) (n c : Nat) (fs : List Fi) (w : World) (h : FisAt w a n fs) (hz : ∀ f ∈ fs, f.path.size < 4294967281 ∧ f.data.size ≤ 9223372036854775807) (hm : MaxAt w) :
    Calls Tryz.prog 71 #[.slice a n c] w (BuildOut w (buildS fs)) := by
  have HCK := hid (scheck_any a n c fs w h hz hm)
  have H := hid h
  have HL := hid h.1
  have HZ := hid hz
  have HM := hid hm
  clear h hz hm
  obtain ⟨E, hE⟩ : ∃ E, checkF fs = E := ⟨_, rfl⟩
  have HE := hid hE
  rw [hE] at HCK
  clear hE
  have hmk : ∀ (T : TypeId) (W : World), (Instr.makeMap T none).run Tryz.prog W = .ok (.map (some W.heap.size)) (W.alloc (.map #[] 0)) := fun T W => run_makeMap T W
  by_cases h0 : E = 0
  · subst h0
    obtain ⟨hn, hcr⟩ := checkF_ok HE.out
    obtain ⟨hapt, hsp⟩ := apt_of hcr
    have HAPT := hid hapt
    have HSP := hid hsp
    clear hapt hsp hcr
    have hn : n ≤ 256 := by rw [← HL.out]; exact hn
    have HNF := hid (fun W => newFolder_any 63 W)
    go_enter Tryz.func71, Tryz.ntmps71
    go_wp2_with fail
    refine HCK.out.mono ?_; rintro e w1 ⟨rfl, hb1⟩
    have HB1 := hid hb1
    clear hb1 HCK
    go_wp2_with fail
    refine (HNF.out w1).mono ?_; rintro e w2 ⟨bf, F0, rfl, hfo, hb2, hfr⟩
    have hs1 : w.heap.size ≤ w1.heap.size := HB1.out.size
    have HB2 : Hid (Below w.heap.size w w2) := HB1.out.trans (hb2.mono hs1)
    have HFO := hid hfo
    have HFR : Hid (∀ k, F0 k → w.heap.size ≤ k) := fun k hk => Nat.le_trans hs1 (hfr k hk)
    clear hfo hb2 hfr HNF HB1
    go_wp2_with fail
    go_loopw [20] (fun iv wr => ∃ (i : Nat) (F : Nat → Prop), i ≤ n ∧ iv = .int .i64 i ∧ Hid (FoAt 64 wr F bf ((fs.take i).map flOf)) ∧ Hid (Below w.heap.size w wr) ∧ Hid (∀ k, F k → w.heap.size ≤ k)) (fun iv _ => n - (intOf iv).toNat)
    case atStart => exact ⟨0, F0, Nat.zero_le _, rfl, HFO, HB2, HFR⟩
    case round =>
      obtain ⟨i, F, hi, rfl, HF, HB, HFk⟩ := hrel
      have hsz := HB.out.size
      by_cases hlt : i < n
      · have ci : (i : Int) < n := by omega
        have ci0 : (0 : Int) ≤ (i : Int) := by omega
        have h3 := (H.out.later HB.out).2.2
        obtain ⟨b, off, rfl, hc⟩ := h3.resolve_left (by omega)
        obtain ⟨q0, q1⟩ := hc i hlt
        have hl : i < fs.length := by rw [HL.out]; exact hlt
        have HT : Hid (fs.take (i + 1) = fs.take i ++ [fs.getD i noFi]) := by
          show _ = _
          rw [List.take_succ_eq_append_getElem hl, List.getD_eq_getElem?_getD, List.getElem?_eq_getElem hl]; rfl
        have HMM : fs.getD i noFi ∈ fs := by
          rw [List.getD_eq_getElem?_getD, List.getElem?_eq_getElem hl]; exact List.getElem_mem hl
        obtain ⟨x, hx⟩ : ∃ x, fs.getD i noFi = x := ⟨_, rfl⟩
        rw [hx] at q0 q1 HT HMM
        obtain ⟨p, dd⟩ := x
        have hps : p.size < 4294967281 := (HZ.out _ HMM).1
        have hsp : splitE p.data.toList = 0 := HSP.out _ HMM
        simp only at q0 q1
        clear hx hc hl HMM h3
        go_upto_region 8 with fail
        have HX1 : Hid (Blk (wr.alloc (.cells #[.string p, .string dd] 71)) wr.heap.size 71 #[.string p, .string dd]) := Blk.new wr _ _
        have HF1 : Hid (FoAt 64 (wr.alloc (.cells #[.string p, .string dd] 71)) F bf ((fs.take i).map flOf)) := HF.out.only ((Only.refl NoF _).alloc _) (fun _ _ e => e)
        have HB1 : Hid (Below w.heap.size w (wr.alloc (.cells #[.string p, .string dd] 71))) := HB.out.alloc hsz _
        have hsz1 : w.heap.size ≤ (wr.alloc (.cells #[.string p, .string dd] 71)).heap.size := by simp; omega
        clear q0 q1 HF HB
        generalize (wr.alloc (.cells #[.string p, .string dd] 71)) = w3 at HX1 HF1 HB1 hsz1 ⊢
        generalize wr.heap.size = g1 at HX1 ⊢
        have k0 : w3.cell? ⟨g1, 0, none⟩ = some (.string p) := Blk.cell HX1.out 0
        have HSF := hid (splitF_any p w3 hps (HM.out.later HB1.out))
        rw [hsp] at HSF
        have HSPE := hid hsp
        clear hsp
        go_wp2_with fail
        refine HSF.out.mono ?_; rintro e w4 ⟨v, rfl, ⟨na, l, rfl, hst, hls, -⟩, hb4, hfr4⟩
        have HX4 : Hid (Blk w4 g1 71 #[.string p, .string dd]) := (hb4.block g1 (Blk.lt HX1.out)).trans HX1.out
        have HF4 : Hid (FoAt 64 w4 F bf ((fs.take i).map flOf)) := HF1.out.only (Only.of_below hb4 NoF) (fun _ _ e => e)
        have HB4 : Hid (Below w.heap.size w w4) := HB1.out.trans (hb4.mono hsz1)
        have hpl : ls l = pieces p.data.toList := by rw [hls]; unfold namesOf; rw [if_pos HSPE.out]
        have hll : l = (pieces p.data.toList).map bz := by rw [← hpl, ls_back]
        have hlen := (check_pieces HSPE.out)
        have hll2 : l.length = (pieces p.data.toList).length := by rw [hll, List.length_map]
        have hl1 : 1 ≤ l.length := by rw [hll2]; exact List.length_pos_iff.2 hlen.1
        have hl64 : l.length ≤ 64 := by rw [hll2]; exact hlen.2.2
        obtain ⟨nb, noff, rfl⟩ : ∃ nb noff, na = some ⟨nb, noff, none⟩ := by
          obtain ⟨nb, noff, e, _⟩ := hst.2.2.resolve_left (by omega)
          exact ⟨nb, noff, e⟩
        have hnF : ¬ F nb := fun e => by
          have h1 := hfr4 nb rfl
          have h2 := HF1.out.lt nb e
          omega
        have HADD := hid (add_any 64 l dd nb noff l.length l.length bf ((fs.take i).map flOf) F w4 HF4.out hst (Nat.le_refl _) (by omega) hl1 hl64 (fun x hx => by
          rw [hll] at hx
          obtain ⟨q, hq, rfl⟩ := List.mem_map.1 hx
          have h1 := piece_size hq
          have h2 : (bz q).size = q.length := by unfold bz; simp [ByteArray.size]
          have h3 := bx_data p
          rw [h2]; omega) (by rw [List.length_map, List.length_take]; omega) hnF)
        have HT2 : Hid ((fs.take (i + 1)).map flOf = (fs.take i).map flOf ++ [(l, dd)]) := by
          show _ = _
          rw [HT.out, List.map_append]
          unfold flOf
          rw [hll]; rfl
        have k1 : w4.cell? ⟨g1, 1, none⟩ = some (.string dd) := Blk.cell HX4.out 1
        have hs4 : w.heap.size ≤ w4.heap.size := HB4.out.size
        clear k0 hst hls hb4 hfr4 hpl hll hlen hll2 hl1 hl64 hnF HSF HX1 HF1 HB1
        go_wp2_with fail
        refine HADD.out.mono ?_; rintro e w5 ⟨rfl, F', hf5, ho5, hk5⟩
        have HF5 : Hid (FoAt 64 w5 F' bf ((fs.take (i + 1)).map flOf)) := by
          show FoAt _ _ _ _ _
          rw [HT2.out]; exact hf5
        have HB5 : Hid (Below w.heap.size w w5) := HB4.out.trans (ho5.below (fun k hk => HFk.out k hk) hs4)
        have HF5k : Hid (∀ k, F' k → w.heap.size ≤ k) := fun k hk => (hk5 k hk).elim (fun e => HFk.out k e) (fun e => Nat.le_trans hs4 e)
        clear hf5 ho5 hk5 HADD
        go_wp2_with fail
        refine ⟨⟨i + 1, F', by omega, by go_num, HF5, HB5, HF5k⟩, ?_⟩
        simp [intOf]; omega
      · obtain rfl : i = n := by omega
        have ci : ¬ (i : Int) < i := by omega
        have hall : fs.take i = fs := List.take_of_length_le (by rw [HL.out]; exact Nat.le_refl _)
        have HFA : Hid (FoAt 64 wr F bf (fs.map flOf)) := by
          have h := HF.out
          rw [hall] at h; exact h
        clear HF hall
        obtain ⟨z, hz⟩ : ∃ z, wr.heap.size = z := ⟨_, rfl⟩
        have HZW := hid hz
        rw [hz] at hsz
        have HBU : Hid (BuAt w.heap.size ((wr.alloc (.map #[] 0)).alloc (.cells #[.slice none 0 0, .map (some z)] 138)) (z + 1) z (.slice none 0 0) []) := by
          have z1 : (wr.alloc (.map #[] 0)).heap.size = z + 1 := by rw [World.size_alloc, hz]
          refine ⟨?_, World.ownsRow_nil _ _ _ _, ?_, by omega, hsz⟩
          · have := Blk.new (wr.alloc (.map #[] 0)) 138 #[.slice none 0 0, .map (some z)]
            rw [z1] at this; exact this
          · have h : StrMap (wr.alloc (.map #[] 0)) wr.heap.size 0 (fun _ => none) := MapFn.made wr
            rw [hz] at h
            rw [idsF_nil]
            exact h.later ((Below.refl _ _).alloc (Nat.le_refl _) _)
        have HZ2 : Hid (((wr.alloc (.map #[] 0)).alloc (.cells #[.slice none 0 0, .map (some z)] 138)).heap.size = z + 2) := by
          show _ = _
          rw [World.size_alloc, World.size_alloc, hz]
        have HB2' : Hid (Below w.heap.size w ((wr.alloc (.map #[] 0)).alloc (.cells #[.slice none 0 0, .map (some z)] 138))) :=
          (HB.out.alloc (by rw [hz]; exact hsz) _).alloc (by rw [World.size_alloc, hz]; omega) _
        have HFA2 : Hid (FoAt 64 ((wr.alloc (.map #[] 0)).alloc (.cells #[.slice none 0 0, .map (some z)] 138)) F bf (fs.map flOf)) := HFA.out.only (((Only.refl NoF _).alloc _).alloc _) (fun _ _ e => e)
        have hfb : ∀ k, F k → k < z := fun k hk => by have := HFA.out.lt k hk; omega
        have hlen : ∀ f ∈ fs.map flOf, f.1.length ≤ 64 ∧ ∀ m ∈ f.1, m.size ≤ 9223372036854775807 := fun f hf => by
          obtain ⟨g, hg, rfl⟩ := List.mem_map.1 hf
          have h1 := check_pieces (HSP.out g hg)
          refine ⟨by unfold flOf; rw [List.length_map]; exact h1.2.2, fun m hm => ?_⟩
          obtain ⟨q, hq, rfl⟩ := List.mem_map.1 hm
          have h1 := piece_size hq
          have h2 : (bz q).size = q.length := by unfold bz; simp [ByteArray.size]
          have h3 := bx_data g.path
          have h4 := (HZ.out g hg).1
          rw [h2]; omega
        have hfl : (fs.map flOf).length ≤ 256 := by rw [List.length_map, HL.out]; omega
        have hfit : FitD 64 (fs.map flOf) := fitD_of 64 _ HAPT.out (fun f hf m hm => (hlen f hf).2 m hm)
        have hcnt : (treeS 64 (fs.map flOf) []).1.length ≤ 100000 := by
          have h1 := treeS_cnt 64 (fs.map flOf) []
          have h2 := wt_le (k := 64) (fs.map flOf) (fun f hf => (hlen f hf).1)
          simp only [List.length_nil, Nat.zero_add] at h1
          have h3 : (fs.map flOf).length * 64 ≤ 256 * 64 := Nat.mul_le_mul_right _ hfl
          omega
        have HTR := hid (tree_any w.heap.size (z + 1) z 64 (fs.map flOf) F bf [] (.slice none 0 0) ((wr.alloc (.map #[] 0)).alloc (.cells #[.slice none 0 0, .map (some z)] 138)) HFA2.out hfit (by omega) HBU.out (fun k hk e => by
          have h := hfb k hk
          rcases e with e | e | e
          · omega
          · omega
          · cases e) (by rw [HZ2.out]; omega) hcnt)
        have HRS : Hid (buildS fs = (treeS 64 (fs.map flOf) [], 0)) := by
          show _ = _
          unfold buildS; rw [if_pos HE.out]
        clear hlen hfl hfit hcnt hfb
        go_wp2_with fail
        refine HTR.out.mono ?_; rintro e w9 ⟨v9, rfl, hu9, ho9, -⟩
        have HU9 := hid hu9
        have HB9 : Hid (Below w.heap.size w w9) := HB2'.out.trans (ho9.below (fun k hk => by
          rcases hk with e | e | e
          · omega
          · omega
          · cases e) (by rw [HZ2.out]; omega))
        clear hu9 ho9 HTR
        go_wp2_with fail
        go_ret3
        rw [HRS.out]
        exact ⟨HB9.out, .inr ⟨rfl, _, _, _, rfl, HU9.out⟩⟩
  · have HRS : Hid (buildS fs = (([], ByteArray.empty), E)) := by
      show _ = _
      unfold buildS
      rw [HE.out, if_neg h0]
    go_enter Tryz.func71, Tryz.ntmps71
    go_wp2_with fail
    refine HCK.out.mono ?_; rintro e w1 ⟨rfl, hb1⟩
    go_wp2_with fail
    go_ret3
    rw [HRS.out]
    exact ⟨hb1, .inl ⟨h0, rfl⟩⟩
/-- files built, handed back: the objects, the tree's id, the error -/
def BuildOutL (w : World) (r : (List ByteArray × ByteArray) × Int) (e : Ending) (w' : World) : Prop :=
  Below w.heap.size w w' ∧ ∃ v, e = .returned (.tuple #[v, .string r.1.2, .int .i64 r.2]) ∧ w'.ownsRow w.heap.size 9 1 v r.1.1.length (svals r.1.1)
theorem buildS_err {fs : List Fi} (h : (buildS fs).2 ≠ 0) : buildS fs = (([], ByteArray.empty), (buildS fs).2) := by
  unfold buildS at *
  split
  · rename_i h1; rw [if_pos h1] at h; exact absurd rfl h
  · rfl
set_option maxRecDepth 100000 in
set_option maxHeartbeats 8000000 in
theorem Build_any (a : Option Addr) (n c : Nat) (fs : List Fi) (w : World) (h : FisAt w a n fs) (hz : ∀ f ∈ fs, f.path.size < 4294967281 ∧ f.data.size ≤ 9223372036854775807) (hm : MaxAt w) :
    Calls Tryz.prog 29 #[.slice a n c] w (BuildOutL w (buildS fs)) := by
  have HB := hid (build_any a n c fs w h hz hm)
  have HER := hid (fun h => buildS_err (fs := fs) h)
  obtain ⟨⟨⟨L, t⟩, E⟩, hr⟩ : ∃ r, buildS fs = r := ⟨_, rfl⟩
  rw [hr] at HB HER ⊢
  clear hr h hz hm
  go_enter Tryz.func29, Tryz.ntmps29
  go_wp2_with fail
  refine HB.out.mono ?_; rintro e w1 ⟨hb, ⟨h0, rfl⟩ | ⟨h0, b, m, v, rfl, hu⟩⟩
  · have h0 : E ≠ 0 := h0
    have e1 := HER.out h0
    have HB1 := hid hb
    injection e1 with e1 _
    injection e1 with e1 e2
    subst e1 e2
    clear HER hb
    go_wp2_with fail
    go_ret3
    exact ⟨HB1.out, _, rfl, World.ownsRow_nil _ _ _ _⟩
  · have h0 : E = 0 := h0
    subst h0
    have HB1 := hid hb
    have HU := hid hu
    have k0 : w1.cell? ⟨b, 0, none⟩ = some v := Blk.cell hu.1 0
    clear HER hb hu
    go_wp2_with fail
    go_ret3
    exact ⟨HB1.out, _, rfl, HU.out.2.1⟩
end Go.Proofs.YtlenfiiocmchdaaGreatDoor
/- slices.Sorted of slices.Values: texts sorted, in own memory. -/
namespace Go.Proofs.YtlenfiiocmchdaaGreatDoor
open Go.RowKit Go.Shelf Pap
attribute [local go_sem] Oper.semAt_some
set_option linter.unusedVariables false
set_option linter.unusedSimpArgs false

theorem take_snoc_get (zs : List ByteArray) {k : Nat} (hk : k < zs.length) : zs.take (k + 1) = zs.take k ++ [zs.getD k ByteArray.empty] := by
  rw [List.take_succ_eq_append_getElem hk, List.getD_eq_getElem?_getD, List.getElem?_eq_getElem hk]; rfl
set_option maxRecDepth 100000 in
set_option maxHeartbeats 2000000 in
theorem vals1_in (F : Fence) (n : Nat) (h7 : F.fn 122) (hro : F.round = none) (hn : 1 ≤ n) (l Bs n₀ : Nat) (a : Option Addr) (len cap : Nat) (zs : List ByteArray) (hl : zs.length = len) (hl2 : len ≤ 100000)
    (J Jx : List ByteArray → World → Prop)
    (hY : ∀ pre x W, J pre W → pre.length < len → YieldAt F (n - 1) Tryz.prog l #[.string x] W fun e W' =>
      (e = .returned (.bool true) ∧ J (pre ++ [x]) W' ∧ Below n₀ W W') ∨ (e = .returned (.bool false) ∧ Jx (pre ++ [x]) W'))
    (W : World) (hBs : W.cell? ⟨Bs, 0, none⟩ = some (.slice a len cap)) (hc : len = 0 ∨ ∃ b off, a = some ⟨b, off, none⟩ ∧ b < n₀ ∧ ∀ j, j < len → W.cell? ⟨b, off + j, none⟩ = some (.string (zs.getD j ByteArray.empty))) (h0 : J [] W) :
    CallsIn F n Tryz.prog 122 #[.func (.yield l) #[] #[], .pointer (some ⟨Bs, 0, none⟩)] W fun e W' => (∃ v, e = .returned v) ∧
      ((∃ ys, ys = zs ∧ J ys W') ∨ (∃ pre, pre <+: zs ∧ Jx pre W')) := by
  refine callsIn_of_wp Tryz.func122 rfl h7 ?_ hro
  simp only [Tryz.ntmps122, List.size_toArray, List.length_cons, List.length_nil, Nat.reduceAdd, Nat.reduceSub, Array.replicate_succ, Array.replicate_zero, List.push_toArray, List.append_toArray, List.nil_append, List.cons_append]
  gi_wp2
  gi_loopw [7] (fun i wr => ∃ k : Nat, k ≤ len ∧ i = .int .i64 k ∧ J (zs.take k) wr ∧ Below n₀ W wr)
    (fun i _ => len - (intOf i).toNat)
  case atStart => exact ⟨0, Nat.zero_le _, rfl, h0, Below.refl _ _⟩
  case round =>
    obtain ⟨k, hk, rfl, hJs, hnx⟩ := hrel
    by_cases hlt : k < len
    · obtain ⟨b, off, rfl, hb, hcs⟩ := hc.resolve_left (by omega)
      have hcx' := (hnx.cell (p := ⟨b, off + k, none⟩) hb).trans (hcs k hlt)
      have hsn := take_snoc_get zs (k := k) (by omega)
      obtain ⟨x, hx⟩ : ∃ x, zs.getD k ByteArray.empty = x := ⟨_, rfl⟩
      rw [hx] at hcx' hsn
      clear hx
      obtain ⟨fn, tmps, assign, body, hy, hR⟩ := hY _ x wr hJs (by rw [List.length_take]; omega)
      have ci : (k : Int) < len := by omega
      have ci0 : (0 : Int) ≤ (k : Int) := by omega
      gi_wp2
      refine hR.mono ?_
      rintro e W3 (⟨rfl, hJ3, hk3⟩ | ⟨rfl, hJx3⟩)
      · gi_wp2
        go_roundw
        case rel => exact ⟨k + 1, by omega, by simp, by rw [hsn]; exact hJ3, hnx.trans hk3⟩
        case measure => simp [intOf]; omega
      · gi_wp2
        refine bodyPost_ret (results_none rfl _ _ _) rfl ?_
        exact ⟨⟨_, rfl⟩, .inr ⟨_, by rw [← hsn]; exact List.take_prefix _ _, hJx3⟩⟩
    · obtain rfl : k = len := by omega
      gi_wp2
      go_end0
      exact ⟨⟨_, rfl⟩, .inl ⟨_, List.take_of_length_le (by omega), hJs⟩⟩
set_option maxHeartbeats 1000000 in
theorem vals_in (F : Fence) (n : Nat) (h5 : F.fn 74) (hro : F.round = none) (a : Option Addr) (len cap : Nat) (w : World) :
    CallsIn F n Tryz.prog 74 #[.slice a len cap] w fun e w' => e = .returned (.func (.func 122) #[] #[.pointer (some ⟨w.heap.size, 0, none⟩)]) ∧ w' = w.alloc (.cells #[.slice a len cap] 56) := by
  refine callsIn_of_wp Tryz.func74 rfl h5 ?_ hro
  simp only [Tryz.ntmps74, List.size_toArray, List.length_cons, List.length_nil, Nat.reduceAdd, Nat.reduceSub, Array.replicate_succ, Array.replicate_zero, List.push_toArray, List.append_toArray, List.nil_append, List.cons_append]
  gi_wp2
  go_ret
  exact ⟨rfl, rfl⟩
theorem vals_stops (F : Fence) (n : Nat) (h7 : F.fn 122) (hro : F.round = none) (hn : 1 ≤ n) (Bs : Nat) (a : Option Addr) (len cap : Nat) (zs : List ByteArray) (hl2 : len ≤ 100000) (n₀ : Nat) (w : World) (hn₀ : n₀ ≤ w.heap.size) (hBs : Bs < w.heap.size)
    (hc : w.cell? ⟨Bs, 0, none⟩ = some (.slice a len cap)) (hA : StrsAt w a len zs) (hAb : len = 0 ∨ ∀ b off, a = some ⟨b, off, none⟩ → b < n₀) :
    SeqStopsK F n Tryz.prog 122 #[.pointer (some ⟨Bs, 0, none⟩)] (fun x : ByteArray => #[Value.string x]) (Below n₀) (fun ys => ys = zs) (fun pre => pre <+: zs) zs.length w := fun l J Jx W hW _ _ hY h0 => by
  obtain ⟨h1, h2, h3⟩ := hA
  refine vals1_in F n h7 hro hn l Bs n₀ a len cap zs h1 hl2 J Jx (by rw [← h1]; exact hY) W ((hW.cell (p := ⟨Bs, 0, none⟩) hBs).trans hc) ?_ h0
  by_cases h0 : len = 0
  · exact .inl h0
  · obtain ⟨b, off, rfl, hcs⟩ := h3.resolve_left h0
    exact .inr ⟨b, off, rfl, hAb.resolve_left h0 b off rfl, fun j hj => (hW.cell (p := ⟨b, off + j, none⟩) (World.block_lt_of_cell? w _ (hcs j hj))).trans (hcs j hj)⟩
set_option maxRecDepth 100000 in
set_option maxHeartbeats 2000000 in
theorem appseq_in (F : Fence) (n : Nat) (h3 : F.fn 180) (h5 : F.fn 122) (hro : F.round = none) (hn : 3 ≤ n) (Bs : Nat) (a : Option Addr) (len cap : Nat) (zs : List ByteArray) (hl2 : len ≤ 100000) (w : World) (hBs : Bs < w.heap.size)
    (hc : w.cell? ⟨Bs, 0, none⟩ = some (.slice a len cap)) (hA : StrsAt w a len zs) :
    CallsIn F n Tryz.prog 180 #[.slice none 0 0, .func (.func 122) #[] #[.pointer (some ⟨Bs, 0, none⟩)]] w fun e W' => ∃ v, e = .returned v ∧ W'.ownsRow w.heap.size 9 1 v zs.length (svals zs) ∧ Below w.heap.size w W' := by
  have h1 : 1 ≤ n := by omega
  have hzl := hA.1
  obtain ⟨i0, hi, hz0, hz1, hz2⟩ := info_parts Tryz.infoS
  refine callsIn_of_wp_marks Tryz.func180 rfl h3 ?_ hro
  simp only [Tryz.ntmps180, List.size_toArray, List.length_cons, List.length_nil, Nat.reduceAdd, Nat.reduceSub, Array.replicate_succ, Array.replicate_zero, List.push_toArray, List.append_toArray, List.nil_append, List.cons_append]
  gi_wp2
  have bO := Boxed.new w 56 (.slice none 0 0)
  have hB0 : Below w.heap.size w (w.alloc (.cells #[.slice none 0 0] 56)) := (Below.refl _ w).alloc (Nat.le_refl _) _
  have hA1 : StrsAt (w.alloc (.cells #[.slice none 0 0] 56)) a len zs := hA.later hB0
  have hAb : len = 0 ∨ ∀ b off, a = some ⟨b, off, none⟩ → b < w.heap.size := by
    by_cases h0 : len = 0
    · exact .inl h0
    · obtain ⟨b, off, rfl, hcs⟩ := hA.2.2.resolve_left h0
      refine .inr fun b' off' e => ?_
      cases e
      exact World.block_lt_of_cell? w _ (hcs 0 (by omega))
  refine wpIn_rangeFunc_ownG hro h1 (gf := 122) (lb := #[.pointer (some ⟨Bs, 0, none⟩)]) rfl h5 (enters_of Tryz.func122 (by kernel_rfl) rfl)
    (vals_stops F (n - 1) h5 hro (by omega) Bs a len cap zs hl2 w.heap.size _ (by simp) (by simp; omega) ((hB0.cell (p := ⟨Bs, 0, none⟩) hBs).trans hc) hA1 hAb) belowK_t (belowK_b (by simp)) (Below.refl _ _) (fun _ => rfl)
    (fun pre W => (∃ v, Boxed W w.heap.size 56 v ∧ W.ownsRow w.heap.size 9 1 v pre.length (svals pre) ∧ True) ∧ Below w.heap.size w W)
    (fun _ _ _ => False)
    (OwnFrom.and (Own.from (holdsRow_own w.heap.size w.heap.size 56 9 1 (fun pre : List ByteArray => pre.length) (fun pre => svals pre) (fun pre v => True)) _) (ownFrom_below (Nat.le_refl _) (by simp)))
    (fun _ _ _ _ _ hs _ _ => hs)
    ⟨⟨_, bO, World.ownsRow_nil _ _ _ _, trivial⟩, hB0⟩
    (fun x => { tmps := #[.slice none 0 0, .func (.func 122) #[] #[.pointer (some ⟨Bs, 0, none⟩)], .pointer (some ⟨w.heap.size, 0, none⟩), undef, .slice none 0 0, .string x, .func (.func 122) #[] #[.pointer (some ⟨Bs, 0, none⟩)], .string x, undef, undef, undef, undef, undef], defers := [] }) ?assign ?body ?done ?stop
  case assign =>
    intro l x W K hK
    gi_wp2
    exact hK
  case body =>
    rintro l pre x W ⟨⟨v, hv, hrow, -⟩, hB⟩ hlt
    have hc := hv.cell
    have hsz := hB.size
    gi_wp2_with (gi_at_builtin; refine wpListIn_append_own _ rfl _ _ 56 rfl w.heap.size 9 i0 (.string ⟨#[]⟩) 1 16 Tryz.underlying56 hi hz0 hz1 hz2 rfl (by decide) _ _ _ rfl (hrow.alloc _) ⟨W.heap.size, 0, none⟩ 1 1 [.string x] rfl rfl (cell_one_new _ _ _) (by simp [Value.oneCell']) (by unfold maxLen; omega) (by omega) (by simp; omega) ?_; intro v' w1 hown' hgrow _; obtain ⟨g', cap', rfl⟩ := ownsRow_succ hown'; obtain ⟨hv1, hv2, hr2, hk2, hb2⟩ := hv.appended (by decide) hrow hB.size (Nat.le_refl _) hown' hgrow; have hc1 := hv1.cell; have hf1 := hv1.frozen)
    refine ⟨hk2.from _, hb2, ⟨_, hv2, ?_, trivial⟩, hB.trans hb2⟩
    rw [svals_append, List.length_append]; exact hr2
  case done =>
    rintro D ys W hD rfl ⟨⟨v, hv, hrow, -⟩, hB⟩ hK
    have hc := hv.cell
    gi_wp2
    refine ⟨by simp, .inl ⟨_, _, rfl, run_takeDeferred hK, ?_⟩⟩
    exact ⟨_, results_tmp rfl _ _ _, v, rfl, ownsRow_putObj hrow _ hK rfl, hB.trans (belowK_b (w := w) (Nat.le_refl _) W D _ _ (by simp at hD; omega) hK rfl rfl)⟩
  case stop =>
    rintro D c pre W _ _ h _
    exact h.elim
set_option maxHeartbeats 1000000 in
theorem collect_in (F : Fence) (n : Nat) (h8 : F.fn 121) (h3 : F.fn 180) (h5 : F.fn 122) (hro : F.round = none) (hn : 4 ≤ n) (Bs : Nat) (a : Option Addr) (len cap : Nat) (zs : List ByteArray) (hl2 : len ≤ 100000) (w : World) (hBs : Bs < w.heap.size)
    (hc : w.cell? ⟨Bs, 0, none⟩ = some (.slice a len cap)) (hA : StrsAt w a len zs) :
    CallsIn F n Tryz.prog 121 #[.func (.func 122) #[] #[.pointer (some ⟨Bs, 0, none⟩)]] w fun e W' => ∃ v, e = .returned v ∧ W'.ownsRow w.heap.size 9 1 v zs.length (svals zs) ∧ Below w.heap.size w W' := by
  have h1 : 1 ≤ n := by omega
  refine callsIn_of_wp Tryz.func121 rfl h8 ?_ hro
  simp only [Tryz.ntmps121, List.size_toArray, List.length_cons, List.length_nil, Nat.reduceAdd, Nat.reduceSub, Array.replicate_succ, Array.replicate_zero, List.push_toArray, List.append_toArray, List.nil_append, List.cons_append]
  gi_wp2_with (gi_at_call 180; refine (appseq_in F (n - 1) h3 h5 hro (by omega) Bs a len cap zs hl2 w hBs hc hA).mono ?_; rintro e w' ⟨v, rfl, hrow, hb⟩)
  go_ret
  exact ⟨v, rfl, hrow, hb⟩
theorem collect_any (Bs : Nat) (a : Option Addr) (len cap : Nat) (zs : List ByteArray) (hl2 : len ≤ 100000) (w : World) (hBs : Bs < w.heap.size) (hc : w.cell? ⟨Bs, 0, none⟩ = some (.slice a len cap)) (hA : StrsAt w a len zs) :
    Calls Tryz.prog 121 #[.func (.func 122) #[] #[.pointer (some ⟨Bs, 0, none⟩)]] w fun e W' => ∃ v, e = .returned v ∧ W'.ownsRow w.heap.size 9 1 v zs.length (svals zs) ∧ Below w.heap.size w W' :=
  callsIn_wide.1 (collect_in Fence.wide 4 trivial trivial trivial rfl (by omega) Bs a len cap zs hl2 w hBs hc hA)
/-- slices.Values, plain -/
theorem vals_any (a : Option Addr) (len cap : Nat) (w : World) :
    Calls Tryz.prog 74 #[.slice a len cap] w fun e w' => e = .returned (.func (.func 122) #[] #[.pointer (some ⟨w.heap.size, 0, none⟩)]) ∧ w' = w.alloc (.cells #[.slice a len cap] 56) :=
  callsIn_wide.1 (vals_in Fence.wide 1 trivial rfl a len cap w)
set_option maxHeartbeats 1000000 in
theorem sorted_any (Bs : Nat) (a : Option Addr) (len cap : Nat) (zs : List ByteArray) (hl2 : len ≤ 100000) (w : World) (hBs : Bs < w.heap.size) (hc : w.cell? ⟨Bs, 0, none⟩ = some (.slice a len cap)) (hA : StrsAt w a len zs) :
    Calls Tryz.prog 73 #[.func (.func 122) #[] #[.pointer (some ⟨Bs, 0, none⟩)]] w fun e W' => ∃ v, e = .returned v ∧ W'.ownsRow w.heap.size 9 1 v zs.length (svals (sortB zs)) ∧ Below w.heap.size w W' := by
  have HC := hid (collect_any Bs a len cap zs hl2 w hBs hc hA)
  have HL := hid hA.1
  clear hc hA
  go_enter Tryz.func73, Tryz.ntmps73
  go_wp2_with fail
  refine HC.out.mono ?_; rintro e w1 ⟨v, rfl, ho, hb⟩
  have HB := hid hb
  have HO := hid ho
  have HS := hid (sort_own ho (by have := HL.out; omega))
  clear ho hb
  go_wp2_with fail
  refine HS.out.mono ?_; rintro e w2 ⟨rfl, ho2, hg2⟩
  have HO2 := hid ho2
  have HB2 : Hid (Below w.heap.size w w2) := HB.out.grown hg2 HB.out.size (fun j hj => (HO.out.lt j hj).1)
  clear ho2 hg2
  go_wp2_with fail
  go_ret
  exact ⟨_, rfl, HO2.out, HB2.out⟩
end Go.Proofs.YtlenfiiocmchdaaGreatDoor
/- A commit made: Commit. -/
namespace Go.Proofs.YtlenfiiocmchdaaGreatDoor
open Go.RowKit Book Pap Ojt Sn
set_option linter.unusedVariables false
set_option linter.unusedSimpArgs false

theorem buildS_len (fs : List Fi) : (buildS fs).1.1.length ≤ 16385 := by
  unfold buildS
  split
  · rename_i h
    obtain ⟨h1, h2⟩ := checkF_ok h
    have hs := (apt_of h2).2
    have h3 := treeS_cnt 64 (fs.map flOf) []
    have h4 := wt_le (k := 64) (fs.map flOf) (fun f hf => by
      obtain ⟨g, hg, rfl⟩ := List.mem_map.1 hf
      have := check_pieces (hs g hg)
      unfold flOf; rw [List.length_map]; exact this.2.2)
    simp only [List.length_nil, Nat.zero_add] at h3
    rw [List.length_map] at h4
    have h5 : fs.length * 64 ≤ 256 * 64 := Nat.mul_le_mul_right _ h1
    simp only; omega
  · exact Nat.zero_le _
theorem NumsAt.later {w w' : World} {a : Option Addr} {n : Nat} {l : List Int} (h : NumsAt w a n l) (hb : Below w.heap.size w w') : NumsAt w' a n l := by
  obtain ⟨h1, h3⟩ := h
  refine ⟨h1, h3.imp id ?_⟩
  rintro ⟨b, off, ha, hc⟩
  exact ⟨b, off, ha, fun j hj => (hb.cell (World.block_lt_of_cell? w _ (hc j hj))).trans (hc j hj)⟩
def commitOf (tree : ByteArray) (ps : List ByteArray) (h : Int) (note : ByteArray) : Ob := { zero with kind := 3, tree := tree, pars := ps, height := h, note := note }
/-- a commit made: the objects, its id, the error -/
def commitS (G : Sw.Src) (fs : List Fi) (ps : List ByteArray) (note : ByteArray) : (List ByteArray × ByteArray) × Int :=
  if (buildS fs).2 ≠ 0 then (([], ByteArray.empty), (buildS fs).2)
  else if (highS G ps).2 ≠ 0 then (([], ByteArray.empty), (highS G ps).2)
  else if 1073741824 < heightL (highS G ps).1 then (([], ByteArray.empty), 41)
  else if 1000 < note.size then (([], ByteArray.empty), 5)
  else (layS (buildS fs).1.1 (commitOf (buildS fs).1.2 (sortB ps) (heightL (highS G ps).1) note), 0)
theorem heightL_bd {zs : List Int} (h : ∀ z ∈ zs, 0 ≤ z ∧ z ≤ 1073741824) : 0 ≤ heightL zs ∧ heightL zs ≤ 1073741825 := by
  by_cases h0 : zs = []
  · subst h0; show (0 : Int) ≤ 0 ∧ (0 : Int) ≤ _; omega
  · rw [heightL_eq zs h0]
    have := h _ (maxOf_mem zs h0)
    omega
set_option maxRecDepth 100000 in
set_option maxHeartbeats 8000000 in
theorem commit_any (t : TypeId) (rv : Value) (G : Sw.Src) (hz : SrcSz G) (a : Option Addr) (n c : Nat) (fs : List Fi) (pa : Option Addr) (pn pc : Nat) (ps : List ByteArray) (note : ByteArray) (w : World) (hs : SrcAt w t rv G)
    (hF : FisAt w a n fs) (hfz : ∀ f ∈ fs, f.path.size < 4294967281 ∧ f.data.size ≤ 9223372036854775807) (hP : StrsAt w pa pn ps) (hnote : note.size ≤ 9223372036854775807) (hm : MaxAt w) :
    Calls Tryz.prog 32 #[.iface t rv, .slice a n c, .slice pa pn pc, .string note] w (BuildOutL w (commitS G fs ps note)) := by
  have HB := hid (build_any a n c fs w hF hfz hm)
  have HER := hid (fun h => buildS_err (fs := fs) h)
  have HLEN := hid (buildS_len fs)
  have HCM : Hid (commitS G fs ps note = if (buildS fs).2 ≠ 0 then (([], ByteArray.empty), (buildS fs).2)
    else if (highS G ps).2 ≠ 0 then (([], ByteArray.empty), (highS G ps).2)
    else if 1073741824 < heightL (highS G ps).1 then (([], ByteArray.empty), 41)
    else if 1000 < note.size then (([], ByteArray.empty), 5)
    else (layS (buildS fs).1.1 (commitOf (buildS fs).1.2 (sortB ps) (heightL (highS G ps).1) note), 0)) := rfl
  have HS := hid hs
  have HP := hid hP
  clear hs hP hF hfz hm
  obtain ⟨⟨⟨L, tr⟩, E⟩, hr⟩ : ∃ r, buildS fs = r := ⟨_, rfl⟩
  rw [hr] at HB HER HLEN HCM
  clear hr
  go_enter Tryz.func32, Tryz.ntmps32
  go_wp2_with fail
  refine HB.out.mono ?_; rintro e w1 ⟨hb, ⟨h0, rfl⟩ | ⟨h0, b, m, v, rfl, hu⟩⟩
  · have h0 : E ≠ 0 := h0
    have HB1 := hid hb
    have HC : Hid (commitS G fs ps note = (([], ByteArray.empty), E)) := by
      show _ = _
      rw [HCM.out, if_pos h0]
    clear HER hb HB HCM
    go_wp2_with fail
    go_ret3
    rw [HC.out]
    exact ⟨HB1.out, _, rfl, World.ownsRow_nil _ _ _ _⟩
  · have h0 : E = 0 := h0
    subst h0
    have HB1 := hid hb
    have HU := hid hu
    have hs1 : w.heap.size ≤ w1.heap.size := hb.size
    have HH := hid (heights_any t rv G hz pa pn pc ps w1 (HS.out.later hb) (HP.out.later hb))
    have HCM2 : Hid (commitS G fs ps note = if (highS G ps).2 ≠ 0 then (([], ByteArray.empty), (highS G ps).2)
      else if 1073741824 < heightL (highS G ps).1 then (([], ByteArray.empty), 41)
      else if 1000 < note.size then (([], ByteArray.empty), 5)
      else (layS L (commitOf tr (sortB ps) (heightL (highS G ps).1) note), 0)) := by
      show _ = _
      rw [HCM.out, if_neg (by simp)]
    obtain ⟨⟨zs, E2⟩, hhr⟩ : ∃ r, highS G ps = r := ⟨_, rfl⟩
    have HHR := hid hhr
    rw [hhr] at HH HCM2
    clear HER hb hu HB HCM hhr
    go_wp2_with fail
    refine HH.out.mono ?_; rintro e w2 ⟨za, zn, zc, rfl, hN, hb2, hz8, hzb⟩
    have HN := hid hN
    have HZB := hid hzb
    have HB2 : Hid (Below w.heap.size w w2) := HB1.out.trans (hb2.mono hs1)
    have HU2 := hid (HU.out.below hb2)
    have hs2 : w.heap.size ≤ w2.heap.size := Nat.le_trans hs1 hb2.size
    clear hN hb2 hzb HH HU HB1 hs1
    by_cases he : E2 = 0
    · subst he
      have HCM3 : Hid (commitS G fs ps note = if 1073741824 < heightL zs then (([], ByteArray.empty), 41)
        else if 1000 < note.size then (([], ByteArray.empty), 5)
        else (layS L (commitOf tr (sortB ps) (heightL zs) note), 0)) := by
        show _ = _
        rw [HCM2.out, if_neg (by simp)]
      have hpn : pn ≤ 8 := by
        have h := HHR.out
        have h1 := HP.out.1
        unfold highS at h
        split at h
        · cases h
        · omega
      have HV := hid (vals_any pa pn pc w2)
      have hb3 : Below w2.heap.size w2 (w2.alloc (.cells #[.slice pa pn pc] 56)) := (Below.refl _ _).alloc (Nat.le_refl _) _
      have HP2 : StrsAt w2 pa pn ps := HP.out.later HB2.out
      have HSO := hid (sorted_any w2.heap.size pa pn pc ps (by omega) (w2.alloc (.cells #[.slice pa pn pc] 56)) (by simp) (Blk.cell (Blk.new w2 56 #[.slice pa pn pc]) 0) (HP2.later hb3))
      have HHT := hid (fun W (hW : NumsAt W za zn zs) => objheight_any za zn zc zs W hW (by omega) (fun z hz => by have := HZB.out z hz; omega))
      have HHB := hid (heightL_bd HZB.out)
      obtain ⟨h, hh⟩ : ∃ h, heightL zs = h := ⟨_, rfl⟩
      rw [hh] at HCM3 HHT HHB
      have HB3 : Hid (Below w.heap.size w (w2.alloc (.cells #[.slice pa pn pc] 56))) := HB2.out.trans (hb3.mono hs2)
      have HU3 := hid (HU2.out.below hb3)
      have HN3 := hid (HN.out.later hb3)
      have hs3 : w.heap.size ≤ (w2.alloc (.cells #[.slice pa pn pc] 56)).heap.size := by rw [World.size_alloc]; omega
      clear hb3 HP2 HZB hh HCM2 HHR HB2 HU2 HN hs2
      go_wp2_with fail
      refine HV.out.mono ?_; rintro e w3 ⟨rfl, rfl⟩
      generalize hw3 : w2.alloc (.cells #[.slice pa pn pc] 56) = w3 at HSO HB3 HU3 HN3 hs3 ⊢
      clear HV
      go_wp2_with fail
      refine HSO.out.mono ?_; rintro e w4 ⟨pv, rfl, hpo, hb4⟩
      have HPO := hid hpo
      have HB4 : Hid (Below w.heap.size w w4) := HB3.out.trans (hb4.mono hs3)
      have HU4 := hid (HU3.out.below hb4)
      have HHT4 := hid (HHT.out w4 (HN3.out.later hb4))
      have hs4 : w.heap.size ≤ w4.heap.size := HB4.out.size
      clear hpo hb4 HSO HB3 HU3 HN3 hs3 HHT hw3
      go_wp2_with fail
      refine HHT4.out.mono ?_; rintro e w4' ⟨rfl, rfl⟩
      have hpsl : (sortB ps).length = ps.length := sortB_length ps
      have hpst : ∃ qa qc, pv = .slice qa ps.length qc ∧ StrsAt w4 qa ps.length (sortB ps) ∧ ps.length ≤ qc := by
        have h := HPO.out
        rw [← hpsl] at h
        obtain ⟨qa, qc, e, hst⟩ := own_strs h (by have := HP.out.1; omega)
        obtain ⟨qa', qc', e', hq⟩ := own_slice' h
        rw [e] at e'
        injection e' with _ _ e3
        subst e3
        rw [hpsl] at e hst hq
        exact ⟨qa, qc, e, hst, hq⟩
      obtain ⟨qa, qc, rfl, hst, hqc⟩ := hpst
      have HST := hid hst
      have hhb1 := HHB.out.1
      have hhb2 := HHB.out.2
      clear hst hpsl HHT4 HPO
      have HX5 : Hid (Blk (w4.alloc (.cells #[.int .i64 3, .string ⟨#[]⟩, .slice none 0 0, .string tr, .slice qa ps.length qc, .int .i64 h, .string note] 103)) w4.heap.size 103 #[.int .i64 3, .string ⟨#[]⟩, .slice none 0 0, .string tr, .slice qa ps.length qc, .int .i64 h, .string note]) := Blk.new w4 _ _
      have hb5 : Below w4.heap.size w4 (w4.alloc (.cells #[.int .i64 3, .string ⟨#[]⟩, .slice none 0 0, .string tr, .slice qa ps.length qc, .int .i64 h, .string note] 103)) := (Below.refl _ _).alloc (Nat.le_refl _) _
      have HB5 : Hid (Below w.heap.size w (w4.alloc (.cells #[.int .i64 3, .string ⟨#[]⟩, .slice none 0 0, .string tr, .slice qa ps.length qc, .int .i64 h, .string note] 103))) := HB4.out.trans (hb5.mono hs4)
      have HU5 := hid (HU4.out.below hb5)
      have HST5 := hid (HST.out.later hb5)
      clear hb5 HU4 HB4 HST
      go_upto_region 8 with fail
      generalize (w4.alloc (.cells #[.int .i64 3, .string ⟨#[]⟩, .slice none 0 0, .string tr, .slice qa ps.length qc, .int .i64 h, .string note] 103)) = w5 at HX5 HB5 HU5 HST5 ⊢
      generalize w4.heap.size = g5 at HX5 ⊢
      have k0 : w5.cell? ⟨g5, 0, none⟩ = some (.int .i64 3) := Blk.cell HX5.out 0
      have k1 : w5.cell? ⟨g5, 1, none⟩ = some (.string ⟨#[]⟩) := Blk.cell HX5.out 1
      have k2 : w5.cell? ⟨g5, 2, none⟩ = some (.slice none 0 0) := Blk.cell HX5.out 2
      have k3 : w5.cell? ⟨g5, 3, none⟩ = some (.string tr) := Blk.cell HX5.out 3
      have k4 : w5.cell? ⟨g5, 4, none⟩ = some (.slice qa ps.length qc) := Blk.cell HX5.out 4
      have k5 : w5.cell? ⟨g5, 5, none⟩ = some (.int .i64 h) := Blk.cell HX5.out 5
      have k6 : w5.cell? ⟨g5, 6, none⟩ = some (.string note) := Blk.cell HX5.out 6
      by_cases hhi : 1073741824 < h
      · have HC : Hid (commitS G fs ps note = (([], ByteArray.empty), 41)) := by
          show _ = _
          rw [HCM3.out, if_pos hhi]
        go_wp2_with fail
        go_ret3
        rw [HC.out]
        exact ⟨HB5.out, _, rfl, World.ownsRow_nil _ _ _ _⟩
      · by_cases hno : 1000 < note.size
        · have HC : Hid (commitS G fs ps note = (([], ByteArray.empty), 5)) := by
            show _ = _
            rw [HCM3.out, if_neg hhi, if_pos hno]
          have hno1 : (1000 : Int) < (note.size : Int) := by omega
          go_wp2_with fail
          go_ret3
          rw [HC.out]
          exact ⟨HB5.out, _, rfl, World.ownsRow_nil _ _ _ _⟩
        · have HC : Hid (commitS G fs ps note = (layS L (commitOf tr (sortB ps) h note), 0)) := by
            show _ = _
            rw [HCM3.out, if_neg hhi, if_neg hno]
          have hno1 : ¬ (1000 : Int) < (note.size : Int) := by omega
          have HLA : Hid (Calls Tryz.prog 76 #[.pointer (some ⟨b, 0, none⟩), .agg #[.int .i64 3, .string ⟨#[]⟩, .slice none 0 0, .string tr, .slice qa ps.length qc, .int .i64 h, .string note]] w5 (LayOut w.heap.size w5 b m v (layS L (commitOf tr (sortB ps) h note)))) :=
            lay_any w.heap.size b m v L (commitOf tr (sortB ps) h note) (.slice none 0 0) (.slice qa ps.length qc) w5 HU5.out ⟨none, 0, 0, qa, ps.length, qc, rfl, ⟨rfl, by omega, .inl rfl⟩, rfl, HST5.out⟩
              ⟨by show (-9223372036854775808 : Int) ≤ 3 ∧ (3 : Int) ≤ _; omega, by show (-9223372036854775808 : Int) ≤ h ∧ h ≤ _; omega, Nat.zero_le _⟩ (fun a n c e => by cases e; exact hqc) (Nat.le_trans HLEN.out (by omega))
          obtain ⟨⟨L9, id9⟩, hl9⟩ : ∃ r, layS L (commitOf tr (sortB ps) h note) = r := ⟨_, rfl⟩
          rw [hl9] at HC HLA
          clear hl9 HCM3 HST5
          go_wp2_with fail
          refine HLA.out.mono ?_; rintro e w9 ⟨v9, rfl, hu9, ho9, -⟩
          have HU9 := hid hu9
          have HB9 : Hid (Below w.heap.size w w9) := by
            have h1 : Below w.heap.size w5 w9 := ho9.below (fun k hk => by
              rcases hk with e | e | e
              · subst e; exact HU5.out.2.2.2.1
              · subst e; exact HU5.out.2.2.2.2
              · exact (HU5.out.2.1.lt k e).1) HB5.out.size
            exact HB5.out.trans h1
          have q0 : w9.cell? ⟨b, 0, none⟩ = some v9 := Blk.cell hu9.1 0
          clear hu9 ho9 HLA k0 k1 k2 k3 k4 k5 k6
          go_wp2_with fail
          go_ret3
          rw [HC.out]
          exact ⟨HB9.out, _, rfl, HU9.out.2.1⟩
    · have HC : Hid (commitS G fs ps note = (([], ByteArray.empty), E2)) := by
        show _ = _
        rw [HCM2.out, if_pos he]
      clear HCM2 HHR
      go_wp2_with fail
      go_ret3
      rw [HC.out]
      exact ⟨HB2.out, _, rfl, World.ownsRow_nil _ _ _ _⟩
end Go.Proofs.YtlenfiiocmchdaaGreatDoor
/- Objects there and back (plain): what is encoded decodes to itself; an id looked up. -/
namespace Go.Proofs.YtlenfiiocmchdaaGreatDoor
open Go.RowKit Book Pap Ojt Sn
set_option linter.unusedVariables false
set_option linter.unusedSimpArgs false

theorem kindR_app (k : Int) (b : List UInt8) (hk : k = 1 ∨ k = 2) : kindR ⟨UInt8.ofNat k.toNat :: b, false⟩ = (k, ⟨b, false⟩) := by
  rcases hk with rfl | rfl <;> simp [kindR, takeR]
theorem entR_app {e : Ent} (h : goodEnt e = true) (b : List UInt8) : entR ⟨entL e ++ b, false⟩ = (e, ⟨b, false⟩) := by
  obtain ⟨-, h2, h3, h4⟩ := goodEnt_facts h
  have hn : e.name.data.toList.length ≤ 255 := by rw [bx_data]; exact h2
  have hi : e.id.data.toList.length = 32 := by rw [bx_data]; exact h4
  have e1 : entL e ++ b = UInt8.ofNat e.kind.toNat :: (textL e.name.data.toList ++ (e.id.data.toList ++ b)) := by simp [entL]
  unfold entR
  rw [e1, kindR_app _ _ h3]
  simp only
  rw [textR_app _ _ 255 hn (by omega)]
  simp only
  have h5 := takeR_app e.id.data.toList b
  rw [hi] at h5
  rw [h5]
  simp only [bz_bl]
theorem entsR_app : ∀ (E : List Ent) (b : List UInt8), (∀ e ∈ E, goodEnt e = true) → entsR E.length ⟨E.flatMap entL ++ b, false⟩ = (E, ⟨b, false⟩)
  | [], b, _ => rfl
  | e :: E, b, h => by
    have ih := entsR_app E b (fun x hx => h x (List.mem_cons_of_mem _ hx))
    have h1 := entR_app (h e (List.mem_cons_self ..)) (E.flatMap entL ++ b)
    rw [List.flatMap_cons, List.append_assoc, List.length_cons]
    unfold entsR
    rw [if_neg (by simp), h1]
    simp only
    rw [ih]
theorem dec_cons (k : UInt8) (s : List UInt8) : dec (k :: s) = if k = 1 then (if good (blobO s) = true then some (blobO s) else none)
    else if k = 2 then (if wholeR (treeR (newR s)).2 = true ∧ good (treeO s) = true then some (treeO s) else none)
    else if k = 3 then (if wholeR (commitR s) = true ∧ good (commitO s) = true then some (commitO s) else none)
    else none := rfl
theorem dec_tree {E : List Ent} (h : good (treeOf E) = true) : dec (encL (treeOf E)) = some (treeOf E) := by
  obtain ⟨h1, h2⟩ := good_tree h rfl
  have h1 : E.length ≤ 256 := h1
  have e1 : encL (treeOf E) = 2 :: (numL E.length ++ E.flatMap entL) := rfl
  have h3 : treeR (newR (numL E.length ++ E.flatMap entL)) = (E, ⟨[], false⟩) := by
    unfold treeR newR
    rw [numR_app _ (by omega)]
    simp only
    unfold spoil
    rw [if_neg (by omega)]
    have h4 := entsR_app E [] h2
    rwa [List.append_nil] at h4
  have h4 : treeO (numL E.length ++ E.flatMap entL) = treeOf E := by unfold treeO; rw [h3]; rfl
  rw [e1, dec_cons]
  rw [if_neg (by decide), if_pos rfl, h3, h4, if_pos ⟨rfl, h⟩]
theorem dec_blob {s : ByteArray} (h : good (blobOf s) = true) : dec (encL (blobOf s)) = some (blobOf s) := by
  have e : blobO s.data.toList = blobOf s := by unfold blobO blobOf; rw [bz_bl]
  have e1 : encL (blobOf s) = 1 :: s.data.toList := rfl
  rw [e1, dec_cons]
  rw [if_pos rfl, e, if_pos h]
theorem idsR_app : ∀ (P : List ByteArray) (b : List UInt8), (∀ p ∈ P, p.size = 32) → idsR P.length ⟨P.flatMap (fun p => p.data.toList) ++ b, false⟩ = (P, ⟨b, false⟩)
  | [], b, _ => rfl
  | p :: P, b, h => by
    have ih := idsR_app P b (fun x hx => h x (List.mem_cons_of_mem _ hx))
    have h1 : p.data.toList.length = 32 := by rw [bx_data]; exact h p (List.mem_cons_self ..)
    have h2 := takeR_app p.data.toList (P.flatMap (fun p => p.data.toList) ++ b)
    rw [h1] at h2
    rw [List.flatMap_cons, List.append_assoc, List.length_cons]
    unfold idsR
    rw [if_neg (by simp), h2]
    simp only
    rw [ih, bz_bl]
theorem dec_commit {t : ByteArray} {ps : List ByteArray} {h : Int} {n : ByteArray} (hg : good (commitOf t ps h n) = true) : dec (encL (commitOf t ps h n)) = some (commitOf t ps h n) := by
  obtain ⟨h1, h2, h3, h4, h5, h6⟩ := good_commit hg rfl
  have h1 : ps.length ≤ 8 := h1
  have h2 : ∀ p ∈ ps, p.size = 32 := h2
  have h3 : 0 ≤ h := h3
  have h4 : h ≤ 1073741824 := h4
  have h5 : t.data.toList.length = 32 := by rw [bx_data]; exact h5
  have h6 : n.data.toList.length ≤ 1000 := by rw [bx_data]; exact h6
  obtain ⟨S, hS⟩ : ∃ S, t.data.toList ++ (numL ps.length ++ (ps.flatMap (fun p => p.data.toList) ++ (numL h.toNat ++ textL n.data.toList))) = S := ⟨_, rfl⟩
  have e1 : encL (commitOf t ps h n) = 3 :: S := by
    rw [← hS]
    show (3 :: t.data.toList ++ numL ps.length ++ ps.flatMap (fun p => p.data.toList) ++ numL h.toNat ++ textL n.data.toList) = _
    simp
  have q1 : takeR (newR S) 32 = (t.data.toList, ⟨numL ps.length ++ (ps.flatMap (fun p => p.data.toList) ++ (numL h.toNat ++ textL n.data.toList)), false⟩) := by
    have := takeR_app t.data.toList (numL ps.length ++ (ps.flatMap (fun p => p.data.toList) ++ (numL h.toNat ++ textL n.data.toList)))
    rw [h5] at this
    rw [← hS]; exact this
  have q2 : parsR (takeR (newR S) 32).2 = (ps, ⟨numL h.toNat ++ textL n.data.toList, false⟩) := by
    rw [q1]
    unfold parsR
    rw [numR_app _ (by omega)]
    simp only
    unfold spoil
    rw [if_neg (by omega)]
    exact idsR_app ps _ h2
  have q3 : numR (parsR (takeR (newR S) 32).2).2 = (h.toNat, ⟨textL n.data.toList, false⟩) := by
    rw [q2]; exact numR_app _ (by omega) _
  have q4 : textR (numR (parsR (takeR (newR S) 32).2).2).2 1000 = (n.data.toList, ⟨[], false⟩) := by
    rw [q3]
    have := textR_app n.data.toList [] 1000 h6 (by omega)
    rwa [List.append_nil] at this
  have e2 : commitO S = commitOf t ps h n := by
    unfold commitO
    simp only
    rw [q4, q3, q2, q1]
    simp only [bz_bl]
    unfold commitOf
    congr
    omega
  have e3 : commitR S = ⟨[], false⟩ := by unfold commitR; rw [q4]
  rw [e1, dec_cons]
  rw [if_neg (by decide), if_neg (by decide), if_pos rfl, e2, e3, if_pos ⟨rfl, hg⟩]
theorem decO_encP {x : Ob} (h : good x = true) (hd : dec (encL x) = some x) : Sw.decO (encP x) = some x := by
  unfold Sw.decO encP; rw [if_pos h, bl_bz, hd]
theorem encP_inj {x y : Ob} (hx : good x = true) (hy : good y = true) (dx : dec (encL x) = some x) (dy : dec (encL y) = some y) (h : encP x = encP y) : x = y := by
  have h1 := decO_encP hx dx
  rw [h, decO_encP hy dy] at h1
  exact (Option.some.inj h1).symm
theorem lookK_of {G : Sw.Src} {x : Ob} {k lacks : Int} (hg : G (Sw.idOf (encP x)) = some (encP x)) (hx : good x = true) (hd : dec (encL x) = some x) (hk : x.kind = k) : lookK G (Sw.idOf (encP x)) k lacks = (x, 0) := by
  have h1 := decO_encP hx hd
  unfold lookK
  rw [hg]
  simp only
  rw [h1]
  simp only
  rw [if_neg (by simp [hk])]
theorem idOf_size (t : ByteArray) : (Sw.idOf t).size = 32 := by
  have := Sha.shaL_len t.data.toList
  unfold Sw.idOf bz
  simp [ByteArray.size, this]
end Go.Proofs.YtlenfiiocmchdaaGreatDoor
/- A folder's tree: its id, the texts of its objects; the order of files plays no part (plain). -/
namespace Go.Proofs.YtlenfiiocmchdaaGreatDoor
open Go.RowKit Book Pap Ojt Sn
set_option linter.unusedVariables false
set_option linter.unusedSimpArgs false

def leafT (fs : List Fl) (n : ByteArray) : ByteArray := encP (blobOf ((leafs fs n).getD ByteArray.empty))
/-- one name's entry -/
def entOf (rec : List Fl → ByteArray) (fs : List Fl) (n : ByteArray) : Ent :=
  if sub n fs = [] then ⟨n, 1, Sw.idOf (leafT fs n)⟩ else ⟨n, 2, rec (sub n fs)⟩
/-- a folder's tree's id -/
def tid : Nat → List Fl → ByteArray
  | 0, fs => ByteArray.empty
  | d + 1, fs => Sw.idOf (encP (treeOf ((namesF fs).map (entOf (tid d) fs))))
def tents (d : Nat) (fs : List Fl) : List Ent := (namesF fs).map (entOf (tid d) fs)
def textOf (rec : List Fl → List ByteArray) (fs : List Fl) (n : ByteArray) : List ByteArray := if sub n fs = [] then [leafT fs n] else rec (sub n fs)
/-- the texts of a folder's objects -/
def texts : Nat → List Fl → List ByteArray
  | 0, fs => []
  | d + 1, fs => (namesF fs).flatMap (textOf (texts d) fs) ++ [encP (treeOf (tents d fs))]
theorem layS_mem (L : List ByteArray) (x : Ob) (s : ByteArray) : s ∈ (layS L x).1 ↔ s ∈ L ∨ s = encP x := by
  unfold layS
  simp only
  split
  · rename_i h
    have h := hasN_iff.1 h
    exact ⟨.inl, fun h1 => h1.elim id (fun e => e ▸ h)⟩
  · rw [List.mem_append, List.mem_singleton]
theorem entsS_mem {rec : List Fl → List ByteArray → List ByteArray × ByteArray} {ti : List Fl → ByteArray} {tx : List Fl → List ByteArray} (hr : ∀ fs L, (rec fs L).2 = ti fs ∧ ∀ s, s ∈ (rec fs L).1 ↔ s ∈ L ∨ s ∈ tx fs) (fs : List Fl) :
    ∀ (ns : List ByteArray) (L : List ByteArray) (E : List Ent), (entsS rec fs ns L E).2 = E ++ ns.map (entOf ti fs) ∧ ∀ s, s ∈ (entsS rec fs ns L E).1 ↔ s ∈ L ∨ s ∈ ns.flatMap (textOf tx fs)
  | [], L, E => ⟨(List.append_nil E).symm, fun s => by simp [entsS]⟩
  | n :: r, L, E => by
    obtain ⟨h1, h2⟩ := entsS_mem hr fs r (nameS rec fs L n).1 (E ++ [(nameS rec fs L n).2])
    have k : (nameS rec fs L n).2 = entOf ti fs n ∧ ∀ s, s ∈ (nameS rec fs L n).1 ↔ s ∈ L ∨ s ∈ textOf tx fs n := by
      unfold nameS entOf textOf leafT
      split
      · exact ⟨rfl, fun s => by rw [layS_mem, List.mem_singleton]⟩
      · obtain ⟨h3, h4⟩ := hr (sub n fs) L
        exact ⟨by rw [h3], h4⟩
    refine ⟨?_, fun s => ?_⟩
    · show (entsS rec fs r _ _).2 = _
      rw [h1, k.1]; simp
    · show s ∈ (entsS rec fs r _ _).1 ↔ _
      rw [h2, k.2, List.flatMap_cons, List.mem_append, or_assoc]
theorem treeS_mem : ∀ (d : Nat) (fs : List Fl) (L : List ByteArray), (treeS d fs L).2 = tid d fs ∧ ∀ s, s ∈ (treeS d fs L).1 ↔ s ∈ L ∨ s ∈ texts d fs
  | 0, fs, L => ⟨rfl, fun s => by simp [treeS, texts]⟩
  | d + 1, fs, L => by
    obtain ⟨h1, h2⟩ := entsS_mem (treeS_mem d) fs (namesF fs) L []
    rw [List.nil_append] at h1
    refine ⟨?_, fun s => ?_⟩
    · show (layS _ _).2 = _
      unfold layS
      simp only
      rw [h1]; rfl
    · show s ∈ (layS _ _).1 ↔ _
      rw [layS_mem, h2, h1]
      show _ ↔ s ∈ L ∨ s ∈ (namesF fs).flatMap (textOf (texts d) fs) ++ [encP (treeOf (tents d fs))]
      rw [List.mem_append, List.mem_singleton, or_assoc]; rfl
/-! order -/
theorem leafs_in : ∀ (l : List Fl) (n d : ByteArray) (g : Option ByteArray), l.foldl (fun g f => if f.1 = [n] then some f.2 else g) g = some d → g = some d ∨ (([n], d) : Fl) ∈ l
  | [], n, d, g, h => .inl h
  | f :: r, n, d, g, h => by
    rw [List.foldl_cons] at h
    rcases leafs_in r n d _ h with h1 | h1
    · by_cases hf : f.1 = [n]
      · rw [if_pos hf] at h1
        refine .inr (List.mem_cons.2 (.inl ?_))
        obtain ⟨a, b⟩ := f
        simp only at hf h1
        cases h1; rw [hf]
      · rw [if_neg hf] at h1; exact .inl h1
    · exact .inr (List.mem_cons_of_mem _ h1)
theorem off_irr (l : List ByteArray) : ¬ Off l l := fun h => h.1 (List.prefix_refl _)
theorem apt_one {fs : List Fl} (h : AptL fs) {f g : Fl} (hf : f ∈ fs) (hg : g ∈ fs) (e : f.1 = g.1) : f = g := by
  refine Decidable.byContradiction fun hne => ?_
  have := pw_mem (R := fun f g : Fl => Off f.1 g.1) (fun a b h => ⟨h.2, h.1⟩) h.2 hf hg hne
  rw [e] at this
  exact off_irr _ this
theorem leafs_val {fs : List Fl} (h : AptL fs) {n d : ByteArray} : leafs fs n = some d ↔ (([n], d) : Fl) ∈ fs := by
  constructor
  · intro h1
    exact (leafs_in fs n d none h1).resolve_left (fun e => by cases e)
  · intro h1
    have h2 := (leafs_iff fs n).2 ⟨_, h1, rfl⟩
    cases h3 : leafs fs n with
    | none => exact absurd h3 h2
    | some d' =>
      have h4 := (leafs_in fs n d' none h3).resolve_left (fun e => by cases e)
      have := apt_one h h1 h4 rfl
      cases this; rfl
theorem namesF_perm {fs gs : List Fl} (h : fs.Perm gs) : namesF fs = namesF gs :=
  Sw.rising_ext (Sw.setOf_rising _) (Sw.setOf_rising _) (fun x => by
    show x ∈ namesF fs ↔ x ∈ namesF gs
    rw [mem_names, mem_names]
    exact ⟨fun ⟨f, hf, e⟩ => ⟨f, h.mem_iff.1 hf, e⟩, fun ⟨f, hf, e⟩ => ⟨f, h.mem_iff.2 hf, e⟩⟩)
theorem sub_perm {fs gs : List Fl} (h : fs.Perm gs) (n : ByteArray) : (sub n fs).Perm (sub n gs) := h.filterMap _
theorem AptL.perm {fs gs : List Fl} (h : fs.Perm gs) (ha : AptL fs) : AptL gs :=
  ⟨fun f hf => ha.1 f (h.mem_iff.2 hf), (h.pairwise_iff (R := fun f g : Fl => Off f.1 g.1) (fun {a b} h => ⟨h.2, h.1⟩)).1 ha.2⟩
theorem leafs_perm {fs gs : List Fl} (h : fs.Perm gs) (ha : AptL fs) (n : ByteArray) : leafs fs n = leafs gs n := by
  have hg := ha.perm h
  cases h1 : leafs fs n with
  | none =>
    cases h2 : leafs gs n with
    | none => rfl
    | some d =>
      have := (leafs_val ha).2 (h.mem_iff.2 ((leafs_val hg).1 h2))
      rw [h1] at this; cases this
  | some d => exact ((leafs_val hg).2 (h.mem_iff.1 ((leafs_val ha).1 h1))).symm
theorem sub_nil_perm {fs gs : List Fl} (h : fs.Perm gs) (n : ByteArray) : sub n fs = [] ↔ sub n gs = [] := by
  have h1 := sub_perm h n
  constructor
  · intro e; rw [e] at h1; exact h1.symm.eq_nil
  · intro e; rw [e] at h1; exact h1.eq_nil
theorem entsS_congr {rec : List Fl → List ByteArray → List ByteArray × ByteArray} {fs gs : List Fl} (h : ∀ L n, nameS rec fs L n = nameS rec gs L n) : ∀ (ns : List ByteArray) (L : List ByteArray) (E : List Ent), entsS rec fs ns L E = entsS rec gs ns L E
  | [], L, E => rfl
  | n :: r, L, E => by
    show entsS rec fs r _ _ = entsS rec gs r _ _
    rw [h, entsS_congr h r]
theorem treeS_perm : ∀ (d : Nat) (fs gs : List Fl) (L : List ByteArray), AptL fs → fs.Perm gs → treeS d fs L = treeS d gs L
  | 0, fs, gs, L, _, _ => rfl
  | d + 1, fs, gs, L, ha, h => by
    have key : ∀ L n, nameS (treeS d) fs L n = nameS (treeS d) gs L n := fun L n => by
      unfold nameS
      rw [leafs_perm h ha n]
      by_cases hs : sub n fs = []
      · rw [if_pos hs, if_pos ((sub_nil_perm h n).1 hs)]
      · rw [if_neg hs, if_neg (fun e => hs ((sub_nil_perm h n).2 e)), treeS_perm d (sub n fs) (sub n gs) L (ha.sub n) (sub_perm h n)]
    show layS _ _ = layS _ _
    rw [namesF_perm h, entsS_congr key]
theorem tid_perm (d : Nat) {fs gs : List Fl} (ha : AptL fs) (h : fs.Perm gs) : tid d fs = tid d gs := by
  rw [← (treeS_mem d fs []).1, treeS_perm d fs gs [] ha h, (treeS_mem d gs []).1]
/-! depth -/
theorem sub_len {n : ByteArray} {fs : List Fl} {d : Nat} (h : ∀ f ∈ fs, f.1.length ≤ d + 1) : ∀ f ∈ sub n fs, f.1.length ≤ d := fun f hf => by
  obtain ⟨g, hg, e, -⟩ := mem_sub hf
  have := h g hg
  rw [e, List.length_cons] at this
  omega
theorem tid_depth : ∀ (d k : Nat) (fs : List Fl), AptL fs → (∀ f ∈ fs, f.1.length ≤ d + 1) → tid (d + 1) fs = tid (d + 1 + k) fs
  | d, k, fs, ha, h => by
    have e : d + 1 + k = (d + k) + 1 := by omega
    rw [e]
    show Sw.idOf (encP (treeOf ((namesF fs).map (entOf (tid d) fs)))) = Sw.idOf (encP (treeOf ((namesF fs).map (entOf (tid (d + k)) fs))))
    have : (namesF fs).map (entOf (tid d) fs) = (namesF fs).map (entOf (tid (d + k)) fs) := by
      refine List.map_congr_left (fun n hn => ?_)
      unfold entOf
      by_cases hs : sub n fs = []
      · rw [if_pos hs, if_pos hs]
      · rw [if_neg hs, if_neg hs]
        have hl := sub_len (n := n) h
        cases d with
        | zero =>
          obtain ⟨f, hf⟩ := List.exists_mem_of_ne_nil _ hs
          have h1 := hl f hf
          have h2 := (ha.sub n).1 f hf
          exact absurd (List.length_eq_zero_iff.1 (by omega)) h2
        | succ d =>
          rw [tid_depth d k (sub n fs) (ha.sub n) hl]
    rw [this]
end Go.Proofs.YtlenfiiocmchdaaGreatDoor
/- A folder's files in the order of their paths; a tree gone over gives them back (plain). -/
namespace Go.Proofs.YtlenfiiocmchdaaGreatDoor
open Go.RowKit Book Pap Ojt Sn
set_option linter.unusedVariables false
set_option linter.unusedSimpArgs false

def under (n : ByteArray) (f : Fl) : Fl := (n :: f.1, f.2)
def fileOf (rec : List Fl → List Fl) (fs : List Fl) (n : ByteArray) : List Fl :=
  if sub n fs = [] then [([n], (leafs fs n).getD ByteArray.empty)] else (rec (sub n fs)).map (under n)
/-- a folder's files, by their paths -/
def flist : Nat → List Fl → List Fl
  | 0, fs => []
  | d + 1, fs => (namesF fs).flatMap (fileOf (flist d) fs)
theorem subOf_of {n : ByteArray} {a : List ByteArray} {x : ByteArray} (ha : a ≠ []) : subOf n (n :: a, x) = some (a, x) := by
  cases a with
  | nil => exact absurd rfl ha
  | cons b r => unfold subOf; simp
theorem mem_sub_iff {n : ByteArray} {fs : List Fl} {g : Fl} : g ∈ sub n fs ↔ g.1 ≠ [] ∧ under n g ∈ fs := by
  constructor
  · intro h
    obtain ⟨f, hf, h1, h2, h3⟩ := mem_sub h
    refine ⟨h2, ?_⟩
    have : under n g = f := by unfold under; rw [← h1, ← h3]
    rw [this]; exact hf
  · rintro ⟨h1, h2⟩
    exact List.mem_filterMap.2 ⟨_, h2, subOf_of h1⟩
theorem flist_mem : ∀ (d : Nat) (fs : List Fl), AptL fs → (∀ f ∈ fs, f.1.length ≤ d) → ∀ f, f ∈ flist d fs ↔ f ∈ fs
  | 0, fs, ha, hl, f => by
    constructor
    · intro h; cases h
    · intro h
      exact absurd (List.length_eq_zero_iff.1 (Nat.le_zero.1 (hl f h))) (ha.1 f h)
  | d + 1, fs, ha, hl, f => by
    show f ∈ (namesF fs).flatMap (fileOf (flist d) fs) ↔ _
    rw [List.mem_flatMap]
    constructor
    · rintro ⟨n, hn, hf⟩
      unfold fileOf at hf
      split at hf
      · rename_i hs
        rw [List.mem_singleton] at hf
        obtain ⟨g, hg, he⟩ := mem_names.1 hn
        obtain ⟨a, b⟩ := g
        simp only at he
        cases a with
        | nil => cases he
        | cons a r =>
          cases he
          cases r with
          | nil =>
            have h1 := (leafs_val ha).2 hg
            rw [h1] at hf
            rw [hf]; exact hg
          | cons c r =>
            have : ((c :: r, b) : Fl) ∈ sub n fs := mem_sub_iff.2 ⟨by simp, hg⟩
            rw [hs] at this; cases this
      · obtain ⟨g, hg, rfl⟩ := List.mem_map.1 hf
        exact (mem_sub_iff.1 ((flist_mem d _ (ha.sub n) (sub_len hl) g).1 hg)).2
    · intro hf
      obtain ⟨a, b⟩ := f
      cases a with
      | nil => exact absurd rfl (ha.1 _ hf)
      | cons n r =>
        refine ⟨n, mem_names.2 ⟨_, hf, rfl⟩, ?_⟩
        unfold fileOf
        cases r with
        | nil =>
          have h1 := (leafs_val ha).2 hf
          rw [if_pos (ha.lone n (by rw [h1]; simp)), h1, List.mem_singleton]; rfl
        | cons c r =>
          have h1 : ((c :: r, b) : Fl) ∈ sub n fs := mem_sub_iff.2 ⟨by simp, hf⟩
          rw [if_neg (fun e => by rw [e] at h1; cases h1)]
          exact List.mem_map.2 ⟨_, (flist_mem d _ (ha.sub n) (sub_len hl) _).2 h1, rfl⟩
/-- how names stand -/
def cmpN (a b : List ByteArray) : Int := cmpP (a.map fun s => s.data.toList) (b.map fun s => s.data.toList)
theorem lt_cmp {a b : ByteArray} (h : lt' a b = true) : cmpL a.data.toList b.data.toList = -1 := by
  unfold lt' at h
  rw [ba_toList, ba_toList, bytesLess_cmp] at h
  exact of_decide_eq_true h
theorem cmpN_head {a b : ByteArray} (h : lt' a b = true) (x y : List ByteArray) : cmpN (a :: x) (b :: y) = -1 := by
  have h1 := lt_cmp h
  show (if cmpL a.data.toList b.data.toList = 0 then _ else cmpL a.data.toList b.data.toList) = (-1 : Int)
  rw [h1]; rfl
theorem cmpN_same (a : ByteArray) (x y : List ByteArray) : cmpN (a :: x) (a :: y) = cmpN x y := by
  show (if cmpL a.data.toList a.data.toList = 0 then _ else _) = _
  rw [cmpL_self]; rfl
theorem fileOf_head {rec : List Fl → List Fl} {fs : List Fl} {n : ByteArray} {f : Fl} (h : f ∈ fileOf rec fs n) : ∃ r, f.1 = n :: r := by
  unfold fileOf at h
  split at h
  · rw [List.mem_singleton] at h; exact ⟨[], by rw [h]⟩
  · obtain ⟨g, -, rfl⟩ := List.mem_map.1 h
    exact ⟨g.1, rfl⟩
theorem flist_sorted : ∀ (d : Nat) (fs : List Fl), (flist d fs).Pairwise (fun f g => cmpN f.1 g.1 = -1)
  | 0, fs => List.Pairwise.nil
  | d + 1, fs => by
    show ((namesF fs).flatMap (fileOf (flist d) fs)).Pairwise _
    rw [List.pairwise_flatMap]
    refine ⟨fun n hn => ?_, ?_⟩
    · unfold fileOf
      split
      · exact List.pairwise_singleton _ _
      · rw [List.pairwise_map]
        refine (flist_sorted d (sub n fs)).imp ?_
        intro a b h
        unfold under
        simp only
        rw [cmpN_same]; exact h
    · refine List.Pairwise.imp ?_ (Sw.setOf_rising (fs.filterMap headOf))
      intro a b h x hx y hy
      obtain ⟨r, e⟩ := fileOf_head hx
      obtain ⟨q, e'⟩ := fileOf_head hy
      rw [e, e']
      exact cmpN_head h _ _
/-! files that can be -/
def GoodFl (fs : List Fl) : Prop := ∀ f ∈ fs, (∀ n ∈ f.1, goodL n.data.toList = true) ∧ f.2.size ≤ 65536
theorem GoodFl.sub {fs : List Fl} (h : GoodFl fs) (n : ByteArray) : GoodFl (Sn.sub n fs) := fun f hf => by
  have h1 := h _ (mem_sub_iff.1 hf).2
  exact ⟨fun m hm => h1.1 m (List.mem_cons_of_mem _ hm), h1.2⟩
theorem sub_few (n : ByteArray) (fs : List Fl) : (Sn.sub n fs).length ≤ fs.length := List.length_filterMap_le ..
theorem names_few (fs : List Fl) : (namesF fs).length ≤ fs.length := by
  have h1 : ∀ (l acc : List ByteArray), (l.foldl putN acc).length ≤ acc.length + l.length := by
    intro l
    induction l with
    | nil => intro acc; exact Nat.le_refl _
    | cons x r ih =>
      intro acc
      have := ih (putN acc x)
      have := putN_len acc x
      rw [List.foldl_cons, List.length_cons]; omega
  have h2 := h1 (fs.filterMap headOf) []
  have h3 : (fs.filterMap headOf).length ≤ fs.length := List.length_filterMap_le ..
  unfold namesF Sw.setOf
  simp only [List.length_nil, Nat.zero_add] at h2
  omega
theorem leaf_good {fs : List Fl} (hg : GoodFl fs) (n : ByteArray) : good (blobOf ((leafs fs n).getD ByteArray.empty)) = true := by
  have : ((leafs fs n).getD ByteArray.empty).size ≤ 65536 := by
    cases h : leafs fs n with
    | none => show (0 : Nat) ≤ _; omega
    | some d =>
      have := (leafs_in fs n d none h).resolve_left (fun e => by cases e)
      exact (hg _ this).2
  unfold good blobOf
  rw [if_pos rfl]
  exact decide_eq_true this
theorem rising_B : ∀ {l : List ByteArray}, Rising l → risingB l = true
  | [], _ => rfl
  | [a], _ => rfl
  | a :: b :: r, h => by
    obtain ⟨h1, h2⟩ := List.pairwise_cons.1 h
    show (lt' a b && risingB (b :: r)) = true
    rw [h1 b (List.mem_cons_self ..), rising_B h2]; rfl
theorem sub_zero {fs : List Fl} (ha : AptL fs) (hl : ∀ f ∈ fs, f.1.length ≤ 0 + 1) (n : ByteArray) : Sn.sub n fs = [] := by
  cases h : Sn.sub n fs with
  | nil => rfl
  | cons f r =>
    have hf : f ∈ Sn.sub n fs := by rw [h]; exact List.mem_cons_self ..
    exact absurd (List.length_eq_zero_iff.1 (Nat.le_zero.1 (sub_len hl f hf))) ((ha.sub n).1 f hf)
theorem tree_good {fs : List Fl} (d : Nat) (ha : AptL fs) (hl : ∀ f ∈ fs, f.1.length ≤ d + 1) (hg : GoodFl fs) (hn : fs.length ≤ 256) : good (treeOf (tents d fs)) = true := by
  have h1 : Ojt.goodTree (tents d fs) = true := by
    unfold Ojt.goodTree
    rw [Bool.and_eq_true, Bool.and_eq_true]
    refine ⟨List.all_eq_true.2 (fun e he => ?_), decide_eq_true ?_, ?_⟩
    · obtain ⟨n, hn, rfl⟩ := List.mem_map.1 he
      obtain ⟨f, hf, hh⟩ := mem_names.1 hn
      have hgn := (hg f hf).1 n (List.mem_of_mem_head? hh)
      unfold entOf goodEnt
      cases d with
      | zero =>
        rw [if_pos (sub_zero ha hl n)]
        simp [hgn, idOf_size]
      | succ d =>
        split
        · simp [hgn, idOf_size]
        · have : (tid (d + 1) (Sn.sub n fs)).size = 32 := idOf_size _
          simp [hgn, this]
    · unfold tents
      rw [List.length_map]
      have := names_few fs
      omega
    · unfold tents
      rw [List.map_map]
      have : ((namesF fs).map ((fun e : Ent => e.name) ∘ entOf (tid d) fs)) = namesF fs := by
        conv => rhs; rw [← List.map_id (namesF fs)]
        refine List.map_congr_left (fun n _ => ?_)
        show (entOf (tid d) fs n).name = n
        unfold entOf
        split <;> rfl
      rw [this]
      exact rising_B (Sw.setOf_rising _)
  unfold good treeOf
  simp only
  rw [if_neg (by decide), if_pos trivial]
  exact h1
def Cov (G : Sw.Src) (L : List ByteArray) : Prop := ∀ t ∈ L, G (Sw.idOf t) = some t
def blobAt (above : List ByteArray) (f : Fl) : Ent := ⟨pathOf (above ++ f.1), 1, Sw.idOf (encP (blobOf f.2))⟩
theorem overE_cons (rec : ByteArray → List ByteArray → Wk → Wk × Int) (above : List ByteArray) (y : Ent) (r : List Ent) (s : Wk) : overE rec above (y :: r) s =
    if 4096 < s.met + 1 then ({ s with met := s.met + 1 }, 6)
    else if 64 < above.length + 1 then ({ s with met := s.met + 1 }, 33)
    else if y.kind = 2 then
      if (rec y.id (above ++ [y.name]) { s with met := s.met + 1 }).2 ≠ 0 then rec y.id (above ++ [y.name]) { s with met := s.met + 1 }
      else overE rec above r (rec y.id (above ++ [y.name]) { s with met := s.met + 1 }).1
    else overE rec above r ⟨s.met + 1, s.blobs ++ [⟨pathOf (above ++ [y.name]), y.kind, y.id⟩]⟩ := rfl
theorem over_names {rec : ByteArray → List ByteArray → Wk → Wk × Int} {fl : List Fl → List Fl} {ti : List Fl → ByteArray} (fs : List Fl) (above : List ByteArray) (ha : above.length + 1 ≤ 64)
    (hr : ∀ n s, sub n fs ≠ [] → s.met + wt (sub n fs) ≤ 4096 → ∃ m, m ≤ s.met + wt (sub n fs) ∧ rec (ti (sub n fs)) (above ++ [n]) s = (⟨m, s.blobs ++ (fl (sub n fs)).map (blobAt (above ++ [n]))⟩, 0)) :
    ∀ (ns : List ByteArray) (s : Wk), (∀ n ∈ ns, 1 ≤ wn n fs) → s.met + (ns.map (fun n => wn n fs)).sum ≤ 4096 → ∃ m, m ≤ s.met + (ns.map (fun n => wn n fs)).sum ∧ overE rec above (ns.map (entOf ti fs)) s = (⟨m, s.blobs ++ (ns.flatMap (fileOf fl fs)).map (blobAt above)⟩, 0)
  | [], s, _, _ => ⟨s.met, Nat.le_refl _, by simp [overE]⟩
  | n :: r, s, hp, hm => by
    have h1 := hp n (List.mem_cons_self ..)
    rw [List.map_cons, List.sum_cons] at hm
    have hun : overE rec above ((n :: r).map (entOf ti fs)) s = if (entOf ti fs n).kind = 2 then
        if (rec (entOf ti fs n).id (above ++ [(entOf ti fs n).name]) { s with met := s.met + 1 }).2 ≠ 0 then rec (entOf ti fs n).id (above ++ [(entOf ti fs n).name]) { s with met := s.met + 1 }
        else overE rec above (r.map (entOf ti fs)) (rec (entOf ti fs n).id (above ++ [(entOf ti fs n).name]) { s with met := s.met + 1 }).1
      else overE rec above (r.map (entOf ti fs)) ⟨s.met + 1, s.blobs ++ [⟨pathOf (above ++ [(entOf ti fs n).name]), (entOf ti fs n).kind, (entOf ti fs n).id⟩]⟩ := by
      rw [List.map_cons, overE_cons, if_neg (by omega), if_neg (by omega)]
    rw [hun]
    by_cases hs : sub n fs = []
    · have e1 : entOf ti fs n = ⟨n, 1, Sw.idOf (leafT fs n)⟩ := by unfold entOf; rw [if_pos hs]
      have e2 : fileOf fl fs n = [([n], (leafs fs n).getD ByteArray.empty)] := by unfold fileOf; rw [if_pos hs]
      obtain ⟨m, hm1, hm2⟩ := over_names fs above ha hr r ⟨s.met + 1, s.blobs ++ [⟨pathOf (above ++ [n]), 1, Sw.idOf (leafT fs n)⟩]⟩ (fun x hx => hp x (List.mem_cons_of_mem _ hx)) (by simp only; omega)
      simp only at hm1
      refine ⟨m, by rw [List.map_cons, List.sum_cons]; omega, ?_⟩
      rw [e1]
      simp only
      rw [if_neg (by decide), hm2]
      simp only
      rw [List.flatMap_cons, e2, List.map_append, List.append_assoc]
      rfl
    · have e1 : entOf ti fs n = ⟨n, 2, ti (sub n fs)⟩ := by unfold entOf; rw [if_neg hs]
      have e2 : fileOf fl fs n = (fl (sub n fs)).map (under n) := by unfold fileOf; rw [if_neg hs]
      have hw := wt_sub n fs
      have hp1 := List.length_pos_iff.2 hs
      obtain ⟨m1, hm1, hr1⟩ := hr n ⟨s.met + 1, s.blobs⟩ hs (by simp only; omega)
      simp only at hm1 hr1
      obtain ⟨m, hm2, hm3⟩ := over_names fs above ha hr r ⟨m1, s.blobs ++ (fl (sub n fs)).map (blobAt (above ++ [n]))⟩ (fun x hx => hp x (List.mem_cons_of_mem _ hx)) (by simp only; omega)
      simp only at hm2
      refine ⟨m, by rw [List.map_cons, List.sum_cons]; omega, ?_⟩
      rw [e1]
      simp only
      rw [if_pos trivial, hr1]
      simp only
      rw [if_neg (by simp), hm3]
      simp only
      rw [List.flatMap_cons, e2, List.map_append, List.append_assoc, List.map_map]
      congr 3
      congr 1
      refine List.map_congr_left (fun f _ => ?_)
      unfold blobAt under
      simp
theorem over_step {G : Sw.Src} (d D : Nat) (fs : List Fl) (above : List ByteArray) (s : Wk) (hc : Cov G (texts (d + 1) fs)) (ha : AptL fs) (hl : ∀ f ∈ fs, f.1.length ≤ d + 1) (hg : GoodFl fs) (hn : fs.length ≤ 256) (hab : above.length + 1 ≤ 64) (hm : s.met + wt fs ≤ 4096)
    (hr : ∀ n s, sub n fs ≠ [] → s.met + wt (sub n fs) ≤ 4096 → ∃ m, m ≤ s.met + wt (sub n fs) ∧ overS G D (tid d (sub n fs)) (above ++ [n]) s = (⟨m, s.blobs ++ (flist d (sub n fs)).map (blobAt (above ++ [n]))⟩, 0)) :
    ∃ m, m ≤ s.met + wt fs ∧ overS G (D + 1) (tid (d + 1) fs) above s = (⟨m, s.blobs ++ (flist (d + 1) fs).map (blobAt above)⟩, 0) := by
  have hgt := tree_good d ha hl hg hn
  have hlk : lookK G (tid (d + 1) fs) 2 21 = (treeOf (tents d fs), 0) :=
    lookK_of (x := treeOf (tents d fs)) (hc _ (List.mem_append.2 (.inr (List.mem_singleton.2 rfl)))) hgt (dec_tree hgt) rfl
  have hsum := sum_wn (namesF fs) fs (namesF_nodup fs)
  obtain ⟨m, h1, h2⟩ := over_names (rec := overS G D) (fl := flist d) (ti := tid d) fs above hab hr (namesF fs) s (fun n hn => wn_pos (mem_names.1 hn)) (by omega)
  refine ⟨m, by omega, ?_⟩
  unfold overS
  rw [hlk, if_neg (by simp)]
  exact h2
theorem cov_sub {G : Sw.Src} {d : Nat} {fs : List Fl} (hc : Cov G (texts (d + 1) fs)) {n : ByteArray} (hs : sub n fs ≠ []) : Cov G (texts d (sub n fs)) := fun t ht => by
  refine hc t (List.mem_append.2 (.inl (List.mem_flatMap.2 ⟨n, ?_, ?_⟩)))
  · obtain ⟨f, hf⟩ := List.exists_mem_of_ne_nil _ hs
    exact mem_names.2 ⟨_, (mem_sub_iff.1 hf).2, rfl⟩
  · unfold textOf; rw [if_neg hs]; exact ht
theorem over_tree {G : Sw.Src} : ∀ (d D : Nat) (fs : List Fl) (above : List ByteArray) (s : Wk), d ≤ D → Cov G (texts (d + 1) fs) → AptL fs → (∀ f ∈ fs, f.1.length ≤ d + 1) → GoodFl fs → fs.length ≤ 256 → above.length + (d + 1) ≤ 64 → s.met + wt fs ≤ 4096 →
    ∃ m, m ≤ s.met + wt fs ∧ overS G (D + 1) (tid (d + 1) fs) above s = (⟨m, s.blobs ++ (flist (d + 1) fs).map (blobAt above)⟩, 0) := by
  intro d
  induction d with
  | zero =>
    intro D fs above s hD hc ha hl hg hn hab hm
    exact over_step 0 D fs above s hc ha hl hg hn (by omega) hm (fun n s hs _ => absurd (sub_zero ha hl n) hs)
  | succ d ih =>
    intro D fs above s hD hc ha hl hg hn hab hm
    obtain ⟨D, rfl⟩ : ∃ k, D = k + 1 := ⟨D - 1, by omega⟩
    refine over_step (d + 1) (D + 1) fs above s hc ha hl hg hn (by omega) hm (fun n s hs hm => ?_)
    exact ih D (sub n fs) (above ++ [n]) s (by omega) (cov_sub hc hs) (ha.sub n) (sub_len hl) (hg.sub n) (Nat.le_trans (sub_few n fs) hn) (by rw [List.length_append]; simp only [List.length_cons, List.length_nil]; omega) hm
end Go.Proofs.YtlenfiiocmchdaaGreatDoor
/- What comes leaves all closed (layer 14): plain Lean. -/
namespace Go.Proofs.YtlenfiiocmchdaaGreatDoor.Sw
open Go.RowKit Book Ojt
set_option linter.unusedVariables false

/-- a source that holds at least what another one holds -/
def Ext (G H : Src) : Prop := ∀ id t, G id = some t → H id = some t
theorem Ext.refl (G : Src) : Ext G G := fun _ _ h => h
theorem Ext.trans {G H K : Src} (h1 : Ext G H) (h2 : Ext H K) : Ext G K := fun id t h => h2 id t (h1 id t h)
theorem look_ext {G H : Src} (h : Ext G H) {id : ByteArray} (h0 : (look G id).1 = 0) : look H id = look G id := by
  unfold look at *
  cases hg : G id with
  | none => rw [hg] at h0; exact absurd h0 (by decide)
  | some t => rw [h id t hg]
theorem fitsK_ext {G H : Src} (h : Ext G H) : ∀ (l : List Lnk) (hs : List Int), (fitsK G l hs).1 = 0 → fitsK H l hs = fitsK G l hs
  | [], _, _ => rfl
  | x :: l, hs, h0 => by
    unfold fitsK at h0 ⊢
    by_cases h1 : (look G x.id).1 ≠ 0
    · rw [if_pos h1] at h0; exact absurd h0 h1
    · rw [if_neg h1] at h0 ⊢
      have h1' : (look G x.id).1 = 0 := by simpa using h1
      rw [look_ext h h1', if_neg h1]
      by_cases h2 : (look G x.id).2.kind ≠ x.kind
      · rw [if_pos h2] at h0; exact absurd h0 (fun e => by cases e)
      · rw [if_neg h2] at h0 ⊢
        rw [if_neg h2]
        exact fitsK_ext h l _ h0
theorem fits_ext {G H : Src} (h : Ext G H) {x : Ob} (h0 : fits G x = 0) : fits H x = 0 := by
  unfold fits at h0 ⊢
  by_cases h1 : (fitsK G (links x) []).1 ≠ 0
  · rw [if_pos h1] at h0; exact absurd h0 h1
  · have h1' : (fitsK G (links x) []).1 = 0 := by simpa using h1
    rw [fitsK_ext h _ _ h1', if_neg h1]
    rw [if_neg h1] at h0
    exact h0
/-! one source's items -/
theorem getI_snoc (l : List It) (x : It) (id : ByteArray) : getI (l ++ [x]) id = (match getI l id with | some t => some t | none => if x.id = id then some x.data else none) := by
  induction l with
  | nil => rfl
  | cons y r ih =>
    show (if y.id = id then some y.data else getI (r ++ [x]) id) = match (if y.id = id then some y.data else getI r id) with | some t => some t | none => if x.id = id then some x.data else none
    split
    · rfl
    · exact ih
theorem getI_some {l : List It} {id t : ByteArray} (h : getI l id = some t) : (⟨id, t⟩ : It) ∈ l := by
  induction l with
  | nil => cases h
  | cons y r ih =>
    unfold getI at h
    split at h
    · rename_i e
      cases h
      rw [← e]
      exact List.mem_cons_self ..
    · exact List.mem_cons_of_mem _ (ih h)
theorem getI_none {l : List It} {id : ByteArray} (h : getI l id = none) : ∀ x ∈ l, x.id ≠ id := by
  induction l with
  | nil => intro x hx; cases hx
  | cons y r ih =>
    unfold getI at h
    split at h
    · cases h
    · rename_i e
      intro x hx
      rcases List.mem_cons.1 hx with rfl | hx
      · exact e
      · exact ih h x hx
/-- no two unlike texts of some have one digest -/
def Apart (T : List ByteArray) : Prop := ∀ a ∈ T, ∀ b ∈ T, idOf a = idOf b → a = b
/-- items that are texts of some under their digests -/
def Own (T : List ByteArray) (s : List It) : Prop := ∀ x ∈ s, x.data ∈ T ∧ idOf x.data = x.id
theorem Own.get {T : List ByteArray} {s : List It} (h : Own T s) {id t : ByteArray} (hg : getI s id = some t) : t ∈ T ∧ idOf t = id := h _ (getI_some hg)
theorem Own.nil (T : List ByteArray) : Own T [] := fun _ h => by cases h
theorem Own.took {T : List ByteArray} {s : List It} (h : Own T s) {t : ByteArray} (ht : t ∈ T) : Own T (took s t) := by
  unfold Sw.took
  split
  · intro x hx
    rcases List.mem_append.1 hx with hx | hx
    · exact h x hx
    · rw [List.mem_singleton.1 hx]; exact ⟨ht, rfl⟩
  · exact h
theorem took_get {T : List ByteArray} (hT : Apart T) {s : List It} (h : Own T s) {t : ByteArray} (ht : t ∈ T) (id : ByteArray) :
    getI (took s t) id = if idOf t = id then some t else getI s id := by
  unfold took
  cases hg : getI s (idOf t) with
  | none =>
    rw [if_pos (by rfl : (none : Option ByteArray).isNone = true), getI_snoc]
    by_cases e : idOf t = id
    · rw [if_pos e, ← e, hg]; simp
    · rw [if_neg e]
      cases getI s id with
      | none => simp [e]
      | some u => simp [e]
  | some u =>
    rw [if_neg (by simp)]
    by_cases e : idOf t = id
    · rw [if_pos e, ← e, hg]
      obtain ⟨h1, h2⟩ := h.get hg
      rw [hT u h1 t ht h2]
    · rw [if_neg e]
/-- a source over texts that lie apart, with what came -/
theorem over_took {T : List ByteArray} (hT : Apart T) {came : List It} (hc : Own T came) {G : Src} {t : ByteArray} (ht : t ∈ T) (id : ByteArray) :
    over (took came t) G id = if idOf t = id then some t else over came G id := by
  unfold over
  rw [took_get hT hc ht]
  by_cases e : idOf t = id
  · rw [if_pos e, if_pos e]
  · rw [if_neg e, if_neg e]
theorem over_ext {T : List ByteArray} (hT : Apart T) {came : List It} (hc : Own T came) {G : Src} (hG : ∀ id t, G id = some t → t ∈ T ∧ idOf t = id) {t : ByteArray} (ht : t ∈ T) :
    Ext (over came G) (over (took came t) G) := by
  intro id u hu
  rw [over_took hT hc ht]
  by_cases e : idOf t = id
  · rw [if_pos e]
    have : u ∈ T ∧ idOf u = id := by
      unfold over at hu
      cases hg : getI came id with
      | some v => rw [hg] at hu; cases hu; exact hc.get hg
      | none => rw [hg] at hu; exact hG id u hu
    rw [hT u this.1 t ht (this.2.trans e.symm)]
  · rw [if_neg e]; exact hu
theorem admitF_err (G : Src) : ∀ (l : List ByteArray) (came out : List It), (admitF G l came out).2 ≠ 0 → (admitF G l came out).1 = []
  | [], _, _, h => absurd rfl h
  | t :: r, came, out, h => by
    unfold admitF at h ⊢
    split
    · rfl
    · rename_i hc
      rw [if_neg hc] at h
      exact admitF_err G r _ _ h
theorem errAt_zero {G : Src} {came : List It} {t : ByteArray} (h : errAt G came t = 0) : t.size ≤ 131072 ∧ ∃ o, decO t = some o ∧ ((over came G (idOf t)).isNone = true → fits (over came G) o = 0) := by
  unfold errAt at h
  split at h
  · exact absurd h (by decide)
  · rename_i hs
    refine ⟨by omega, ?_⟩
    cases hd : decO t with
    | none => rw [hd] at h; exact absurd h (fun e => by cases e)
    | some o =>
      rw [hd] at h
      simp only at h
      refine ⟨o, rfl, fun hn => ?_⟩
      rw [if_pos hn] at h
      exact h
/-- a source with items that are new -/
def joinG (G : Src) (out : List It) : Src := fun id => match G id with
  | some t => some t
  | none => getI out id
theorem joinG_nil (G : Src) : over [] G = joinG G [] := by
  funext id
  unfold over joinG getI
  cases G id <;> rfl
/-- one text that comes -/
theorem joinG_step {T : List ByteArray} (hT : Apart T) {came : List It} (hc : Own T came) {G : Src} (hG : ∀ id t, G id = some t → t ∈ T ∧ idOf t = id) {t : ByteArray} (ht : t ∈ T) {out : List It}
    (hj : over came G = joinG G out) : over (took came t) G = joinG G (brought G came out t) := by
  funext id
  rw [over_took hT hc ht]
  unfold brought
  cases hn : over came G (idOf t) with
  | none =>
    rw [if_pos (by rfl : (none : Option ByteArray).isNone = true)]
    have h0 : joinG G out (idOf t) = none := by rw [← hj]; exact hn
    by_cases e : idOf t = id
    · rw [if_pos e]
      unfold joinG at h0 ⊢
      rw [e] at h0
      cases hg : G id with
      | some u => rw [hg] at h0; cases h0
      | none =>
        rw [hg] at h0
        simp only at h0 ⊢
        rw [getI_snoc, h0, e]; simp
    · rw [if_neg e, hj]
      unfold joinG
      cases G id with
      | some u => rfl
      | none =>
        simp only
        rw [getI_snoc]
        cases getI out id with
        | some u => rfl
        | none => simp [e]
  | some u =>
    rw [if_neg (by simp : ¬ (some u).isNone = true), ← hj]
    by_cases e : idOf t = id
    · rw [if_pos e, ← e, hn]
      have hu : u ∈ T ∧ idOf u = idOf t := by
        unfold over at hn
        cases hg : getI came (idOf t) with
        | some v => rw [hg] at hn; cases hn; exact hc.get hg
        | none => rw [hg] at hn; exact hG _ u hn
      rw [hT u hu.1 t ht hu.2]
    · rw [if_neg e]
/-- what an admitted list leaves -/
structure Left (T : List ByteArray) (G : Src) (list : List ByteArray) (came out came' out' : List It) : Prop where
  own : Own T came'
  join : over came' G = joinG G out'
  ext : Ext (over came G) (over came' G)
  new : ∀ x ∈ out', x ∈ out ∨ (x.data ∈ list ∧ idOf x.data = x.id ∧ ∃ o, decO x.data = some o ∧ fits (over came' G) o = 0)
  all : ∀ t ∈ list, over came' G (idOf t) = some t
theorem admit_left {T : List ByteArray} (hT : Apart T) {G : Src} (hG : ∀ id t, G id = some t → t ∈ T ∧ idOf t = id) : ∀ (list : List ByteArray) (came out : List It), (∀ t ∈ list, t ∈ T) → Own T came → over came G = joinG G out →
    (admitF G list came out).2 = 0 → ∃ came', Left T G list came out came' (admitF G list came out).1
  | [], came, out, _, hc, hj, _ => ⟨came, hc, hj, Ext.refl _, fun x hx => .inl hx, fun t h => by cases h⟩
  | t :: r, came, out, hl, hc, hj, h0 => by
    have ht : t ∈ T := hl t (List.mem_cons_self ..)
    unfold admitF at h0 ⊢
    by_cases he : errAt G came t ≠ 0
    · rw [if_pos he] at h0; exact absurd h0 he
    · rw [if_neg he] at h0 ⊢
      obtain ⟨hsz, o, ho, hf⟩ := errAt_zero (by simpa using he)
      obtain ⟨came', hL⟩ := admit_left hT hG r (took came t) (brought G came out t) (fun u hu => hl u (List.mem_cons_of_mem _ hu)) (hc.took ht) (joinG_step hT hc hG ht hj) h0
      have hx1 := over_ext hT hc hG ht
      refine ⟨came', hL.own, hL.join, hx1.trans hL.ext, fun x hx => ?_, fun u hu => ?_⟩
      · rcases hL.new x hx with h | ⟨h1, h2, h3⟩
        · unfold brought at h
          split at h
          · rename_i hn
            rcases List.mem_append.1 h with h | h
            · exact .inl h
            · rw [List.mem_singleton.1 h]
              exact .inr ⟨List.mem_cons_self .., rfl, o, ho, fits_ext (hx1.trans hL.ext) (hf hn)⟩
          · exact .inl h
        · exact .inr ⟨List.mem_cons_of_mem _ h1, h2, h3⟩
      · rcases List.mem_cons.1 hu with rfl | hu
        · exact hL.ext _ _ (by rw [over_took hT hc ht, if_pos rfl])
        · exact hL.all u hu
/-! items put by their ids -/
def putI : List It → It → List It
  | [], x => [x]
  | y :: r, x => if x.id = y.id then x :: r else if lt' x.id y.id = true then x :: y :: r else y :: putI r x
theorem putI_get : ∀ (l : List It) (x : It) (id : ByteArray), getI (putI l x) id = if x.id = id then some x.data else getI l id
  | [], x, id => rfl
  | y :: r, x, id => by
    unfold putI
    split
    · rename_i e
      show (if x.id = id then some x.data else getI r id) = if x.id = id then some x.data else if y.id = id then some y.data else getI r id
      by_cases h : x.id = id
      · rw [if_pos h, if_pos h]
      · rw [if_neg h, if_neg h, if_neg (by rw [← e]; exact h)]
    · rename_i e
      split
      · rfl
      · show (if y.id = id then some y.data else getI (putI r x) id) = if x.id = id then some x.data else if y.id = id then some y.data else getI r id
        rw [putI_get r x id]
        by_cases h : y.id = id
        · rw [if_pos h, if_neg (by rw [← h]; exact e), if_pos h]
        · rw [if_neg h, if_neg h]
theorem putI_ids : ∀ (l : List It) (x : It) (id : ByteArray), id ∈ (putI l x).map (·.id) ↔ id ∈ l.map (·.id) ∨ id = x.id
  | [], x, id => by simp [putI]
  | y :: r, x, id => by
    unfold putI
    split
    · rename_i e
      simp only [List.map_cons, List.mem_cons, e]
      constructor
      · rintro (h | h)
        · exact .inr h
        · exact .inl (.inr h)
      · rintro ((h | h) | h)
        · exact .inl h
        · exact .inr h
        · exact .inl h
    · split
      · simp only [List.map_cons, List.mem_cons]
        constructor
        · rintro (h | h | h)
          · exact .inr h
          · exact .inl (.inl h)
          · exact .inl (.inr h)
        · rintro ((h | h) | h)
          · exact .inr (.inl h)
          · exact .inr (.inr h)
          · exact .inl h
      · simp only [List.map_cons, List.mem_cons, putI_ids r x id, or_assoc]
theorem putI_rising : ∀ {l : List It}, Rising (l.map (·.id)) → ∀ x, Rising ((putI l x).map (·.id))
  | [], _, x => List.pairwise_singleton _ _
  | y :: r, h, x => by
    obtain ⟨h1, h2⟩ := List.pairwise_cons.1 h
    unfold putI
    split
    · rename_i e
      exact List.pairwise_cons.2 ⟨fun z hz => by have := h1 z hz; simp only [← e] at this; exact this, h2⟩
    · rename_i e
      split
      · rename_i hlt
        refine List.pairwise_cons.2 ⟨fun z hz => ?_, h⟩
        rcases List.mem_cons.1 hz with rfl | hz
        · exact hlt
        · exact lt_trans hlt (h1 z hz)
      · rename_i hlt
        refine List.pairwise_cons.2 ⟨fun z hz => ?_, putI_rising h2 x⟩
        rcases (putI_ids r x z).1 hz with hz | rfl
        · exact h1 z hz
        · cases hzy : lt' y.id x.id
          · exact absurd (lt_tri (by simpa using hlt) hzy) e
          · rfl
def withI (s more : List It) : List It := (s ++ more).foldl putI []
theorem foldI : ∀ (l acc : List It), Rising (acc.map (·.id)) → Rising ((l.foldl putI acc).map (·.id)) ∧ (∀ id, id ∈ (l.foldl putI acc).map (·.id) ↔ id ∈ acc.map (·.id) ∨ id ∈ l.map (·.id))
  | [], acc, h => ⟨h, fun id => by simp⟩
  | x :: l, acc, h => by
    obtain ⟨h1, h2⟩ := foldI l (putI acc x) (putI_rising h x)
    refine ⟨h1, fun id => ?_⟩
    rw [List.foldl_cons, h2, putI_ids, List.map_cons, List.mem_cons, or_assoc]
theorem withI_rising (s more : List It) : Rising ((withI s more).map (·.id)) := (foldI _ [] List.Pairwise.nil).1
/-- where one digest has one text, what was put is what stands there -/
theorem foldI_get {T : List ByteArray} (hT : Apart T) : ∀ (l acc : List It), Own T l → Own T acc → ∀ id, getI (l.foldl putI acc) id = match getI acc id with | some t => some t | none => getI l id
  | [], acc, _, _, id => by simp only [List.foldl_nil]; cases getI acc id <;> rfl
  | x :: l, acc, hl, ha, id => by
    have hx := hl x (List.mem_cons_self ..)
    have hp : Own T (putI acc x) := by
      intro y hy
      have : ∀ (m : List It) (y : It), y ∈ putI m x → y = x ∨ y ∈ m := by
        intro m
        induction m with
        | nil => intro y hy; exact .inl (List.mem_singleton.1 hy)
        | cons z r ih =>
          intro y hy
          unfold putI at hy
          split at hy
          · rcases List.mem_cons.1 hy with h | h
            · exact .inl h
            · exact .inr (List.mem_cons_of_mem _ h)
          · split at hy
            · rcases List.mem_cons.1 hy with h | h
              · exact .inl h
              · exact .inr h
            · rcases List.mem_cons.1 hy with h | h
              · exact .inr (h ▸ List.mem_cons_self ..)
              · exact (ih y h).imp (fun e => e) (List.mem_cons_of_mem _)
      rcases this acc y hy with rfl | h
      · exact hx
      · exact ha y h
    rw [List.foldl_cons, foldI_get hT l (putI acc x) (fun y hy => hl y (List.mem_cons_of_mem _ hy)) hp, putI_get]
    show _ = match getI acc id with | some t => some t | none => (if x.id = id then some x.data else getI l id)
    by_cases e : x.id = id
    · rw [if_pos e, if_pos e]
      cases hg : getI acc id with
      | none => rfl
      | some t =>
        obtain ⟨h1, h2⟩ := ha.get hg
        rw [hT t h1 x.data hx.1 (h2.trans (e.symm.trans hx.2.symm))]
    · rw [if_neg e, if_neg e]
theorem putI_mem : ∀ (m : List It) (x y : It), y ∈ putI m x → y = x ∨ y ∈ m
  | [], x, y, hy => .inl (List.mem_singleton.1 hy)
  | z :: r, x, y, hy => by
    unfold putI at hy
    split at hy
    · rcases List.mem_cons.1 hy with h | h
      · exact .inl h
      · exact .inr (List.mem_cons_of_mem _ h)
    · split at hy
      · rcases List.mem_cons.1 hy with h | h
        · exact .inl h
        · exact .inr h
      · rcases List.mem_cons.1 hy with h | h
        · exact .inr (h ▸ List.mem_cons_self ..)
        · exact (putI_mem r x y h).imp (fun e => e) (List.mem_cons_of_mem _)
theorem foldI_mem : ∀ (l acc : List It) (y : It), y ∈ l.foldl putI acc → y ∈ acc ∨ y ∈ l
  | [], acc, y, h => .inl h
  | x :: l, acc, y, h => by
    rcases foldI_mem l (putI acc x) y h with h | h
    · rcases putI_mem acc x y h with h | h
      · exact .inr (h ▸ List.mem_cons_self ..)
      · exact .inl h
    · exact .inr (List.mem_cons_of_mem _ h)
theorem getI_append (a b : List It) (id : ByteArray) : getI (a ++ b) id = joinG (getI a) b id := by
  induction a with
  | nil => rfl
  | cons y r ih =>
    show (if y.id = id then some y.data else getI (r ++ b) id) = match (if y.id = id then some y.data else getI r id) with | some t => some t | none => getI b id
    split
    · rfl
    · exact ih
theorem withI_get {T : List ByteArray} (hT : Apart T) {s more : List It} (hs : Own T s) (hm : Own T more) : getI (withI s more) = joinG (getI s) more := by
  funext id
  unfold withI
  rw [foldI_get hT (s ++ more) [] (fun x hx => (List.mem_append.1 hx).elim (hs x) (hm x)) (Own.nil T), getI_append]
  rfl
/-- WHAT COMES LEAVES ALL CLOSED, where no two unlike texts have one digest -/
theorem admit_closes {T : List ByteArray} (hT : Apart T) {s : List It} (hs : Own T s) (hcl : closed s) {list : List ByteArray} (hl : ∀ t ∈ list, t ∈ T) (h0 : (admit (getI s) list).2 = 0) :
    closed (withI s (admit (getI s) list).1) ∧ Own T (withI s (admit (getI s) list).1) ∧ ∀ t ∈ list, getI (withI s (admit (getI s) list).1) (idOf t) = some t := by
  obtain ⟨came', hL⟩ := admit_left hT (G := getI s) (fun id t h => hs.get h) list [] [] hl (Own.nil T) (joinG_nil _) h0
  have hnew : ∀ x ∈ (admit (getI s) list).1, x.data ∈ list ∧ idOf x.data = x.id ∧ ∃ o, decO x.data = some o ∧ fits (over came' (getI s)) o = 0 := fun x hx => (hL.new x hx).resolve_left (fun h => by cases h)
  have hown : Own T (admit (getI s) list).1 := fun x hx => ⟨hl _ (hnew x hx).1, (hnew x hx).2.1⟩
  have hget : getI (withI s (admit (getI s) list).1) = over came' (getI s) := (withI_get hT hs hown).trans hL.join.symm
  refine ⟨⟨fun x hx => ?_, withI_rising _ _⟩, fun x hx => ?_, fun t ht => by rw [hget]; exact hL.all t ht⟩
  · rw [hget]
    rcases foldI_mem _ _ x hx with h | h
    · cases h
    · rcases List.mem_append.1 h with h | h
      · obtain ⟨o, h1, h2, h3⟩ := hcl.1 x h
        refine ⟨o, h1, h2, fits_ext hL.ext ?_⟩
        rw [joinG_nil]
        have : joinG (getI s) [] = getI s := by funext id; unfold joinG; cases getI s id <;> rfl
        rw [this]; exact h3
      · obtain ⟨-, h2, o, h3, h4⟩ := hnew x h
        exact ⟨o, h3, h2, h4⟩
  · rcases foldI_mem _ _ x hx with h | h
    · cases h
    · exact (List.mem_append.1 h).elim (hs x) (hown x)
end Go.Proofs.YtlenfiiocmchdaaGreatDoor.Sw
/- Files in the order of their paths; the same tree, the same files (plain). -/
namespace Go.Proofs.YtlenfiiocmchdaaGreatDoor
open Go.RowKit Book Pap Ojt Sn
set_option linter.unusedVariables false
set_option linter.unusedSimpArgs false

def insF : List Fi → Fi → List Fi
  | [], f => [f]
  | g :: r, f => if compareR f.path.data.toList g.path.data.toList < 0 then f :: g :: r else g :: insF r f
/-- files in the order of their paths, as the law sorts them -/
def sortF (l : List Fi) : List Fi := l.foldl insF []
theorem insF_perm : ∀ (l : List Fi) (f : Fi), (insF l f).Perm (f :: l)
  | [], f => List.Perm.refl _
  | g :: r, f => by
    unfold insF
    split
    · exact List.Perm.refl _
    · exact ((insF_perm r f).cons g).trans (List.Perm.swap f g r)
theorem sortF_perm (l : List Fi) : (sortF l).Perm l := by
  suffices h : ∀ (l acc : List Fi), (l.foldl insF acc).Perm (l ++ acc) by
    have := h l []
    rw [List.append_nil] at this; exact this
  intro l
  induction l with
  | nil => intro acc; exact List.Perm.refl _
  | cons f r ih =>
    intro acc
    rw [List.foldl_cons]
    refine (ih _).trans ?_
    refine ((insF_perm acc f).append_left r).trans ?_
    exact List.perm_middle
def LtF (f g : Fi) : Prop := cmpP (pieces f.path.data.toList) (pieces g.path.data.toList) = -1
theorem insF_sorted : ∀ (l : List Fi) (f : Fi), splitE f.path.data.toList = 0 → (∀ g ∈ l, splitE g.path.data.toList = 0) → (∀ g ∈ l, g.path ≠ f.path) → l.Pairwise LtF → (insF l f).Pairwise LtF
  | [], f, _, _, _, _ => List.pairwise_singleton _ _
  | g :: r, f, hf, hl, hne, hp => by
    obtain ⟨h1, h2⟩ := List.pairwise_cons.1 hp
    have hg := hl g (List.mem_cons_self ..)
    have hcr : compareR f.path.data.toList g.path.data.toList = cmpP (pieces f.path.data.toList) (pieces g.path.data.toList) := by
      unfold compareR; rw [if_pos ⟨hf, hg⟩]
    unfold insF
    rw [hcr]
    split
    · rename_i hlt
      have hlt : LtF f g := by
        unfold LtF
        rcases cmpP_range (pieces f.path.data.toList) (pieces g.path.data.toList) with e | e | e <;> omega
      refine List.pairwise_cons.2 ⟨fun x hx => ?_, hp⟩
      rcases List.mem_cons.1 hx with rfl | hx
      · exact hlt
      · exact cmpP_trans _ _ _ hlt (h1 x hx)
    · rename_i hlt
      refine List.pairwise_cons.2 ⟨fun x hx => ?_, insF_sorted r f hf (fun x hx => hl x (List.mem_cons_of_mem _ hx)) (fun x hx => hne x (List.mem_cons_of_mem _ hx)) h2⟩
      rcases List.mem_cons.1 ((insF_perm r f).mem_iff.1 hx) with rfl | hx
      · unfold LtF
        have h3 := cmpP_neg (pieces x.path.data.toList) (pieces g.path.data.toList)
        rcases cmpP_range (pieces x.path.data.toList) (pieces g.path.data.toList) with e | e | e
        · omega
        · exfalso
          have := pieces_inj (cmpP_zero _ _ e)
          exact hne g (List.mem_cons_self ..) (ba_ext this.symm)
        · omega
      · exact h1 x hx
theorem sortF_sorted {l : List Fi} (hs : ∀ f ∈ l, splitE f.path.data.toList = 0) (hp : l.Pairwise (fun f g => f.path ≠ g.path)) : (sortF l).Pairwise LtF := by
  suffices h : ∀ (l acc : List Fi), (∀ f ∈ l, splitE f.path.data.toList = 0) → l.Pairwise (fun f g => f.path ≠ g.path) → (∀ f ∈ acc, splitE f.path.data.toList = 0) → (∀ f ∈ acc, ∀ g ∈ l, f.path ≠ g.path) → acc.Pairwise LtF → (l.foldl insF acc).Pairwise LtF by
    exact h l [] hs hp (fun f hf => by cases hf) (fun f hf => by cases hf) List.Pairwise.nil
  intro l
  induction l with
  | nil => intro acc _ _ _ _ h; exact h
  | cons f r ih =>
    intro acc hl hp ha hn h
    obtain ⟨p1, p2⟩ := List.pairwise_cons.1 hp
    rw [List.foldl_cons]
    refine ih _ (fun x hx => hl x (List.mem_cons_of_mem _ hx)) p2 (fun x hx => ?_) (fun x hx y hy => ?_) (insF_sorted acc f (hl f (List.mem_cons_self ..)) ha (fun g hg => hn g hg f (List.mem_cons_self ..)) h)
    · rcases List.mem_cons.1 ((insF_perm acc f).mem_iff.1 hx) with rfl | hx
      · exact hl _ (List.mem_cons_self ..)
      · exact ha x hx
    · rcases List.mem_cons.1 ((insF_perm acc f).mem_iff.1 hx) with rfl | hx
      · exact p1 y hy
      · exact hn x hx y (List.mem_cons_of_mem _ hy)
/-! files that can be a snapshot -/
structure OkFs (fs : List Fi) : Prop where
  few : fs.length ≤ 256
  split : ∀ f ∈ fs, splitE f.path.data.toList = 0
  off : fs.Pairwise (fun f g => apart f.path.data.toList g.path.data.toList)
  size : ∀ f ∈ fs, f.data.size ≤ 65536
theorem checkF_iff (fs : List Fi) : checkF fs = 0 ↔ OkFs fs := by
  have hR : (checkR (ls (fs.map (·.path)))).2 = 0 ↔ (∀ f ∈ fs, splitE f.path.data.toList = 0) ∧ fs.Pairwise (fun f g => apart f.path.data.toList g.path.data.toList) := by
    rw [checkR_ok]
    unfold ls
    rw [List.map_map, List.pairwise_map]
    refine and_congr ⟨fun h f hf => h _ (List.mem_map.2 ⟨f, hf, rfl⟩), fun h x hx => ?_⟩ Iff.rfl
    obtain ⟨f, hf, rfl⟩ := List.mem_map.1 hx
    exact h f hf
  have hA : (fs.any fun f => decide (65536 < f.data.size)) = true ↔ ¬ ∀ f ∈ fs, f.data.size ≤ 65536 := by
    rw [List.any_eq_true]
    constructor
    · rintro ⟨f, hf, h⟩ h2
      have := h2 f hf
      have := of_decide_eq_true h
      omega
    · intro h
      refine Decidable.byContradiction fun hn => h (fun f hf => ?_)
      refine Decidable.byContradiction fun h2 => hn ⟨f, hf, decide_eq_true (by omega)⟩
  unfold checkF
  constructor
  · intro h
    split at h
    · cases h
    · split at h
      · cases h
      · rename_i h1 h2
        obtain ⟨h3, h4⟩ := hR.1 h
        refine ⟨by omega, h3, h4, ?_⟩
        refine Decidable.byContradiction fun hn => h2 ⟨h, hA.2 hn⟩
  · intro h
    have hr := hR.2 ⟨h.split, h.off⟩
    rw [if_neg (by have := h.few; omega), if_neg (fun h2 => hA.1 h2.2 h.size)]
    exact hr
theorem apart_symm' {f g : Fi} (h : apart f.path.data.toList g.path.data.toList) : apart g.path.data.toList f.path.data.toList := apart_symm h
theorem OkFs.perm {fs gs : List Fi} (h : OkFs fs) (p : fs.Perm gs) : OkFs gs :=
  ⟨by rw [← p.length_eq]; exact h.few, fun f hf => h.split f (p.mem_iff.2 hf), (p.pairwise_iff (R := fun f g : Fi => apart f.path.data.toList g.path.data.toList) (fun {a b} h => apart_symm h)).1 h.off, fun f hf => h.size f (p.mem_iff.2 hf)⟩
theorem OkFs.apt {fs : List Fi} (h : OkFs fs) : AptL (fs.map flOf) := by
  have := (checkF_iff fs).2 h
  exact (apt_of (checkF_ok this).2).1
theorem OkFs.len {fs : List Fi} (h : OkFs fs) : ∀ f ∈ fs.map flOf, f.1.length ≤ 64 := fun f hf => by
  obtain ⟨g, hg, rfl⟩ := List.mem_map.1 hf
  have := (check_pieces (h.split g hg)).2.2
  unfold flOf
  rw [List.length_map]; exact this
theorem OkFs.goodFl {fs : List Fi} (h : OkFs fs) : GoodFl (fs.map flOf) := fun f hf => by
  obtain ⟨g, hg, rfl⟩ := List.mem_map.1 hf
  refine ⟨fun n hn => ?_, h.size g hg⟩
  unfold flOf at hn
  obtain ⟨p, hp, rfl⟩ := List.mem_map.1 hn
  rw [bl_bz]
  exact (check_pieces (h.split g hg)).2.1 p hp
theorem flOf_map (f : Fi) : (flOf f).1.map (fun s => s.data.toList) = pieces f.path.data.toList := by
  unfold flOf
  rw [List.map_map]
  conv => rhs; rw [← List.map_id (pieces f.path.data.toList)]
  exact List.map_congr_left (fun z _ => bl_bz z)
theorem flOf_path (f : Fi) : pathOf (flOf f).1 = f.path := by
  unfold pathOf
  rw [flOf_map, join_pieces, bz_bl]
theorem OkFs.sorted {fs : List Fi} (h : OkFs fs) : (sortF fs).Pairwise LtF :=
  sortF_sorted h.split (h.off.imp (fun {a b} h e => h.1 (by rw [e])))
theorem OkFs.flist {fs : List Fi} (h : OkFs fs) : flist 64 (fs.map flOf) = (sortF fs).map flOf := by
  refine pw_ext (R := fun f g : Fl => cmpN f.1 g.1 = -1) (fun a h => by unfold cmpN at h; rw [cmpP_self] at h; cases h) (fun a b c h k => cmpP_trans _ _ _ h k) _ _ (flist_sorted 64 _) ?_ (fun x => ?_)
  · rw [List.pairwise_map]
    refine h.sorted.imp (fun {a b} hab => ?_)
    unfold cmpN
    rw [flOf_map, flOf_map]; exact hab
  · rw [flist_mem 64 _ h.apt h.len x, List.mem_map, List.mem_map]
    exact ⟨fun ⟨f, hf, e⟩ => ⟨f, (sortF_perm fs).mem_iff.2 hf, e⟩, fun ⟨f, hf, e⟩ => ⟨f, (sortF_perm fs).mem_iff.1 hf, e⟩⟩
def blobEnt (f : Fi) : Ent := ⟨f.path, 1, Sw.idOf (encP (blobOf f.data))⟩
/-- a tree's files gone over -/
theorem over_files {G : Sw.Src} {fs : List Fi} (h : OkFs fs) (h60 : fs.length ≤ 60) (hc : Cov G (texts 64 (fs.map flOf))) : ∃ m, overS G 66 (tid 64 (fs.map flOf)) [] ⟨0, []⟩ = (⟨m, (sortF fs).map blobEnt⟩, 0) := by
  have hw : wt (fs.map flOf) ≤ 4096 := by
    have := wt_le (k := 64) (fs.map flOf) h.len
    rw [List.length_map] at this
    have h1 : fs.length * 64 ≤ 60 * 64 := Nat.mul_le_mul_right _ h60
    omega
  obtain ⟨m, -, h2⟩ := over_tree (G := G) 63 65 (fs.map flOf) [] ⟨0, []⟩ (by omega) hc h.apt h.len h.goodFl (by rw [List.length_map]; exact h.few) (by simp) (by simpa using hw)
  refine ⟨m, ?_⟩
  rw [h2, h.flist, List.nil_append, List.map_map]
  have e : (sortF fs).map (blobAt [] ∘ flOf) = (sortF fs).map blobEnt := List.map_congr_left (fun f _ => by
    show (⟨pathOf ([] ++ (flOf f).1), 1, _⟩ : Ent) = _
    rw [List.nil_append, flOf_path]; rfl)
  rw [e]
theorem texts_blob : ∀ (d : Nat) (fs : List Fl) (f : Fl), f ∈ flist d fs → encP (blobOf f.2) ∈ texts d fs
  | 0, fs, f, h => by cases h
  | d + 1, fs, f, h => by
    obtain ⟨n, hn, hf⟩ := List.mem_flatMap.1 h
    refine List.mem_append.2 (.inl (List.mem_flatMap.2 ⟨n, hn, ?_⟩))
    unfold fileOf at hf
    unfold textOf
    split at hf
    · rename_i hs
      rw [List.mem_singleton] at hf
      rw [if_pos hs, hf, List.mem_singleton]; rfl
    · rename_i hs
      obtain ⟨g, hg, rfl⟩ := List.mem_map.1 hf
      rw [if_neg hs]
      exact texts_blob d _ g hg
theorem map_inj_on {α β : Type} {k : α → β} : ∀ {l m : List α}, l.map k = m.map k → (∀ x ∈ l, ∀ y ∈ m, k x = k y → x = y) → l = m
  | [], [], _, _ => rfl
  | [], _ :: _, h, _ => by cases h
  | _ :: _, [], h, _ => by cases h
  | a :: l, b :: m, h, hi => by
    rw [List.map_cons, List.map_cons] at h
    obtain ⟨h1, h2⟩ := List.cons.inj h
    rw [hi a (List.mem_cons_self ..) b (List.mem_cons_self ..) h1, map_inj_on h2 (fun x hx y hy => hi x (List.mem_cons_of_mem _ hx) y (List.mem_cons_of_mem _ hy))]
/-- texts as a source -/
def srcL (L : List ByteArray) : Sw.Src := fun id => L.find? (fun t => decide (Sw.idOf t = id))
theorem srcL_cov {L : List ByteArray} (h : Sw.Apart L) : Cov (srcL L) L := fun t ht => by
  unfold srcL
  cases hf : L.find? (fun x => decide (Sw.idOf x = Sw.idOf t)) with
  | none => exact absurd (decide_eq_true rfl) (List.find?_eq_none.1 hf t ht)
  | some x =>
    have h1 := List.mem_of_find?_eq_some hf
    have h2 := List.find?_some hf
    rw [h x h1 t ht (of_decide_eq_true h2)]
theorem OkFs.blob_in {fs : List Fi} (h : OkFs fs) {f : Fi} (hf : f ∈ sortF fs) : encP (blobOf f.data) ∈ texts 64 (fs.map flOf) := by
  have := texts_blob 64 (fs.map flOf) (flOf f) (by rw [h.flist]; exact List.mem_map.2 ⟨f, hf, rfl⟩)
  exact this
theorem OkFs.blob_good {fs : List Fi} (h : OkFs fs) {f : Fi} (hf : f ∈ sortF fs) : good (blobOf f.data) = true := by
  unfold good blobOf
  rw [if_pos rfl]
  exact decide_eq_true (h.size f ((sortF_perm fs).mem_iff.1 hf))
theorem blobEnt_inj {a b : List Fi} (ha : OkFs a) (hb : OkFs b) {L : List ByteArray} (hL : Sw.Apart L) (h1 : ∀ t ∈ texts 64 (a.map flOf), t ∈ L) (h2 : ∀ t ∈ texts 64 (b.map flOf), t ∈ L) (h : (sortF a).map blobEnt = (sortF b).map blobEnt) : sortF a = sortF b := by
  refine map_inj_on h (fun x hx y hy e => ?_)
  obtain ⟨p, d⟩ := x
  obtain ⟨q, c⟩ := y
  unfold blobEnt at e
  injection e with e1 _ e3
  simp only at e1 e3
  have h3 := hL _ (h1 _ (ha.blob_in hx)) _ (h2 _ (hb.blob_in hy)) e3
  have h4 := encP_inj (ha.blob_good hx) (hb.blob_good hy) (dec_blob (ha.blob_good hx)) (dec_blob (hb.blob_good hy)) h3
  have h5 : d = c := congrArg (·.data) h4
  rw [e1, h5]
/-- the same tree: the same files -/
theorem same_tree {a b : List Fi} (ha : OkFs a) (hb : OkFs b) (na : a.length ≤ 60) (nb : b.length ≤ 60) {L : List ByteArray} (hL : Sw.Apart L) (h1 : ∀ t ∈ texts 64 (a.map flOf), t ∈ L) (h2 : ∀ t ∈ texts 64 (b.map flOf), t ∈ L) :
    tid 64 (a.map flOf) = tid 64 (b.map flOf) ↔ sortF a = sortF b := by
  constructor
  · intro e
    have hc := srcL_cov hL
    obtain ⟨m, q1⟩ := over_files ha na (G := srcL L) (fun t ht => hc t (h1 t ht))
    obtain ⟨k, q2⟩ := over_files hb nb (G := srcL L) (fun t ht => hc t (h2 t ht))
    rw [e, q2] at q1
    have q3 := congrArg (fun r : Wk × Int => r.1.blobs) q1
    exact blobEnt_inj ha hb hL h1 h2 q3.symm
  · intro e
    have p : a.Perm b := (sortF_perm a).symm.trans (by rw [e]; exact sortF_perm b)
    exact tid_perm 64 ha.apt (p.map flOf)
end Go.Proofs.YtlenfiiocmchdaaGreatDoor
