/- Texts in a row: RoH, RoI, RoM, RoN, RoQ. -/
import Derived.Test.YtmpjdoiogbbcoaaGreatDoorMgJ
import Derived.BigQuiet
import Derived.Laws.MakeOwn
import Derived.Laws.OwnMore
/- The reference's layer 15: what a commit came from: Facts. -/
namespace Go.Proofs.YtmpjdoiogbbcoaaGreatDoor
open Go.RowKit Book Pap Ojt Sn
set_option linter.unusedVariables false
set_option linter.unusedSimpArgs false

def befF (f y : Fc) : Bool := lt' f.id y.id
/-- the walk's state in memory -/
structure RInv (w wr : World) (G : Sw.Src) (id : ByteArray) (T : List ByteArray) (i : Nat) (O : List Fc) (er : Int) (ta oa : Option Addr) (oc : Nat) : Prop where
 went : Went G id (T.take i) (T.drop i) er
 nd : T.Nodup
 todo : StrsAt wr ta T.length T
 row : wr.ownsRow w.heap.size 66 3 (.slice oa O.length oc) O.length (fvals O)
 ris : Rising (O.map (·.id))
 mem : ∀ q, q ∈ O.map (·.id) → q ∈ T.take i
 got : ∀ q ∈ T.take i, errF G q = 0 → q ∈ O.map (·.id)
 facts : ∀ f ∈ O, f.h = hG G f.id ∧ StrsAt wr f.pa f.pn (obF G f.id).pars
 below : Below w.heap.size w wr
theorem RInv.olen {w wr : World} {G : Sw.Src} {id : ByteArray} {T : List ByteArray} {i : Nat} {O : List Fc} {er : Int} {ta oa : Option Addr} {oc : Nat} (h : RInv w wr G id T i O er ta oa oc) {U : List ByteArray} (hU : Univ G id U) : T.length ≤ 100000 ∧ O.length ≤ 100000 ∧ T.length ≤ U.length := by
 have h1 : T.length ≤ U.length := nodup_le h.nd (fun q hq => hU.1 q (by
  rw [← List.take_append_drop i T] at hq
  rcases List.mem_append.1 hq with hq | hq
  ·exact h.went.seen q hq
  ·exact h.went.todo q hq))
 have h2 : O.length ≤ T.length := by
  have := nodup_le (rising_nodup h.ris) (m := T) (fun q hq => List.mem_of_mem_take (h.mem q hq))
  rw [List.length_map] at this; exact this
 have := hU.2.1
 omega
/-- an object that is none: its error -/
theorem RInv.skip {w wr w2 : World} {G : Sw.Src} {id x : ByteArray} {T : List ByteArray} {i : Nat} {O : List Fc} {er : Int} {ta oa : Option Addr} {oc : Nat} (h : RInv w wr G id T i O er ta oa oc) (hi : i < T.length) (hx : T[i] = x) (he : errF G x ≠ 0) (hb : Below wr.heap.size wr w2) : RInv w w2 G id T (i + 1) O (worseZ er (errF G x)) ta oa oc := by
 have hd : T.drop i = x :: T.drop (i + 1) := by rw [List.drop_eq_getElem_cons hi, hx]
 have hw := h.went
 rw [hd] at hw
 have ht : T.take (i + 1) = T.take i ++ [x] := by rw [List.take_succ_eq_append_getElem hi, hx]
 have hp : (obF G x).pars = [] := by rw [obF_err he]; rfl
 refine ⟨hw.take (fun q => by rw [ht]; simp) (fun q => by rw [hp]; simp) (fun q hq => .inr (.inr (.inl hq))), h.nd, h.todo.later hb, own_below h.row hb, h.ris, fun q hq => ?_, fun q hq h0 => ?_, fun f hf => ⟨(h.facts f hf).1, (h.facts f hf).2.later hb⟩, below_then h.below hb⟩
 ·rw [ht]; exact List.mem_append.2 (.inl (h.mem q hq))
 ·rw [ht] at hq
  rcases List.mem_append.1 hq with hq | hq
  ·exact h.got q hq h0
  ·rw [List.mem_singleton.1 hq] at h0; exact absurd h0 he
/-- a fact more -/
theorem RInv.more {w wr w5 w6 : World} {G : Sw.Src} {id x : ByteArray} {T T2 : List ByteArray} {i : Nat} {O : List Fc} {er : Int} {ta oa ta2 oa2 pa : Option Addr} {oc oc2 pn pc : Nat} (h : RInv w wr G id T i O er ta oa oc) (hi : i < T.length) (hx : T[i] = x) (he : errF G x = 0)
  (hb5 : Below wr.heap.size wr w5) (hps : StrsAt w5 pa pn (obF G x).pars) (hb : Below w5.heap.size w5 w6) (hT2 : StrsAt w6 ta2 T2.length T2) (hnd : T2.Nodup) (hpre : T <+: T2) (hmem : ∀ q, q ∈ T2 ↔ q ∈ T ∨ q ∈ (obF G x).pars)
  (hrow : w6.ownsRow w.heap.size 66 3 (.slice oa2 (O.length + 1) oc2) (O.length + 1) (fvals (insG befF O ⟨x, hG G x, pa, pn, pc⟩))) :
  RInv w w6 G id T2 (i + 1) (insG befF O ⟨x, hG G x, pa, pn, pc⟩) er ta2 oa2 oc2 := by
 have hd : T.drop i = x :: T.drop (i + 1) := by rw [List.drop_eq_getElem_cons hi, hx]
 have hw := h.went
 rw [hd] at hw
 have ht : T2.take (i + 1) = T.take i ++ [x] := by
  obtain ⟨R, rfl⟩ := hpre
  rw [List.take_append_of_le_length (by omega), List.take_succ_eq_append_getElem hi, hx]
 have hxO : x ∉ O.map (·.id) := fun hm => by
  have h1 := h.mem x hm
  have h2 := h.nd
  rw [← List.take_append_drop i T, hd] at h2
  exact (List.nodup_append.1 h2).2.2 _ h1 _ (List.mem_cons_self ..) rfl
 have hlen : (insG befF O ⟨x, hG G x, pa, pn, pc⟩).length = O.length + 1 := insG_len _ _ _
 have hmi : ∀ q, q ∈ (insG befF O ⟨x, hG G x, pa, pn, pc⟩).map (·.id) ↔ q = x ∨ q ∈ O.map (·.id) := fun q => by
  constructor
  ·intro hq
   obtain ⟨f, hf, rfl⟩ := List.mem_map.1 hq
   rcases (insG_mem _ _ _ _).1 hf with rfl | hf
   ·exact .inl rfl
   ·exact .inr (List.mem_map.2 ⟨f, hf, rfl⟩)
  ·rintro (rfl | hq)
   ·exact List.mem_map.2 ⟨_, (insG_mem _ _ _ _).2 (.inl rfl), rfl⟩
   ·obtain ⟨f, hf, rfl⟩ := List.mem_map.1 hq
    exact List.mem_map.2 ⟨f, (insG_mem _ _ _ _).2 (.inr hf), rfl⟩
 have hw0 : worseZ er (errF G x) = er := by
  rw [he]
  rcases h.went.ok with rfl | rfl | rfl | rfl <;> rfl
 have hwt := hw.take (l' := T2.take (i + 1)) (td' := T2.drop (i + 1)) (fun q => by rw [ht]; simp) (fun q => by
  have e1 : (q ∈ T2.take (i + 1) ∨ q ∈ T2.drop (i + 1)) ↔ q ∈ T2 := by rw [← List.mem_append, List.take_append_drop]
  have e2 : q ∈ T ↔ (q ∈ T.take i ∨ q = x ∨ q ∈ T.drop (i + 1)) := by
   conv => lhs; rw [← List.take_append_drop i T, hd]
   rw [List.mem_append, List.mem_cons]
  rw [e1, hmem, e2, ht]
  simp only [List.mem_append, List.mem_singleton]
  constructor
  ·rintro ((h | h | h) | h)
   ·exact .inl (.inl h)
   ·exact .inl (.inr h)
   ·exact .inr (.inl h)
   ·exact .inr (.inr h)
  ·rintro ((h | h) | h | h)
   ·exact .inl (.inl h)
   ·exact .inl (.inr (.inl h))
   ·exact .inl (.inr (.inr h))
   ·exact .inr h) (fun q hq => by
  rcases (hmem q).1 (List.mem_of_mem_drop hq) with h1 | h1
  ·rw [← List.take_append_drop i T, hd] at h1
   rcases List.mem_append.1 h1 with h1 | h1
   ·exact .inl h1
   ·rcases List.mem_cons.1 h1 with h1 | h1
    ·exact .inr (.inl h1)
    ·exact .inr (.inr (.inl h1))
  ·exact .inr (.inr (.inr h1)))
 rw [hw0] at hwt
 have hb6 : Below wr.heap.size wr w6 := below_then hb5 hb
 refine ⟨hwt, hnd, hT2, by rw [hlen]; exact hrow, ?_, fun q hq => ?_, fun q hq h0 => ?_, fun f hf => ?_, below_then h.below hb6⟩
 ·have hO : O.Pairwise (fun a b => lt' a.id b.id = true) := by
   have := h.ris
   unfold Rising at this
   rw [List.pairwise_map] at this; exact this
  unfold Rising
  rw [List.pairwise_map]
  refine insG_pw befF _ O hO (fun y hy hc => hc) (fun y hy hc => ?_) (fun a b d h1 h2 => Go.Proofs.YtmpjdoiogbbcoaaGreatDoor.lt_trans h1 h2)
  have hc' : lt' x y.id = false := hc
  cases hyx : lt' y.id x
  ·exact absurd (List.mem_map.2 ⟨y, hy, (lt_tri hc' hyx).symm⟩) hxO
  ·rfl
 ·rw [ht]
  rcases (hmi q).1 hq with rfl | hq
  ·exact List.mem_append.2 (.inr (List.mem_singleton.2 rfl))
  ·exact List.mem_append.2 (.inl (h.mem q hq))
 ·rw [ht] at hq
  rcases List.mem_append.1 hq with hq | hq
  ·exact (hmi q).2 (.inr (h.got q hq h0))
  ·exact (hmi q).2 (.inl (List.mem_singleton.1 hq))
 ·rcases (insG_mem _ _ _ _).1 hf with rfl | hf
  ·exact ⟨rfl, hps.later hb⟩
  ·exact ⟨(h.facts f hf).1, (h.facts f hf).2.later hb6⟩
/-- the end: the facts told -/
theorem RInv.last {w wr : World} {G : Sw.Src} {id : ByteArray} {T : List ByteArray} {O : List Fc} {ta oa : Option Addr} {oc : Nat} (h : RInv w wr G id T T.length O 0 ta oa oc) (hne : G id ≠ none) : FactsIs G id 0 ((O.map (·.id)).map (faOf G)) ∧ FaAt wr O ((O.map (·.id)).map (faOf G)) := by
 have ht : T.take T.length = T := List.take_of_length_le (Nat.le_refl _)
 have hd : T.drop T.length = [] := List.drop_of_length_le (Nat.le_refl _)
 have hw := h.went
 rw [ht, hd] at hw
 refine ⟨.inr ⟨hne, hw.worst, .inr ⟨rfl, _, h.ris, fun q => ?_, rfl⟩⟩, ?_⟩
 ·rw [← hw.all q]
  constructor
  ·intro hq
   have := h.mem q hq
   rw [ht] at this; exact this
  ·intro hq
   refine h.got q (by rw [ht]; exact hq) ?_
   have := hw.top q hq
   rcases errF_cases G q with e | e | e | e
   ·exact e
   ·rw [e] at this; simp [rk] at this
   ·rw [e] at this; simp [rk] at this
   ·rw [e] at this; simp [rk] at this
 ·refine ⟨by simp, fun j hj => ?_⟩
  have e1 : O.getD j noFc = O[j] := by rw [List.getD_eq_getElem?_getD, List.getElem?_eq_getElem hj]; rfl
  have e3 : ((O.map (·.id)).map (faOf G)).getD j noFa = faOf G O[j].id := by
   rw [List.getD_eq_getElem?_getD, List.getElem?_map, List.getElem?_map, List.getElem?_eq_getElem hj]; rfl
  rw [e1, e3]
  obtain ⟨g1, g2⟩ := h.facts O[j] (List.getElem_mem hj)
  exact ⟨rfl, g1, g2⟩
end Go.Proofs.YtmpjdoiogbbcoaaGreatDoor
/- The reference's layer 15: what a commit came from: Facts (the walk). -/
namespace Go.Proofs.YtmpjdoiogbbcoaaGreatDoor
open Go.RowKit Book Pap Ojt Sn
set_option linter.unusedVariables false
set_option linter.unusedSimpArgs false

theorem fold_mem (ps T : List ByteArray) (q : ByteArray) : q ∈ ps.foldl putR T ↔ q ∈ T ∨ q ∈ ps := by
 induction ps generalizing T with
 | nil => simp
 | cons p r ih => rw [List.foldl_cons, ih, putR_mem, List.mem_cons, or_assoc]
theorem fold_pre (ps T : List ByteArray) : T <+: ps.foldl putR T := by
 induction ps generalizing T with
 | nil => exact List.prefix_refl _
 | cons p r ih => rw [List.foldl_cons]; exact List.IsPrefix.trans (putR_pre T p) (ih _)
theorem fold_nodup (ps : List ByteArray) {T : List ByteArray} (h : T.Nodup) : (ps.foldl putR T).Nodup := by
 induction ps generalizing T with
 | nil => exact h
 | cons p r ih => rw [List.foldl_cons]; exact ih (putR_nodup h p)
theorem fold_len (ps T : List ByteArray) : (ps.foldl putR T).length ≤ T.length + ps.length := by
 induction ps generalizing T with
 | nil => simp
 | cons p r ih =>
  rw [List.foldl_cons, List.length_cons]
  have h1 := ih (putR T p)
  have h2 := putR_len T p
  omega
set_option maxRecDepth 100000 in
set_option maxHeartbeats 16000000 in
theorem rfacts_any (a : Option Addr) (n c : Nat) (l0 : List Fi) (hz : SrcSz (getF l0)) (id : ByteArray) (U : List ByteArray) (hU : Univ (getF l0) id U) (w : World) (hF : FisAt w a n l0) :
  Calls Tryz.prog 10 #[.slice a n c, .string id] w (FactsOut w (getF l0) id) := by
 obtain ⟨i0, hi0, hz0, hz1, hz2⟩ := info_parts Tryz.infoFact
 have HGT := hid (r14get_any a n c l0 id w hF)
 have HLK0 : Hid (∀ W, Below w.heap.size w W → ∀ q, Calls Tryz.prog 43 #[.slice a n c, .string q, .int .i64 3, .int .i64 21] W (LookOut W (lookK (getF l0) q 3 21).1 (lookK (getF l0) q 3 21).2)) := fun W hW q => rlook_any a n c l0 q 3 21 W (hF.later hW) hz
 obtain ⟨G, hG⟩ : ∃ G, getF l0 = G := ⟨_, rfl⟩
 rw [hG] at HGT HLK0 hU ⊢
 have HU := hid hU
 clear hF hz hG hU
 unfold GetOut at HGT
 cases hGi : G id with
 | none =>
  have HFI := hid (factsIs_none hGi)
  rw [hGi] at HGT
  clear hGi
  go_enter Tryz.func10, Tryz.ntmps10
  go_wp2_with fail
  refine HGT.out.mono ?_; rintro e w1 ⟨rfl, hb1⟩
  have HB1 := hid hb1
  clear hb1 HGT
  go_wp2_with fail
  go_ret2
  exact ⟨12, [], none, 0, 0, [], HFI.out, rfl, ⟨rfl, by omega, .inl rfl⟩, ⟨rfl, fun j hj => by (cases hj)⟩, HB1.out⟩
 | some tx =>
  have hne : G id ≠ none := by rw [hGi]; simp
  have HNE := hid hne
  rw [hGi] at HGT
  clear hGi hne
  go_enter Tryz.func10, Tryz.ntmps10
  go_wp2_with fail
  refine HGT.out.mono ?_; rintro e w1 ⟨rfl, hb1⟩
  have HB1 := hid hb1
  have hs1 := hb1.size
  clear hb1 HGT
  go_upto_region 6 with fail
  have HI3 : Hid (RInv w ((w1.alloc (.cells #[.string id] 9)).alloc (.cells #[] 66)) G id [id] 0 [] 0 (some ⟨w1.heap.size, 0, none⟩) (some ⟨w1.heap.size + 1, 0, none⟩) 0) := by
   have hb2 : Below w.heap.size w (w1.alloc (.cells #[.string id] 9)) := HB1.out.alloc hs1 _
   have hs2 : w.heap.size ≤ (w1.alloc (.cells #[.string id] 9)).heap.size := hb2.size
   have hrow := own_noneF (w1.alloc (.cells #[.string id] 9))
   rw [World.size_alloc] at hrow
   have hblk : Blk ((w1.alloc (.cells #[.string id] 9)).alloc (.cells #[] 66)) w1.heap.size 9 #[.string id] := (Blk.new w1 _ _).alloc _
   refine ⟨Went.start G id, by simp, ⟨rfl, by simp, .inr ⟨w1.heap.size, 0, rfl, fun j hj => ?_⟩⟩, own_mono hrow (by omega), List.Pairwise.nil, fun q hq => by (simp at hq), fun q hq => by (simp at hq), fun f hf => by (cases hf), hb2.alloc hs2 _⟩
   have hj0 : j = 0 := by simpa using hj
   subst hj0
   exact hblk.cell 0
  generalize ((w1.alloc (.cells #[.string id] 9)).alloc (.cells #[] 66)) = w3 at HI3 ⊢
  generalize w1.heap.size + 1 = g1 at HI3 ⊢
  generalize w1.heap.size = g0 at HI3 ⊢
  clear HB1 hs1
  go_wp2_with fail
  go_loopw [8, 9, 10, 11] (fun tv ov wo iv wr => ∃ (i : Nat) (T : List ByteArray) (O : List Fc) (er : Int) (ta : Option Addr) (tc : Nat) (oa : Option Addr) (oc : Nat), i ≤ T.length ∧ tv = .slice ta T.length tc ∧ ov = .slice oa O.length oc ∧ wo = .int .i64 er ∧ iv = .int .i64 i ∧ Hid (RInv w wr G id T i O er ta oa oc)) (fun _ _ _ iv _ => U.length - (intOf iv).toNat)
  case atStart => exact ⟨0, [id], [], 0, _, 1, _, 0, by omega, rfl, rfl, rfl, rfl, HI3⟩
  case round =>
   obtain ⟨i, T, O, er, ta, tc, oa, oc, hi, rfl, rfl, rfl, rfl, HI⟩ := hrel
   have hTU := HI.out.olen HU.out
   by_cases hlt : i < T.length
   ·have ci : (i : Int) < T.length := by omega
    have ci0 : (0 : Int) ≤ (i : Int) := by omega
    obtain ⟨-, -, h3⟩ := HI.out.todo
    obtain ⟨tb, toff, rfl, hcell⟩ := h3.resolve_left (by omega)
    have q0 := hcell i hlt
    obtain ⟨x, hx⟩ : ∃ x, T[i] = x := ⟨_, rfl⟩
    have hgd : T.getD i ByteArray.empty = x := by rw [List.getD_eq_getElem?_getD, List.getElem?_eq_getElem hlt]; exact hx
    rw [hgd] at q0
    have HX0 := hid hx
    have HLK := hid (HLK0.out wr HI.out.below x)
    have HTB := hid (World.block_lt_of_cell? wr _ q0)
    clear hcell h3 hx hgd
    go_wp2_with fail
    refine HLK.out.mono ?_; rintro e w6 ⟨ev, pv, rfl, hO6, hb6, hf6⟩
    obtain ⟨ea, en, ec, pa, pn, pc, rfl, -, rfl, hps⟩ := hO6
    have HPS : Hid (StrsAt w6 pa pn (obF G x).pars) := hps
    have HB6 := hid hb6
    have eE : (lookK G x 3 21).2 = errF G x := rfl
    have eO : (lookK G x 3 21).1 = obF G x := rfl
    rw [eE, eO]
    obtain ⟨X, hX⟩ : ∃ X, obF G x = X := ⟨_, rfl⟩
    obtain ⟨er2, her2⟩ : ∃ er2, errF G x = er2 := ⟨_, rfl⟩
    rw [hX, her2]
    rw [hX] at HPS
    have HXX := hid hX
    have HER := hid her2
    have hcas := errF_cases G x
    rw [her2] at hcas
    have HOK := hid HI.out.went.ok
    have HX7 : Hid (Blk (w6.alloc (.cells (obCs X (.slice ea en ec) (.slice pa pn pc)) 98)) w6.heap.size 98 (obCs X (.slice ea en ec) (.slice pa pn pc))) := Blk.new w6 _ _
    have HB7 : Hid (Below wr.heap.size wr (w6.alloc (.cells (obCs X (.slice ea en ec) (.slice pa pn pc)) 98))) := hb6.alloc hb6.size _
    have HPS7 : Hid (StrsAt (w6.alloc (.cells (obCs X (.slice ea en ec) (.slice pa pn pc)) 98)) pa pn X.pars) := HPS.out.later ((Below.refl _ _).alloc (Nat.le_refl _) _)
    have q0' : (w6.alloc (.cells (obCs X (.slice ea en ec) (.slice pa pn pc)) 98)).cell? ⟨tb, toff + i, none⟩ = some (.string x) := (HB7.out.cell (p := ⟨tb, toff + i, none⟩) HTB.out).trans q0
    have HQ0 := hid q0'
    unfold obCs at HX7 HB7 HPS7 HQ0
    simp only [obCs]
    clear hps hb6 hf6 HLK eE eO hX her2 q0 q0'
    go_upto_region 11 with fail
    generalize (w6.alloc (.cells #[.int .i64 X.kind, .string X.data, .slice ea en ec, .string X.tree, .slice pa pn pc, .int .i64 X.height, .string X.note] 98)) = w7 at HX7 HB7 HPS7 HQ0 ⊢
    generalize w6.heap.size = o7 at HX7 ⊢
    by_cases h0 : er2 = 0
    ·subst h0
     clear hcas
     go_upto_region 14 with fail
     have k4 : w7.cell? ⟨o7, 4, none⟩ = some (.slice pa pn pc) := Blk.cell HX7.out 4
     have k5 : w7.cell? ⟨o7, 5, none⟩ = some (.int .i64 X.height) := Blk.cell HX7.out 5
     have q0 := HQ0.out
     go_cut [14] from 30 to 117 (fun fv wx => ∃ fb, fv = .pointer (some ⟨fb, 0, none⟩) ∧ Hid (Blk wx fb 66 #[.string x, .int .i64 X.height, .slice pa pn pc] ∧ Below w7.heap.size w7 wx))
     case first =>
      have HFIN : Hid (Blk ((w7.alloc (.cells #[.string x, .int .i64 X.height, .slice pa pn pc] 66)).drew) w7.heap.size 66 #[.string x, .int .i64 X.height, .slice pa pn pc] ∧ Below w7.heap.size w7 ((w7.alloc (.cells #[.string x, .int .i64 X.height, .slice pa pn pc] 66)).drew)) := ⟨(Blk.new w7 _ _).drew, ((Below.refl _ w7).alloc (Nat.le_refl _) _).drew⟩
      have HFIN2 : Hid (Blk (w7.drew.alloc (.cells #[.string x, .int .i64 X.height, .slice pa pn pc] 66)) w7.heap.size 66 #[.string x, .int .i64 X.height, .slice pa pn pc] ∧ Below w7.heap.size w7 (w7.drew.alloc (.cells #[.string x, .int .i64 X.height, .slice pa pn pc] 66))) := ⟨(Blk.new w7.drew _ _), ((Below.refl _ w7).drew.alloc (Nat.le_refl _) _)⟩
      have HA := Blk.alloc HX7.out (.cells #[.string ⟨#[]⟩, .int .i64 0, .slice none 0 0] 66)
      have k4a : (w7.alloc (.cells #[.string ⟨#[]⟩, .int .i64 0, .slice none 0 0] 66)).cell? ⟨o7, 4, none⟩ = some (.slice pa pn pc) := Blk.cell HA 4
      have k5a : (w7.alloc (.cells #[.string ⟨#[]⟩, .int .i64 0, .slice none 0 0] 66)).cell? ⟨o7, 5, none⟩ = some (.int .i64 X.height) := Blk.cell HA 5
      have q0a : (w7.alloc (.cells #[.string ⟨#[]⟩, .int .i64 0, .slice none 0 0] 66)).cell? ⟨tb, toff + i, none⟩ = some (.string x) := ((Below.refl w7.heap.size w7).alloc (Nat.le_refl _) _ |>.cell (p := ⟨tb, toff + i, none⟩) (World.block_lt_of_cell? _ _ q0)).trans q0
      clear HA
      go_region
      all_goals (go_wp2_with fail; go_meet; case rel => first | exact ⟨_, rfl, HFIN⟩ | exact ⟨_, rfl, HFIN2⟩)
     case rest =>
      obtain ⟨fb, rfl, HFB⟩ := hcut
      rename World => wo
      have HPS8 : Hid (StrsAt wo pa pn X.pars) := HPS7.out.later HFB.out.2
      have HB8 : Hid (Below wr.heap.size wr wo) := below_then HB7.out HFB.out.2
      have HX8 : Hid (Blk wo o7 98 #[.int .i64 X.kind, .string X.data, .slice ea en ec, .string X.tree, .slice pa pn pc, .int .i64 X.height, .string X.note]) := (HFB.out.2.block o7 (Blk.lt HX7.out)).trans HX7.out
      have HHX : Hid (X.height = hG G x) := by unfold Hid hG; rw [HXX.out]
      obtain ⟨f, hf⟩ : ∃ f : Fc, f = ⟨x, X.height, pa, pn, pc⟩ := ⟨_, rfl⟩
      have HFE := hid hf
      have HF8 : Hid (Blk wo fb 66 #[.string f.id, .int .i64 f.h, .slice f.pa f.pn f.pc]) := by rw [HFE.out]; exact HFB.out.1
      clear hf k4 k5 q0 HX7 HB7 HPS7 HQ0 HFB
      have HO : Hid (wo.ownsRow w.heap.size 66 3 (.slice oa O.length oc) O.length (fvals O)) := own_below HI.out.row HB8.out
      have HN1 : Hid ((wo.alloc (.cells #[] 66)).ownsRow wo.heap.size 66 3 (.slice (some ⟨wo.heap.size, 0, none⟩) 0 0) 0 (fvals [])) := own_noneF wo
      have HB2 : Hid (Below wo.heap.size wo (wo.alloc (.cells #[] 66))) := (Below.refl _ _).alloc (Nat.le_refl _) _
      have HQ0 := hid (Blk.cell HF8.out 0)
      have HQ1 := hid (Blk.cell HF8.out 1)
      have HQ2 := hid (Blk.cell HF8.out 2)
      have HPB : Hid (w.heap.size ≤ wo.heap.size) := (below_then HI.out.below HB8.out).size
      go_upto_block 2 with fail
      generalize (wo.alloc (.cells #[] 66)) = w9 at HN1 HB2 ⊢
      generalize hg2 : wo.heap.size = g2 at HN1 HB2 HPB ⊢
      have HG2 := hid hg2
      clear hg2
      go_cut [15, 16, 17] from 30 to 117 (fun nv dv kv wx => ∃ (N : List Fc) (dn : Bool) (na : Option Addr) (nc : Nat), nv = .slice na N.length nc ∧ dv = .bool dn ∧ Hid (wx.ownsRow g2 66 3 (.slice na N.length nc) N.length (fvals N)) ∧ Hid (Below g2 wo wx) ∧ Hid (MidG befF O f O.length N dn))
      case first =>
       go_wp2_with fail
       go_loopw [17, 15, 16] (fun kv nv dv wx => ∃ (k : Nat) (N : List Fc) (dn : Bool), k ≤ O.length ∧ kv = .int .i64 k ∧ dv = .bool dn ∧ Hid (wx.ownsRow g2 66 3 nv N.length (fvals N)) ∧ Hid (Below g2 wo wx) ∧ Hid (MidG befF O f k N dn)) (fun kv _ _ _ => O.length - (intOf kv).toNat)
       case atStart => exact ⟨0, [], false, Nat.zero_le _, rfl, rfl, HN1, HB2, MidG.zero _ O f⟩
       case round =>
        obtain ⟨k, N, dn, hk, rfl, rfl, HN, HX, HMD⟩ := hrel
        obtain ⟨na, nc, rfl, hnc⟩ := own_slice' HN.out
        have HXW : Hid (Below wo.heap.size wo wr) := by rw [HG2.out]; exact HX.out
        have hgx : g2 ≤ wr.heap.size := by have := HX.out.size; rw [HG2.out] at this; exact this
        have hNl := HMD.out.len
        have f0 : wr.cell? ⟨fb, 0, none⟩ = some (.string f.id) := (HXW.out.cell (p := ⟨fb, 0, none⟩) (World.block_lt_of_cell? _ _ HQ0.out)).trans HQ0.out
        have f1 : wr.cell? ⟨fb, 1, none⟩ = some (.int .i64 f.h) := (HXW.out.cell (p := ⟨fb, 1, none⟩) (World.block_lt_of_cell? _ _ HQ1.out)).trans HQ1.out
        have f2 : wr.cell? ⟨fb, 2, none⟩ = some (.slice f.pa f.pn f.pc) := (HXW.out.cell (p := ⟨fb, 2, none⟩) (World.block_lt_of_cell? _ _ HQ2.out)).trans HQ2.out
        by_cases hkl : k < O.length
        ·have ck : (k : Int) < O.length := by omega
         have ck0 : (0 : Int) ≤ (k : Int) := by omega
         have HOx := own_below HO.out HXW.out
         obtain ⟨og, oc2, e1, -, -⟩ := HOx.form (by omega)
         injection e1 with e1 _ e2
         subst e1 e2
         have x0 := HOx.cellAt (k * 3 + 0) (by omega)
         have x1 := HOx.cellAt (k * 3 + 1) (by omega)
         have x2 := HOx.cellAt (k * 3 + 2) (by omega)
         rw [fvals_get O k 0 hkl (by omega)] at x0
         rw [fvals_get O k 1 hkl (by omega)] at x1
         rw [fvals_get O k 2 hkl (by omega)] at x2
         have HD : Hid (O.drop k = O.getD k noFc :: O.drop (k + 1)) := by
          show _ = _
          rw [List.drop_eq_getElem_cons hkl, List.getD_eq_getElem?_getD, List.getElem?_eq_getElem hkl]; rfl
         have hyO : O.getD k noFc ∈ O := by rw [List.getD_eq_getElem?_getD, List.getElem?_eq_getElem hkl]; exact List.getElem_mem hkl
         obtain ⟨y, hy⟩ : ∃ y, O.getD k noFc = y := ⟨_, rfl⟩
         rw [hy] at x0 x1 x2 HD hyO
         replace x0 : wr.cell? ⟨og, k * 3, none⟩ = some (.string y.id) := x0
         have HX0 := hid x0
         have HF0 := hid f0
         replace x1 : wr.cell? ⟨og, k * 3 + 1, none⟩ = some (.int .i64 y.h) := x1
         have HX1 := hid x1
         have HF1 := hid f1
         replace x2 : wr.cell? ⟨og, k * 3 + 2, none⟩ = some (.slice y.pa y.pn y.pc) := x2
         have HX2 := hid x2
         have HF2 := hid f2
         have hog : og < g2 := by have h := (HO.out.lt og rfl).2; rw [HG2.out] at h; exact h
         clear hy HOx HXW hyO
         cases dn
         ·by_cases hcm : befF f y = true
          ·have HMN := hid (HMD.out.hit HD.out hcm)
           have hcl : Op.bytesLess f.id.toList y.id.toList = true := hcm
           go_wp2_with fail
           go_quiet (fail)
           generalize hqz : World.drewN wr _ = wz
           have HZW : Hid (Below wr.heap.size wr wz) := (by rw [← hqz]; exact below_drewN (Below.refl _ _) _)
           clear hqz
           have HNz : Hid (wz.ownsRow g2 66 3 (.slice na N.length nc) N.length (fvals N)) := own_below HN.out HZW.out
           have HXz : Hid (Below g2 wo wz) := HX.out.trans (HZW.out.mono hgx)
           have f0' : wz.cell? ⟨fb, 0, none⟩ = some (.string f.id) := (HZW.out.cell (p := ⟨fb, 0, none⟩) (World.block_lt_of_cell? _ _ HF0.out)).trans HF0.out
           have x0' : wz.cell? ⟨og, k * 3, none⟩ = some (.string y.id) := (HZW.out.cell (p := ⟨og, k * 3, none⟩) (World.block_lt_of_cell? _ _ HX0.out)).trans HX0.out
           have f1' : wz.cell? ⟨fb, 1, none⟩ = some (.int .i64 f.h) := (HZW.out.cell (p := ⟨fb, 1, none⟩) (World.block_lt_of_cell? _ _ HF1.out)).trans HF1.out
           have x1' : wz.cell? ⟨og, k * 3 + 1, none⟩ = some (.int .i64 y.h) := (HZW.out.cell (p := ⟨og, k * 3 + 1, none⟩) (World.block_lt_of_cell? _ _ HX1.out)).trans HX1.out
           have f2' : wz.cell? ⟨fb, 2, none⟩ = some (.slice f.pa f.pn f.pc) := (HZW.out.cell (p := ⟨fb, 2, none⟩) (World.block_lt_of_cell? _ _ HF2.out)).trans HF2.out
           have x2' : wz.cell? ⟨og, k * 3 + 2, none⟩ = some (.slice y.pa y.pn y.pc) := (HZW.out.cell (p := ⟨og, k * 3 + 2, none⟩) (World.block_lt_of_cell? _ _ HX2.out)).trans HX2.out
           have hgz : g2 ≤ wz.heap.size := by have := HXz.out.size; rw [HG2.out] at this; exact this
           clear f0 f1 f2 x0 x1 x2 HF0 HF1 HF2 HX0 HX1 HX2 HZW
           go_upto_region 23 with (at_builtin; refine wpList_append_own _ rfl (.tmp 86) (.tmp 88) 35 rfl g2 66 i0 (.agg #[.string ⟨#[]⟩, .int .i64 0, .slice none 0 0]) 3 48 Tryz.underlying35 hi0 hz0 hz1 hz2 rfl (by decide) (.slice na N.length nc) _ _ rfl (HNz.out.alloc _) ⟨wz.heap.size, 0, none⟩ 1 1 [.string f.id, .int .i64 f.h, .slice f.pa f.pn f.pc] rfl rfl (cellBlk3 (Blk.new _ _ _)) (one3 rfl rfl rfl) (by unfold maxLen; omega) (by omega) (by rw [World.size_alloc]; omega) ?_; intro v' w9 hown' hgrow _; have HOWN := hid hown'; have HGR := hid hgrow; clear hown' hgrow)
           obtain ⟨na', nc', rfl, hnc'⟩ := own_slice' HOWN.out
           have HN9 : Hid (w9.ownsRow g2 66 3 (.slice na' (N.length + 1) nc') (N.length + 1) (fvals (N ++ [f]))) := by
            have h := HOWN.out
            rw [fvals_append]; exact h
           have HS9 : Hid (Below g2 wz w9) := ((Below.refl g2 wz).alloc hgz _).grown HGR.out (by rw [World.size_alloc]; omega) (fun j hj => (HNz.out.lt j hj).1)
           have HX9 : Hid (Below g2 wo w9) := HXz.out.trans HS9.out
           have c0 : w9.cell? ⟨og, k * 3, none⟩ = some (.string y.id) := (HS9.out.cell (p := ⟨og, k * 3, none⟩) hog).trans x0'
           have c1 : w9.cell? ⟨og, k * 3 + 1, none⟩ = some (.int .i64 y.h) := (HS9.out.cell (p := ⟨og, k * 3 + 1, none⟩) hog).trans x1'
           have c2 : w9.cell? ⟨og, k * 3 + 2, none⟩ = some (.slice y.pa y.pn y.pc) := (HS9.out.cell (p := ⟨og, k * 3 + 2, none⟩) hog).trans x2'
           have hg9 : g2 ≤ w9.heap.size := by have := HX9.out.size; rw [HG2.out] at this; exact this
           clear f0' f1' f2' x0' x1' x2' HOWN HGR HNz HXz HS9
           rename World => wy
           go_wp2_with (at_builtin; refine wpList_append_own _ rfl (.tmp 90) (.tmp 95) 35 rfl g2 66 i0 (.agg #[.string ⟨#[]⟩, .int .i64 0, .slice none 0 0]) 3 48 Tryz.underlying35 hi0 hz0 hz1 hz2 rfl (by decide) (.slice na' (N.length + 1) nc') _ _ rfl (HN9.out.alloc _) ⟨wy.heap.size, 0, none⟩ 1 1 [.string y.id, .int .i64 y.h, .slice y.pa y.pn y.pc] rfl rfl (cellBlk3 (Blk.new _ _ _)) (one3 rfl rfl rfl) (by unfold maxLen; omega) (by omega) (by rw [World.size_alloc]; omega) ?_; intro v' w9 hown' hgrow _; have HOWN := hid hown'; have HGR := hid hgrow; clear hown' hgrow)
           obtain ⟨nb, nd, rfl, hnd⟩ := own_slice' HOWN.out
           have HNN : Hid (w9.ownsRow g2 66 3 (.slice nb ((N.length + 1) + 1) nd) ((N ++ [f]) ++ [y]).length (fvals ((N ++ [f]) ++ [y]))) := by
            have h := HOWN.out
            have e : ((N ++ [f]) ++ [y]).length = (N.length + 1) + 1 := by simp
            rw [e, fvals_append]; exact h
           have HXX : Hid (Below g2 wo w9) := (HX9.out.alloc (by omega) _).grown HGR.out (by rw [World.size_alloc]; omega) (fun j hj => (HN9.out.lt j hj).1)
           go_roundw
           case rel => first | exact ⟨k + 1, _, true, by omega, by go_num, rfl, HNN, HXX, HMN⟩ | ((repeat apply Exists.intro); exact ⟨⟨k + 1, _, true, by omega, by go_num, rfl, HNN, HXX, HMN⟩, rfl⟩)
           case measure => simp [intOf]; omega
          ·have hcm2 : befF f y = false := Bool.not_eq_true _ ▸ hcm
           have HMN := hid (HMD.out.miss HD.out hcm2)
           have hcl : Op.bytesLess f.id.toList y.id.toList = false := hcm2
           go_wp2_with fail
           go_quiet (fail)
           generalize hqz : World.drewN wr _ = wz
           have HZW : Hid (Below wr.heap.size wr wz) := (by rw [← hqz]; exact below_drewN (Below.refl _ _) _)
           clear hqz
           have HNz : Hid (wz.ownsRow g2 66 3 (.slice na N.length nc) N.length (fvals N)) := own_below HN.out HZW.out
           have HXz : Hid (Below g2 wo wz) := HX.out.trans (HZW.out.mono hgx)
           have f0' : wz.cell? ⟨fb, 0, none⟩ = some (.string f.id) := (HZW.out.cell (p := ⟨fb, 0, none⟩) (World.block_lt_of_cell? _ _ HF0.out)).trans HF0.out
           have x0' : wz.cell? ⟨og, k * 3, none⟩ = some (.string y.id) := (HZW.out.cell (p := ⟨og, k * 3, none⟩) (World.block_lt_of_cell? _ _ HX0.out)).trans HX0.out
           have f1' : wz.cell? ⟨fb, 1, none⟩ = some (.int .i64 f.h) := (HZW.out.cell (p := ⟨fb, 1, none⟩) (World.block_lt_of_cell? _ _ HF1.out)).trans HF1.out
           have x1' : wz.cell? ⟨og, k * 3 + 1, none⟩ = some (.int .i64 y.h) := (HZW.out.cell (p := ⟨og, k * 3 + 1, none⟩) (World.block_lt_of_cell? _ _ HX1.out)).trans HX1.out
           have f2' : wz.cell? ⟨fb, 2, none⟩ = some (.slice f.pa f.pn f.pc) := (HZW.out.cell (p := ⟨fb, 2, none⟩) (World.block_lt_of_cell? _ _ HF2.out)).trans HF2.out
           have x2' : wz.cell? ⟨og, k * 3 + 2, none⟩ = some (.slice y.pa y.pn y.pc) := (HZW.out.cell (p := ⟨og, k * 3 + 2, none⟩) (World.block_lt_of_cell? _ _ HX2.out)).trans HX2.out
           have hgz : g2 ≤ wz.heap.size := by have := HXz.out.size; rw [HG2.out] at this; exact this
           clear f0 f1 f2 x0 x1 x2 HF0 HF1 HF2 HX0 HX1 HX2 HZW
           go_wp2_with (at_builtin; refine wpList_append_own _ rfl (.tmp 90) (.tmp 95) 35 rfl g2 66 i0 (.agg #[.string ⟨#[]⟩, .int .i64 0, .slice none 0 0]) 3 48 Tryz.underlying35 hi0 hz0 hz1 hz2 rfl (by decide) (.slice na N.length nc) _ _ rfl (HNz.out.alloc _) ⟨wz.heap.size, 0, none⟩ 1 1 [.string y.id, .int .i64 y.h, .slice y.pa y.pn y.pc] rfl rfl (cellBlk3 (Blk.new _ _ _)) (one3 rfl rfl rfl) (by unfold maxLen; omega) (by omega) (by rw [World.size_alloc]; omega) ?_; intro v' w9 hown' hgrow _; have HOWN := hid hown'; have HGR := hid hgrow; clear hown' hgrow)
           obtain ⟨nb, nd, rfl, hnd⟩ := own_slice' HOWN.out
           have HNN : Hid (w9.ownsRow g2 66 3 (.slice nb (N.length + 1) nd) (N ++ [y]).length (fvals (N ++ [y]))) := by
            have h := HOWN.out
            have e : (N ++ [y]).length = N.length + 1 := by simp
            rw [e, fvals_append]; exact h
           have HXX : Hid (Below g2 wo w9) := (HXz.out.alloc (by omega) _).grown HGR.out (by rw [World.size_alloc]; omega) (fun j hj => (HNz.out.lt j hj).1)
           go_roundw
           case rel => first | exact ⟨k + 1, _, false, by omega, by go_num, rfl, HNN, HXX, HMN⟩ | ((repeat apply Exists.intro); exact ⟨⟨k + 1, _, false, by omega, by go_num, rfl, HNN, HXX, HMN⟩, rfl⟩)
           case measure => simp [intOf]; omega
         ·have HMN := hid (HMD.out.done HD.out)
          go_wp2_with fail
          go_quiet (fail)
          generalize hqz : World.drewN wr _ = wz
          have HZW : Hid (Below wr.heap.size wr wz) := (by rw [← hqz]; exact below_drewN (Below.refl _ _) _)
          clear hqz
          have HNz : Hid (wz.ownsRow g2 66 3 (.slice na N.length nc) N.length (fvals N)) := own_below HN.out HZW.out
          have HXz : Hid (Below g2 wo wz) := HX.out.trans (HZW.out.mono hgx)
          have f0' : wz.cell? ⟨fb, 0, none⟩ = some (.string f.id) := (HZW.out.cell (p := ⟨fb, 0, none⟩) (World.block_lt_of_cell? _ _ HF0.out)).trans HF0.out
          have x0' : wz.cell? ⟨og, k * 3, none⟩ = some (.string y.id) := (HZW.out.cell (p := ⟨og, k * 3, none⟩) (World.block_lt_of_cell? _ _ HX0.out)).trans HX0.out
          have f1' : wz.cell? ⟨fb, 1, none⟩ = some (.int .i64 f.h) := (HZW.out.cell (p := ⟨fb, 1, none⟩) (World.block_lt_of_cell? _ _ HF1.out)).trans HF1.out
          have x1' : wz.cell? ⟨og, k * 3 + 1, none⟩ = some (.int .i64 y.h) := (HZW.out.cell (p := ⟨og, k * 3 + 1, none⟩) (World.block_lt_of_cell? _ _ HX1.out)).trans HX1.out
          have f2' : wz.cell? ⟨fb, 2, none⟩ = some (.slice f.pa f.pn f.pc) := (HZW.out.cell (p := ⟨fb, 2, none⟩) (World.block_lt_of_cell? _ _ HF2.out)).trans HF2.out
          have x2' : wz.cell? ⟨og, k * 3 + 2, none⟩ = some (.slice y.pa y.pn y.pc) := (HZW.out.cell (p := ⟨og, k * 3 + 2, none⟩) (World.block_lt_of_cell? _ _ HX2.out)).trans HX2.out
          have hgz : g2 ≤ wz.heap.size := by have := HXz.out.size; rw [HG2.out] at this; exact this
          clear f0 f1 f2 x0 x1 x2 HF0 HF1 HF2 HX0 HX1 HX2 HZW
          go_wp2_with (at_builtin; refine wpList_append_own _ rfl (.tmp 90) (.tmp 95) 35 rfl g2 66 i0 (.agg #[.string ⟨#[]⟩, .int .i64 0, .slice none 0 0]) 3 48 Tryz.underlying35 hi0 hz0 hz1 hz2 rfl (by decide) (.slice na N.length nc) _ _ rfl (HNz.out.alloc _) ⟨wz.heap.size, 0, none⟩ 1 1 [.string y.id, .int .i64 y.h, .slice y.pa y.pn y.pc] rfl rfl (cellBlk3 (Blk.new _ _ _)) (one3 rfl rfl rfl) (by unfold maxLen; omega) (by omega) (by rw [World.size_alloc]; omega) ?_; intro v' w9 hown' hgrow _; have HOWN := hid hown'; have HGR := hid hgrow; clear hown' hgrow)
          obtain ⟨nb, nd, rfl, hnd⟩ := own_slice' HOWN.out
          have HNN : Hid (w9.ownsRow g2 66 3 (.slice nb (N.length + 1) nd) (N ++ [y]).length (fvals (N ++ [y]))) := by
           have h := HOWN.out
           have e : (N ++ [y]).length = N.length + 1 := by simp
           rw [e, fvals_append]; exact h
          have HXX : Hid (Below g2 wo w9) := (HXz.out.alloc (by omega) _).grown HGR.out (by rw [World.size_alloc]; omega) (fun j hj => (HNz.out.lt j hj).1)
          go_roundw
          case rel => first | exact ⟨k + 1, _, true, by omega, by go_num, rfl, HNN, HXX, HMN⟩ | ((repeat apply Exists.intro); exact ⟨⟨k + 1, _, true, by omega, by go_num, rfl, HNN, HXX, HMN⟩, rfl⟩)
          case measure => simp [intOf]; omega
        ·obtain rfl : k = O.length := by omega
         have ck : ¬ (O.length : Int) < O.length := by omega
         clear f0 f1 f2 HXW
         go_wp2_with fail
         go_meet
         case rel => exact ⟨N, dn, na, nc, rfl, rfl, HN, HX, HMD⟩
      case rest =>
       obtain ⟨N, dn, na, nc, rfl, rfl, HN, HX, HMD⟩ := hcut
       rename World => wn
       have HXW : Hid (Below wo.heap.size wo wn) := by rw [HG2.out]; exact HX.out
       have f0 : wn.cell? ⟨fb, 0, none⟩ = some (.string f.id) := (HXW.out.cell (p := ⟨fb, 0, none⟩) (World.block_lt_of_cell? _ _ HQ0.out)).trans HQ0.out
       have f1 : wn.cell? ⟨fb, 1, none⟩ = some (.int .i64 f.h) := (HXW.out.cell (p := ⟨fb, 1, none⟩) (World.block_lt_of_cell? _ _ HQ1.out)).trans HQ1.out
       have f2 : wn.cell? ⟨fb, 2, none⟩ = some (.slice f.pa f.pn f.pc) := (HXW.out.cell (p := ⟨fb, 2, none⟩) (World.block_lt_of_cell? _ _ HQ2.out)).trans HQ2.out
       have hgx : g2 ≤ wn.heap.size := by have := HX.out.size; rw [HG2.out] at this; exact this
       have hNl := HMD.out.len
       go_upto_if 98 with fail
       go_cut [15] from 30 to 117 (fun nv wx => ∃ (nb : Option Addr) (nd : Nat), nv = .slice nb (O.length + 1) nd ∧ Hid (wx.ownsRow g2 66 3 (.slice nb (O.length + 1) nd) (O.length + 1) (fvals (insG befF O f))) ∧ Hid (Below g2 wo wx))
       case first =>
        cases dn
        ·have HE := hid (HMD.out.end_not (Nat.le_refl _))
         have hNk : N.length = O.length := HMD.out.2
         go_wp2_with (at_builtin; refine wpList_append_own _ rfl (.tmp 99) (.tmp 101) 35 rfl g2 66 i0 (.agg #[.string ⟨#[]⟩, .int .i64 0, .slice none 0 0]) 3 48 Tryz.underlying35 hi0 hz0 hz1 hz2 rfl (by decide) (.slice na N.length nc) _ _ rfl (HN.out.alloc _) ⟨wn.heap.size, 0, none⟩ 1 1 [.string f.id, .int .i64 f.h, .slice f.pa f.pn f.pc] rfl rfl (cellBlk3 (Blk.new _ _ _)) (one3 rfl rfl rfl) (by unfold maxLen; omega) (by omega) (by rw [World.size_alloc]; omega) ?_; intro v' w9 hown' hgrow _; have HOWN := hid hown'; have HGR := hid hgrow; clear hown' hgrow)
         obtain ⟨nb, nd, rfl, hnd⟩ := own_slice' HOWN.out
         have HNN : Hid (w9.ownsRow g2 66 3 (.slice nb (O.length + 1) nd) (O.length + 1) (fvals (insG befF O f))) := by
          have h := HOWN.out
          rw [hNk] at h
          rw [HE.out, fvals_append]; exact h
         have HXX : Hid (Below g2 wo w9) := (HX.out.alloc (by omega) _).grown HGR.out (by rw [World.size_alloc]; omega) (fun j hj => (HN.out.lt j hj).1)
         have HNK := hid hNk
         clear hNk f0 f1 f2
         go_meet
         case rel => exact ⟨nb, nd, by rw [HNK.out], HNN, HXX⟩
        ·have HE := hid (HMD.out.end_done (Nat.le_refl _))
         have hNk : N.length = O.length + 1 := HMD.out.2
         have HNN : Hid (wn.ownsRow g2 66 3 (.slice na (O.length + 1) nc) (O.length + 1) (fvals (insG befF O f))) := by
          have h := HN.out
          rw [hNk] at h
          rw [HE.out]; exact h
         have HNK := hid hNk
         clear hNk f0 f1 f2
         go_wp2_with fail
         go_meet
         case rel => exact ⟨na, nc, by rw [HNK.out], HNN, HX⟩
       case rest =>
        obtain ⟨nb, nd, rfl, HNN, HXY⟩ := hcut
        rename World => wp
        have HXP : Hid (Below wo.heap.size wo wp) := by rw [HG2.out]; exact HXY.out
        have HXP8 := hid ((HXP.out.block o7 (Blk.lt HX8.out)).trans HX8.out)
        have HT1 := hid (HI.out.todo.later (below_then HB8.out HXP.out))
        clear f0 f1 f2 HN HX HMD HXW hgx hNl
        have hpw := HXP.out.size
        have HP8 : Hid (X.pars.length ≤ 8) := by rw [← HXX.out]; exact HU.out.2.2 x
        have hpl : X.pars.length = pn := HPS.out.1
        have HPL := hid hpl
        clear hpl
        go_wp2_with fail
        go_loopw [8, 18] (fun tv kv wr => ∃ (k : Nat) (ta2 : Option Addr) (tc2 : Nat), k ≤ pn ∧ kv = .int .i64 k ∧ tv = .slice ta2 ((X.pars.take k).foldl putR T).length tc2 ∧ Hid (StrsAt wr ta2 ((X.pars.take k).foldl putR T).length ((X.pars.take k).foldl putR T)) ∧ Hid (Below wp.heap.size wp wr)) (fun _ kv _ => pn - (intOf kv).toNat)
        case atStart => exact ⟨0, _, tc, Nat.zero_le _, rfl, rfl, HT1, Below.refl _ _⟩
        case round =>
         obtain ⟨k, ta2, tc2, hk, rfl, rfl, HTK, HBK⟩ := hrel
         have HXK : Hid (Blk wr o7 98 #[.int .i64 X.kind, .string X.data, .slice ea en ec, .string X.tree, .slice pa pn pc, .int .i64 X.height, .string X.note]) := (HBK.out.block o7 (Blk.lt HXP8.out)).trans HXP8.out
         have k4 : wr.cell? ⟨o7, 4, none⟩ = some (.slice pa pn pc) := Blk.cell HXK.out 4
         have hpn8 : pn ≤ 8 := by have h1 := HP8.out; have h2 := HPL.out; omega
         by_cases hkl : k < pn
         ·have ck : (k : Int) < pn := by omega
          have ck0 : (0 : Int) ≤ (k : Int) := by omega
          obtain ⟨-, -, h3⟩ := (HPS8.out.later HXP.out).later HBK.out
          obtain ⟨pb, poff, rfl, hcell⟩ := h3.resolve_left (by omega)
          have q0 := hcell k hkl
          have hkp : k < X.pars.length := by have h2 := HPL.out; omega
          obtain ⟨p, hpe⟩ : ∃ p, X.pars[k] = p := ⟨_, rfl⟩
          have hgd : X.pars.getD k ByteArray.empty = p := by rw [List.getD_eq_getElem?_getD, List.getElem?_eq_getElem hkp]; exact hpe
          rw [hgd] at q0
          have HTN : Hid ((X.pars.take (k + 1)).foldl putR T = putR ((X.pars.take k).foldl putR T) p) := by
           show _ = _
           rw [List.take_succ_eq_append_getElem hkp, hpe, List.foldl_append]; rfl
          obtain ⟨T2, hT2⟩ : ∃ T2, (X.pars.take k).foldl putR T = T2 := ⟨_, rfl⟩
          have hTl : T2.length ≤ 200000 := by
           rw [← hT2]
           have h1 := fold_len (X.pars.take k) T
           rw [List.length_take] at h1
           have h2 := HP8.out
           omega
          rw [hT2] at HTK HTN ⊢
          have HPU := hid (rput_any ta2 T2.length tc2 T2 p wr HTK.out hTl)
          clear hcell h3 hpe hgd hT2 hTl
          go_wp2_with fail
          refine HPU.out.mono ?_; rintro e w9 ⟨ta3, tc3, rfl, ht3, hb3⟩
          have HT3 : Hid (StrsAt w9 ta3 ((X.pars.take (k + 1)).foldl putR T).length ((X.pars.take (k + 1)).foldl putR T)) := by rw [HTN.out]; exact ht3
          have HB3 := hid (below_then HBK.out hb3)
          clear ht3 hb3 HPU q0 k4
          go_wp2_with fail
          rw [← HTN.out]
          go_roundw
          case rel => first | exact ⟨k + 1, ta3, tc3, by omega, by go_num, rfl, HT3, HB3⟩ | ((repeat apply Exists.intro); exact ⟨⟨k + 1, ta3, tc3, by omega, by go_num, rfl, HT3, HB3⟩, rfl⟩)
          case measure => simp [intOf]; omega
         ·obtain rfl : k = pn := by omega
          have ck : ¬ (k : Int) < k := by omega
          have hfull : X.pars.take k = X.pars := List.take_of_length_le (by rw [HPL.out]; exact Nat.le_refl _)
          rw [hfull] at HTK ⊢
          have HI9 : Hid (RInv w wr G id (X.pars.foldl putR T) (i + 1) (insG befF O ⟨x, hG G x, pa, k, pc⟩) er ta2 nb nd) := by
           have hb9 : Below wo.heap.size wo wr := below_then HXP.out HBK.out
           have hrow : wr.ownsRow w.heap.size 66 3 (.slice nb (O.length + 1) nd) (O.length + 1) (fvals (insG befF O ⟨x, hG G x, pa, k, pc⟩)) := by
            have h := own_mono (own_below HNN.out HBK.out) HPB.out
            rw [HFE.out, HHX.out] at h; exact h
           exact HI.out.more hlt HX0.out HER.out HB8.out (by rw [HXX.out]; exact HPS8.out) hb9 HTK.out (fold_nodup _ HI.out.nd) (fold_pre _ _) (fun q => by rw [fold_mem, HXX.out]) hrow
          have HLE : Hid (O.length + 1 = (insG befF O ⟨x, hG G x, pa, k, pc⟩).length) := (insG_len _ _ _).symm
          have HTL : Hid (i + 1 ≤ (X.pars.foldl putR T).length) := by
           have := (fold_pre X.pars T).length_le
           show _ ≤ _; omega
          clear hfull
          go_wp2_with fail
          go_roundw
          case rel => first | exact ⟨i + 1, _, _, er, ta2, tc2, nb, nd, HTL.out, rfl, by rw [HLE.out], rfl, by go_num, HI9⟩ | ((repeat apply Exists.intro); exact ⟨⟨i + 1, _, _, er, ta2, tc2, nb, nd, HTL.out, rfl, by rw [HLE.out], rfl, by go_num, HI9⟩, rfl⟩)
          case measure => simp [intOf]; omega
    ·have HI8 : Hid (RInv w w7 G id T (i + 1) O (worseZ er er2) (some ⟨tb, toff, none⟩) oa oc) := by
      rw [← HER.out]
      exact HI.out.skip hlt HX0.out (by rw [HER.out]; exact h0) HB7.out
     rcases hcas with rfl | rfl | rfl | rfl
     ·exact absurd rfl h0
     all_goals
      rcases HOK.out with rfl | rfl | rfl | rfl
      all_goals
       clear HOK h0
       go_wp2_with fail
       go_roundw
       case rel => first | exact ⟨i + 1, T, O, _, _, tc, oa, oc, by omega, rfl, rfl, rfl, by go_num, HI8⟩ | ((repeat apply Exists.intro); exact ⟨⟨i + 1, T, O, _, _, tc, oa, oc, by omega, rfl, rfl, rfl, by go_num, HI8⟩, rfl⟩)
       case measure => simp [intOf]; omega
   ·obtain rfl : i = T.length := by omega
    have ci : ¬ (T.length : Int) < T.length := by omega
    by_cases h0 : er = 0
    ·subst h0
     obtain ⟨HFI, HFA⟩ := HI.out.last HNE.out
     have HFI := hid HFI
     have HFA := hid HFA
     have HFC : Hid (FcsAt wr oa O.length O) := by
      obtain ⟨a9, c9, e9, h9⟩ := own_fcs HI.out.row (by omega)
      injection e9 with e91 _ _
      rw [e91]; exact h9
     have HB := hid HI.out.below
     clear HI
     go_wp2_with fail
     go_ret2
     exact ⟨0, _, _, _, _, O, HFI.out, rfl, HFC.out, HFA.out, HB.out⟩
    ·have hw := HI.out.went
     rw [List.take_of_length_le (Nat.le_refl _), List.drop_of_length_le (Nat.le_refl _)] at hw
     have HFI := hid (factsIs_err HNE.out hw h0)
     have HB := hid HI.out.below
     have h1 : (er != 0) = true := by simp [h0]
     have h2 : decide (er = 0) = false := decide_eq_false h0
     have h3 : (er == 0) = false := by simp [h0]
     clear h0 HI hw
     go_wp2_with fail
     go_ret2
     exact ⟨er, [], none, 0, 0, [], HFI.out, rfl, ⟨rfl, by omega, .inl rfl⟩, ⟨rfl, fun j hj => by (cases hj)⟩, HB.out⟩
end Go.Proofs.YtmpjdoiogbbcoaaGreatDoor
/- The reference's layers 11 and 6: place, Height, Compare, right. -/
namespace Go.Proofs.YtmpjdoiogbbcoaaGreatDoor
open Go.RowKit Book Pap Ojt Sn
set_option linter.unusedVariables false
set_option linter.unusedSimpArgs false

set_option maxRecDepth 100000 in
set_option maxHeartbeats 4000000 in
theorem rplace_any (a : Option Addr) (n c : Nat) (fs : List Fc) (x : ByteArray) (j : Nat) (hj : j < n) (hne : ∀ k, k < j → (fs.getD k noFc).id ≠ x) (he : (fs.getD j noFc).id = x) (w : World) (h : FcsAt w a n fs) :
  Calls Tryz.prog 91 #[.slice a n c, .string x] w fun e w' => e = .returned (.int .i64 j) ∧ w = w' := by
 have HS := hid h
 have hn6 := h.2.1
 have HNE := hid hne
 have HE := hid he
 clear h hne he
 go_enter Tryz.func91, Tryz.ntmps91
 go_wp2_with fail
 go_loopw [5] (fun iv wr => ∃ i : Nat, i ≤ j ∧ iv = .int .i64 i ∧ w = wr) (fun iv _ => n - (intOf iv).toNat)
 case atStart => exact ⟨0, Nat.zero_le _, rfl, rfl⟩
 case round =>
  obtain ⟨i, hi, rfl, rfl⟩ := hrel
  have hlt : i < n := by omega
  have ci : (i : Int) < n := by omega
  have ci0 : (0 : Int) ≤ (i : Int) := by omega
  obtain ⟨-, -, h3⟩ := HS.out
  obtain ⟨b, off, rfl, hc⟩ := h3.resolve_left (by omega)
  obtain ⟨q0, -, -⟩ := hc i hlt
  obtain ⟨y, hy⟩ : ∃ y, (fs.getD i noFc).id = y := ⟨_, rfl⟩
  rw [hy] at q0
  have HY := hid hy
  clear hy hc h3
  by_cases hij : i = j
  ·subst hij
   have e1 : (y.toList == x.toList) = true := by rw [← HY.out, HE.out]; simp
   go_wp2_with fail
   go_ret
   exact ⟨rfl, rfl⟩
  ·have e1 : (y.toList == x.toList) = false := by
    rw [ba_toList, ba_toList, beq_eq_false_iff_ne]
    exact fun e => HNE.out i (by omega) (by rw [HY.out]; exact ba_ext e)
   go_wp2_with fail
   go_roundw
   case rel => first | exact ⟨i + 1, by omega, by go_num, by first | rfl | trivial⟩ | ((repeat apply Exists.intro); exact ⟨⟨i + 1, by omega, by go_num, by first | rfl | trivial⟩, rfl⟩)
   case measure => simp [intOf]; omega
theorem heightL_take {z : Int} {l : List Int} {i : Nat} (hi : i < l.length) : (l.take (i + 1)).foldl max z = max ((l.take i).foldl max z) (l.getD i 0) := by
 rw [List.take_succ_eq_append_getElem hi, List.foldl_append, List.getD_eq_getElem?_getD, List.getElem?_eq_getElem hi]; rfl
theorem foldmax_le {B : Int} : ∀ (l : List Int) (z : Int), z ≤ B → (∀ x ∈ l, x ≤ B) → l.foldl max z ≤ B
 | [], z, h, _ => h
 | a :: l, z, h, hl => foldmax_le l (max z a) (by have := hl a (List.mem_cons_self ..); omega) (fun x hx => hl x (List.mem_cons_of_mem _ hx))
theorem foldmax_ge : ∀ (l : List Int) (z : Int), z ≤ l.foldl max z
 | [], z => Int.le_refl _
 | a :: l, z => Int.le_trans (by omega) (foldmax_ge l (max z a))
set_option maxRecDepth 100000 in
set_option maxHeartbeats 4000000 in
theorem rheight_any (a : Option Addr) (n c : Nat) (zs : List Int) (w : World) (h : NumsAt w a n zs) (hn : n ≤ 1000000) (hz : ∀ z ∈ zs, 0 ≤ z ∧ z ≤ 1073741824) :
  Calls Tryz.prog 150 #[.slice a n c] w fun e w' => e = .returned (.int .i64 (heightL zs)) ∧ w = w' := by
 obtain ⟨h1, h3⟩ := h
 cases zs with
 | nil =>
  have hn0 : n = 0 := h1.symm
  subst hn0
  clear h1 h3 hz
  go_enter Tryz.func150, Tryz.ntmps150
  go_wp2_with fail
  go_ret
  exact ⟨rfl, rfl⟩
 | cons z0 l =>
  rw [List.length_cons] at h1
  obtain ⟨b, off, rfl, hc⟩ := h3.resolve_left (by omega)
  have HC := hid hc
  have HZ := hid hz
  have HL := hid h1
  have q0 : w.cell? ⟨b, off, none⟩ = some (.int .i64 z0) := by have h := hc 0 (by omega); rw [Nat.add_zero] at h; exact h
  have hn0 : ¬ (n = 0) := by omega
  have hn1 : (0 : Int) < n := by omega
  have hn2 : ((n : Int) == 0) = false := by simp; omega
  have hn3 : decide ((n : Int) = 0) = false := by simp; omega
  have hn4 : (n == 0) = false := by simp; omega
  have hn5 : 0 < n := by omega
  have HR : Hid (heightL (z0 :: l) = l.foldl max z0 + 1) := rfl
  clear hc hz h3
  go_enter Tryz.func150, Tryz.ntmps150
  go_wp2_with fail
  clear q0
  go_loopw [3, 4] (fun mv iv wr => ∃ i : Nat, i ≤ l.length ∧ iv = .int .i64 (i + 1 : Nat) ∧ mv = .int .i64 ((l.take i).foldl max z0) ∧ w = wr) (fun _ iv _ => n - (intOf iv).toNat)
  case atStart => exact ⟨0, Nat.zero_le _, rfl, rfl, rfl⟩
  case round =>
   obtain ⟨i, hi, rfl, rfl, rfl⟩ := hrel
   by_cases hlt : i < l.length
   ·have ci : ((i + 1 : Nat) : Int) < n := by omega
    have ci0 : (0 : Int) ≤ ((i + 1 : Nat) : Int) := by omega
    have ci2 : (i : Int) + 1 < n := by omega
    have q0 := HC.out (i + 1) (by omega)
    have hgd : (z0 :: l).getD (i + 1) 0 = l.getD i 0 := by simp
    rw [hgd] at q0
    have HT := hid (heightL_take (z := z0) hlt)
    obtain ⟨y, hy⟩ : ∃ y, l.getD i 0 = y := ⟨_, rfl⟩
    obtain ⟨M, hM⟩ : ∃ M, (l.take i).foldl max z0 = M := ⟨_, rfl⟩
    rw [hy, hM] at HT
    rw [hy] at q0
    rw [hM]
    clear hgd hy hM
    by_cases hgt : M < y
    ·have hmx : max M y = y := by omega
     have d1 : decide (M < y) = true := decide_eq_true hgt
     rw [hmx] at HT
     clear hmx
     go_wp2_with fail
     go_roundw
     case rel => first | exact ⟨i + 1, by omega, by go_num, by rw [HT.out], by first | rfl | trivial⟩ | ((repeat apply Exists.intro); exact ⟨⟨i + 1, by omega, by go_num, by rw [HT.out], by first | rfl | trivial⟩, rfl⟩)
     case measure => simp [intOf]; omega
    ·have hmx : max M y = M := by omega
     have d1 : decide (M < y) = false := decide_eq_false hgt
     rw [hmx] at HT
     clear hmx
     go_wp2_with fail
     go_roundw
     case rel => first | exact ⟨i + 1, by omega, by go_num, by rw [HT.out], by first | rfl | trivial⟩ | ((repeat apply Exists.intro); exact ⟨⟨i + 1, by omega, by go_num, by rw [HT.out], by first | rfl | trivial⟩, rfl⟩)
     case measure => simp [intOf]; omega
   ·obtain rfl : i = l.length := by omega
    have ci : ¬ ((l.length + 1 : Nat) : Int) < n := by omega
    have ci2 : ¬ (l.length : Int) + 1 < n := by omega
    have hfull : l.take l.length = l := List.take_of_length_le (Nat.le_refl _)
    have hb1 := foldmax_le (B := 1073741824) l z0 (HZ.out z0 (List.mem_cons_self ..)).2 (fun x hx => (HZ.out x (List.mem_cons_of_mem _ hx)).2)
    have hb0 := foldmax_ge l z0
    have hz0 := (HZ.out z0 (List.mem_cons_self ..)).1
    rw [hfull]
    obtain ⟨M, hM⟩ : ∃ M, l.foldl max z0 = M := ⟨_, rfl⟩
    rw [hM] at hb1 hb0 HR ⊢
    have hw1 : IntKind.i64.wrap (M + 1) = M + 1 := by rw [IntKind.wrap_i64]; omega
    clear hfull hM
    go_wp2_with fail
    go_ret
    rw [HR.out]
    exact ⟨by first | rfl | (congr 2), rfl⟩
/-- what Compare gives -/
def rcmpZ (f y : Fc) : Int := if upK y.h y.id f.h f.id = true then -1 else if upK f.h f.id y.h y.id = true then 1 else 0
theorem rcmpZ_pos (f y : Fc) : 0 < rcmpZ f y ↔ upK f.h f.id y.h y.id = true := by
 unfold rcmpZ
 by_cases h1 : upK y.h y.id f.h f.id = true
 ·rw [if_pos h1]
  constructor
  ·intro h; omega
  ·intro h
   have h2 : upK y.h y.id y.h y.id = true := upK_trans h1 h
   rw [upK_irr] at h2; cases h2
 ·rw [if_neg h1]
  by_cases h2 : upK f.h f.id y.h y.id = true
  ·rw [if_pos h2]; simp [h2]
  ·rw [if_neg h2]; simp [h2]
set_option maxRecDepth 100000 in
set_option maxHeartbeats 8000000 in
theorem rcmp11_any (f y : Fc) (w : World) : Calls Tryz.prog 94 #[valF f, valF y] w fun e w' => e = .returned (.int .i64 (rcmpZ f y)) ∧ Below w.heap.size w w' := by
 have e1 : valF f = .agg #[.string f.id, .int .i64 f.h, .slice f.pa f.pn f.pc] := rfl
 have e2 : valF y = .agg #[.string y.id, .int .i64 y.h, .slice y.pa y.pn y.pc] := rfl
 rw [e1, e2]
 clear e1 e2
 obtain ⟨fi, fh, fa, fn, fc⟩ := f
 obtain ⟨yi, yh, ya, yn, yc⟩ := y
 have HLY : Hid (Below w.heap.size w ((w.alloc (.cells #[.string fi, .int .i64 fh, .slice fa fn fc] 66)).alloc (.cells #[.string yi, .int .i64 yh, .slice ya yn yc] 66))) := ((Below.refl _ w).alloc (Nat.le_refl _) _).alloc (by rw [World.size_alloc]; omega) _
 have HXB : Hid (Blk ((w.alloc (.cells #[.string fi, .int .i64 fh, .slice fa fn fc] 66)).alloc (.cells #[.string yi, .int .i64 yh, .slice ya yn yc] 66)) w.heap.size 66 #[.string fi, .int .i64 fh, .slice fa fn fc]) := Blk.alloc (Blk.new w _ _) _
 have HYB : Hid (Blk ((w.alloc (.cells #[.string fi, .int .i64 fh, .slice fa fn fc] 66)).alloc (.cells #[.string yi, .int .i64 yh, .slice ya yn yc] 66)) (w.heap.size + 1) 66 #[.string yi, .int .i64 yh, .slice ya yn yc]) := by
  have h := Blk.new (w.alloc (.cells #[.string fi, .int .i64 fh, .slice fa fn fc] 66)) 66 #[.string yi, .int .i64 yh, .slice ya yn yc]
  rw [World.size_alloc] at h; exact h
 have HRZ : Hid (rcmpZ ⟨fi, fh, fa, fn, fc⟩ ⟨yi, yh, ya, yn, yc⟩ = if upK yh yi fh fi = true then -1 else if upK fh fi yh yi = true then 1 else 0) := rfl
 go_enter Tryz.func94, Tryz.ntmps94
 go_upto_region 1 with fail
 generalize ((w.alloc (.cells #[.string fi, .int .i64 fh, .slice fa fn fc] 66)).alloc (.cells #[.string yi, .int .i64 yh, .slice ya yn yc] 66)) = w2 at HLY HXB HYB ⊢
 generalize hg1 : w.heap.size + 1 = g1 at HYB ⊢
 generalize hg0 : w.heap.size = g0 at HXB HLY hg1 ⊢
 have HG0 := hid hg0
 clear hg1 hg0
 have k0 : w2.cell? ⟨g0, 0, none⟩ = some (.string fi) := Blk.cell HXB.out 0
 have k1 : w2.cell? ⟨g0, 1, none⟩ = some (.int .i64 fh) := Blk.cell HXB.out 1
 have k2 : w2.cell? ⟨g1, 0, none⟩ = some (.string yi) := Blk.cell HYB.out 0
 have k3 : w2.cell? ⟨g1, 1, none⟩ = some (.int .i64 yh) := Blk.cell HYB.out 1
 rcases (by omega : fh < yh ∨ fh = yh ∨ yh < fh) with h | h | h
 ·have HR : Hid (rcmpZ ⟨fi, fh, fa, fn, fc⟩ ⟨yi, yh, ya, yn, yc⟩ = -1) := by
   show _ = _
   rw [HRZ.out, if_pos (by unfold upK; simp [h])]
  have d1 : decide (fh < yh) = true := decide_eq_true h
  clear HRZ
  go_wp2_with fail
  go_ret
  rw [HR.out]
  exact ⟨rfl, by rw [HG0.out]; exact HLY.out⟩
 ·subst h
  have d1 : decide (fh < fh) = false := by simp
  have d2 : (fh == fh) = true := by simp
  cases hl : lt' fi yi
  ·have hb1 : Op.bytesLess fi.toList yi.toList = false := hl
   by_cases he : fi = yi
   ·have HR : Hid (rcmpZ ⟨fi, fh, fa, fn, fc⟩ ⟨yi, fh, ya, yn, yc⟩ = 0) := by
     show _ = _
     rw [HRZ.out, he, upK_irr]; rfl
    have e1 : (fi.toList == yi.toList) = true := by rw [he]; simp
    clear HRZ he
    go_wp2_with fail
    go_ret
    rw [HR.out]
    exact ⟨rfl, by rw [HG0.out]; exact HLY.out⟩
   ·have hly : lt' yi fi = true := by
     cases h2 : lt' yi fi
     ·exact absurd (lt_tri hl h2) he
     ·rfl
    have HR : Hid (rcmpZ ⟨fi, fh, fa, fn, fc⟩ ⟨yi, fh, ya, yn, yc⟩ = 1) := by
     show _ = _
     rw [HRZ.out, if_neg (by unfold upK; simp [hl]), if_pos (by unfold upK; simp [hly])]
    have e1 : (fi.toList == yi.toList) = false := by
     rw [ba_toList, ba_toList, beq_eq_false_iff_ne]
     exact fun e => he (ba_ext e)
    clear HRZ he hly
    go_wp2_with fail
    go_ret
    rw [HR.out]
    exact ⟨rfl, by rw [HG0.out]; exact HLY.out⟩
  ·have HR : Hid (rcmpZ ⟨fi, fh, fa, fn, fc⟩ ⟨yi, fh, ya, yn, yc⟩ = -1) := by
    show _ = _
    rw [HRZ.out, if_pos (by unfold upK; simp [hl])]
   have hb1 : Op.bytesLess fi.toList yi.toList = true := hl
   clear HRZ
   go_wp2_with fail
   go_ret
   rw [HR.out]
   exact ⟨rfl, by rw [HG0.out]; exact HLY.out⟩
 ·have HR : Hid (rcmpZ ⟨fi, fh, fa, fn, fc⟩ ⟨yi, yh, ya, yn, yc⟩ = 1) := by
   have h2 : ¬ fh < yh := by omega
   have h3 : ¬ fh = yh := by omega
   have h4 : ¬ yh = fh := by omega
   show _ = _
   rw [HRZ.out, if_neg (by unfold upK; simp [h2, h3]), if_pos (by unfold upK; simp [h])]
  have d1 : decide (fh < yh) = false := decide_eq_false (by omega)
  have d2 : (fh == yh) = false := by simp; omega
  have d3 : ¬ fh < yh := by omega
  have d4 : ¬ fh = yh := by omega
  clear HRZ
  go_wp2_with fail
  go_ret
  rw [HR.out]
  exact ⟨rfl, by rw [HG0.out]; exact HLY.out⟩
end Go.Proofs.YtmpjdoiogbbcoaaGreatDoor
/- The reference's layer 11: met, right. -/
namespace Go.Proofs.YtmpjdoiogbbcoaaGreatDoor
open Go.RowKit Book Pap Ojt Sn
set_option linter.unusedVariables false
set_option linter.unusedSimpArgs false

/-- where an id stands -/
def StandsAt (fs : List Fc) (n : Nat) (p : ByteArray) (j : Nat) : Prop := j < n ∧ (∀ k, k < j → (fs.getD k noFc).id ≠ p) ∧ (fs.getD j noFc).id = p
theorem standsAt_of {fs : List Fc} {l : List ByteArray} (hids : fs.map (·.id) = l) (hnd : l.Nodup) {q : ByteArray} (hq : q ∈ l) : ∃ j, StandsAt fs fs.length q j := by
 obtain ⟨j, hj, rfl⟩ := List.getElem_of_mem hq
 have hg : ∀ k, (hk : k < l.length) → (fs.getD k noFc).id = l[k] := fun k hk => by
  have hkf : k < fs.length := by have := congrArg List.length hids; rw [List.length_map] at this; omega
  have e1 : fs.getD k noFc = fs[k] := by rw [List.getD_eq_getElem?_getD, List.getElem?_eq_getElem hkf]; rfl
  rw [e1]
  have h1 : (fs.map (·.id))[k]'(by rw [List.length_map]; exact hkf) = l[k] := by simp only [hids]
  rw [List.getElem_map] at h1; exact h1
 refine ⟨j, by have := congrArg List.length hids; rw [List.length_map] at this; omega, fun k hk e => ?_, hg j hj⟩
 rw [hg k (by omega)] at e
 have := (List.pairwise_iff_getElem.1 hnd) k j (by omega) hj hk
 exact this e
theorem Tryz.infoBo : (Tryz.prog.info? 4).map (fun i => (i.zero, i.size, i.bytes)) = some (some (.bool false), 1, 1) := by kernel_rfl
def boos (R : List Bool) : Array Value := (R.map Value.bool).toArray
/-- how many are marked -/
def isT (v : Option Value) : Bool := match v with
 | some (.bool b) => b
 | _ => false
def cntW (w : World) (b n : Nat) : Nat := ((List.range n).filter (fun j => isT (w.cell? ⟨b, j, none⟩))).length
def cntR (R : List Bool) (n : Nat) : Nat := ((List.range n).filter (fun j => R.getD j false)).length
theorem cnt_eq {w : World} {b : Nat} {R : List Bool} (h : Blk w b 4 (boos R)) : cntW w b R.length = cntR R R.length := by
 unfold cntW cntR
 congr 1
 apply List.filter_congr
 intro j hj
 have hj := List.mem_range.1 hj
 rw [h.cell]
 unfold boos
 rw [List.getElem?_toArray, List.getElem?_map, List.getD_eq_getElem?_getD, List.getElem?_eq_getElem hj]; rfl
theorem cnt_le (R : List Bool) (n : Nat) : cntR R n ≤ n := by
 unfold cntR
 exact Nat.le_trans (List.length_filter_le _ _) (by rw [List.length_range]; exact Nat.le_refl _)
theorem filt_lt {p q : Nat → Bool} {j : Nat} (hpq : ∀ i, p i = true → q i = true) (h1 : p j = false) (h2 : q j = true) : ∀ l : List Nat, j ∈ l → (l.filter p).length < (l.filter q).length
 | [], h => by cases h
 | a :: l, h => by
  have hle : (l.filter p).length ≤ (l.filter q).length := by
   clear h
   induction l with
   | nil => exact Nat.le_refl _
   | cons b l ih =>
    simp only [List.filter_cons]
    by_cases hb : p b = true
    ·rw [if_pos hb, if_pos (hpq b hb)]; simp; exact ih
    ·rw [if_neg hb]
     split
     ·simp; omega
     ·exact ih
  simp only [List.filter_cons]
  rcases List.mem_cons.1 h with rfl | h
  ·rw [if_neg (by rw [h1]; simp), if_pos h2, List.length_cons]; omega
  ·have ih := filt_lt hpq h1 h2 l h
   by_cases ha : p a = true
   ·rw [if_pos ha, if_pos (hpq a ha)]; simp; exact ih
   ·rw [if_neg ha]
    split
    ·rw [List.length_cons]; omega
    ·exact ih
theorem cnt_set {R : List Bool} {j n : Nat} (hj : j < n) (hjl : j < R.length) (h : R.getD j false = false) : cntR R n < cntR (R.set j true) n := by
 unfold cntR
 refine filt_lt (j := j) (fun i hi => ?_) h ?_ _ (List.mem_range.2 hj)
 ·simp only [List.getD_eq_getElem?_getD, List.getElem?_set] at hi ⊢
  by_cases e : j = i
  ·subst e; simp [hjl]
  ·rw [if_neg e]; exact hi
 ·simp only [List.getD_eq_getElem?_getD, List.getElem?_set, if_true, hjl]; rfl
/-- a marked one's parents are marked -/
def ShutAt (G : Sw.Src) (fs : List Fc) (R : List Bool) (i : Nat) : Prop := R.getD i false = true → ∀ p ∈ (obF G (fs.getD i noFc).id).pars, ∃ j, StandsAt fs fs.length p j ∧ R.getD j false = true
theorem standsAt_one {fs : List Fc} {n : Nat} {p : ByteArray} {i j : Nat} (hi : StandsAt fs n p i) (hj : StandsAt fs n p j) : i = j := by
 rcases Nat.lt_trichotomy i j with h | h | h
 ·exact absurd hi.2.2 (hj.2.1 i h)
 ·exact h
 ·exact absurd hj.2.2 (hi.2.1 j h)
theorem all_marked {G : Sw.Src} {id : ByteArray} {fs : List Fc} {l : List ByteArray} {R : List Bool} (hids : fs.map (·.id) = l) (hnd : l.Nodup) (hl : ∀ q, q ∈ l ↔ Rch G id q) {j0 : Nat} (h0 : StandsAt fs fs.length id j0) (hm : R.getD j0 false = true)
  (hs : ∀ i, i < fs.length → ShutAt G fs R i) : ∀ j, j < fs.length → R.getD j false = true := by
 have key : ∀ q, Rch G id q → ∃ j, StandsAt fs fs.length q j ∧ R.getD j false = true := by
  intro q hq
  induction hq with
  | root => exact ⟨j0, h0, hm⟩
  | step _ hp ih =>
   obtain ⟨j, hj, hR⟩ := ih
   have := hs j hj.1 hR
   rw [hj.2.2] at this
   exact this _ hp
 intro j hj
 have e1 : fs.getD j noFc = fs[j] := by rw [List.getD_eq_getElem?_getD, List.getElem?_eq_getElem hj]; rfl
 have hq : (fs[j]).id ∈ l := by rw [← hids]; exact List.mem_map.2 ⟨fs[j], List.getElem_mem hj, rfl⟩
 obtain ⟨k, hk, hR⟩ := key _ ((hl _).1 hq)
 have hjj : StandsAt fs fs.length (fs[j]).id j := by
  obtain ⟨j2, hj2⟩ := standsAt_of hids hnd hq
  have hb : j2 = j := by
   have h3 := hj2.2.2
   have hj2l := hj2.1
   have e2 : fs.getD j2 noFc = fs[j2] := by rw [List.getD_eq_getElem?_getD, List.getElem?_eq_getElem hj2l]; rfl
   rw [e2] at h3
   have hnd2 : (fs.map (·.id)).Nodup := by rw [hids]; exact hnd
   rcases Nat.lt_trichotomy j2 j with h | h | h
   ·have := (List.pairwise_iff_getElem.1 hnd2) j2 j (by rw [List.length_map]; exact hj2l) (by rw [List.length_map]; exact hj) h
    rw [List.getElem_map, List.getElem_map] at this
    exact absurd h3 this
   ·exact h
   ·have := (List.pairwise_iff_getElem.1 hnd2) j j2 (by rw [List.length_map]; exact hj) (by rw [List.length_map]; exact hj2l) h
    rw [List.getElem_map, List.getElem_map] at this
    exact absurd h3.symm this
  rw [hb] at hj2; exact hj2
 rw [standsAt_one hjj hk]; exact hR
theorem blk_setB {w : World} {b : Nat} {R : List Bool} (h : Blk w b 4 (boos R)) (j : Nat) : Blk (w.setCell ⟨b, j, none⟩ (.bool true)) b 4 (boos (R.set j true)) := by
 have := h.set j (.bool true)
 have e : boos (R.set j true) = (boos R).setIfInBounds j (.bool true) := by
  unfold boos
  rw [List.map_set]; simp
 rw [e]; exact this
set_option maxRecDepth 100000 in
set_option maxHeartbeats 16000000 in
theorem rmet_any (G : Sw.Src) (id : ByteArray) (l : List ByteArray) (hl : ∀ q, q ∈ l ↔ Rch G id q) (hnd : l.Nodup) (a : Option Addr) (n c : Nat) (hn : n ≤ 500000) (fs : List Fc) (hids : fs.map (·.id) = l) (hp8 : ∀ q, (obF G q).pars.length ≤ 8) (j0 : Nat) (h0 : StandsAt fs n id j0)
  (w : World) (hf : FcsAt w a n fs) (hp : ∀ j, j < n → StrsAt w (fs.getD j noFc).pa (fs.getD j noFc).pn (obF G (fs.getD j noFc).id).pars) :
  Calls Tryz.prog 92 #[.slice a n c, .int .i64 j0] w fun e w' => ∃ sb, e = .returned (.tuple #[.slice (some ⟨sb, 0, none⟩) n n, .bool true]) ∧ Blk w' sb 4 (boos (List.replicate n true)) ∧ Below w.heap.size w w' := by
 obtain ⟨i0, hi0, hz0, hz1, hz2⟩ := info_parts Tryz.infoBo
 have hfn : fs.length = n := hf.1
 have hmk : (Instr.makeSlice 175 (.int .i64 (n : Int)) (.int .i64 (n : Int))).run Tryz.prog w = .ok (.slice (some ⟨w.heap.size, 0, none⟩) n n) (w.alloc (.cells (boos (List.replicate n false)) 4)) := by
  have h := run_makeSlice (P := Tryz.prog) w 175 4 i0 _ Tryz.underlying175 hi0 hz0 .i64 .i64 (n : Int) (n : Int) (by omega) (by omega) (by rw [hz1]; simp; omega) (by rw [hz2]; omega) (by omega)
  have e : madeCells (Value.cells (.bool false)) ((n : Int).toNat * i0.size) = boos (List.replicate n false) := by
   rw [hz1, Int.toNat_natCast, Nat.mul_one]
   apply Array.ext'
   show (madeCells #[.bool false] n).toList = _
   rw [toList_madeCells_one]
   unfold boos
   simp
  rw [h, e, Int.toNat_natCast]
 have HB0 : Hid (Blk (w.alloc (.cells (boos (List.replicate n false)) 4)) w.heap.size 4 (boos (List.replicate n false))) := Blk.new w _ _
 have HW0 : Hid (Below w.heap.size w (w.alloc (.cells (boos (List.replicate n false)) 4))) := (Below.refl _ w).alloc (Nat.le_refl _) _
 have HL := hid hl; have HND := hid hnd; have HIDS := hid hids; have HP8 := hid hp8; have H0 := hid h0; have HF := hid hf; have HP := hid hp
 have hj0 := h0.1
 clear hl hnd hids hp8 h0 hf hp hi0 hz0 hz1 hz2
 have ci : (j0 : Int) < n := by omega
 have ci0 : (0 : Int) ≤ (j0 : Int) := by omega
 go_enter Tryz.func92, Tryz.ntmps92
 go_upto_region 2 with fail
 generalize (w.alloc (.cells (boos (List.replicate n false)) 4)) = w1 at HB0 HW0 ⊢
 clear hmk
 have k0 : w1.cell? ⟨w.heap.size, j0, none⟩ = some (.bool false) := by
  rw [HB0.out.cell]; unfold boos; rw [List.getElem?_toArray, List.getElem?_map, List.getElem?_replicate, if_pos hj0]; rfl
 have f0 := Blk.frozen HB0.out j0
 go_upto_region 3 with fail
 have HB1 := hid (blk_setB HB0.out j0)
 have HW1 : Hid (Below w.heap.size w (w1.setCell ⟨w.heap.size, j0, none⟩ (.bool true))) := HW0.out.setCell (p := ⟨w.heap.size, j0, none⟩) (Nat.le_refl _) _
 generalize (w1.setCell ⟨w.heap.size, j0, none⟩ (.bool true)) = w2 at HB1 HW1 ⊢
 clear k0 f0 HB0 HW0
 generalize hsb : w.heap.size = sb at HB1 HW1 ⊢
 have HSB := hid hsb
 clear hsb ci ci0
 have HR0 : Hid (((List.replicate n false).set j0 true).length = n ∧ ((List.replicate n false).set j0 true).getD j0 false = true) := by
  refine ⟨by simp, ?_⟩
  rw [List.getD_eq_getElem?_getD, List.getElem?_set]; simp [hj0]
 obtain ⟨R0, hR0⟩ : ∃ R0, (List.replicate n false).set j0 true = R0 := ⟨_, rfl⟩
 rw [hR0] at HB1 HR0
 clear hR0
 go_wp2_with fail
 go_loopw [7, 8] (fun wv gv wr => ∃ (R : List Bool) (gr : Bool), wv = .bool true ∧ gv = .bool gr ∧ Hid (Blk wr sb 4 (boos R)) ∧ Hid (Below sb w wr) ∧ Hid (R.length = n ∧ R.getD j0 false = true) ∧ Hid (gr = false → ∀ i, i < n → ShutAt G fs R i)) (fun _ gv wr => 2 * (n - cntW wr sb n) + (if isT (some gv) = true then 1 else 0))
 case atStart => exact ⟨R0, true, rfl, rfl, HB1, HW1, HR0, fun h => by cases h⟩
 case round =>
  obtain ⟨R, gr, rfl, rfl, HB, HW, HR, HSH⟩ := hrel
  cases gr with
  | false =>
   have hall := all_marked HIDS.out HND.out HL.out (by rw [hfn]; exact H0.out) HR.out.2 (fun i hi => HSH.out rfl i (by omega))
   have HE : Hid (R = List.replicate n true) := by
    apply List.ext_getElem
    ·rw [HR.out.1, List.length_replicate]
    ·intro k h1 h2
     have h3 := hall k (by rw [hfn, ← HR.out.1]; exact h1)
     rw [List.getD_eq_getElem?_getD, List.getElem?_eq_getElem h1] at h3
     rw [List.getElem_replicate]; exact h3
   rw [HE.out] at HB
   clear hall
   go_wp2_with fail
   go_ret2
   exact ⟨sb, rfl, HB.out, by rw [HSB.out]; exact HW.out⟩
  | true =>
   have HC0 : Hid (cntW wr sb n = cntR R n) := by have := cnt_eq HB.out; rw [HR.out.1] at this; exact this
   go_wp2_with fail
   go_loopw [7, 9, 8] (fun wv iv gv wr => ∃ (i : Nat) (R2 : List Bool) (gr : Bool), wv = .bool true ∧ i ≤ n ∧ iv = .int .i64 i ∧ gv = .bool gr ∧ Hid (Blk wr sb 4 (boos R2)) ∧ Hid (Below sb w wr) ∧ Hid (R2.length = n ∧ R2.getD j0 false = true) ∧ Hid (gr = false → cntR R2 n = cntR R n ∧ ∀ k, k < i → ShutAt G fs R2 k) ∧ Hid (gr = true → cntR R n < cntR R2 n)) (fun _ iv _ _ => n - (intOf iv).toNat)
   case atStart => exact ⟨0, R, false, rfl, Nat.zero_le _, rfl, rfl, HB, HW, HR, fun _ => ⟨rfl, fun k hk => absurd hk (Nat.not_lt_zero _)⟩, fun h => by cases h⟩
   case round =>
    obtain ⟨i, R2, gr, rfl, hi, rfl, rfl, HB2, HW2, HR2, HF2, HT2⟩ := hrel
    by_cases hlt : i < n
    ·have ci : (i : Int) < n := by omega
     have ci0 : (0 : Int) ≤ (i : Int) := by omega
     obtain ⟨f, hfe⟩ : ∃ f, fs.getD i noFc = f := ⟨_, rfl⟩
     have HPI := hid (HP.out i hlt)
     rw [hfe] at HPI
     have HFE := hid hfe
     have hpl : (obF G f.id).pars.length = f.pn := HPI.out.1
     have hp8 : f.pn ≤ 8 := by rw [← hpl]; exact HP8.out _
     have HPL := hid hpl
     clear hfe hpl
     go_wp2_with fail
     go_loopw [7, 10, 8] (fun wv kv gv wr => ∃ (k : Nat) (R3 : List Bool) (gr : Bool), wv = .bool true ∧ k ≤ f.pn ∧ kv = .int .i64 k ∧ gv = .bool gr ∧ Hid (Blk wr sb 4 (boos R3)) ∧ Hid (Below sb w wr) ∧ Hid (R3.length = n ∧ R3.getD j0 false = true) ∧ Hid (gr = false → cntR R3 n = cntR R n ∧ (∀ k, k < i → ShutAt G fs R3 k) ∧ ∀ p ∈ (obF G f.id).pars.take k, ∃ j, StandsAt fs fs.length p j ∧ R3.getD j false = true) ∧ Hid (gr = true → cntR R n < cntR R3 n)) (fun _ kv _ _ => f.pn - (intOf kv).toNat)
     case atStart => exact ⟨0, R2, gr, rfl, Nat.zero_le _, rfl, rfl, HB2, HW2, HR2, fun h => ⟨(HF2.out h).1, (HF2.out h).2, fun p hp => by simp at hp⟩, HT2⟩
     case round =>
      obtain ⟨k, R3, gr, rfl, hk, rfl, rfl, HB3, HW3, HR3, HF3, HT3⟩ := hrel
      have hFW := HF.out.later (by rw [HSB.out]; exact HW3.out)
      obtain ⟨-, -, h3⟩ := hFW
      obtain ⟨eb, eoff, rfl, hcell⟩ := h3.resolve_left (by omega)
      obtain ⟨-, -, q2⟩ := hcell i hlt
      rw [HFE.out] at q2
      have hiR : i < R3.length := by rw [HR3.out.1]; exact hlt
      have s0 : wr.cell? ⟨sb, i, none⟩ = some (.bool (R3.getD i false)) := by
       rw [HB3.out.cell]; unfold boos; rw [List.getElem?_toArray, List.getElem?_map, List.getD_eq_getElem?_getD, List.getElem?_eq_getElem hiR]; rfl
      have HFW : Hid (FcsAt wr (some ⟨eb, eoff, none⟩) n fs) := HF.out.later (by rw [HSB.out]; exact HW3.out)
      clear hcell h3
      cases hm : R3.getD i false with
      | false =>
       rw [hm] at s0
       have HSHI : Hid (ShutAt G fs R3 i) := fun h => by rw [hm] at h; cases h
       clear hm
       go_wp2_with fail
       go_roundw
       case rel =>
        first
        | exact ⟨i + 1, R3, gr, rfl, by omega, by go_num, rfl, HB3, HW3, HR3, fun h => ⟨(HF3.out h).1, fun k hk => by
          rcases Nat.lt_succ_iff_lt_or_eq.1 hk with h1 | rfl
          ·exact (HF3.out h).2.1 k h1
          ·exact HSHI.out⟩, HT3⟩
        | ((repeat apply Exists.intro); exact ⟨⟨i + 1, R3, gr, rfl, by omega, by go_num, rfl, HB3, HW3, HR3, fun h => ⟨(HF3.out h).1, fun k hk => by
          rcases Nat.lt_succ_iff_lt_or_eq.1 hk with h1 | rfl
          ·exact (HF3.out h).2.1 k h1
          ·exact HSHI.out⟩, HT3⟩, rfl⟩)
       case measure => simp [intOf]; omega
      | true =>
       rw [hm] at s0
       by_cases hkl : k < f.pn
       ·have ck : (k : Int) < f.pn := by omega
        have ck0 : (0 : Int) ≤ (k : Int) := by omega
        have hkp : k < (obF G f.id).pars.length := by rw [HPL.out]; exact hkl
        obtain ⟨p, hpe⟩ : ∃ p, (obF G f.id).pars[k] = p := ⟨_, rfl⟩
        have hgd : (obF G f.id).pars.getD k ByteArray.empty = p := by rw [List.getD_eq_getElem?_getD, List.getElem?_eq_getElem hkp]; exact hpe
        obtain ⟨-, -, h4⟩ := HPI.out.later (by rw [HSB.out]; exact HW3.out)
        obtain ⟨pb, poff, hpa, hpc⟩ := h4.resolve_left (by omega)
        have p0 := hpc k hkl
        rw [hgd] at p0
        rw [hpa] at q2
        have hpm : p ∈ (obF G f.id).pars := by rw [← hpe]; exact List.getElem_mem hkp
        have hfl : f.id ∈ l := by
         rw [← HIDS.out, ← HFE.out, List.getD_eq_getElem?_getD, List.getElem?_eq_getElem (by omega)]
         exact List.mem_map.2 ⟨_, List.getElem_mem (by omega), rfl⟩
        have hpl2 : p ∈ l := (HL.out p).2 (.step ((HL.out f.id).1 hfl) hpm)
        obtain ⟨j, hj⟩ := standsAt_of HIDS.out HND.out hpl2
        have HJ := hid hj
        have hjn : j < n := by have := hj.1; omega
        have HTK : Hid ((obF G f.id).pars.take (k + 1) = (obF G f.id).pars.take k ++ [p]) := by
         show _ = _
         rw [List.take_succ_eq_append_getElem hkp, hpe]
        have HPLC := hid (rplace_any (some ⟨eb, eoff, none⟩) n c fs p j hjn hj.2.1 hj.2.2 wr HFW.out)
        have hjR : j < R3.length := by rw [HR3.out.1]; exact hjn
        have s1 : wr.cell? ⟨sb, j, none⟩ = some (.bool (R3.getD j false)) := by
         rw [HB3.out.cell]; unfold boos; rw [List.getElem?_toArray, List.getElem?_map, List.getD_eq_getElem?_getD, List.getElem?_eq_getElem hjR]; rfl
        have cj : (j : Int) < n := by omega
        have cj0 : (0 : Int) ≤ (j : Int) := by omega
        have cj1 : ¬ (j : Int) < 0 := by omega
        clear hgd hpe hpa hpc h4 hpm hfl hpl2 hj
        cases hmj : R3.getD j false with
        | true =>
         rw [hmj] at s1
         have HPK : Hid (gr = false → ∀ q ∈ (obF G f.id).pars.take (k + 1), ∃ j, StandsAt fs fs.length q j ∧ R3.getD j false = true) := fun h q hq => by
          rw [HTK.out] at hq
          rcases List.mem_append.1 hq with hq | hq
          ·exact (HF3.out h).2.2 q hq
          ·rw [List.mem_singleton.1 hq]; exact ⟨j, HJ.out, hmj⟩
         clear hmj hm
         go_wp2_with (go_at_call 91; refine HPLC.out.mono ?_; rintro e w' ⟨rfl, rfl⟩)
         go_roundw
         case rel => first | exact ⟨k + 1, R3, gr, rfl, by omega, by go_num, rfl, HB3, HW3, HR3, fun h => ⟨(HF3.out h).1, (HF3.out h).2.1, HPK.out h⟩, HT3⟩ | ((repeat apply Exists.intro); exact ⟨⟨k + 1, R3, gr, rfl, by omega, by go_num, rfl, HB3, HW3, HR3, fun h => ⟨(HF3.out h).1, (HF3.out h).2.1, HPK.out h⟩, HT3⟩, rfl⟩)
         case measure => simp [intOf]; omega
        | false =>
         rw [hmj] at s1
         have fz := Blk.frozen HB3.out j
         have HB4 := hid (blk_setB HB3.out j)
         have HW4 : Hid (Below sb w (wr.setCell ⟨sb, j, none⟩ (.bool true))) := HW3.out.setCell (p := ⟨sb, j, none⟩) (Nat.le_refl _) _
         have HR4 : Hid ((R3.set j true).length = n ∧ (R3.set j true).getD j0 false = true) := by
          refine ⟨by rw [List.length_set]; exact HR3.out.1, ?_⟩
          have h := HR3.out.2
          simp only [List.getD_eq_getElem?_getD, List.getElem?_set] at h ⊢
          by_cases e : j = j0
          ·subst e; simp [hjR]
          ·rw [if_neg e]; exact h
         have hlt2 := cnt_set (R := R3) (n := n) hjn hjR hmj
         have HT4 : Hid (cntR R n < cntR (R3.set j true) n) := by
          show _ < _
          cases gr with
          | false => have := (HF3.out rfl).1; omega
          | true => have := HT3.out rfl; omega
         clear hmj hm hlt2
         go_wp2_with (go_at_call 91; refine HPLC.out.mono ?_; rintro e w' ⟨rfl, rfl⟩)
         go_roundw
         case rel => first | exact ⟨k + 1, R3.set j true, true, rfl, by omega, by go_num, rfl, HB4, HW4, HR4, fun h => by (cases h), fun _ => HT4.out⟩ | ((repeat apply Exists.intro); exact ⟨⟨k + 1, R3.set j true, true, rfl, by omega, by go_num, rfl, HB4, HW4, HR4, fun h => by (cases h), fun _ => HT4.out⟩, rfl⟩)
         case measure => simp [intOf]; omega
       ·obtain rfl : k = f.pn := by omega
        have ck : ¬ (f.pn : Int) < f.pn := by omega
        have HSHI : Hid (gr = false → ShutAt G fs R3 i) := fun h _ p hp => by
         rw [HFE.out] at hp
         exact (HF3.out h).2.2 p (by rw [List.take_of_length_le (by rw [HPL.out]; exact Nat.le_refl _)]; exact hp)
        clear hm
        go_wp2_with fail
        go_roundw
        case rel =>
         first
         | exact ⟨i + 1, R3, gr, rfl, by omega, by go_num, rfl, HB3, HW3, HR3, fun h => ⟨(HF3.out h).1, fun k hk => by
           rcases Nat.lt_succ_iff_lt_or_eq.1 hk with h1 | rfl
           ·exact (HF3.out h).2.1 k h1
           ·exact HSHI.out h⟩, HT3⟩
         | ((repeat apply Exists.intro); exact ⟨⟨i + 1, R3, gr, rfl, by omega, by go_num, rfl, HB3, HW3, HR3, fun h => ⟨(HF3.out h).1, fun k hk => by
           rcases Nat.lt_succ_iff_lt_or_eq.1 hk with h1 | rfl
           ·exact (HF3.out h).2.1 k h1
           ·exact HSHI.out h⟩, HT3⟩, rfl⟩)
        case measure => simp [intOf]; omega
    ·obtain rfl : i = n := by omega
     have ci : ¬ (i : Int) < i := by omega
     have HC2 : Hid (cntW wr sb i = cntR R2 i) := by have := cnt_eq HB2.out; rw [HR2.out.1] at this; exact this
     have hcl := cnt_le R2 i
     go_wp2_with fail
     go_roundw
     case rel =>
      first
      | exact ⟨R2, gr, rfl, rfl, HB2, HW2, HR2, fun h => (HF2.out h).2⟩
      | ((repeat apply Exists.intro); exact ⟨⟨R2, gr, rfl, rfl, HB2, HW2, HR2, fun h => (HF2.out h).2⟩, rfl⟩)
     case measure =>
      rw [HC2.out, HC0.out]
      cases gr with
      | false =>
       have := (HF2.out rfl).1
       simp [isT]; omega
      | true =>
       have := HT2.out rfl
       simp [isT]; omega
set_option maxRecDepth 100000 in
set_option maxHeartbeats 8000000 in
theorem rright_any (a : Option Addr) (n c : Nat) (fs : List Fc) (f : Fc) (ps : List ByteArray) (hf : ByteArray → Int) (w : World) (h : FcsAt w a n fs) (hp : StrsAt w f.pa f.pn ps) (hpn : f.pn ≤ 100000) (hpos : ∀ p ∈ ps, ∃ j, StandsAt fs n p j ∧ (fs.getD j noFc).h = hf p) (hh : ∀ p ∈ ps, 0 ≤ hf p ∧ hf p ≤ 1073741824) :
  Calls Tryz.prog 93 #[.slice a n c, valF f] w fun e w' => e = .returned (.bool (f.h == heightL (ps.map hf))) ∧ Below w.heap.size w w' := by
 obtain ⟨i0, hi0, hz0, hz1, hz2⟩ := info_parts Tryz.infoInt15
 obtain ⟨fi, fh, fa, fn, fc⟩ := f
 simp only at hp hpn ⊢
 have e1 : valF ⟨fi, fh, fa, fn, fc⟩ = .agg #[.string fi, .int .i64 fh, .slice fa fn fc] := rfl
 rw [e1]
 clear e1
 have HX : Hid (Blk (w.alloc (.cells #[.string fi, .int .i64 fh, .slice fa fn fc] 66)) w.heap.size 66 #[.string fi, .int .i64 fh, .slice fa fn fc]) := Blk.new w _ _
 have HB : Hid (Below w.heap.size w (w.alloc (.cells #[.string fi, .int .i64 fh, .slice fa fn fc] 66))) := (Below.refl _ _).alloc (Nat.le_refl _) _
 have HF : Hid (FcsAt (w.alloc (.cells #[.string fi, .int .i64 fh, .slice fa fn fc] 66)) a n fs) := h.later HB.out
 have HP : Hid (StrsAt (w.alloc (.cells #[.string fi, .int .i64 fh, .slice fa fn fc] 66)) fa fn ps) := hp.later HB.out
 have HPOS := hid hpos
 have hlen := hp.1
 have hn6 := h.2.1
 have hxl : (ps.map hf).length = fn := by rw [List.length_map]; exact hlen
 have HXG : Hid (∀ i, i < fn → (ps.map hf).getD i 0 = hf (ps.getD i ByteArray.empty)) := fun i hi => by
  rw [List.getD_eq_getElem?_getD, List.getElem?_map, List.getD_eq_getElem?_getD, List.getElem?_eq_getElem (by omega)]; rfl
 have HH0 : Hid (∀ z ∈ ps.map hf, 0 ≤ z ∧ z ≤ 1073741824) := fun z hz => by
  obtain ⟨p, hp1, rfl⟩ := List.mem_map.1 hz
  exact hh p hp1
 obtain ⟨H, hH⟩ : ∃ H, ps.map hf = H := ⟨_, rfl⟩
 rw [hH] at hxl HXG HH0 ⊢
 have HXL := hid hxl
 have HLEN := hid hlen
 clear h hp hpos hh hH hxl hlen
 go_enter Tryz.func93, Tryz.ntmps93
 go_upto_region 1 with fail
 generalize (w.alloc (.cells #[.string fi, .int .i64 fh, .slice fa fn fc] 66)) = w1 at HX HB HF HP ⊢
 generalize hg : w.heap.size = g at HX HB ⊢
 have HO1 : Hid ((w1.alloc (.cells #[] 3)).ownsRow w1.heap.size 3 1 (.slice (some ⟨w1.heap.size, 0, none⟩) 0 0) 0 (nvals [])) :=
  ⟨rfl, .inr ⟨w1.heap.size, 0, #[], rfl, Nat.le_refl _, by show (w1.heap.push _)[w1.heap.size]? = _; simp, Nat.le_refl _, by unfold maxLen; omega, rfl, rfl⟩⟩
 have HB1 : Hid (Below w1.heap.size w1 (w1.alloc (.cells #[] 3))) := (Below.refl _ _).alloc (Nat.le_refl _) _
 go_upto_region 2 with fail
 generalize (w1.alloc (.cells #[] 3)) = w2 at HO1 HB1 ⊢
 generalize hg2 : w1.heap.size = g2 at HO1 HB1 ⊢
 have HG2 := hid hg2
 clear hg2
 go_wp2_with fail
 go_loopw [6, 5] (fun iv hv wr => ∃ i va vc, i ≤ fn ∧ iv = .int .i64 i ∧ hv = .slice va i vc ∧ Hid (wr.ownsRow g2 3 1 (.slice va i vc) i (nvals (H.take i))) ∧ Hid (Below g2 w1 wr)) (fun iv _ _ => fn - (intOf iv).toNat)
 case atStart => exact ⟨0, _, _, Nat.zero_le _, rfl, rfl, HO1, HB1⟩
 case round =>
  obtain ⟨i, va, vc, hi, rfl, rfl, HO, HBR⟩ := hrel
  have HBW : Hid (Below w1.heap.size w1 wr) := by rw [HG2.out]; exact HBR.out
  have HXW : Hid (Blk wr g 66 #[.string fi, .int .i64 fh, .slice fa fn fc]) := (HBW.out.block g (Blk.lt HX.out)).trans HX.out
  have k2 : wr.cell? ⟨g, 2, none⟩ = some (.slice fa fn fc) := Blk.cell HXW.out 2
  by_cases hlt : i < fn
  ·have ci : (i : Int) < fn := by omega
   have ci0 : (0 : Int) ≤ (i : Int) := by omega
   obtain ⟨-, -, h3⟩ := HP.out.later HBW.out
   obtain ⟨pb, poff, rfl, hcell⟩ := h3.resolve_left (by omega)
   have q0 := hcell i hlt
   have hil : i < ps.length := by rw [HLEN.out]; exact hlt
   have hpm : ps.getD i ByteArray.empty ∈ ps := by rw [List.getD_eq_getElem?_getD, List.getElem?_eq_getElem hil]; exact List.getElem_mem hil
   have HT : Hid (nvals (H.take (i + 1)) = nvals (H.take i) ++ [.int .i64 (hf (ps.getD i ByteArray.empty))]) := by
    show _ = _
    have hiH : i < H.length := by rw [HXL.out]; exact hlt
    have e := HXG.out i hlt
    rw [List.getD_eq_getElem?_getD, List.getElem?_eq_getElem hiH] at e
    rw [List.take_succ_eq_append_getElem hiH, nvals_append, ← e]; rfl
   obtain ⟨p, hpe⟩ : ∃ p, ps.getD i ByteArray.empty = p := ⟨_, rfl⟩
   rw [hpe] at q0 HT hpm
   obtain ⟨j, hj, hjh⟩ := HPOS.out p hpm
   have hFW := HF.out.later HBW.out
   have HPLC := hid (rplace_any a n c fs p j hj.1 hj.2.1 hj.2.2 wr hFW)
   obtain ⟨-, -, h4⟩ := hFW
   have hjn := hj.1
   obtain ⟨eb, eoff, rfl, hcf⟩ := h4.resolve_left (by omega)
   obtain ⟨-, r1, -⟩ := hcf j hjn
   rw [hjh] at r1
   have cj : (j : Int) < n := by omega
   have cj0 : (0 : Int) ≤ (j : Int) := by omega
   have hsr := HBR.out.size
   rw [HG2.out] at hsr
   clear hcell h3 hpe hpm hj hjh hcf h4 hil
   obtain ⟨z, hz⟩ : ∃ z, hf p = z := ⟨_, rfl⟩
   rw [hz] at r1 HT
   clear hz
   go_wp2_with (first
    | (go_at_call 91; refine HPLC.out.mono ?_; rintro e w' ⟨rfl, rfl⟩)
    | (at_builtin; refine wpList_append_own _ rfl (.tmp 15) (.tmp 27) 52 rfl g2 3 i0 (.int .i64 0) 1 8 Tryz.underlying52 hi0 hz0 hz1 hz2 rfl (by decide) (.slice va i vc) _ _ rfl (HO.out.alloc _) ⟨_, 0, none⟩ 1 1 [.int .i64 z] rfl rfl (cellNew1 _ _ _) (one_bytes rfl) (by unfold maxLen; omega) (by omega) (by rw [World.size_alloc]; omega) ?_; intro v' w9 hown' hgrow _; have HOWN := hid hown'; have HGR := hid hgrow; clear hown' hgrow))
   obtain ⟨va', vc', rfl, hvc'⟩ := own_slice' HOWN.out
   have HO9 : Hid (w9.ownsRow g2 3 1 (.slice va' (i + 1) vc') (i + 1) (nvals (H.take (i + 1)))) := by
    rw [HT.out]; exact HOWN.out
   have HB9 : Hid (Below g2 w1 w9) := below_grown1 HBR.out HO.out _ hsr HGR.out
   go_roundw
   case rel => first | exact ⟨i + 1, va', vc', by omega, by go_num, rfl, HO9, HB9⟩ | ((repeat apply Exists.intro); exact ⟨⟨i + 1, va', vc', by omega, by go_num, rfl, HO9, HB9⟩, rfl⟩)
   case measure => simp [intOf]; omega
  ·obtain rfl : i = fn := by omega
   have ci : ¬ (i : Int) < i := by omega
   have hfull : H.take i = H := List.take_of_length_le (by rw [HXL.out]; exact Nat.le_refl _)
   have HNS : Hid (NumsAt wr va i H) := by
    have h := HO.out
    rw [hfull] at h
    exact own_nums h
   have HHT := hid (fun q => rheight_any va i vc H (wr.drewN q) HNS.out (by omega) (fun z hz => HH0.out z hz))
   have k1 : wr.cell? ⟨g, 1, none⟩ = some (.int .i64 fh) := Blk.cell HXW.out 1
   have HB9 : Hid (Below g w wr) := HB.out.trans (HBW.out.mono (by rw [← hg]; exact HB.out.size))
   clear hfull
   go_wp2_with fail
   go_quiet (first | (go_at_call 150; exact Calls.quiet_of_same ((HHT.out _).mono fun _ _ h => ⟨h.1, h.2.symm⟩)))
   go_wp2_with fail
   go_ret
   exact ⟨rfl, by rw [hg]; exact below_drewN HB9.out _⟩
end Go.Proofs.YtmpjdoiogbbcoaaGreatDoor
/- The reference's layer 11: Log; layer 15: Log. -/
namespace Go.Proofs.YtmpjdoiogbbcoaaGreatDoor
open Go.RowKit Book Pap Ojt Sn
set_option linter.unusedVariables false
set_option linter.unusedSimpArgs false

def befU (f y : Fc) : Bool := upK f.h f.id y.h y.id
def sortU (fs : List Fc) : List Fc := fs.foldl (insG befU) []
theorem sortU_snoc (l : List Fc) (f : Fc) : sortU (l ++ [f]) = insG befU (sortU l) f := by unfold sortU; rw [List.foldl_append]; rfl
theorem fold_ins_mem (l : List Fc) (O : List Fc) (x : Fc) : x ∈ l.foldl (insG befU) O ↔ x ∈ O ∨ x ∈ l := by
 induction l generalizing O with
 | nil => simp
 | cons f r ih =>
  rw [List.foldl_cons, ih, insG_mem, List.mem_cons]
  constructor
  ·rintro ((h | h) | h)
   ·exact .inr (.inl h)
   ·exact .inl h
   ·exact .inr (.inr h)
  ·rintro (h | h | h)
   ·exact .inl (.inr h)
   ·exact .inl (.inl h)
   ·exact .inr h
theorem sortU_mem (l : List Fc) (x : Fc) : x ∈ sortU l ↔ x ∈ l := by unfold sortU; rw [fold_ins_mem]; simp
theorem fold_ins_len (l : List Fc) (O : List Fc) : (l.foldl (insG befU) O).length = O.length + l.length := by
 induction l generalizing O with
 | nil => simp
 | cons f r ih => rw [List.foldl_cons, ih, insG_len, List.length_cons]; omega
theorem sortU_len (l : List Fc) : (sortU l).length = l.length := by unfold sortU; rw [fold_ins_len]; simp
theorem fold_ins_pw (l : List Fc) (O : List Fc) (hO : O.Pairwise (fun a b => befU a b = true)) (hnd : ((O ++ l).map (·.id)).Nodup) : (l.foldl (insG befU) O).Pairwise (fun a b => befU a b = true) := by
 induction l generalizing O with
 | nil => exact hO
 | cons f r ih =>
  rw [List.foldl_cons]
  have hfO : f.id ∉ O.map (·.id) := fun hm => by
   rw [List.map_append, List.map_cons] at hnd
   exact (List.nodup_append.1 hnd).2.2 _ hm _ (List.mem_cons_self ..) rfl
  refine ih _ (insG_pw befU f O hO (fun y hy h => h) (fun y hy h => ?_) (fun a b d h1 h2 => upK_trans h1 h2)) ?_
  ·cases h2 : befU y f
   ·have := (upK_tri h h2).2
    exact absurd (List.mem_map.2 ⟨y, hy, this.symm⟩) hfO
   ·rfl
  ·have hp : ((insG befU O f ++ r).map (·.id)).Perm ((O ++ f :: r).map (·.id)) := by
    refine List.Perm.map _ ?_
    have h1 : (insG befU O f).Perm (f :: O) := by
     clear ih hO hnd hfO
     induction O with
     | nil => exact List.Perm.refl _
     | cons y O ih2 =>
      unfold insG
      split
      ·exact List.Perm.refl _
      ·exact ((ih2).cons y).trans (List.Perm.swap f y O)
    exact (h1.append_right r).trans (by simpa using (List.perm_middle (a := f) (l₁ := O) (l₂ := r)).symm)
   exact hp.nodup_iff.2 hnd
theorem sortU_pw {l : List Fc} (hnd : (l.map (·.id)).Nodup) : (sortU l).Pairwise (fun a b => befU a b = true) := fold_ins_pw l [] List.Pairwise.nil (by simpa using hnd)
set_option maxRecDepth 100000 in
set_option maxHeartbeats 16000000 in
theorem rlog11_any (G : Sw.Src) (id : ByteArray) (l : List ByteArray) (hl : ∀ q, q ∈ l ↔ Rch G id q) (hr : Rising l) (a : Option Addr) (n c : Nat) (hn : n ≤ 500000) (fs : List Fc) (hp8 : ∀ q, (obF G q).pars.length ≤ 8) (hh : ∀ q, 0 ≤ hG G q ∧ hG G q ≤ 1073741824)
  (w : World) (hf : FcsAt w a n fs) (hfa : FaAt w fs (l.map (faOf G))) :
  Calls Tryz.prog 46 #[.slice a n c, .string id] w (LogOut w (LogIs G id)) := by
 obtain ⟨i0, hi0, hz0, hz1, hz2⟩ := info_parts Tryz.infoFact
 obtain ⟨is0, his0, hzs0, hzs1, hzs2⟩ := info_parts Tryz.infoS
 have hfn : fs.length = n := hf.1
 have key : ∀ j, (hj : j < fs.length) → ∃ hjl : j < l.length, (fs.getD j noFc).id = l[j] ∧ (fs.getD j noFc).h = hG G l[j] ∧ ∀ W, Below w.heap.size w W → StrsAt W (fs.getD j noFc).pa (fs.getD j noFc).pn (obF G l[j]).pars := fun j hj => by
  have hjl : j < l.length := by have := hfa.1; rw [List.length_map] at this; omega
  obtain ⟨g1, g2, g3⟩ := hfa.2 j hj
  have e3 : (l.map (faOf G)).getD j noFa = faOf G l[j] := by
   rw [List.getD_eq_getElem?_getD, List.getElem?_map, List.getElem?_eq_getElem hjl]; rfl
  rw [e3] at g1 g2 g3
  exact ⟨hjl, g1, g2, fun W hW => g3.later hW⟩
 have hids : fs.map (·.id) = l := by
  apply List.ext_getElem
  ·rw [List.length_map, hfa.1, List.length_map]
  ·intro j h1 h2
   rw [List.length_map] at h1
   obtain ⟨_, g1, _⟩ := key j h1
   have e1 : fs.getD j noFc = fs[j] := by rw [List.getD_eq_getElem?_getD, List.getElem?_eq_getElem h1]; rfl
   rw [e1] at g1
   rw [List.getElem_map]; exact g1
 have hnd := rising_nodup hr
 have HK : Hid (∀ j, j < n → (fs.getD j noFc).id ∈ l ∧ (fs.getD j noFc).h = hG G (fs.getD j noFc).id ∧ ∀ W, Below w.heap.size w W → StrsAt W (fs.getD j noFc).pa (fs.getD j noFc).pn (obF G (fs.getD j noFc).id).pars) := fun j hj => by
  obtain ⟨hjl, g1, g2, g3⟩ := key j (by omega)
  rw [g1]
  exact ⟨List.getElem_mem hjl, g2, g3⟩
 have HSELF : Hid (∀ j, j < n → StandsAt fs n (fs.getD j noFc).id j) := fun j hj => by
  obtain ⟨hjl, g1, _⟩ := key j (by omega)
  refine ⟨hj, fun k hk e => ?_, rfl⟩
  obtain ⟨hkl, g2, _⟩ := key k (by omega)
  rw [g1, g2] at e
  exact (List.pairwise_iff_getElem.1 hnd) k j hkl hjl hk e
 have HST : Hid (∀ q ∈ l, ∃ j, StandsAt fs n q j) := fun q hq => by
  obtain ⟨j, hj⟩ := standsAt_of hids hnd hq
  rw [hfn] at hj
  exact ⟨j, hj⟩
 have HL := hid hl; have HND := hid hnd; have HIDS := hid hids; have HP8 := hid hp8; have HH := hid hh; have HF := hid hf
 obtain ⟨j0, hj0⟩ := HST.out id ((hl id).2 .root)
 have HJ0 := hid hj0
 have hj0n := hj0.1
 have HPLC0 := hid (fun W (hW : Below w.heap.size w W) => rplace_any a n c fs id j0 hj0.1 hj0.2.1 hj0.2.2 W (hf.later hW))
 have HMET := hid (fun W (hW : Below w.heap.size w W) => rmet_any G id l hl hnd a n c hn fs hids hp8 j0 hj0 W (hf.later hW) (fun j hj => (HK.out j hj).2.2 W hW))
 clear hl hr hnd hids hp8 hh hf hfa key hj0 hfn
 have hfl : fs.length = n := HF.out.1
 have HFL := hid hfl
 clear hfl
 go_enter Tryz.func46, Tryz.ntmps46
 go_wp2_with fail
 go_loopw [6] (fun iv wr => ∃ i : Nat, i ≤ n ∧ iv = .int .i64 i ∧ w = wr) (fun iv _ => n - (intOf iv).toNat)
 case atStart => exact ⟨0, Nat.zero_le _, rfl, rfl⟩
 case round =>
  obtain ⟨i, hi, rfl, rfl⟩ := hrel
  by_cases hlt : i < n
  ·have ci : (i : Int) < n := by omega
   have ci0 : (0 : Int) ≤ (i : Int) := by omega
   obtain ⟨-, -, h3⟩ := HF.out
   obtain ⟨eb, eoff, rfl, hcell⟩ := h3.resolve_left (by omega)
   obtain ⟨q0, -, -⟩ := hcell i hlt
   have hst := HSELF.out i hlt
   have HPLC := hid (rplace_any (some ⟨eb, eoff, none⟩) n c fs (fs.getD i noFc).id i hst.1 hst.2.1 hst.2.2 w HF.out)
   obtain ⟨x, hx⟩ : ∃ x, (fs.getD i noFc).id = x := ⟨_, rfl⟩
   rw [hx] at q0 HPLC
   have hne : ((i : Int) != (i : Int)) = false := by simp
   clear hcell h3 hst hx
   go_wp2_with (go_at_call 91; refine HPLC.out.mono ?_; rintro e w' ⟨rfl, rfl⟩)
   go_roundw
   case rel => first | exact ⟨i + 1, by omega, by go_num, by first | rfl | trivial⟩ | ((repeat apply Exists.intro); exact ⟨⟨i + 1, by omega, by go_num, by first | rfl | trivial⟩, rfl⟩)
   case measure => simp [intOf]; omega
  ·have hin : n = i := by omega
   subst hin
   have ci : ¬ (n : Int) < n := by omega
   have cj1 : ¬ (j0 : Int) < 0 := by omega
   have HPL1 := hid (HPLC0.out w (Below.refl _ _))
   have HMT1 := hid (HMET.out w (Below.refl _ _))
   go_upto_region 12 with (first
    | (go_at_call 91; refine HPL1.out.mono ?_; rintro e w' ⟨rfl, rfl⟩)
    | (go_at_call 92; refine HMT1.out.mono ?_; rintro e w2 ⟨sb, rfl, hsb, hb2⟩; have HSB := hid hsb; have HB2 := hid hb2; clear hsb hb2))
   have hs2 := HB2.out.size
   have HO3 : Hid ((w2.alloc (.cells #[] 66)).ownsRow w.heap.size 66 3 (.slice (some ⟨w2.heap.size, 0, none⟩) 0 0) 0 (fvals (sortU (fs.take 0)))) := own_mono (own_noneF w2) hs2
   have HB3 : Hid (Below w2.heap.size w2 (w2.alloc (.cells #[] 66))) := (Below.refl _ _).alloc (Nat.le_refl _) _
   go_upto_region 13 with fail
   generalize (w2.alloc (.cells #[] 66)) = w3 at HO3 HB3 ⊢
   generalize w2.heap.size = gg at HO3 ⊢
   go_wp2_with fail
   clear HPL1 HMT1 HPLC0 HMET
   go_loopw [10, 11] (fun ov iv wr => ∃ (i : Nat) (O : List Fc) (oa : Option Addr) (oc : Nat), i ≤ n ∧ ov = .slice oa O.length oc ∧ iv = .int .i64 i ∧ Hid (O = sortU (fs.take i)) ∧ Hid (wr.ownsRow w.heap.size 66 3 (.slice oa O.length oc) O.length (fvals O)) ∧ Hid (Below w2.heap.size w2 wr) ∧ Hid (∀ j, j < i → RightF G (fs.getD j noFc).id)) (fun _ iv _ => n - (intOf iv).toNat)
   case atStart => exact ⟨0, [], _, 0, Nat.zero_le _, rfl, rfl, rfl, HO3, HB3, fun j hj => absurd hj (Nat.not_lt_zero _)⟩
   case round =>
    obtain ⟨i, O, oa, oc, hi, rfl, rfl, HOE, HOR, HBR, HRT⟩ := hrel
    have HBW : Hid (Below w.heap.size w wr) := below_then HB2.out HBR.out
    have HSBR : Hid (Blk wr sb 4 (boos (List.replicate n true))) := (HBR.out.block sb (Blk.lt HSB.out)).trans HSB.out
    by_cases hlt : i < n
    ·have ci : (i : Int) < n := by omega
     have ci0 : (0 : Int) ≤ (i : Int) := by omega
     have s0 : wr.cell? ⟨sb, i, none⟩ = some (.bool true) := by
      rw [HSBR.out.cell]; unfold boos; rw [List.getElem?_toArray, List.getElem?_map, List.getElem?_replicate, if_pos hlt]; rfl
     have HFW := hid (HF.out.later HBW.out)
     obtain ⟨-, -, h3⟩ := HFW.out
     obtain ⟨eb, eoff, rfl, hcell⟩ := h3.resolve_left (by omega)
     obtain ⟨q0, q1, q2⟩ := hcell i hlt
     obtain ⟨hxl, hxh, hxp⟩ := HK.out i hlt
     have HTK : Hid (sortU (fs.take (i + 1)) = insG befU (sortU (fs.take i)) (fs.getD i noFc)) := by
      have hil : i < fs.length := by rw [HFL.out]; exact hlt
      show _ = _
      rw [List.take_succ_eq_append_getElem hil, sortU_snoc, List.getD_eq_getElem?_getD, List.getElem?_eq_getElem hil]; rfl
     have HOL : Hid (O.length = i) := by
      show _ = _
      rw [HOE.out, sortU_len, List.length_take, HFL.out]; omega
     rw [← HOE.out] at HTK
     have HRG := hid (rright_any (some ⟨eb, eoff, none⟩) n c fs (fs.getD i noFc) (obF G (fs.getD i noFc).id).pars (hG G) wr HFW.out (hxp wr HBW.out) (by have h1 := (hxp wr HBW.out).1; have h2 := HP8.out (fs.getD i noFc).id; omega) (fun p hp => by
      have hpl : p ∈ l := (HL.out p).2 (.step ((HL.out _).1 hxl) hp)
      obtain ⟨j, hj⟩ := HST.out p hpl
      refine ⟨j, hj, ?_⟩
      have := (HK.out j hj.1).2.1
      rw [hj.2.2] at this; exact this) (fun p _ => HH.out p))
     have hrb : ((fs.getD i noFc).h == heightL ((obF G (fs.getD i noFc).id).pars.map (hG G))) = rightB G (fs.getD i noFc).id := by rw [hxh]; rfl
     rw [hrb] at HRG
     have HXR : Hid (Rch G id (fs.getD i noFc).id) := (HL.out _).1 hxl
     have HRS : Hid (rightB G (fs.getD i noFc).id = true → ∀ j, j < i + 1 → RightF G (fs.getD j noFc).id) := fun h j hj => by
      rcases Nat.lt_succ_iff_lt_or_eq.1 hj with h1 | rfl
      ·exact HRT.out j h1
      ·exact h
     have HRN : Hid (rightB G (fs.getD i noFc).id = false → LogIs G id 41 []) := fun h => .inl ⟨rfl, rfl, _, HXR.out, by unfold RightF; rw [h]; simp⟩
     obtain ⟨f, hfe⟩ : ∃ f, fs.getD i noFc = f := ⟨_, rfl⟩
     rw [hfe] at q0 q1 q2 HTK HRG HRS HRN
     clear hcell h3 hxl hxh hxp hfe hrb
     have ev : valF f = .agg #[.string f.id, .int .i64 f.h, .slice f.pa f.pn f.pc] := rfl
     rw [ev] at HRG
     cases hrt : rightB G f.id with
     | false =>
      have HLI := hid (HRN.out hrt)
      rw [hrt] at HRG
      clear hrt
      go_wp2_with fail
      refine HRG.out.mono ?_; rintro e w5 ⟨rfl, hb5⟩
      have HB5 := hid (below_then HBW.out hb5)
      clear hb5 HRG q0 q1 q2 s0
      go_wp2_with fail
      go_ret2
      exact ⟨41, [], none, 0, 0, HLI.out, rfl, ⟨rfl, by omega, .inl rfl⟩, HB5.out⟩
     | true =>
      have HRS2 := hid (HRS.out hrt)
      rw [hrt] at HRG
      clear hrt
      go_wp2_with fail
      refine HRG.out.mono ?_; rintro e wo ⟨rfl, hb5⟩
      have HBO := hid (below_then HBR.out hb5)
      have HO : Hid (wo.ownsRow w.heap.size 66 3 (.slice oa O.length oc) O.length (fvals O)) := own_below HOR.out hb5
      have HQ0 : Hid (wo.cell? ⟨eb, eoff + i * 3, none⟩ = some (.string f.id)) := (hb5.cell (p := ⟨eb, eoff + i * 3, none⟩) (World.block_lt_of_cell? _ _ q0)).trans q0
      have HQ1 : Hid (wo.cell? ⟨eb, eoff + i * 3 + 1, none⟩ = some (.int .i64 f.h)) := (hb5.cell (p := ⟨eb, eoff + i * 3 + 1, none⟩) (World.block_lt_of_cell? _ _ q1)).trans q1
      have HQ2 : Hid (wo.cell? ⟨eb, eoff + i * 3 + 2, none⟩ = some (.slice f.pa f.pn f.pc)) := (hb5.cell (p := ⟨eb, eoff + i * 3 + 2, none⟩) (World.block_lt_of_cell? _ _ q2)).trans q2
      have HPB : Hid (w.heap.size ≤ wo.heap.size) := (below_then HBW.out hb5).size
      have HN1 : Hid ((wo.alloc (.cells #[] 66)).ownsRow wo.heap.size 66 3 (.slice (some ⟨wo.heap.size, 0, none⟩) 0 0) 0 (fvals [])) := own_noneF wo
      have HB2' : Hid (Below wo.heap.size wo (wo.alloc (.cells #[] 66))) := (Below.refl _ _).alloc (Nat.le_refl _) _
      clear hb5 HRG q0 q1 q2 s0 HRN HRS HRT
      have hO5 : O.length ≤ 500000 := by have hOi := HOL.out; omega
      go_upto_block 4 with fail
      have HB2o := hid HB2.out
      clear HB2
      have HB2 := HB2'
      clear HB2'
      generalize (wo.alloc (.cells #[] 66)) = w9 at HN1 HB2 ⊢
      generalize hg2 : wo.heap.size = g2 at HN1 HB2 HPB ⊢
      have HG2 := hid hg2
      clear hg2
      go_cut [12, 13, 14] from 46 to 108 (fun nv dv kv wx => ∃ (N : List Fc) (dn : Bool) (na : Option Addr) (nc : Nat), nv = .slice na N.length nc ∧ dv = .bool dn ∧ Hid (wx.ownsRow g2 66 3 (.slice na N.length nc) N.length (fvals N)) ∧ Hid (Below g2 wo wx) ∧ Hid (MidG befU O f O.length N dn))
      case first =>
       go_wp2_with fail
       go_loopw [14, 12, 13] (fun kv nv dv wx => ∃ (k : Nat) (N : List Fc) (dn : Bool), k ≤ O.length ∧ kv = .int .i64 k ∧ dv = .bool dn ∧ Hid (wx.ownsRow g2 66 3 nv N.length (fvals N)) ∧ Hid (Below g2 wo wx) ∧ Hid (MidG befU O f k N dn)) (fun kv _ _ _ => O.length - (intOf kv).toNat)
       case atStart => exact ⟨0, [], false, Nat.zero_le _, rfl, rfl, HN1, HB2, MidG.zero _ O f⟩
       case round =>
        obtain ⟨k, N, dn, hk, rfl, rfl, HN, HX, HMD⟩ := hrel
        obtain ⟨na, nc, rfl, hnc⟩ := own_slice' HN.out
        have HXW : Hid (Below wo.heap.size wo wr) := by rw [HG2.out]; exact HX.out
        have hgx : g2 ≤ wr.heap.size := by have := HX.out.size; rw [HG2.out] at this; exact this
        have hNl := HMD.out.len
        have f0 : wr.cell? ⟨eb, eoff + i * 3, none⟩ = some (.string f.id) := (HXW.out.cell (p := ⟨eb, eoff + i * 3, none⟩) (World.block_lt_of_cell? _ _ HQ0.out)).trans HQ0.out
        have f1 : wr.cell? ⟨eb, eoff + i * 3 + 1, none⟩ = some (.int .i64 f.h) := (HXW.out.cell (p := ⟨eb, eoff + i * 3 + 1, none⟩) (World.block_lt_of_cell? _ _ HQ1.out)).trans HQ1.out
        have f2 : wr.cell? ⟨eb, eoff + i * 3 + 2, none⟩ = some (.slice f.pa f.pn f.pc) := (HXW.out.cell (p := ⟨eb, eoff + i * 3 + 2, none⟩) (World.block_lt_of_cell? _ _ HQ2.out)).trans HQ2.out
        by_cases hkl : k < O.length
        ·have ck : (k : Int) < O.length := by omega
         have ck0 : (0 : Int) ≤ (k : Int) := by omega
         have HOx := own_below HO.out HXW.out
         obtain ⟨og, oc2, e1, -, -⟩ := HOx.form (by omega)
         injection e1 with e1 _ e2
         subst e1 e2
         have x0 := HOx.cellAt (k * 3 + 0) (by omega)
         have x1 := HOx.cellAt (k * 3 + 1) (by omega)
         have x2 := HOx.cellAt (k * 3 + 2) (by omega)
         rw [fvals_get O k 0 hkl (by omega)] at x0
         rw [fvals_get O k 1 hkl (by omega)] at x1
         rw [fvals_get O k 2 hkl (by omega)] at x2
         have HD : Hid (O.drop k = O.getD k noFc :: O.drop (k + 1)) := by
          show _ = _
          rw [List.drop_eq_getElem_cons hkl, List.getD_eq_getElem?_getD, List.getElem?_eq_getElem hkl]; rfl
         have hyO : O.getD k noFc ∈ O := by rw [List.getD_eq_getElem?_getD, List.getElem?_eq_getElem hkl]; exact List.getElem_mem hkl
         obtain ⟨y, hy⟩ : ∃ y, O.getD k noFc = y := ⟨_, rfl⟩
         rw [hy] at x0 x1 x2 HD hyO
         replace x0 : wr.cell? ⟨og, k * 3, none⟩ = some (.string y.id) := x0
         have HX0 := hid x0
         have HF0 := hid f0
         replace x1 : wr.cell? ⟨og, k * 3 + 1, none⟩ = some (.int .i64 y.h) := x1
         have HX1 := hid x1
         have HF1 := hid f1
         replace x2 : wr.cell? ⟨og, k * 3 + 2, none⟩ = some (.slice y.pa y.pn y.pc) := x2
         have HX2 := hid x2
         have HF2 := hid f2
         have hog : og < g2 := by have h := (HO.out.lt og rfl).2; rw [HG2.out] at h; exact h
         have HC : Hid (∀ z : After wr, Calls Tryz.prog 94 #[.agg #[.string f.id, .int .i64 f.h, .slice f.pa f.pn f.pc], .agg #[.string y.id, .int .i64 y.h, .slice y.pa y.pn y.pc]] z.val fun e w' => e = .returned (.int .i64 (rcmpZ f y)) ∧ Below z.val.heap.size z.val w') := fun z => rcmp11_any f y z.val
         have EF0 : ∀ z : After wr, z.val.cell? ⟨eb, eoff + i * 3, none⟩ = some (.string f.id) := fun z => (z.below.cell (p := ⟨eb, eoff + i * 3, none⟩) (World.block_lt_of_cell? _ _ HF0.out)).trans HF0.out
         have EX0 : ∀ z : After wr, z.val.cell? ⟨og, k * 3, none⟩ = some (.string y.id) := fun z => (z.below.cell (p := ⟨og, k * 3, none⟩) (World.block_lt_of_cell? _ _ HX0.out)).trans HX0.out
         have EF1 : ∀ z : After wr, z.val.cell? ⟨eb, eoff + i * 3 + 1, none⟩ = some (.int .i64 f.h) := fun z => (z.below.cell (p := ⟨eb, eoff + i * 3 + 1, none⟩) (World.block_lt_of_cell? _ _ HF1.out)).trans HF1.out
         have EX1 : ∀ z : After wr, z.val.cell? ⟨og, k * 3 + 1, none⟩ = some (.int .i64 y.h) := fun z => (z.below.cell (p := ⟨og, k * 3 + 1, none⟩) (World.block_lt_of_cell? _ _ HX1.out)).trans HX1.out
         have EF2 : ∀ z : After wr, z.val.cell? ⟨eb, eoff + i * 3 + 2, none⟩ = some (.slice f.pa f.pn f.pc) := fun z => (z.below.cell (p := ⟨eb, eoff + i * 3 + 2, none⟩) (World.block_lt_of_cell? _ _ HF2.out)).trans HF2.out
         have EX2 : ∀ z : After wr, z.val.cell? ⟨og, k * 3 + 2, none⟩ = some (.slice y.pa y.pn y.pc) := fun z => (z.below.cell (p := ⟨og, k * 3 + 2, none⟩) (World.block_lt_of_cell? _ _ HX2.out)).trans HX2.out
         clear hy HOx HXW hyO
         cases dn
         ·by_cases hcm : befU f y = true
          ·have HMN := hid (HMD.out.hit HD.out hcm)
           have hcz : 0 < rcmpZ f y := (rcmpZ_pos f y).2 hcm
           generalize rcmpZ f y = cr at HC hcz
           go_wp2_with fail
           refine wp_region_after (by kernel_rfl) (by kernel_rfl) ?_
           repeat (go_big_quiet_step ((first | (go_at_call 94; with_reducible exact calls_after (HC.out _)))))
           refine wpQuiet_nil ?_
           intro _ hw'
           obtain ⟨z, rfl⟩ := hw'
           have HZW : Hid (Below wr.heap.size wr z.val) := z.below
           generalize z.val = wz at HZW ⊢
           clear z EF0 EF1 EF2 EX0 EX1 EX2 HC
           have HNz : Hid (wz.ownsRow g2 66 3 (.slice na N.length nc) N.length (fvals N)) := own_below HN.out HZW.out
           have HXz : Hid (Below g2 wo wz) := HX.out.trans (HZW.out.mono hgx)
           have f0' : wz.cell? ⟨eb, eoff + i * 3, none⟩ = some (.string f.id) := (HZW.out.cell (p := ⟨eb, eoff + i * 3, none⟩) (World.block_lt_of_cell? _ _ HF0.out)).trans HF0.out
           have x0' : wz.cell? ⟨og, k * 3, none⟩ = some (.string y.id) := (HZW.out.cell (p := ⟨og, k * 3, none⟩) (World.block_lt_of_cell? _ _ HX0.out)).trans HX0.out
           have f1' : wz.cell? ⟨eb, eoff + i * 3 + 1, none⟩ = some (.int .i64 f.h) := (HZW.out.cell (p := ⟨eb, eoff + i * 3 + 1, none⟩) (World.block_lt_of_cell? _ _ HF1.out)).trans HF1.out
           have x1' : wz.cell? ⟨og, k * 3 + 1, none⟩ = some (.int .i64 y.h) := (HZW.out.cell (p := ⟨og, k * 3 + 1, none⟩) (World.block_lt_of_cell? _ _ HX1.out)).trans HX1.out
           have f2' : wz.cell? ⟨eb, eoff + i * 3 + 2, none⟩ = some (.slice f.pa f.pn f.pc) := (HZW.out.cell (p := ⟨eb, eoff + i * 3 + 2, none⟩) (World.block_lt_of_cell? _ _ HF2.out)).trans HF2.out
           have x2' : wz.cell? ⟨og, k * 3 + 2, none⟩ = some (.slice y.pa y.pn y.pc) := (HZW.out.cell (p := ⟨og, k * 3 + 2, none⟩) (World.block_lt_of_cell? _ _ HX2.out)).trans HX2.out
           have hgz : g2 ≤ wz.heap.size := by have := HXz.out.size; rw [HG2.out] at this; exact this
           clear f0 f1 f2 x0 x1 x2 HF0 HF1 HF2 HX0 HX1 HX2 HZW
           go_upto_region 27 with (at_builtin; refine wpList_append_own _ rfl (.tmp 85) (.tmp 90) 35 rfl g2 66 i0 (.agg #[.string ⟨#[]⟩, .int .i64 0, .slice none 0 0]) 3 48 Tryz.underlying35 hi0 hz0 hz1 hz2 rfl (by decide) (.slice na N.length nc) _ _ rfl (HNz.out.alloc _) ⟨wz.heap.size, 0, none⟩ 1 1 [.string f.id, .int .i64 f.h, .slice f.pa f.pn f.pc] rfl rfl (cellBlk3 (Blk.new _ _ _)) (one3 rfl rfl rfl) (by unfold maxLen; omega) (by omega) (by rw [World.size_alloc]; omega) ?_; intro v' w9 hown' hgrow _; have HOWN := hid hown'; have HGR := hid hgrow; clear hown' hgrow)
           obtain ⟨na', nc', rfl, hnc'⟩ := own_slice' HOWN.out
           have HN9 : Hid (w9.ownsRow g2 66 3 (.slice na' (N.length + 1) nc') (N.length + 1) (fvals (N ++ [f]))) := by
            have h := HOWN.out
            rw [fvals_append]; exact h
           have HS9 : Hid (Below g2 wz w9) := ((Below.refl g2 wz).alloc hgz _).grown HGR.out (by rw [World.size_alloc]; omega) (fun j hj => (HNz.out.lt j hj).1)
           have HX9 : Hid (Below g2 wo w9) := HXz.out.trans HS9.out
           have c0 : w9.cell? ⟨og, k * 3, none⟩ = some (.string y.id) := (HS9.out.cell (p := ⟨og, k * 3, none⟩) hog).trans x0'
           have c1 : w9.cell? ⟨og, k * 3 + 1, none⟩ = some (.int .i64 y.h) := (HS9.out.cell (p := ⟨og, k * 3 + 1, none⟩) hog).trans x1'
           have c2 : w9.cell? ⟨og, k * 3 + 2, none⟩ = some (.slice y.pa y.pn y.pc) := (HS9.out.cell (p := ⟨og, k * 3 + 2, none⟩) hog).trans x2'
           have hg9 : g2 ≤ w9.heap.size := by have := HX9.out.size; rw [HG2.out] at this; exact this
           clear f0' f1' f2' x0' x1' x2' HOWN HGR HNz HXz HS9
           rename World => wy
           go_wp2_with (at_builtin; refine wpList_append_own _ rfl (.tmp 92) (.tmp 97) 35 rfl g2 66 i0 (.agg #[.string ⟨#[]⟩, .int .i64 0, .slice none 0 0]) 3 48 Tryz.underlying35 hi0 hz0 hz1 hz2 rfl (by decide) (.slice na' (N.length + 1) nc') _ _ rfl (HN9.out.alloc _) ⟨wy.heap.size, 0, none⟩ 1 1 [.string y.id, .int .i64 y.h, .slice y.pa y.pn y.pc] rfl rfl (cellBlk3 (Blk.new _ _ _)) (one3 rfl rfl rfl) (by unfold maxLen; omega) (by omega) (by rw [World.size_alloc]; omega) ?_; intro v' w9 hown' hgrow _; have HOWN := hid hown'; have HGR := hid hgrow; clear hown' hgrow)
           obtain ⟨nb, nd, rfl, hnd⟩ := own_slice' HOWN.out
           have HNN : Hid (w9.ownsRow g2 66 3 (.slice nb ((N.length + 1) + 1) nd) ((N ++ [f]) ++ [y]).length (fvals ((N ++ [f]) ++ [y]))) := by
            have h := HOWN.out
            have e : ((N ++ [f]) ++ [y]).length = (N.length + 1) + 1 := by simp
            rw [e, fvals_append]; exact h
           have HXX : Hid (Below g2 wo w9) := (HX9.out.alloc (by omega) _).grown HGR.out (by rw [World.size_alloc]; omega) (fun j hj => (HN9.out.lt j hj).1)
           go_roundw
           case rel => first | exact ⟨k + 1, _, true, by omega, by go_num, rfl, HNN, HXX, HMN⟩ | ((repeat apply Exists.intro); exact ⟨⟨k + 1, _, true, by omega, by go_num, rfl, HNN, HXX, HMN⟩, rfl⟩)
           case measure => simp [intOf]; omega
          ·have hcm2 : befU f y = false := Bool.not_eq_true _ ▸ hcm
           have HMN := hid (HMD.out.miss HD.out hcm2)
           have hcz : ¬ 0 < rcmpZ f y := fun h => hcm ((rcmpZ_pos f y).1 h)
           generalize rcmpZ f y = cr at HC hcz
           go_wp2_with fail
           refine wp_region_after (by kernel_rfl) (by kernel_rfl) ?_
           repeat (go_big_quiet_step ((first | (go_at_call 94; with_reducible exact calls_after (HC.out _)))))
           refine wpQuiet_nil ?_
           intro _ hw'
           obtain ⟨z, rfl⟩ := hw'
           have HZW : Hid (Below wr.heap.size wr z.val) := z.below
           generalize z.val = wz at HZW ⊢
           clear z EF0 EF1 EF2 EX0 EX1 EX2 HC
           have HNz : Hid (wz.ownsRow g2 66 3 (.slice na N.length nc) N.length (fvals N)) := own_below HN.out HZW.out
           have HXz : Hid (Below g2 wo wz) := HX.out.trans (HZW.out.mono hgx)
           have f0' : wz.cell? ⟨eb, eoff + i * 3, none⟩ = some (.string f.id) := (HZW.out.cell (p := ⟨eb, eoff + i * 3, none⟩) (World.block_lt_of_cell? _ _ HF0.out)).trans HF0.out
           have x0' : wz.cell? ⟨og, k * 3, none⟩ = some (.string y.id) := (HZW.out.cell (p := ⟨og, k * 3, none⟩) (World.block_lt_of_cell? _ _ HX0.out)).trans HX0.out
           have f1' : wz.cell? ⟨eb, eoff + i * 3 + 1, none⟩ = some (.int .i64 f.h) := (HZW.out.cell (p := ⟨eb, eoff + i * 3 + 1, none⟩) (World.block_lt_of_cell? _ _ HF1.out)).trans HF1.out
           have x1' : wz.cell? ⟨og, k * 3 + 1, none⟩ = some (.int .i64 y.h) := (HZW.out.cell (p := ⟨og, k * 3 + 1, none⟩) (World.block_lt_of_cell? _ _ HX1.out)).trans HX1.out
           have f2' : wz.cell? ⟨eb, eoff + i * 3 + 2, none⟩ = some (.slice f.pa f.pn f.pc) := (HZW.out.cell (p := ⟨eb, eoff + i * 3 + 2, none⟩) (World.block_lt_of_cell? _ _ HF2.out)).trans HF2.out
           have x2' : wz.cell? ⟨og, k * 3 + 2, none⟩ = some (.slice y.pa y.pn y.pc) := (HZW.out.cell (p := ⟨og, k * 3 + 2, none⟩) (World.block_lt_of_cell? _ _ HX2.out)).trans HX2.out
           have hgz : g2 ≤ wz.heap.size := by have := HXz.out.size; rw [HG2.out] at this; exact this
           clear f0 f1 f2 x0 x1 x2 HF0 HF1 HF2 HX0 HX1 HX2 HZW
           go_wp2_with (at_builtin; refine wpList_append_own _ rfl (.tmp 92) (.tmp 97) 35 rfl g2 66 i0 (.agg #[.string ⟨#[]⟩, .int .i64 0, .slice none 0 0]) 3 48 Tryz.underlying35 hi0 hz0 hz1 hz2 rfl (by decide) (.slice na N.length nc) _ _ rfl (HNz.out.alloc _) ⟨wz.heap.size, 0, none⟩ 1 1 [.string y.id, .int .i64 y.h, .slice y.pa y.pn y.pc] rfl rfl (cellBlk3 (Blk.new _ _ _)) (one3 rfl rfl rfl) (by unfold maxLen; omega) (by omega) (by rw [World.size_alloc]; omega) ?_; intro v' w9 hown' hgrow _; have HOWN := hid hown'; have HGR := hid hgrow; clear hown' hgrow)
           obtain ⟨nb, nd, rfl, hnd⟩ := own_slice' HOWN.out
           have HNN : Hid (w9.ownsRow g2 66 3 (.slice nb (N.length + 1) nd) (N ++ [y]).length (fvals (N ++ [y]))) := by
            have h := HOWN.out
            have e : (N ++ [y]).length = N.length + 1 := by simp
            rw [e, fvals_append]; exact h
           have HXX : Hid (Below g2 wo w9) := (HXz.out.alloc (by omega) _).grown HGR.out (by rw [World.size_alloc]; omega) (fun j hj => (HNz.out.lt j hj).1)
           go_roundw
           case rel => first | exact ⟨k + 1, _, false, by omega, by go_num, rfl, HNN, HXX, HMN⟩ | ((repeat apply Exists.intro); exact ⟨⟨k + 1, _, false, by omega, by go_num, rfl, HNN, HXX, HMN⟩, rfl⟩)
           case measure => simp [intOf]; omega
         ·have HMN := hid (HMD.out.done HD.out)
          go_wp2_with fail
          refine wp_region_after (by kernel_rfl) (by kernel_rfl) ?_
          repeat (go_big_quiet_step ((first | (go_at_call 94; with_reducible exact calls_after (HC.out _)))))
          refine wpQuiet_nil ?_
          intro _ hw'
          obtain ⟨z, rfl⟩ := hw'
          have HZW : Hid (Below wr.heap.size wr z.val) := z.below
          generalize z.val = wz at HZW ⊢
          clear z EF0 EF1 EF2 EX0 EX1 EX2 HC
          have HNz : Hid (wz.ownsRow g2 66 3 (.slice na N.length nc) N.length (fvals N)) := own_below HN.out HZW.out
          have HXz : Hid (Below g2 wo wz) := HX.out.trans (HZW.out.mono hgx)
          have f0' : wz.cell? ⟨eb, eoff + i * 3, none⟩ = some (.string f.id) := (HZW.out.cell (p := ⟨eb, eoff + i * 3, none⟩) (World.block_lt_of_cell? _ _ HF0.out)).trans HF0.out
          have x0' : wz.cell? ⟨og, k * 3, none⟩ = some (.string y.id) := (HZW.out.cell (p := ⟨og, k * 3, none⟩) (World.block_lt_of_cell? _ _ HX0.out)).trans HX0.out
          have f1' : wz.cell? ⟨eb, eoff + i * 3 + 1, none⟩ = some (.int .i64 f.h) := (HZW.out.cell (p := ⟨eb, eoff + i * 3 + 1, none⟩) (World.block_lt_of_cell? _ _ HF1.out)).trans HF1.out
          have x1' : wz.cell? ⟨og, k * 3 + 1, none⟩ = some (.int .i64 y.h) := (HZW.out.cell (p := ⟨og, k * 3 + 1, none⟩) (World.block_lt_of_cell? _ _ HX1.out)).trans HX1.out
          have f2' : wz.cell? ⟨eb, eoff + i * 3 + 2, none⟩ = some (.slice f.pa f.pn f.pc) := (HZW.out.cell (p := ⟨eb, eoff + i * 3 + 2, none⟩) (World.block_lt_of_cell? _ _ HF2.out)).trans HF2.out
          have x2' : wz.cell? ⟨og, k * 3 + 2, none⟩ = some (.slice y.pa y.pn y.pc) := (HZW.out.cell (p := ⟨og, k * 3 + 2, none⟩) (World.block_lt_of_cell? _ _ HX2.out)).trans HX2.out
          have hgz : g2 ≤ wz.heap.size := by have := HXz.out.size; rw [HG2.out] at this; exact this
          clear f0 f1 f2 x0 x1 x2 HF0 HF1 HF2 HX0 HX1 HX2 HZW
          go_wp2_with (at_builtin; refine wpList_append_own _ rfl (.tmp 92) (.tmp 97) 35 rfl g2 66 i0 (.agg #[.string ⟨#[]⟩, .int .i64 0, .slice none 0 0]) 3 48 Tryz.underlying35 hi0 hz0 hz1 hz2 rfl (by decide) (.slice na N.length nc) _ _ rfl (HNz.out.alloc _) ⟨wz.heap.size, 0, none⟩ 1 1 [.string y.id, .int .i64 y.h, .slice y.pa y.pn y.pc] rfl rfl (cellBlk3 (Blk.new _ _ _)) (one3 rfl rfl rfl) (by unfold maxLen; omega) (by omega) (by rw [World.size_alloc]; omega) ?_; intro v' w9 hown' hgrow _; have HOWN := hid hown'; have HGR := hid hgrow; clear hown' hgrow)
          obtain ⟨nb, nd, rfl, hnd⟩ := own_slice' HOWN.out
          have HNN : Hid (w9.ownsRow g2 66 3 (.slice nb (N.length + 1) nd) (N ++ [y]).length (fvals (N ++ [y]))) := by
           have h := HOWN.out
           have e : (N ++ [y]).length = N.length + 1 := by simp
           rw [e, fvals_append]; exact h
          have HXX : Hid (Below g2 wo w9) := (HXz.out.alloc (by omega) _).grown HGR.out (by rw [World.size_alloc]; omega) (fun j hj => (HNz.out.lt j hj).1)
          go_roundw
          case rel => first | exact ⟨k + 1, _, true, by omega, by go_num, rfl, HNN, HXX, HMN⟩ | ((repeat apply Exists.intro); exact ⟨⟨k + 1, _, true, by omega, by go_num, rfl, HNN, HXX, HMN⟩, rfl⟩)
          case measure => simp [intOf]; omega
        ·obtain rfl : k = O.length := by omega
         have ck : ¬ (O.length : Int) < O.length := by omega
         clear f0 f1 f2 HXW
         go_wp2_with fail
         go_meet
         case rel => exact ⟨N, dn, na, nc, rfl, rfl, HN, HX, HMD⟩
      case rest =>
       obtain ⟨N, dn, na, nc, rfl, rfl, HN, HX, HMD⟩ := hcut
       rename World => wn
       have HXW : Hid (Below wo.heap.size wo wn) := by rw [HG2.out]; exact HX.out
       have f0 : wn.cell? ⟨eb, eoff + i * 3, none⟩ = some (.string f.id) := (HXW.out.cell (p := ⟨eb, eoff + i * 3, none⟩) (World.block_lt_of_cell? _ _ HQ0.out)).trans HQ0.out
       have f1 : wn.cell? ⟨eb, eoff + i * 3 + 1, none⟩ = some (.int .i64 f.h) := (HXW.out.cell (p := ⟨eb, eoff + i * 3 + 1, none⟩) (World.block_lt_of_cell? _ _ HQ1.out)).trans HQ1.out
       have f2 : wn.cell? ⟨eb, eoff + i * 3 + 2, none⟩ = some (.slice f.pa f.pn f.pc) := (HXW.out.cell (p := ⟨eb, eoff + i * 3 + 2, none⟩) (World.block_lt_of_cell? _ _ HQ2.out)).trans HQ2.out
       have hgx : g2 ≤ wn.heap.size := by have := HX.out.size; rw [HG2.out] at this; exact this
       have hNl := HMD.out.len
       go_upto_if 100 with fail
       go_cut [12] from 46 to 108 (fun nv wx => ∃ (nb : Option Addr) (nd : Nat), nv = .slice nb (insG befU O f).length nd ∧ Hid (wx.ownsRow g2 66 3 (.slice nb (insG befU O f).length nd) (insG befU O f).length (fvals (insG befU O f))) ∧ Hid (Below g2 wo wx))
       case first =>
        cases dn
        ·have HE := hid (HMD.out.end_not (Nat.le_refl _))
         go_wp2_with (at_builtin; refine wpList_append_own _ rfl (.tmp 101) (.tmp 106) 35 rfl g2 66 i0 (.agg #[.string ⟨#[]⟩, .int .i64 0, .slice none 0 0]) 3 48 Tryz.underlying35 hi0 hz0 hz1 hz2 rfl (by decide) (.slice na N.length nc) _ _ rfl (HN.out.alloc _) ⟨wn.heap.size, 0, none⟩ 1 1 [.string f.id, .int .i64 f.h, .slice f.pa f.pn f.pc] rfl rfl (cellBlk3 (Blk.new _ _ _)) (one3 rfl rfl rfl) (by unfold maxLen; omega) (by omega) (by rw [World.size_alloc]; omega) ?_; intro v' w9 hown' hgrow _; have HOWN := hid hown'; have HGR := hid hgrow; clear hown' hgrow)
         obtain ⟨nb, nd, rfl, hnd⟩ := own_slice' HOWN.out
         have HLN : Hid (N.length + 1 = (insG befU O f).length) := by show _ = _; rw [HE.out]; simp
         have HNN : Hid (w9.ownsRow g2 66 3 (.slice nb (insG befU O f).length nd) (insG befU O f).length (fvals (insG befU O f))) := by
          have h := HOWN.out
          rw [← HLN.out, HE.out, fvals_append]; exact h
         have HXX : Hid (Below g2 wo w9) := (HX.out.alloc (by omega) _).grown HGR.out (by rw [World.size_alloc]; omega) (fun j hj => (HN.out.lt j hj).1)
         clear f0 f1 f2
         go_meet
         case rel => exact ⟨nb, nd, by rw [HLN.out], HNN, HXX⟩
        ·have HE := hid (HMD.out.end_done (Nat.le_refl _))
         have HNN : Hid (wn.ownsRow g2 66 3 (.slice na (insG befU O f).length nc) (insG befU O f).length (fvals (insG befU O f))) := by
          rw [HE.out]; exact HN.out
         have HLN : Hid (N.length = (insG befU O f).length) := by show _ = _; rw [HE.out]
         clear f0 f1 f2
         go_wp2_with fail
         go_meet
         case rel => exact ⟨na, nc, by rw [HLN.out], HNN, HX⟩
       case rest =>
        obtain ⟨nb, nd, rfl, HNN, HXY⟩ := hcut
        rename World => wp
        have HXP : Hid (Below wo.heap.size wo wp) := by rw [HG2.out]; exact HXY.out
        have HBP := hid (below_then HBO.out HXP.out)
        have HNO := hid (own_mono HNN.out HPB.out)
        clear f0 f1 f2 HN HX HMD HXW hgx hNl
        go_wp2_with fail
        go_roundw
        case rel => first | exact ⟨i + 1, _, nb, nd, by omega, rfl, by go_num, HTK.out.symm, HNO, HBP, HRS2.out⟩ | ((repeat apply Exists.intro); exact ⟨⟨i + 1, _, nb, nd, by omega, rfl, by go_num, HTK.out.symm, HNO, HBP, HRS2.out⟩, rfl⟩)
        case measure => simp [intOf]; omega
    ·have hin : n = i := by omega
     subst hin
     have ci : ¬ (n : Int) < n := by omega
     have hfull : fs.take n = fs := List.take_of_length_le (by rw [HFL.out]; exact Nat.le_refl _)
     rw [hfull] at HOE
     have HOL : Hid (O.length = n) := by show _ = _; rw [HOE.out, sortU_len, HFL.out]
     have HLI : Hid (LogIs G id 0 (O.map (·.id))) := by
      have hmem : ∀ q, q ∈ O.map (·.id) ↔ Rch G id q := fun q => by
       rw [← HL.out q, ← HIDS.out, HOE.out]
       constructor
       ·intro h
        obtain ⟨f, hf, rfl⟩ := List.mem_map.1 h
        exact List.mem_map.2 ⟨f, (sortU_mem fs f).1 hf, rfl⟩
       ·intro h
        obtain ⟨f, hf, rfl⟩ := List.mem_map.1 h
        exact List.mem_map.2 ⟨f, (sortU_mem fs f).2 hf, rfl⟩
      have hat : ∀ f ∈ O, f.h = hG G f.id ∧ ∃ j, j < n ∧ fs.getD j noFc = f := fun f hf => by
       rw [HOE.out] at hf
       obtain ⟨j, hj, rfl⟩ := List.getElem_of_mem ((sortU_mem fs f).1 hf)
       have hjn : j < n := by rw [← HFL.out]; exact hj
       have e1 : fs.getD j noFc = fs[j] := by rw [List.getD_eq_getElem?_getD, List.getElem?_eq_getElem hj]; rfl
       have h1 := (HK.out j hjn).2.1
       rw [e1] at h1
       exact ⟨h1, j, hjn, e1⟩
      refine .inr ⟨rfl, fun q hq => ?_, ?_, hmem⟩
      ·obtain ⟨f, hf, rfl⟩ := List.mem_map.1 ((hmem q).2 hq)
       obtain ⟨_, j, hj, rfl⟩ := hat f hf
       exact HRT.out j hj
      ·rw [List.pairwise_map]
       have hp := sortU_pw (l := fs) (by rw [HIDS.out]; exact HND.out)
       rw [← HOE.out] at hp
       refine List.Pairwise.imp_of_mem (fun {f g} hf hg h => ?_) hp
       unfold upQ
       rw [← (hat f hf).1, ← (hat g hg).1]; exact h
     have HFO : Hid (FcsAt wr oa O.length O) := by
      obtain ⟨a9, c9, e9, h9⟩ := own_fcs HOR.out (by rw [HOL.out]; omega)
      injection e9 with e91 _ _
      rw [e91]; exact h9
     have hOn : O.length ≤ 500000 := by rw [HOL.out]; exact hn
     have HS0 : Hid ((wr.alloc (.cells #[] 9)).ownsRow wr.heap.size 9 1 (.slice (some ⟨wr.heap.size, 0, none⟩) 0 0) 0 (svals ((O.map (·.id)).take 0))) := own_noneS1 wr
     have HSB1 : Hid (Below wr.heap.size wr (wr.alloc (.cells #[] 9))) := (Below.refl _ _).alloc (Nat.le_refl _) _
     clear hfull HOR HSBR HRT
     rename World => wq
     go_upto_block 6 with fail
     generalize (wq.alloc (.cells #[] 9)) = w5 at HS0 HSB1 ⊢
     generalize hgq : wq.heap.size = gq at HS0 HSB1 ⊢
     have HGQ := hid hgq
     clear hgq
     go_wp2_with fail
     go_loopw [15, 16] (fun sv iv wr => ∃ (i : Nat) (sa : Option Addr) (sc : Nat), i ≤ O.length ∧ sv = .slice sa i sc ∧ iv = .int .i64 i ∧ Hid (wr.ownsRow gq 9 1 (.slice sa i sc) i (svals ((O.map (·.id)).take i))) ∧ Hid (Below gq wq wr)) (fun _ iv _ => O.length - (intOf iv).toNat)
     case atStart => exact ⟨0, _, 0, Nat.zero_le _, rfl, rfl, HS0, HSB1⟩
     case round =>
      obtain ⟨i, sa, sc, hi, rfl, rfl, HSO, HSW⟩ := hrel
      have HSWW : Hid (Below wq.heap.size wq wr) := by rw [HGQ.out]; exact HSW.out
      have hgw : gq ≤ wr.heap.size := by have := HSW.out.size; rw [HGQ.out] at this; exact this
      by_cases hlt : i < O.length
      ·have ci : (i : Int) < O.length := by omega
       have ci0 : (0 : Int) ≤ (i : Int) := by omega
       obtain ⟨-, -, h3⟩ := HFO.out.later HSWW.out
       obtain ⟨eb, eoff, rfl, hcell⟩ := h3.resolve_left (by omega)
       obtain ⟨q0, -, -⟩ := hcell i hlt
       have HTS : Hid (svals ((O.map (·.id)).take (i + 1)) = svals ((O.map (·.id)).take i) ++ [.string (O.getD i noFc).id]) := by
        have hil : i < (O.map (·.id)).length := by rw [List.length_map]; exact hlt
        show _ = _
        rw [List.take_succ_eq_append_getElem hil]
        unfold svals
        rw [List.map_append, List.getElem_map, List.getD_eq_getElem?_getD, List.getElem?_eq_getElem hlt]; rfl
       obtain ⟨x, hx⟩ : ∃ x, (O.getD i noFc).id = x := ⟨_, rfl⟩
       rw [hx] at q0 HTS
       clear hcell h3 hx
       go_wp2_with (at_builtin; refine wpList_append_own _ rfl (.tmp 116) (.tmp 122) 40 rfl gq 9 is0 (.string ⟨#[]⟩) 1 16 Tryz.underlying40 his0 hzs0 hzs1 hzs2 rfl (by decide) (.slice sa i sc) _ _ rfl (HSO.out.alloc _) ⟨wr.heap.size, 0, none⟩ 1 1 [.string x] rfl rfl (cellNew1 _ _ _) (one_bytes rfl) (by unfold maxLen; omega) (by omega) (by rw [World.size_alloc]; omega) ?_; intro v' w9 hown' hgrow _; have HOWN := hid hown'; have HGR := hid hgrow; clear hown' hgrow)
       obtain ⟨va', vc', rfl, hvc'⟩ := own_slice' HOWN.out
       have HO9 : Hid (w9.ownsRow gq 9 1 (.slice va' (i + 1) vc') (i + 1) (svals ((O.map (·.id)).take (i + 1)))) := by
        rw [HTS.out]; exact HOWN.out
       have HB9 : Hid (Below gq wq w9) := below_grown1 HSW.out HSO.out _ hgw HGR.out
       go_roundw
       case rel => first | exact ⟨i + 1, va', vc', by omega, rfl, by go_num, HO9, HB9⟩ | ((repeat apply Exists.intro); exact ⟨⟨i + 1, va', vc', by omega, rfl, by go_num, HO9, HB9⟩, rfl⟩)
       case measure => simp [intOf]; omega
      ·have hin : O.length = i := by omega
       subst hin
       have ci : ¬ (O.length : Int) < O.length := by omega
       have HST9 : Hid (StrsAt wr sa O.length (O.map (·.id))) := by
        have h := HSO.out
        have hlm : (O.map (·.id)).length = O.length := List.length_map ..
        rw [List.take_of_length_le (by rw [hlm]; exact Nat.le_refl _), ← hlm] at h
        obtain ⟨a9, c9, e9, h9⟩ := own_strs h (by rw [hlm]; omega)
        injection e9 with e91 _ _
        rw [hlm, ← e91] at h9; exact h9
       have HBF : Hid (Below w.heap.size w wr) := below_then HBW.out HSWW.out
       go_wp2_with fail
       go_ret2
       exact ⟨0, _, _, _, _, HLI.out, rfl, HST9.out, HBF.out⟩
end Go.Proofs.YtmpjdoiogbbcoaaGreatDoor
