/- Texts in a row: LkQ, LkF, LkG, LkH, LkR, LwR. -/
import Derived.Test.YtlenfiiocmchdaaGreatDoorMcK
import Derived.Deep.DeepCutAuto
import Derived.Deep.CutBlock
import Derived.BigQuiet
/- Admit: its plain steps; a source that is asked for short ids alone. -/
namespace Go.Proofs.YtlenfiiocmchdaaGreatDoor
open Go.RowKit Book Pap Ojt Sn
set_option linter.unusedVariables false
set_option linter.unusedSimpArgs false

theorem getI_took {came : List Sw.It} {t : ByteArray} (h : Sw.getI came (Sw.idOf t) = none) : Sw.getI (Sw.took came t) = fun q => if q = Sw.idOf t then some t else Sw.getI came q := by
  funext q
  unfold Sw.took
  rw [h, if_pos none_none, Sw.getI_snoc]
  by_cases e : q = Sw.idOf t
  · rw [if_pos e, e, h]; simp
  · rw [if_neg e]
    cases Sw.getI came q with
    | none => simp [Ne.symm e]
    | some u => rfl
theorem took_old {came : List Sw.It} {t u : ByteArray} (h : Sw.getI came (Sw.idOf t) = some u) : Sw.took came t = came := by
  unfold Sw.took
  rw [h, if_neg (by simp)]
theorem brought_new {G : Sw.Src} {came out : List Sw.It} {t : ByteArray} (h : (Sw.over came G (Sw.idOf t)).isSome = false) : Sw.brought G came out t = out ++ [⟨Sw.idOf t, t⟩] := by
  unfold Sw.brought
  rw [if_pos (by cases hh : Sw.over came G (Sw.idOf t); rfl; rw [hh] at h; cases h)]
theorem brought_old {G : Sw.Src} {came out : List Sw.It} {t : ByteArray} (h : (Sw.over came G (Sw.idOf t)).isSome = true) : Sw.brought G came out t = out := by
  unfold Sw.brought
  rw [if_neg (by cases hh : Sw.over came G (Sw.idOf t); rw [hh] at h; cases h; simp)]
theorem admitF_bad {G : Sw.Src} {t : ByteArray} {r : List ByteArray} {came out : List Sw.It} {er : Int} (h : Sw.errAt G came t = er) (he : er ≠ 0) : Sw.admitF G (t :: r) came out = ([], er) := by
  show (if Sw.errAt G came t ≠ 0 then ([], Sw.errAt G came t) else _) = _
  rw [h, if_pos he]
theorem admitF_ok {G : Sw.Src} {t : ByteArray} {r : List ByteArray} {came out : List Sw.It} (h : Sw.errAt G came t = 0) : Sw.admitF G (t :: r) came out = Sw.admitF G r (Sw.took came t) (Sw.brought G came out t) := by
  show (if Sw.errAt G came t ≠ 0 then ([], Sw.errAt G came t) else _) = _
  rw [h, if_neg (by simp)]
theorem errAt_long {G : Sw.Src} {came : List Sw.It} {t : ByteArray} (h : 131072 < t.size) : Sw.errAt G came t = 5 := by unfold Sw.errAt; rw [if_pos h]
theorem errAt_form {G : Sw.Src} {came : List Sw.It} {t : ByteArray} (h : ¬ 131072 < t.size) (hd : Sw.decO t = none) : Sw.errAt G came t = 4 := by unfold Sw.errAt; rw [if_neg h, hd]
theorem errAt_new {G : Sw.Src} {came : List Sw.It} {t : ByteArray} {x : Ob} (h : ¬ 131072 < t.size) (hd : Sw.decO t = some x) (hn : (Sw.over came G (Sw.idOf t)).isSome = false) : Sw.errAt G came t = Sw.fits (Sw.over came G) x := by
  unfold Sw.errAt; rw [if_neg h, hd]
  simp only
  rw [if_pos (by cases hh : Sw.over came G (Sw.idOf t); rfl; rw [hh] at hn; cases hn)]
theorem errAt_old {G : Sw.Src} {came : List Sw.It} {t : ByteArray} {x : Ob} (h : ¬ 131072 < t.size) (hd : Sw.decO t = some x) (hn : (Sw.over came G (Sw.idOf t)).isSome = true) : Sw.errAt G came t = 0 := by
  unfold Sw.errAt; rw [if_neg h, hd]
  simp only
  rw [if_neg (by cases hh : Sw.over came G (Sw.idOf t); rw [hh] at hn; cases hn; simp)]
theorem fitsK_err {G : Sw.Src} {k : Lnk} {r : List Lnk} {hs : List Int} {x : Ob} {er : Int} (h : Sw.look G k.id = (er, x)) (he : er ≠ 0) : Sw.fitsK G (k :: r) hs = (er, hs) := by
  unfold Sw.fitsK; rw [h, if_pos he]
theorem fitsK_kind {G : Sw.Src} {k : Lnk} {r : List Lnk} {hs : List Int} {x : Ob} (h : Sw.look G k.id = (0, x)) (hk : x.kind ≠ k.kind) : Sw.fitsK G (k :: r) hs = (22, hs) := by
  unfold Sw.fitsK; rw [h, if_neg (by simp), if_pos hk]
theorem fitsK_com {G : Sw.Src} {k : Lnk} {r : List Lnk} {hs : List Int} {x : Ob} (h : Sw.look G k.id = (0, x)) (hk : x.kind = k.kind) (h3 : k.kind = 3) : Sw.fitsK G (k :: r) hs = Sw.fitsK G r (hs ++ [x.height]) := by
  conv => lhs; unfold Sw.fitsK
  rw [h, if_neg (by simp), if_neg (by simp [hk]), if_pos h3]
theorem fitsK_one {G : Sw.Src} {k : Lnk} {r : List Lnk} {hs : List Int} {x : Ob} (h : Sw.look G k.id = (0, x)) (hk : x.kind = k.kind) (h3 : k.kind ≠ 3) : Sw.fitsK G (k :: r) hs = Sw.fitsK G r hs := by
  conv => lhs; unfold Sw.fitsK
  rw [h, if_neg (by simp), if_neg (by simp [hk]), if_neg h3]
theorem swlook_good {G : Sw.Src} {id : ByteArray} {x : Ob} (h : Sw.look G id = (0, x)) : good x = true := by
  unfold Sw.look at h
  split at h
  · injection h with h _; cases h
  · split at h
    · injection h with h _; cases h
    · rename_i y hd
      injection h with _ h
      rw [← h]; exact dec_good hd
/-- an interface value is a source for ids that are not long -/
def SrcIn (w : World) (t : TypeId) (rv : Value) (G : Sw.Src) : Prop :=
  ∃ f r, (∀ W, (method 458 t rv "Get").run Tryz.prog W = .ok (f, r) W) ∧ (∀ args W, (callFunc f args).run Tryz.prog W = .ok (.enter f args) W) ∧ ∀ id W, id.size ≤ 1000000 → Below w.heap.size w W → Calls Tryz.prog f #[r, .string id] W (GetOut G id W)
theorem SrcIn.later {w w' : World} {t : TypeId} {rv : Value} {G : Sw.Src} (h : SrcIn w t rv G) (hb : Below w.heap.size w w') : SrcIn w' t rv G := by
  obtain ⟨f, r, h1, h2, h3⟩ := h
  exact ⟨f, r, h1, h2, fun id W hi hW => h3 id W hi (below_then hb hW)⟩
theorem SrcAt.srcIn {w : World} {t : TypeId} {rv : Value} {G : Sw.Src} (h : SrcAt w t rv G) : SrcIn w t rv G := by
  obtain ⟨f, r, h1, h2, h3⟩ := h
  exact ⟨f, r, h1, h2, fun id W _ hW => h3 id W hW⟩
theorem over_sz {came : List Sw.It} {G : Sw.Src} (hc : ∀ x ∈ came, x.data.size ≤ 1000000000) (hz : SrcSz G) : SrcSz (Sw.over came G) := fun id t h => by
  unfold Sw.over at h
  cases hg : Sw.getI came id with
  | some u =>
    rw [hg] at h
    cases h
    exact hc _ (Sw.getI_some hg)
  | none =>
    rw [hg] at h
    exact hz id t h
theorem took_mem {came : List Sw.It} {t : ByteArray} {x : Sw.It} (h : x ∈ Sw.took came t) : x ∈ came ∨ x = ⟨Sw.idOf t, t⟩ := by
  unfold Sw.took at h
  split at h
  · rcases List.mem_append.1 h with h | h
    · exact .inl h
    · exact .inr (List.mem_singleton.1 h)
  · exact .inl h
end Go.Proofs.YtlenfiiocmchdaaGreatDoor
/- An object looked up by its id (sweep.look); a source with what came ahead (hall.Get). -/
namespace Go.Proofs.YtlenfiiocmchdaaGreatDoor
open Go.RowKit Book Pap Ojt Sn
set_option linter.unusedVariables false
set_option linter.unusedSimpArgs false

theorem swlook_results (tmps : Array Value) (g : Nat) (er : Int) (x : Ob) (ev pv : Value) (w : World) (h2 : tmps.getD 4 undef = .pointer (some ⟨g, 0, none⟩)) (h3 : tmps.getD 5 undef = .int .i64 er) (H : Blk w g 103 (obCs x ev pv)) : (results Tryz.f140 tmps).run Tryz.prog w = .ok (.tuple #[.agg (obCs x ev pv), .int .i64 er]) w := by
  have c0 : w.cell? ⟨g, 0, none⟩ = some (.int .i64 x.kind) := Blk.cell H 0
  have c1 : w.cell? ⟨g, 1, none⟩ = some (.string x.data) := Blk.cell H 1
  have c2 : w.cell? ⟨g, 2, none⟩ = some ev := Blk.cell H 2
  have c3 : w.cell? ⟨g, 3, none⟩ = some (.string x.tree) := Blk.cell H 3
  have c4 : w.cell? ⟨g, 4, none⟩ = some pv := Blk.cell H 4
  have c5 : w.cell? ⟨g, 5, none⟩ = some (.int .i64 x.height) := Blk.cell H 5
  have c6 : w.cell? ⟨g, 6, none⟩ = some (.string x.note) := Blk.cell H 6
  have h2' : tmps[4]?.getD undef = .pointer (some ⟨g, 0, none⟩) := by simpa using h2
  have h3' : tmps[5]?.getD undef = .int .i64 er := by simpa using h3
  simp [results, Tryz.results140, go_sem, h2', h3', c0, c1, c2, c3, c4, c5, c6, obCs]
set_option maxRecDepth 100000 in
set_option maxHeartbeats 8000000 in
theorem swlook_any (t : TypeId) (rv : Value) (G : Sw.Src) (id : ByteArray) (w : World) (hs : SrcIn w t rv G) (hz : SrcSz G) (his : id.size ≤ 1000000) : Calls Tryz.prog 140 #[.iface t rv, .string id] w (LookOut w (Sw.look G id).2 (Sw.look G id).1) := by
  obtain ⟨f, r, hm, hen, hget⟩ := hs
  have HGT := hid (fun W hW => hget id W his hW)
  have HLK : Hid (Sw.look G id = match G id with | none => (21, zero) | some t => match Sw.decO t with | none => (4, zero) | some x => (0, x)) := rfl
  clear hget
  go_enter Tryz.func140, Tryz.ntmps140
  go_upto_region 1 with fail
  obtain ⟨g, hg⟩ : ∃ g, w.heap.size = g := ⟨_, rfl⟩
  have HG := hid hg
  have HZ1 : Hid (Blk (w.alloc (.cells (obCs zero (.slice none 0 0) (.slice none 0 0)) 103)) g 103 (obCs zero (.slice none 0 0) (.slice none 0 0))) := by
    have := Blk.new w 103 (obCs zero (.slice none 0 0) (.slice none 0 0)); rw [hg] at this; exact this
  have HB1 : Hid (Below g w (w.alloc (.cells (obCs zero (.slice none 0 0) (.slice none 0 0)) 103))) := (Below.refl _ _).alloc (Nat.le_of_eq hg.symm) _
  rw [hg]
  rw [zero_cs] at HZ1 HB1
  clear hg
  generalize (w.alloc (.cells #[.int .i64 0, .string ⟨#[]⟩, .slice none 0 0, .string ⟨#[]⟩, .slice none 0 0, .int .i64 0, .string ⟨#[]⟩] 103)) = w1 at HZ1 HB1 ⊢
  have hgl1 := Blk.lt HZ1.out
  go_wp2_with fail
  refine (HGT.out w1 (by rw [HG.out]; exact HB1.out)).mono ?_; rintro e w2 ⟨rfl, hb2⟩
  have HZ2 : Hid (Blk w2 g 103 #[.int .i64 0, .string ⟨#[]⟩, .slice none 0 0, .string ⟨#[]⟩, .slice none 0 0, .int .i64 0, .string ⟨#[]⟩]) := (hb2.block g hgl1).trans HZ1.out
  have HB2 : Hid (Below g w w2) := HB1.out.trans (hb2.mono (Nat.le_of_lt hgl1))
  clear hb2 HZ1 HB1
  cases hG : G id with
  | none =>
    rw [hG] at HLK
    have HL : Hid (Sw.look G id = (21, zero)) := HLK.out
    clear HLK
    obtain ⟨wz, hwz⟩ : ∃ wz, w2.setRow g (obCs zero (.slice none 0 0) (.slice none 0 0)) = wz := ⟨_, rfl⟩
    have HBZ : Hid (Blk wz g 103 (obCs zero (.slice none 0 0) (.slice none 0 0))) := by rw [← hwz]; exact setRow_heap _ _ _ _ _ _ HZ2.out
    have HLZ : Hid (Below g w wz) := by rw [← hwz]; exact below_setRow HB2.out (Nat.le_refl _) _
    have HWZ := hid hwz
    clear hwz
    go_wp2_with (first
      | (refine wpList_store_row rfl _ (.tmp 4) (.tmp 16) rfl g (obCs zero (.slice none 0 0) (.slice none 0 0)) rfl rfl 103 (obCs zero (.slice none 0 0) (.slice none 0 0)) HZ2.out (Tryz.infoObj _ _ _) rfl (obcs_one _ _ _ _ _ _ _) ?_; rw [HWZ.out]))
    go_wp2_with fail
    refine bodyPost_ret (v := .tuple #[.agg (obCs zero (.slice none 0 0) (.slice none 0 0)), .int .i64 21]) ?hr1 rfl ⟨.slice none 0 0, .slice none 0 0, ?_, ?_, ?_, fun k hk => by simp [Value.ownBlock] at hk⟩
    case hr1 => exact swlook_results _ g 21 zero _ _ wz rfl rfl HBZ.out
    · rw [HL.out]
    · rw [HL.out]; exact zero_at _
    · rw [HG.out]; exact HLZ.out
  | some tx =>
    have hzt := hz id tx hG
    rw [hG] at HLK
    clear hz hG
    obtain ⟨er, x, hlx⟩ : ∃ er x, Sw.look G id = (er, x) := ⟨_, _, rfl⟩
    have HDX : Hid (decR tx.data.toList = (x, er)) := by
      show _ = _
      rw [decO_R]
      have h := HLK.out
      rw [hlx] at h
      simp only at h
      cases hd : Sw.decO tx with
      | none => rw [hd] at h; simp only at h ⊢; cases h; rfl
      | some y => rw [hd] at h; simp only at h ⊢; cases h; rfl
    have HDC := hid (decode_any tx hzt w2)
    have HLX := hid hlx
    clear HLK hlx
    go_wp2_with fail
    refine HDC.out.mono ?_; rintro e w3 ⟨x', ev, pv, er', hdr, rfl, hO3, hb3, hf3⟩
    rw [HDX.out] at hdr
    obtain ⟨hd1, hd2⟩ := Prod.mk.inj hdr
    subst x'
    subst er'
    have HO3 := hid hO3
    obtain ⟨ea, en, ec, pa, pn, pc, rfl, -, rfl, -⟩ := hO3
    have hgl2 := Blk.lt HZ2.out
    have HZ3 : Hid (Blk w3 g 103 (obCs zero (.slice none 0 0) (.slice none 0 0))) := by rw [zero_cs]; exact (hb3.block g hgl2).trans HZ2.out
    have HB3 : Hid (Below g w w3) := HB2.out.trans (hb3.mono (Nat.le_of_lt hgl2))
    have HF3 : Hid (∀ k, ((Value.slice ea en ec).ownBlock = some k ∨ (Value.slice pa pn pc).ownBlock = some k) → g < k) := fun k hk => by have := hf3 k hk; omega
    clear hdr hb3 hf3 HDC HZ2 HB2
    obtain ⟨wz, hwz⟩ : ∃ wz, w3.setRow g (obCs x (.slice ea en ec) (.slice pa pn pc)) = wz := ⟨_, rfl⟩
    have HBZ : Hid (Blk wz g 103 (obCs x (.slice ea en ec) (.slice pa pn pc))) := by rw [← hwz]; exact setRow_heap _ _ _ _ _ _ HZ3.out
    have HLZ : Hid (Below g w wz) := by rw [← hwz]; exact below_setRow HB3.out (Nat.le_refl _) _
    have HOZ : Hid (ObAt wz (.slice ea en ec) (.slice pa pn pc) x) := by rw [← hwz]; exact HO3.out.far (fun k hk => by have := HF3.out k (.inl hk); omega) (fun k hk => by have := HF3.out k (.inr hk); omega) _
    have HWZ := hid hwz
    clear hwz
    go_wp2_with (first
      | (refine wpList_store_row rfl _ (.tmp 4) (.tmp 19) rfl g (obCs x (.slice ea en ec) (.slice pa pn pc)) rfl rfl 103 (obCs zero (.slice none 0 0) (.slice none 0 0)) HZ3.out (Tryz.infoObj _ _ _) rfl (obcs_one _ _ _ _ _ _ _) ?_; rw [HWZ.out]))
    go_wp2_with fail
    refine bodyPost_ret (v := .tuple #[.agg (obCs x (.slice ea en ec) (.slice pa pn pc)), .int .i64 er]) ?hr3 rfl ⟨.slice ea en ec, .slice pa pn pc, by rw [HLX.out], by rw [HLX.out]; exact HOZ.out, by rw [HG.out]; exact HLZ.out, fun k hk => by rw [HG.out]; exact Nat.le_of_lt (HF3.out k hk)⟩
    case hr3 => exact swlook_results _ g er x _ _ wz rfl rfl HBZ.out
/-- the cells of a hall -/
def hallCs (t : TypeId) (rv : Value) (m : Nat) : Array Value := #[.iface t rv, .map (some m)]
set_option maxRecDepth 100000 in
set_option maxHeartbeats 8000000 in
theorem hallget_any (t : TypeId) (rv : Value) (G : Sw.Src) (m n : Nat) (came : List Sw.It) (id : ByteArray) (w : World) (hs : SrcIn w t rv G) (hm : StrMap w m n (Sw.getI came)) (his : id.size ≤ 1000000) :
    Calls Tryz.prog 83 #[.agg (hallCs t rv m), .string id] w (GetOut (Sw.over came G) id w) := by
  have hb1 : Below w.heap.size w (w.alloc (.cells (hallCs t rv m) 155)) := (Below.refl _ _).alloc (Nat.le_refl _) _
  have HX1 : Hid (Blk (w.alloc (.cells (hallCs t rv m) 155)) w.heap.size 155 (hallCs t rv m)) := Blk.new w _ _
  have hm1 := hm.later hb1
  have hs1 := hs.later hb1
  have hlk := strMap_get2 hm1 id (by unfold maxLen; omega)
  obtain ⟨f, r, hmm, hen, hget⟩ := hs1
  have HGT := hid (fun W hW => hget id W his hW)
  have HB1 := hid hb1
  have HOV : Hid (Sw.over came G id = match Sw.getI came id with | some t => some t | none => G id) := rfl
  unfold hallCs at hlk HX1 HGT HB1 ⊢
  clear hget hm1 hm hs hb1
  go_enter Tryz.func83, Tryz.ntmps83
  go_upto_region 1 with fail
  generalize (w.alloc (.cells #[.iface t rv, .map (some m)] 155)) = w1 at HX1 hlk HGT HB1 ⊢
  obtain ⟨g, hg⟩ : ∃ g, w.heap.size = g := ⟨_, rfl⟩
  have HG := hid hg
  rw [hg] at HX1 HB1 ⊢
  clear hg
  have k0 : w1.cell? ⟨g, 0, none⟩ = some (.iface t rv) := Blk.cell HX1.out 0
  have k1 : w1.cell? ⟨g, 1, none⟩ = some (.map (some m)) := Blk.cell HX1.out 1
  cases hgc : Sw.getI came id with
  | some u =>
    rw [hgc] at hlk HOV
    simp only [Option.getD_some, Option.isSome_some] at hlk
    have HR : Hid (Sw.over came G id = some u) := HOV.out
    clear HOV hgc
    go_wp2_with fail
    go_ret2
    unfold GetOut
    rw [HR.out]
    exact ⟨rfl, by rw [HG.out]; exact HB1.out⟩
  | none =>
    rw [hgc] at hlk HOV
    simp only [Option.getD_none, Option.isSome_none] at hlk
    have HR : Hid (Sw.over came G id = G id) := HOV.out
    clear HOV hgc
    go_wp2_with fail
    refine (HGT.out w1 (Below.refl _ _)).mono ?_; rintro e w2 ⟨rfl, hb2⟩
    have HB2 : Hid (Below g w w2) := HB1.out.trans (hb2.mono (Nat.le_of_lt (Blk.lt HX1.out)))
    clear hb2
    go_wp2_with fail
    go_ret2
    unfold GetOut
    rw [HR.out]
    exact ⟨rfl, by rw [HG.out]; exact HB2.out⟩
theorem hall_src (t : TypeId) (rv : Value) (G : Sw.Src) (m n : Nat) (came : List Sw.It) (w : World) (hs : SrcIn w t rv G) (hm : StrMap w m n (Sw.getI came)) : SrcIn w 155 (.agg (hallCs t rv m)) (Sw.over came G) :=
  ⟨83, .agg (hallCs t rv m), fun W => by kernel_rfl, enters_of Tryz.func83 (by kernel_rfl) rfl, fun id W hi hW => hallget_any t rv G m n came id W (hs.later hW) (hm.later hW) hi⟩
end Go.Proofs.YtlenfiiocmchdaaGreatDoor
/- Whether an object may come: sweep.fits. -/
namespace Go.Proofs.YtlenfiiocmchdaaGreatDoor
open Go.RowKit Book Pap Ojt Sn
set_option linter.unusedVariables false
set_option linter.unusedSimpArgs false

theorem links_few (x : Ob) : (links x).length ≤ 1000000 := by
  cases hg : good x
  · unfold links; rw [hg, if_neg (by simp)]; exact Nat.zero_le _
  · rw [← ddp_links hg]
    have h1 := ddp_le (sortL (rawLinks x)) (sortL (rawLinks x)).length
    have h2 := (sortL_perm (rawLinks x)).length_eq
    have h3 := raw_few hg
    omega
theorem links_ids {x : Ob} {k : Lnk} (h : k ∈ links x) : k.id.size = 32 := by
  cases hg : good x
  · unfold links at h; rw [hg, if_neg (by simp)] at h; cases h
  · have h := (links_mem hg k).1 h
    unfold rawLinks at h
    split at h
    · rename_i h2
      obtain ⟨e, he, rfl⟩ := List.mem_map.1 h
      exact (goodEnt_facts ((good_tree hg h2).2 e he)).2.2.2
    · split at h
      · rename_i h3
        have hc := good_commit hg h3
        rcases List.mem_cons.1 h with rfl | h
        · exact hc.2.2.2.2.1
        · obtain ⟨p, hp, rfl⟩ := List.mem_map.1 h
          exact hc.2.1 p hp
      · cases h
/-- links in memory -/
def LksAt (w : World) (a : Option Addr) (n : Nat) (l : List Lnk) : Prop :=
  l.length = n ∧ (n = 0 ∨ ∃ b off, a = some ⟨b, off, none⟩ ∧ ∀ j, j < n → w.cell? ⟨b, off + j * 2, none⟩ = some (.int .i64 (l.getD j noLk).kind) ∧ w.cell? ⟨b, off + j * 2 + 1, none⟩ = some (.string (l.getD j noLk).id))
theorem LksAt.later {w w' : World} {a : Option Addr} {n : Nat} {l : List Lnk} (h : LksAt w a n l) (hb : Below w.heap.size w w') : LksAt w' a n l := by
  obtain ⟨h1, h3⟩ := h
  refine ⟨h1, h3.imp id ?_⟩
  rintro ⟨b, off, ha, hc⟩
  refine ⟨b, off, ha, fun j hj => ?_⟩
  obtain ⟨c0, c1⟩ := hc j hj
  exact ⟨(hb.cell (World.block_lt_of_cell? w _ c0)).trans c0, (hb.cell (World.block_lt_of_cell? w _ c1)).trans c1⟩
theorem own_lks {w : World} {B : Nat} {v : Value} {l : List Lnk} (h : w.ownsRow B 213 2 v l.length (lkvals l)) : ∃ a c, v = .slice a l.length c ∧ LksAt w a l.length l := by
  have h' := h
  rcases h.2 with ⟨rfl, h0⟩ | ⟨g, cap, cur, rfl, hb, hg, hn, hc, hsz, htk⟩
  · exact ⟨none, 0, by rw [h0], rfl, .inl h0⟩
  · refine ⟨_, _, rfl, rfl, .inr ⟨g, 0, rfl, fun j hj => ?_⟩⟩
    obtain ⟨h1, h2⟩ := lkvals_get l j hj
    have c0 := h'.cellAt (j * 2) (by omega)
    have c1 := h'.cellAt (j * 2 + 1) (by omega)
    rw [Nat.zero_add]
    exact ⟨c0.trans h1, c1.trans h2⟩
def FitsOut (w : World) (r : Int) (e : Ending) (w' : World) : Prop := e = .returned (.int .i64 r) ∧ Below w.heap.size w w'
theorem fits_err {G : Sw.Src} {x : Ob} {er : Int} {H : List Int} (h : Sw.fitsK G (links x) [] = (er, H)) (he : er ≠ 0) : Sw.fits G x = er := by
  unfold Sw.fits; rw [h, if_pos he]
theorem fits_ok {G : Sw.Src} {x : Ob} {H : List Int} (h : Sw.fitsK G (links x) [] = (0, H)) : Sw.fits G x = if x.kind = 3 ∧ x.height ≠ heightL H then 41 else 0 := by
  unfold Sw.fits; rw [h, if_neg (by simp)]
set_option maxRecDepth 100000 in
set_option maxHeartbeats 8000000 in
theorem fits_any (t : TypeId) (rv : Value) (G : Sw.Src) (hz : SrcSz G) (x : Ob) (ev pv : Value) (w : World) (hs : SrcIn w t rv G) (h : ObAt w ev pv x) (hn : ObN x) :
    Calls Tryz.prog 84 #[.iface t rv, .agg (obCs x ev pv)] w (FitsOut w (Sw.fits G x)) := by
  obtain ⟨i0, hi0, hz0, hz1, hz2⟩ := info_parts Tryz.infoInt15
  have hO := h
  obtain ⟨ea, en, ec, pa, pn, pc, rfl, -, rfl, -⟩ := h
  have hb1 : Below w.heap.size w (w.alloc (.cells (obCs x (.slice ea en ec) (.slice pa pn pc)) 103)) := (Below.refl _ _).alloc (Nat.le_refl _) _
  have HX1 : Hid (Blk (w.alloc (.cells (obCs x (.slice ea en ec) (.slice pa pn pc)) 103)) w.heap.size 103 (obCs x (.slice ea en ec) (.slice pa pn pc))) := Blk.new w _ _
  have HO1 := hid (hO.later hb1)
  have HS1 := hid (hs.later hb1)
  have HB1 := hid hb1
  unfold obCs at HX1 HB1 HO1 HS1 ⊢
  clear hO hb1 hs
  have HON := hid hn
  clear hn
  go_enter Tryz.func84, Tryz.ntmps84
  go_upto_region 2 with fail
  generalize (w.alloc (.cells #[.int .i64 x.kind, .string x.data, .slice ea en ec, .string x.tree, .slice pa pn pc, .int .i64 x.height, .string x.note] 103)) = w1 at HX1 HB1 HO1 HS1 ⊢
  obtain ⟨g, hg⟩ : ∃ g, w.heap.size = g := ⟨_, rfl⟩
  have HG := hid hg
  rw [hg] at HX1 HB1 ⊢
  clear hg
  have k0 : w1.cell? ⟨g, 0, none⟩ = some (.int .i64 x.kind) := Blk.cell HX1.out 0
  have k1 : w1.cell? ⟨g, 1, none⟩ = some (.string x.data) := Blk.cell HX1.out 1
  have k2 : w1.cell? ⟨g, 2, none⟩ = some (.slice ea en ec) := Blk.cell HX1.out 2
  have k3 : w1.cell? ⟨g, 3, none⟩ = some (.string x.tree) := Blk.cell HX1.out 3
  have k4 : w1.cell? ⟨g, 4, none⟩ = some (.slice pa pn pc) := Blk.cell HX1.out 4
  have k5 : w1.cell? ⟨g, 5, none⟩ = some (.int .i64 x.height) := Blk.cell HX1.out 5
  have k6 : w1.cell? ⟨g, 6, none⟩ = some (.string x.note) := Blk.cell HX1.out 6
  have HLK := hid (links_any x (.slice ea en ec) (.slice pa pn pc) w1 HO1.out HON.out)
  unfold obCs at HLK
  have HLF := hid (links_few x)
  have HLI : Hid (∀ k ∈ links x, k.id.size = 32) := fun k hk => links_ids hk
  have HFE : Hid (∀ er H, Sw.fitsK G (links x) [] = (er, H) → er ≠ 0 → Sw.fits G x = er) := fun er H h he => fits_err h he
  have HFO : Hid (∀ H, Sw.fitsK G (links x) [] = (0, H) → Sw.fits G x = if x.kind = 3 ∧ x.height ≠ heightL H then 41 else 0) := fun H h => fits_ok h
  unfold LinksOut at HLK
  obtain ⟨L, hL⟩ : ∃ L, links x = L := ⟨_, rfl⟩
  rw [hL] at HLK HLF HLI HFE HFO
  clear hL
  go_wp2_with fail
  refine HLK.out.mono ?_; rintro e w2 ⟨v', rfl, ho2, hb2⟩
  obtain ⟨la, lc, rfl, hlk⟩ := own_lks ho2
  have HL2 := hid hlk
  have HX2 : Hid (Blk w2 g 103 #[.int .i64 x.kind, .string x.data, .slice ea en ec, .string x.tree, .slice pa pn pc, .int .i64 x.height, .string x.note]) := (hb2.block g (Blk.lt HX1.out)).trans HX1.out
  have HS2 := hid (HS1.out.later hb2)
  have HB2 : Hid (Below g w w2) := HB1.out.trans (hb2.mono (Nat.le_of_lt (Blk.lt HX1.out)))
  obtain ⟨n, hn⟩ : ∃ n, L.length = n := ⟨_, rfl⟩
  have HLL := hid hn
  rw [hn] at HL2 HLF ⊢
  clear hn ho2 hb2 HX1 HB1 HO1 HS1 HLK k0 k1 k2 k3 k4 k5 k6 hlk
  have hn6 : n ≤ 1000000 := HLF.out
  have hg2 : g < w2.heap.size := Blk.lt HX2.out
  obtain ⟨B, hB⟩ : ∃ B, w2.heap.size = B := ⟨_, rfl⟩
  have HBe := hid hB
  have hgB : g < B := by omega
  clear hg2 hB
  go_wp2_with fail
  go_loopw [5, 13] (fun hv iv wr => ∃ (i : Nat) (H : List Int), i ≤ n ∧ H.length ≤ i ∧ iv = .int .i64 i ∧ Hid (wr.ownsRow B 3 1 hv H.length (nvals H)) ∧ Hid (Below B w2 wr) ∧ Hid (Sw.fitsK G L [] = Sw.fitsK G (L.drop i) H) ∧ Hid (∀ z ∈ H, 0 ≤ z ∧ z ≤ 1073741824)) (fun _ iv _ => n - (intOf iv).toNat)
  case atStart => exact ⟨0, [], Nat.zero_le _, Nat.le_refl _, rfl, World.ownsRow_nil _ _ _ _, Below.refl _ _, rfl, fun z hz => by cases hz⟩
  case round =>
    obtain ⟨i, H, hi, hHi, rfl, HO, HB, HE, HZ⟩ := hrel
    obtain ⟨va, vc, rfl, hvc⟩ := own_slice' HO.out
    have hBr : B ≤ wr.heap.size := by have := HB.out.size; rw [HBe.out] at this; exact this
    have HBr : Hid (Below w2.heap.size w2 wr) := by rw [HBe.out]; exact HB
    by_cases hlt : i < n
    · have ci : (i : Int) < n := by omega
      have ci0 : (0 : Int) ≤ (i : Int) := by omega
      obtain ⟨-, h3⟩ := HL2.out.later HBr.out
      obtain ⟨lb, loff, rfl, hcell⟩ := h3.resolve_left (by omega)
      obtain ⟨q0, q1⟩ := hcell i hlt
      have hil : i < L.length := by rw [HLL.out]; exact hlt
      have HT : Hid (L.drop i = L.getD i noLk :: L.drop (i + 1)) := by
        show _ = _
        rw [List.drop_eq_getElem_cons hil, List.getD_eq_getElem?_getD, List.getElem?_eq_getElem hil]; rfl
      have hid32 := HLI.out (L.getD i noLk) (by rw [List.getD_eq_getElem?_getD, List.getElem?_eq_getElem hil]; exact List.getElem_mem hil)
      obtain ⟨y, hy⟩ : ∃ y, L.getD i noLk = y := ⟨_, rfl⟩
      rw [hy] at q0 q1 HT hid32
      have HE1 : Hid (Sw.fitsK G L [] = Sw.fitsK G (y :: L.drop (i + 1)) H) := by show _ = _; rw [HE.out, HT.out]
      obtain ⟨kd, kid⟩ := y
      simp only at q0 q1 hid32
      clear hcell h3 hy HT hil HE
      go_upto_region 5 with fail
      have HXa : Hid (Blk (wr.alloc (.cells #[.int .i64 kd, .string kid] 213)) wr.heap.size 213 #[.int .i64 kd, .string kid]) := Blk.new wr _ _
      have HOa : Hid ((wr.alloc (.cells #[.int .i64 kd, .string kid] 213)).ownsRow B 3 1 (.slice va H.length vc) H.length (nvals H)) := HO.out.alloc _
      have HBa : Hid (Below B w2 (wr.alloc (.cells #[.int .i64 kd, .string kid] 213))) := HB.out.alloc hBr _
      clear HO HB HBr q0 q1
      generalize (wr.alloc (.cells #[.int .i64 kd, .string kid] 213)) = wa at HXa HOa HBa ⊢
      generalize wr.heap.size = e0 at hBr HXa ⊢
      have k1 : wa.cell? ⟨e0, 1, none⟩ = some (.string kid) := Blk.cell HXa.out 1
      obtain ⟨er, xx, hlk⟩ : ∃ er xx, Sw.look G kid = (er, xx) := ⟨_, _, rfl⟩
      have HLK := hid (swlook_any t rv G kid wa (HS2.out.later (by rw [HBe.out]; exact HBa.out)) hz (by omega))
      rw [hlk] at HLK
      go_wp2_with fail
      refine HLK.out.mono ?_; rintro e w3 ⟨ev, pv, rfl, hO3, hb3, hf3⟩
      simp only at hO3 ⊢
      obtain ⟨ea', en', ec', pa', pn', pc', rfl, -, rfl, -⟩ := hO3
      have hea := Blk.lt HXa.out
      have hB3 : B ≤ w3.heap.size := by have := hb3.size; omega
      have HX4 : Hid (Blk (w3.alloc (.cells (obCs xx (.slice ea' en' ec') (.slice pa' pn' pc')) 103)) w3.heap.size 103 (obCs xx (.slice ea' en' ec') (.slice pa' pn' pc'))) := Blk.new w3 _ _
      have HE4 : Hid (Blk (w3.alloc (.cells (obCs xx (.slice ea' en' ec') (.slice pa' pn' pc')) 103)) e0 213 #[.int .i64 kd, .string kid]) := Blk.alloc ((hb3.block e0 hea).trans HXa.out) _
      have HO4 : Hid ((w3.alloc (.cells (obCs xx (.slice ea' en' ec') (.slice pa' pn' pc')) 103)).ownsRow B 3 1 (.slice va H.length vc) H.length (nvals H)) := (own_below HOa.out hb3).alloc _
      have HB4 : Hid (Below B w2 (w3.alloc (.cells (obCs xx (.slice ea' en' ec') (.slice pa' pn' pc')) 103))) := (HBa.out.trans (hb3.mono (by omega))).alloc hB3 _
      unfold obCs at HX4 HE4 HO4 HB4
      simp only [obCs]
      clear hb3 hf3 HLK HXa HOa HBa k1 hea
      go_upto_region 6 with fail
      generalize (w3.alloc (.cells #[.int .i64 xx.kind, .string xx.data, .slice ea' en' ec', .string xx.tree, .slice pa' pn' pc', .int .i64 xx.height, .string xx.note] 103)) = w4 at HX4 HE4 HO4 HB4 ⊢
      generalize w3.heap.size = g4 at HX4 ⊢
      have hB4 : B ≤ w4.heap.size := by have := HB4.out.size; rw [HBe.out] at this; exact this
      have HBF : Hid (Below g w w4) := HB2.out.trans (HB4.out.mono (by omega))
      by_cases he : er = 0
      · subst he
        have HGX := hid (swlook_good hlk)
        have j0 : w4.cell? ⟨g4, 0, none⟩ = some (.int .i64 xx.kind) := Blk.cell HX4.out 0
        have j5 : w4.cell? ⟨g4, 5, none⟩ = some (.int .i64 xx.height) := Blk.cell HX4.out 5
        have l0 : w4.cell? ⟨e0, 0, none⟩ = some (.int .i64 kd) := Blk.cell HE4.out 0
        by_cases hk : xx.kind = kd
        · have q1 : (xx.kind != kd) = false := by simp [hk]
          have q2 : (xx.kind == kd) = true := by simp [hk]
          by_cases h3 : kd = 3
          · have HN : Hid (Sw.fitsK G L [] = Sw.fitsK G (L.drop (i + 1)) (H ++ [xx.height])) := HE1.out.trans (fitsK_com hlk hk h3)
            have hgc := good_commit HGX.out (hk.trans h3)
            have HZ1 : Hid (∀ z ∈ H ++ [xx.height], 0 ≤ z ∧ z ≤ 1073741824) := fun z hz => by
              rcases List.mem_append.1 hz with hz | hz
              · exact HZ.out z hz
              · rw [List.mem_singleton.1 hz]; exact ⟨hgc.2.2.1, hgc.2.2.2.1⟩
            have c3 : (kd == 3) = true := by simp [h3]
            have HK := hid hk; have H3 := hid h3
            clear hk h3 hgc hlk HE1
            go_wp2_with (first
              | (at_builtin; refine wpList_append_own _ rfl (.tmp 38) (.tmp 41) 88 rfl B 3 i0 (.int .i64 0) 1 8 Tryz.underlying88 hi0 hz0 hz1 hz2 rfl (by decide) (.slice va H.length vc) _ _ rfl (HO4.out.alloc _) ⟨w4.heap.size, 0, none⟩ 1 1 [.int .i64 xx.height] rfl rfl (cellNew1 _ _ _) (one_bytes rfl) (by unfold maxLen; omega) (by omega) (by rw [World.size_alloc]; omega) ?_; intro v' w9 hown' hgrow _; have HOWN := hid hown'; have HGR := hid hgrow; clear hown' hgrow))
            obtain ⟨va', vc', rfl, hvc'⟩ := own_slice' HOWN.out
            have HO9 : Hid (w9.ownsRow B 3 1 (.slice va' (H.length + 1) vc') (H ++ [xx.height]).length (nvals (H ++ [xx.height]))) := by
              have h := HOWN.out
              rw [nvals_append, List.length_append]; exact h
            have HB9 : Hid (Below B w2 w9) := below_grown1 HB4.out HO4.out _ hB4 HGR.out
            have hHl : (H ++ [xx.height]).length ≤ i + 1 := by rw [List.length_append]; simp only [List.length_cons, List.length_nil]; omega
            go_roundw
            case rel => first | exact ⟨i + 1, _, by omega, hHl, by go_num, HO9, HB9, HN, HZ1⟩ | ((repeat apply Exists.intro); exact ⟨⟨i + 1, _, by omega, hHl, by go_num, HO9, HB9, HN, HZ1⟩, rfl⟩)
            case measure => simp [intOf]; omega
          · have HN : Hid (Sw.fitsK G L [] = Sw.fitsK G (L.drop (i + 1)) H) := HE1.out.trans (fitsK_one hlk hk h3)
            have c3 : (kd == 3) = false := by simp [h3]
            have HK := hid hk; have H3 := hid h3
            clear hk h3 hlk HE1
            go_wp2_with fail
            go_roundw
            case rel => first | exact ⟨i + 1, _, by omega, by omega, by go_num, HO4, HB4, HN, HZ⟩ | ((repeat apply Exists.intro); exact ⟨⟨i + 1, _, by omega, by omega, by go_num, HO4, HB4, HN, HZ⟩, rfl⟩)
            case measure => simp [intOf]; omega
        · have HF : Hid (Sw.fits G x = 22) := HFE.out 22 H (HE1.out.trans (fitsK_kind hlk hk)) (by decide)
          have q1 : (xx.kind != kd) = true := by simp [hk]
          have q2 : (xx.kind == kd) = false := by simp [hk]
          clear hk hlk HE1
          go_wp2_with fail
          go_ret
          rw [HF.out]
          exact ⟨rfl, by rw [HG.out]; exact HBF.out⟩
      · have HF : Hid (Sw.fits G x = er) := HFE.out er H (HE1.out.trans (fitsK_err hlk he)) he
        have q1 : (er != 0) = true := by simp [he]
        have q2 : (er == 0) = false := by simp [he]
        clear he hlk HE1
        go_wp2_with fail
        go_ret
        rw [HF.out]
        exact ⟨rfl, by rw [HG.out]; exact HBF.out⟩
    · obtain rfl : i = n := by omega
      have ci : ¬ (i : Int) < i := by omega
      have HF : Hid (Sw.fits G x = if x.kind = 3 ∧ x.height ≠ heightL H then 41 else 0) := HFO.out H (by rw [HE.out, List.drop_of_length_le (by rw [HLL.out]; exact Nat.le_refl _)]; rfl)
      have HXr : Hid (Blk wr g 103 #[.int .i64 x.kind, .string x.data, .slice ea en ec, .string x.tree, .slice pa pn pc, .int .i64 x.height, .string x.note]) := (HBr.out.block g (by rw [HBe.out]; exact hgB)).trans HX2.out
      have j0 : wr.cell? ⟨g, 0, none⟩ = some (.int .i64 x.kind) := Blk.cell HXr.out 0
      have j5 : wr.cell? ⟨g, 5, none⟩ = some (.int .i64 x.height) := Blk.cell HXr.out 5
      have HNU : Hid (NumsAt wr va H.length H) := own_nums HO.out
      have HHT := hid (fun q => objheight_any va H.length vc H (wr.drewN q) HNU.out (by omega) (fun z hz => by have := HZ.out z hz; omega))
      have HBF : Hid (Below g w wr) := HB2.out.trans (HBr.out.mono (by rw [HBe.out]; omega))
      clear HE HZ
      obtain ⟨ht, hht⟩ : ∃ h, heightL H = h := ⟨_, rfl⟩
      rw [hht] at HHT HF
      clear hht
      go_wp2_with fail
      by_cases h3 : x.kind = 3
      · have c3 : (x.kind == 3) = true := by simp [h3]
        have c3d : decide (x.kind = 3) = true := by simp [h3]
        by_cases hh : x.height = ht
        · have HF2 : Hid (Sw.fits G x = 0) := by show _ = _; rw [HF.out, if_neg (fun e => e.2 hh)]
          have d1 : (x.height != ht) = false := by simp [hh]
          have d2 : (x.height == ht) = true := by simp [hh]
          clear hh h3 HF
          go_quiet (first | (go_at_call 75; exact Calls.quiet_of_same ((HHT.out _).mono fun _ _ h => ⟨h.1, h.2.symm⟩)))
          go_wp2_with fail
          go_ret
          rw [HF2.out]
          exact ⟨rfl, by rw [HG.out]; exact below_drewN HBF.out _⟩
        · have HF2 : Hid (Sw.fits G x = 41) := by show _ = _; rw [HF.out, if_pos ⟨h3, hh⟩]
          have d1 : (x.height != ht) = true := by simp [hh]
          have d2 : (x.height == ht) = false := by simp [hh]
          clear hh h3 HF
          go_quiet (first | (go_at_call 75; exact Calls.quiet_of_same ((HHT.out _).mono fun _ _ h => ⟨h.1, h.2.symm⟩)))
          go_wp2_with fail
          go_ret
          rw [HF2.out]
          exact ⟨rfl, by rw [HG.out]; exact below_drewN HBF.out _⟩
      · have HF2 : Hid (Sw.fits G x = 0) := by show _ = _; rw [HF.out, if_neg (fun e => h3 e.1)]
        have c3 : (x.kind == 3) = false := by simp [h3]
        have c3d : decide (x.kind = 3) = false := by simp [h3]
        clear h3 HF
        go_quiet (fail)
        go_wp2_with fail
        go_ret
        rw [HF2.out]
        exact ⟨rfl, by rw [HG.out]; exact below_drewN HBF.out _⟩
end Go.Proofs.YtlenfiiocmchdaaGreatDoor
/- Objects that come: sweep.Admit. -/
namespace Go.Proofs.YtlenfiiocmchdaaGreatDoor
open Go.RowKit Book Pap Ojt Sn
set_option linter.unusedVariables false
set_option linter.unusedSimpArgs false

theorem dec_ObN {l : List UInt8} {x : Ob} (h : dec l = some x) : ObN x := by
  have hg := dec_good h
  cases l with
  | nil => cases h
  | cons k s =>
    unfold dec at h
    simp only at h
    by_cases h1 : k = 1
    · rw [if_pos h1] at h
      split at h
      · cases h
        exact ⟨⟨by show (-9223372036854775808 : Int) ≤ 1; decide, by show (1 : Int) ≤ 9223372036854775807; decide⟩, ⟨by show (-9223372036854775808 : Int) ≤ 0; decide, by show (0 : Int) ≤ 9223372036854775807; decide⟩, Nat.zero_le _⟩
      · cases h
    · rw [if_neg h1] at h
      by_cases h2 : k = 2
      · rw [if_pos h2] at h
        split at h
        · cases h
          have ht := good_tree hg rfl
          exact ⟨⟨by show (-9223372036854775808 : Int) ≤ 2; decide, by show (2 : Int) ≤ 9223372036854775807; decide⟩, ⟨by show (-9223372036854775808 : Int) ≤ 0; decide, by show (0 : Int) ≤ 9223372036854775807; decide⟩, Nat.le_trans ht.1 (by decide)⟩
        · cases h
      · rw [if_neg h2] at h
        by_cases h3 : k = 3
        · rw [if_pos h3] at h
          split at h
          · cases h
            have hc := good_commit hg rfl
            exact ⟨⟨by show (-9223372036854775808 : Int) ≤ 3; decide, by show (3 : Int) ≤ 9223372036854775807; decide⟩, ⟨by have := hc.2.2.1; omega, by have := hc.2.2.2.1; omega⟩, Nat.zero_le _⟩
          · cases h
        · rw [if_neg h3] at h; cases h
/-- what Admit hands back -/
def AdmitOut (w : World) (r : List Sw.It × Int) (e : Ending) (w' : World) : Prop :=
  ∃ a c, e = .returned (.tuple #[.slice a r.1.length c, .int .i64 r.2]) ∧ FisAt w' a r.1.length (itFi r.1) ∧ Below w.heap.size w w'
theorem admit_none (w w' : World) (er : Int) (hb : Below w.heap.size w w') : AdmitOut w ([], er) (.returned (.tuple #[.slice none 0 0, .int .i64 er])) w' :=
  ⟨none, 0, rfl, ⟨rfl, by show 0 ≤ 9223372036854775807; omega, .inl rfl⟩, hb⟩
theorem itFi_snoc (l : List Sw.It) (x : Sw.It) : itFi (l ++ [x]) = itFi l ++ [⟨x.id, x.data⟩] := by unfold itFi; rw [List.map_append]; rfl
theorem itFi_len (l : List Sw.It) : (itFi l).length = l.length := by unfold itFi; rw [List.length_map]
theorem own_its {w : World} {B : Nat} {a : Option Addr} {n c : Nat} {l : List Fi} (h : w.ownsRow B 99 2 (.slice a n c) n (fivals l)) (hl : l.length = n) (hm : n ≤ 9223372036854775807) : FisAt w a n l := by
  have h' := h
  rcases h.2 with ⟨e, h0⟩ | ⟨g, cap, cur, e, hb, hg, hn, hc, hsz, htk⟩
  · exact ⟨hl, hm, .inl h0⟩
  · injection e with e1 e2 e3
    subst e1
    refine ⟨hl, hm, .inr ⟨g, 0, rfl, fun j hj => ?_⟩⟩
    obtain ⟨h1, h2⟩ := fivals_get l j (by omega)
    have c0 := h'.cellAt (j * 2) (by omega)
    have c1 := h'.cellAt (j * 2 + 1) (by omega)
    rw [Nat.zero_add]
    exact ⟨c0.trans h1, c1.trans h2⟩
theorem below_map {g m : Nat} {a w w' : World} (h : Below g a w) (hg : w.grownBy w' (some m)) (hgm : g ≤ m) (hgs : g ≤ w.heap.size) : Below g a w' :=
  h.grown hg hgs (fun j hj => by cases hj; exact hgm)
set_option maxRecDepth 100000 in
set_option maxHeartbeats 16000000 in
theorem admit_any (t : TypeId) (rv : Value) (G : Sw.Src) (hz : SrcSz G) (a : Option Addr) (n c : Nat) (L : List ByteArray) (w : World) (hs : SrcAt w t rv G) (hL : StrsAt w a n L) (hn : n ≤ 1000000) (hLz : ∀ s ∈ L, s.size ≤ 1000000000) :
    Calls Tryz.prog 41 #[.iface t rv, .slice a n c] w (AdmitOut w (Sw.admitS G L)) := by
  obtain ⟨i0, hi0, hz0, hz1, hz2⟩ := info_parts Tryz.infoIt
  have hmk : ∀ (T : TypeId) (W : World), (Instr.makeMap T none).run Tryz.prog W = .ok (.map (some W.heap.size)) (W.alloc (.map #[] 0)) := fun T W => run_makeMap T W
  have HS := hid hs
  have HLs := hid hL
  have HLL := hid hL.1
  have HLZ := hid hLz
  clear hs hL hLz
  have HM1 : Hid (StrMap ((w.alloc (.map #[] 0)).alloc (.cells #[.iface t rv, .map (some w.heap.size)] 155)) w.heap.size 0 (Sw.getI [])) := by
    have h : StrMap (w.alloc (.map #[] 0)) w.heap.size 0 (fun _ => none) := MapFn.made w
    exact h.later ((Below.refl _ _).alloc (Nat.le_refl _) _)
  have HX1 : Hid (Blk ((w.alloc (.map #[] 0)).alloc (.cells #[.iface t rv, .map (some w.heap.size)] 155)) (w.alloc (.map #[] 0)).heap.size 155 #[.iface t rv, .map (some w.heap.size)]) := Blk.new _ _ _
  have HB1 : Hid (Below w.heap.size w ((w.alloc (.map #[] 0)).alloc (.cells #[.iface t rv, .map (some w.heap.size)] 155))) := ((Below.refl _ _).alloc (Nat.le_refl _) _).alloc (by rw [World.size_alloc]; omega) _
  have HZG := hid (World.size_alloc w (.map #[] 0))
  go_enter Tryz.func41, Tryz.ntmps41
  go_upto_region 2 with fail
  generalize ((w.alloc (.map #[] 0)).alloc (.cells #[.iface t rv, .map (some w.heap.size)] 155)) = w1 at HM1 HX1 HB1 ⊢
  rw [HZG.out] at HX1
  obtain ⟨g, hg⟩ : ∃ g, w.heap.size = g := ⟨_, rfl⟩
  have HG := hid hg
  rw [hg] at HM1 HX1 HB1 ⊢
  clear hg HZG
  obtain ⟨gh, hge⟩ : ∃ gh, g + 1 = gh := ⟨_, rfl⟩
  have hgh : g < gh := by omega
  rw [hge] at HX1 ⊢
  clear hge
  go_wp2_with fail
  go_loopw [7, 23] (fun ov iv wr => ∃ (i : Nat) (came out : List Sw.It), i ≤ n ∧ out.length ≤ i ∧ iv = .int .i64 i ∧ Hid (wr.ownsRow g 99 2 ov out.length (fivals (itFi out))) ∧ Hid (Blk wr gh 155 #[.iface t rv, .map (some g)]) ∧ Hid (StrMap wr g i (Sw.getI came)) ∧ Hid (Below g w wr) ∧ Hid (Sw.admitS G L = Sw.admitF G (L.drop i) came out) ∧ Hid (∀ x ∈ came, x.data.size ≤ 1000000000)) (fun _ iv _ => n - (intOf iv).toNat)
  case atStart => exact ⟨0, [], [], Nat.zero_le _, Nat.le_refl _, rfl, World.ownsRow_nil _ _ _ _, HX1, HM1, HB1, rfl, fun x hx => by cases hx⟩
  case round =>
    obtain ⟨i, came, out, hi, hoi, rfl, HO, HX, HM, HB, HE, HC⟩ := hrel
    obtain ⟨oa, oc, rfl, hoc⟩ := own_slice' HO.out
    have hgr : g ≤ wr.heap.size := by have := HB.out.size; rw [HG.out] at this; exact this
    have HBw : Hid (Below w.heap.size w wr) := by rw [HG.out]; exact HB
    by_cases hlt : i < n
    · have ci : (i : Int) < n := by omega
      have ci0 : (0 : Int) ≤ (i : Int) := by omega
      have h3 := (HLs.out.later HBw.out).2.2
      obtain ⟨pb, poff, rfl, hcell⟩ := h3.resolve_left (by omega)
      have q0 := hcell i hlt
      have hil : i < L.length := by rw [HLL.out]; exact hlt
      have HT : Hid (L.drop i = L.getD i ByteArray.empty :: L.drop (i + 1)) := by
        show _ = _
        rw [List.drop_eq_getElem_cons hil, List.getD_eq_getElem?_getD, List.getElem?_eq_getElem hil]; rfl
      have hsz := HLZ.out (L.getD i ByteArray.empty) (by rw [List.getD_eq_getElem?_getD, List.getElem?_eq_getElem hil]; exact List.getElem_mem hil)
      obtain ⟨s, hs⟩ : ∃ z, L.getD i ByteArray.empty = z := ⟨_, rfl⟩
      rw [hs] at q0 HT hsz
      have HE1 : Hid (Sw.admitS G L = Sw.admitF G (s :: L.drop (i + 1)) came out) := by show _ = _; rw [HE.out, HT.out]
      clear hs HT hil hcell h3 HE
      by_cases hlong : 131072 < s.size
      · have cl : (131072 : Int) < s.size := by omega
        have HR : Hid (Sw.admitS G L = ([], 5)) := HE1.out.trans (admitF_bad (errAt_long hlong) (by decide))
        go_wp2_with fail
        go_ret2
        rw [HR.out]
        exact admit_none _ _ _ HBw.out
      have cl : ¬ (131072 : Int) < s.size := by omega
      have HDC := hid (decode_any s hsz wr)
      go_wp2_with fail
      refine HDC.out.mono ?_; rintro e w3 ⟨x, ev, pv, er, hdr, rfl, hO3, hb3, hf3⟩
      rw [decO_R] at hdr
      have HO3 := hid hO3
      obtain ⟨ea, en, ec, pa, pn, pc, rfl, -, rfl, -⟩ := hO3
      have HX4 : Hid (Blk (w3.alloc (.cells (obCs x (.slice ea en ec) (.slice pa pn pc)) 103)) w3.heap.size 103 (obCs x (.slice ea en ec) (.slice pa pn pc))) := Blk.new w3 _ _
      have hb4 : Below wr.heap.size wr (w3.alloc (.cells (obCs x (.slice ea en ec) (.slice pa pn pc)) 103)) := hb3.alloc hb3.size _
      have HB4 := hid hb4
      have HO4 : Hid (ObAt (w3.alloc (.cells (obCs x (.slice ea en ec) (.slice pa pn pc)) 103)) (.slice ea en ec) (.slice pa pn pc) x) := HO3.out.later ((Below.refl _ _).alloc (Nat.le_refl _) _)
      unfold obCs at HX4 HB4 HO4
      simp only [obCs]
      clear hb3 hf3 HDC HO3 q0 hb4
      go_upto_region 9 with fail
      generalize (w3.alloc (.cells #[.int .i64 x.kind, .string x.data, .slice ea en ec, .string x.tree, .slice pa pn pc, .int .i64 x.height, .string x.note] 103)) = w4 at HX4 HB4 HO4 ⊢
      generalize w3.heap.size = g4 at HX4 ⊢
      cases hD : Sw.decO s with
      | none =>
        rw [hD] at hdr
        obtain ⟨-, hde⟩ := Prod.mk.inj hdr
        subst hde
        have HR : Hid (Sw.admitS G L = ([], 4)) := HE1.out.trans (admitF_bad (errAt_form hlong hD) (by decide))
        have HBF := hid (below_then HBw.out HB4.out)
        clear hdr hD
        go_wp2_with fail
        go_ret2
        rw [HR.out]
        exact admit_none _ _ _ HBF.out
      | some y =>
        rw [hD] at hdr
        obtain ⟨hdx, hde⟩ := Prod.mk.inj hdr
        subst hde
        subst y
        have HD := hid hD
        have HON : Hid (ObN x) := dec_ObN hD
        have HID := hid (objid_id s hsz w4)
        have HEN : Hid ((Sw.over came G (Sw.idOf s)).isSome = false → Sw.fits (Sw.over came G) x ≠ 0 → Sw.admitS G L = ([], Sw.fits (Sw.over came G) x)) := fun h1 h2 => HE1.out.trans (admitF_bad (errAt_new hlong hD h1) h2)
        have HEA : Hid ((Sw.over came G (Sw.idOf s)).isSome = false → Sw.fits (Sw.over came G) x = 0 → Sw.admitS G L = Sw.admitF G (L.drop (i + 1)) (Sw.took came s) (out ++ [⟨Sw.idOf s, s⟩])) := fun h1 h2 => HE1.out.trans ((admitF_ok ((errAt_new hlong hD h1).trans h2)).trans (by rw [brought_new h1]))
        have HEO : Hid ((Sw.over came G (Sw.idOf s)).isSome = true → Sw.admitS G L = Sw.admitF G (L.drop (i + 1)) (Sw.took came s) out) := fun h1 => HE1.out.trans ((admitF_ok (errAt_old hlong hD h1)).trans (by rw [brought_old h1]))
        have HTN : Hid (Sw.getI came (Sw.idOf s) = none → Sw.getI (Sw.took came s) = fun q => if q = Sw.idOf s then some s else Sw.getI came q) := fun h => getI_took h
        have HTO : Hid (∀ u, Sw.getI came (Sw.idOf s) = some u → Sw.took came s = came) := fun u h => took_old h
        have HTZ : Hid (∀ x ∈ Sw.took came s, x.data.size ≤ 1000000000) := fun z hz => by
          rcases took_mem hz with h | rfl
          · exact HC.out z h
          · exact hsz
        have hids : (Sw.idOf s).size = 32 := idOf_size s
        obtain ⟨id, hid'⟩ : ∃ id, Sw.idOf s = id := ⟨_, rfl⟩
        rw [hid'] at HID HEN HEA HEO HTN HTO hids
        obtain ⟨cm, hcm⟩ : ∃ cm, Sw.took came s = cm := ⟨_, rfl⟩
        rw [hcm] at HEA HEO HTN HTO HTZ
        clear hid' hcm hdr hD HE1
        go_wp2_with fail
        refine HID.out.mono ?_; rintro e w5 ⟨rfl, hb5⟩
        have HB5 := hid (below_then HB4.out hb5)
        have HX5 : Hid (Blk w5 gh 155 #[.iface t rv, .map (some g)]) := (HB5.out.block gh (Blk.lt HX.out)).trans HX.out
        have HM5 := hid (HM.out.later HB5.out)
        have HBw5 := hid (below_then HBw.out HB5.out)
        have HGT := hid (hallget_any t rv G g i came id w5 (HS.out.srcIn.later HBw5.out) HM5.out (by omega))
        unfold hallCs at HGT
        have HXb5 := hid ((hb5.block g4 (Blk.lt HX4.out)).trans HX4.out)
        have HOb5 := hid (HO4.out.later hb5)
        have kh0 : w5.cell? ⟨gh, 0, none⟩ = some (.iface t rv) := Blk.cell HX5.out 0
        have kh1 : w5.cell? ⟨gh, 1, none⟩ = some (.map (some g)) := Blk.cell HX5.out 1
        have hgl4 := Blk.lt HX4.out
        have hgl5 : g4 < w5.heap.size := Nat.lt_of_lt_of_le hgl4 hb5.size
        clear hb5 HID HX4 HO4 HB4 hgl4
        go_wp2_with fail
        refine HGT.out.mono ?_; rintro e w6 ⟨rfl, hb6⟩
        have HB6 := hid (below_then HB5.out hb6)
        have HX6 : Hid (Blk w6 gh 155 #[.iface t rv, .map (some g)]) := (HB6.out.block gh (Blk.lt HX.out)).trans HX.out
        have HM6 := hid (HM.out.later HB6.out)
        have HO6 := hid (own_below HO.out HB6.out)
        have HBw6 := hid (below_then HBw.out HB6.out)
        have HXb6 : Hid (Blk w6 g4 103 #[.int .i64 x.kind, .string x.data, .slice ea en ec, .string x.tree, .slice pa pn pc, .int .i64 x.height, .string x.note]) := (hb6.block g4 hgl5).trans HXb5.out
        have HOb6 := hid (HOb5.out.later hb6)
        clear hb6 HGT kh0 kh1 HX5 HM5 HBw5 HXb5 HOb5 HB5
        have kh0 : w6.cell? ⟨gh, 0, none⟩ = some (.iface t rv) := Blk.cell HX6.out 0
        have kh1 : w6.cell? ⟨gh, 1, none⟩ = some (.map (some g)) := Blk.cell HX6.out 1
        have hlk := strMap_get2 HM6.out id (by unfold maxLen; omega)
        have hg6 : g ≤ w6.heap.size := by have := HBw6.out.size; rw [HG.out] at this; exact this
        have HBg6 : Hid (Below g w w6) := by rw [← HG.out]; exact HBw6.out
        have hmaxi : i < maxLen := by unfold maxLen; omega
        have hidm : id.size ≤ maxLen := by unfold maxLen; omega
        clear HB HBw HX HM HO
        obtain ⟨sm, hsm⟩ : ∃ b, (Sw.over came G id).isSome = b := ⟨_, rfl⟩
        have HSM := hid hsm
        rw [hsm] at HEN HEA HEO ⊢
        clear hsm
        cases sm with
        | true =>
          have HR := hid (HEO.out rfl)
          clear HEN HEA HEO
          cases hgc : Sw.getI came id with
          | some u =>
            have HCM : Hid (cm = came) := HTO.out u hgc
            rw [hgc] at hlk
            simp only [Option.getD_some, Option.isSome_some] at hlk
            rw [HCM.out] at HR HTZ
            have HM7 : Hid (StrMap w6 g (i + 1) (Sw.getI came)) := MapFn.more HM6.out (Nat.le_succ i)
            clear hgc HTN HTO HCM
            go_wp2_with fail
            go_roundw
            case rel => first | exact ⟨i + 1, came, out, by omega, by omega, by go_num, HO6, HX6, HM7, HBg6, HR, HTZ⟩ | ((repeat apply Exists.intro); exact ⟨⟨i + 1, came, out, by omega, by omega, by go_num, HO6, HX6, HM7, HBg6, HR, HTZ⟩, rfl⟩)
            case measure => simp [intOf]; omega
          | none =>
            have HCM := hid (HTN.out hgc)
            rw [hgc] at hlk
            simp only [Option.getD_none, Option.isSome_none] at hlk
            clear hgc HTN HTO
            go_wp2_with (first
              | (at_mapUpdate; refine wpList_mapFn_set rfl (.tmp 71) (.tmp 72) (.tmp 73) 136 rfl Tryz.underlying9 Tryz.underlying136 valS_inj HM6.out hmaxi id hidm s rfl rfl rfl ?_; intro w9 hm9 hg9; have HM9 := hid hm9; have HG9 := hid hg9; clear hm9 hg9))
            have HO9 : Hid (Only (· = g) w6 w9) := ⟨HG9.out.os, HG9.out.tape, HG9.out.output, HG9.out.size, fun k hk hne => HG9.out.block k hk (fun e => hne (by cases e; rfl))⟩
            have HX9 : Hid (Blk w9 gh 155 #[.iface t rv, .map (some g)]) := HX6.out.only HO9.out (fun e => map_blk_ne HM6.out HX6.out e)
            have HW9 : Hid (w9.ownsRow g 99 2 (.slice oa out.length oc) out.length (fivals (itFi out))) := own_only HO6.out HO9.out (fun k hk e => map_row_ne HM6.out HO6.out (by rw [hk]; exact congrArg some e))
            have HMn : Hid (StrMap w9 g (i + 1) (Sw.getI cm)) := by rw [HCM.out]; exact HM9.out
            have HBn : Hid (Below g w w9) := below_map HBg6.out HG9.out (Nat.le_refl _) hg6
            go_roundw
            case rel => first | exact ⟨i + 1, cm, out, by omega, by omega, by go_num, HW9, HX9, HMn, HBn, HR, HTZ⟩ | ((repeat apply Exists.intro); exact ⟨⟨i + 1, cm, out, by omega, by omega, by go_num, HW9, HX9, HMn, HBn, HR, HTZ⟩, rfl⟩)
            case measure => simp [intOf]; omega
        | false =>
          have hgc : Sw.getI came id = none := by
            have h := HSM.out
            unfold Sw.over at h
            cases hh : Sw.getI came id with
            | none => rfl
            | some u => rw [hh] at h; cases h
          have HCM := hid (HTN.out hgc)
          rw [hgc] at hlk
          simp only [Option.getD_none, Option.isSome_none] at hlk
          have HGC := hid hgc
          clear hgc HTN HTO HEO
          have HFT := hid (fits_any 155 (.agg (hallCs t rv g)) (Sw.over came G) (over_sz HC.out hz) x (.slice ea en ec) (.slice pa pn pc) w6 (hall_src t rv G g i came w6 (HS.out.srcIn.later HBw6.out) HM6.out) HOb6.out HON.out)
          unfold hallCs obCs FitsOut at HFT
          obtain ⟨er2, her2⟩ : ∃ er2, Sw.fits (Sw.over came G) x = er2 := ⟨_, rfl⟩
          rw [her2] at HFT HEN HEA
          have k0 : w6.cell? ⟨g4, 0, none⟩ = some (.int .i64 x.kind) := Blk.cell HXb6.out 0
          have k1 : w6.cell? ⟨g4, 1, none⟩ = some (.string x.data) := Blk.cell HXb6.out 1
          have k2 : w6.cell? ⟨g4, 2, none⟩ = some (.slice ea en ec) := Blk.cell HXb6.out 2
          have k3 : w6.cell? ⟨g4, 3, none⟩ = some (.string x.tree) := Blk.cell HXb6.out 3
          have k4 : w6.cell? ⟨g4, 4, none⟩ = some (.slice pa pn pc) := Blk.cell HXb6.out 4
          have k5 : w6.cell? ⟨g4, 5, none⟩ = some (.int .i64 x.height) := Blk.cell HXb6.out 5
          have k6 : w6.cell? ⟨g4, 6, none⟩ = some (.string x.note) := Blk.cell HXb6.out 6
          clear her2 hlk
          go_wp2_with fail
          refine HFT.out.mono ?_; rintro e w7 ⟨rfl, hb7⟩
          have HX7 : Hid (Blk w7 gh 155 #[.iface t rv, .map (some g)]) := (hb7.block gh (Blk.lt HX6.out)).trans HX6.out
          have HM7 := hid (HM6.out.later hb7)
          have HO7 := hid (own_below HO6.out hb7)
          have HBg7 : Hid (Below g w w7) := HBg6.out.trans (hb7.mono hg6)
          have hg7 : g ≤ w7.heap.size := Nat.le_trans hg6 hb7.size
          clear hb7 HFT kh0 kh1 k0 k1 k2 k3 k4 k5 k6 HX6 HM6 HO6 HBg6 HBw6 HXb6 HOb6 hg6 HB6
          by_cases he : er2 = 0
          · subst he
            have HR := hid (HEA.out (by simp) (by simp))
            clear HEA HEN
            go_wp2_with (first
              | (at_builtin; refine wpList_append_own _ rfl (.tmp 55) (.tmp 59) 22 rfl g 99 i0 (.agg #[.string ⟨#[]⟩, .string ⟨#[]⟩]) 2 32 Tryz.underlying22 hi0 hz0 hz1 hz2 rfl (by decide) (.slice oa out.length oc) _ _ rfl (HO7.out.alloc _) ⟨w7.heap.size, 0, none⟩ 1 1 [.string id, .string s] rfl rfl (cellNew2 _ _ _ _) (one2 rfl rfl) (by unfold maxLen; omega) (by omega) (by rw [World.size_alloc]; omega) ?_; intro v' w8 hown' hgrow _; obtain ⟨va', vc', hvv', -⟩ := own_slice' hown'; subst hvv'; have HOWN := hid hown'; have HGR := hid hgrow; clear hown' hgrow; have HX8 : Hid (Blk w8 gh 155 #[.iface t rv, .map (some g)]) := (HX7.out.alloc _).grown HGR.out (fun e => own_blk_ne HO7.out HX7.out (by decide) e.symm); have kh1 : w8.cell? ⟨gh, 1, none⟩ = some (.map (some g)) := Blk.cell HX8.out 1; have HM8 : Hid (StrMap w8 g i (Sw.getI came)) := (MapFn.later HM7.out ((Below.refl _ _).alloc (Nat.le_refl _) _)).kept HGR.out (fun e => map_row_ne HM7.out HO7.out e.symm); have hlk8 := strMap_get2 HM8.out id hidm; rw [HGC.out] at hlk8; simp only [Option.getD_none, Option.isSome_none] at hlk8)
              | (at_mapUpdate; refine wpList_mapFn_set rfl (.tmp 71) (.tmp 72) (.tmp 73) 136 rfl Tryz.underlying9 Tryz.underlying136 valS_inj HM8.out hmaxi id hidm s rfl rfl rfl ?_; intro w9 hm9 hg9; have HM9 := hid hm9; have HG9 := hid hg9; clear hm9 hg9))
            have HO9 : Hid (Only (· = g) w8 w9) := ⟨HG9.out.os, HG9.out.tape, HG9.out.output, HG9.out.size, fun k hk hne => HG9.out.block k hk (fun e => hne (by cases e; rfl))⟩
            have HX9 : Hid (Blk w9 gh 155 #[.iface t rv, .map (some g)]) := HX8.out.only HO9.out (fun e => map_blk_ne HM8.out HX8.out e)
            have HW8 : Hid (w8.ownsRow g 99 2 (.slice va' (out.length + 1) vc') (out ++ [(⟨id, s⟩ : Sw.It)]).length (fivals (itFi (out ++ [(⟨id, s⟩ : Sw.It)])))) := by
              have h := HOWN.out
              rw [itFi_snoc, fivals_append, List.length_append]; exact h
            have HW9 : Hid (w9.ownsRow g 99 2 (.slice va' (out.length + 1) vc') (out ++ [(⟨id, s⟩ : Sw.It)]).length (fivals (itFi (out ++ [(⟨id, s⟩ : Sw.It)])))) := own_only HW8.out HO9.out (fun k hk e => map_row_ne HM8.out HW8.out (by rw [hk]; exact congrArg some e))
            have HMn : Hid (StrMap w9 g (i + 1) (Sw.getI cm)) := by rw [HCM.out]; exact HM9.out
            have HB8 : Hid (Below g w w8) := below_grown1 HBg7.out HO7.out _ hg7 HGR.out
            have hg8 : g ≤ w8.heap.size := by have := HB8.out.size; rw [HG.out] at this; exact this
            have HBn : Hid (Below g w w9) := below_map HB8.out HG9.out (Nat.le_refl _) hg8
            have hol : (out ++ [(⟨id, s⟩ : Sw.It)]).length ≤ i + 1 := by rw [List.length_append]; simp only [List.length_cons, List.length_nil]; omega
            go_roundw
            case rel => first | exact ⟨i + 1, cm, _, by omega, hol, by go_num, HW9, HX9, HMn, HBn, HR, HTZ⟩ | ((repeat apply Exists.intro); exact ⟨⟨i + 1, cm, _, by omega, hol, by go_num, HW9, HX9, HMn, HBn, HR, HTZ⟩, rfl⟩)
            case measure => simp [intOf]; omega
          · have HR := hid (HEN.out (by simp) he)
            have q1 : (er2 != 0) = true := by simp [he]
            have q2 : (er2 == 0) = false := by simp [he]
            clear he HEA HEN
            go_wp2_with fail
            go_ret2
            rw [HR.out]
            exact admit_none _ _ _ (by rw [HG.out]; exact HBg7.out)
    · obtain rfl : i = n := by omega
      have ci : ¬ (i : Int) < i := by omega
      have HR : Hid (Sw.admitS G L = (out, 0)) := by
        show _ = _
        rw [HE.out, List.drop_of_length_le (by rw [HLL.out]; exact Nat.le_refl _)]; rfl
      have HFI : Hid (FisAt wr oa out.length (itFi out)) := own_its HO.out (itFi_len out) (by omega)
      go_wp2_with fail
      go_ret2
      rw [HR.out]
      exact ⟨oa, oc, rfl, HFI.out, HBw.out⟩
end Go.Proofs.YtlenfiiocmchdaaGreatDoor
/- SnapBack: plain: a commit's files come back, each is found at its path. -/
namespace Go.Proofs.YtlenfiiocmchdaaGreatDoor
open Go.RowKit Book Pap Ojt Sn
set_option linter.unusedVariables false
set_option linter.unusedSimpArgs false

theorem files_run {G : Sw.Src} : ∀ (R : List Fi) (F : List Fi), (∀ f ∈ R, lookK G (Sw.idOf (encP (blobOf f.data))) 1 21 = (blobOf f.data, 0)) → filesF G (R.map blobEnt) F = (F ++ R, 0)
  | [], F, _ => by rw [List.append_nil]; rfl
  | f :: R, F, h => by
    rw [List.map_cons, filesF_ok (h f (List.mem_cons_self ..)), files_run R _ (fun g hg => h g (List.mem_cons_of_mem _ hg)), List.append_assoc]
    rfl
theorem com_blob {l : List Fi} {note : ByteArray} {L : List ByteArray} (h : OkFs l) (hL : Sw.Apart L) (hi : ∀ t ∈ comL l note, t ∈ L) {f : Fi} (hf : f ∈ sortF l) (lacks : Int) : lookK (getF (itemsS L)) (Sw.idOf (encP (blobOf f.data))) 1 lacks = (blobOf f.data, 0) :=
  lookK_of (comL_cov hL hi _ (commit_mem.2 (.inl (h.blob_in hf)))) (h.blob_good hf) (dec_blob (h.blob_good hf)) rfl
theorem com_files {l : List Fi} {note : ByteArray} {L : List ByteArray} (h : OkFs l) (h60 : l.length ≤ 60) (hn : note.size ≤ 1000) (hL : Sw.Apart L) (hi : ∀ t ∈ comL l note, t ∈ L) : filesS (getF (itemsS L)) (comI l note) = (sortF l, 0) := by
  unfold filesS
  rw [com_list h h60 hn hL hi, if_neg (by simp), files_run _ _ (fun f hf => com_blob h hL hi hf 21), List.nil_append]
theorem com_at {l : List Fi} {note : ByteArray} {L : List ByteArray} (h : OkFs l) (hn : note.size ≤ 1000) (hL : Sw.Apart L) (hi : ∀ t ∈ comL l note, t ∈ L) {f : Fi} (hf : f ∈ l) : ∃ nm, findS (getF (itemsS L)) (comI l note) f.path = (⟨nm, 1, Sw.idOf (encP (blobOf f.data))⟩, 0) := by
  have hp : splitE f.path.data.toList = 0 := h.split f hf
  have hne : f.path.size ≠ 0 := fun e => by
    have : f.path.data.toList = [] := List.length_eq_zero_iff.1 (by rw [Array.length_toList]; exact e)
    rw [this] at hp
    exact absurd hp (by decide)
  have hc : Cov (getF (itemsS L)) (texts 64 (l.map flOf)) := fun t ht => comL_cov hL hi t (commit_mem.2 (.inl ht))
  have hns : (pieces f.path.data.toList).map bz ≠ [] := fun e => pieces_ne _ (List.map_eq_nil_iff.1 e)
  have hq := find_tree (G := getF (itemsS L)) _ 63 (l.map flOf) ByteArray.empty hns hc h.apt h.len h.goodFl (by rw [List.length_map]; exact h.few)
  obtain ⟨nm, e⟩ := hq.file f.data (mem_flOf.2 hf)
  refine ⟨nm, ?_⟩
  unfold findS
  rw [if_neg (fun e => e.2 hp), com_look hn hL hi 12, if_neg (by simp), if_neg hne]
  exact e
theorem blob_text {d : ByteArray} (h : d.size ≤ 65536) : (⟨#[1]⟩ : ByteArray) ++ d = encP (blobOf d) := by
  have hg : good (blobOf d) = true := by unfold good blobOf; rw [if_pos rfl]; exact decide_eq_true h
  unfold encP
  rw [if_pos hg]
  apply ba_ext
  rw [ByteArray.data_append, Array.toList_append]
  rfl
/-- a commit that is refused makes nothing -/
theorem commit_err {G : Sw.Src} {l : List Fi} {ps : List ByteArray} {note : ByteArray} (h : (commitS G l ps note).2 ≠ 0) : (commitS G l ps note).1 = ([], ByteArray.empty) := by
  unfold commitS at h ⊢
  split
  · rfl
  · rename_i h1
    rw [if_neg h1] at h
    split
    · rfl
    · rename_i h2
      rw [if_neg h2] at h
      split
      · rfl
      · rename_i h3
        rw [if_neg h3] at h
        split
        · rfl
        · rename_i h4
          rw [if_neg h4] at h
          exact absurd rfl h
theorem commit_long {G : Sw.Src} {l : List Fi} {note : ByteArray} (hn : 1000 < note.size) : (commitS G l [] note).2 ≠ 0 := by
  unfold commitS
  split
  · rename_i h; exact h
  · split
    · rename_i h; exact h
    · split
      · decide
      · first | decide | (rw [if_pos hn]; decide)
theorem src_none : getF [] = noSrc := by funext id; rfl
/-- all that SnapBack needs of a commit -/
structure BackLaw (l : List Fi) (L : List ByteArray) (cid : ByteArray) : Prop where
  admitS : Sw.admitS (getF []) L = (itL L, 0)
  pos : 0 < L.length
  last : Sw.idOf (L.getD (L.length - 1) ByteArray.empty) = cid
  files : filesS (getF (itemsS L)) cid = (sortF l, 0)
  found : ∀ f ∈ l, ∃ nm, findS (getF (itemsS L)) cid f.path = (⟨nm, 1, Sw.idOf ((⟨#[1]⟩ : ByteArray) ++ f.data)⟩, 0)
theorem back_law {l : List Fi} {note : ByteArray} (h : OkFs l) (h60 : l.length ≤ 60) (hn : note.size ≤ 1000) (hL : Sw.Apart (comL l note)) : BackLaw l (comL l note) (comI l note) := by
  obtain ⟨h1, h2⟩ := com_last h hn
  refine ⟨by rw [src_none]; exact admit_com h hn hL, h1, h2, com_files h h60 hn hL (fun t ht => ht), fun f hf => ?_⟩
  rw [blob_text (h.size f hf)]
  exact com_at h hn hL (fun t ht => ht) hf
end Go.Proofs.YtlenfiiocmchdaaGreatDoor
/- Layer 15's laws: plain: differences put on what was. -/
namespace Go.Proofs.YtlenfiiocmchdaaGreatDoor
open Go.RowKit Book Pap Ojt Sn
set_option linter.unusedVariables false
set_option linter.unusedSimpArgs false

theorem idl_snoc {l : List Ent} {y : Ent} (h : idl l y.name = none) : idl (l ++ [y]) = fun q => if q = y.name then some y.id else idl l q := by
  funext q
  have key : idl (l ++ [y]) q = match idl l q with | some i => some i | none => if y.name = q then some y.id else none := by
    unfold idl
    rw [List.find?_append]
    cases hf : l.find? (fun e => decide (e.name = q)) with
    | some z => rfl
    | none =>
      by_cases hq : y.name = q
      · rw [if_pos hq]; simp [hq]
      · rw [if_neg hq]; simp [hq]
  rw [key]
  by_cases hq : q = y.name
  · subst hq; rw [h, if_pos rfl]; first | done | simp
  · rw [if_neg hq]
    cases idl l q with
    | some i => rfl
    | none => rw [if_neg (fun e => hq e.symm)]
theorem idl_new {l : List Ent} (hn : (l.map (·.name)).Nodup) {i : Nat} (hi : i < l.length) : idl (l.take i) l[i].name = none := by
  rw [idl_none]
  intro h
  obtain ⟨y, hy, e⟩ := List.mem_map.1 h
  obtain ⟨j, hj, hje⟩ := List.getElem_of_mem hy
  rw [List.length_take] at hj
  rw [List.getElem_take] at hje
  have h1 := List.pairwise_iff_getElem.1 hn j i (by rw [List.length_map]; omega) (by rw [List.length_map]; omega) (by omega)
  rw [List.getElem_map, List.getElem_map, hje] at h1
  exact h1 e
theorem nodup_len {α : Type} [DecidableEq α] : ∀ (l m : List α), l.Nodup → (∀ x ∈ l, x ∈ m) → l.length ≤ m.length
  | [], m, _, _ => Nat.zero_le _
  | a :: l, m, hn, h => by
    obtain ⟨h1, h2⟩ := List.nodup_cons.1 hn
    have ha := h a (List.mem_cons_self ..)
    have := nodup_len l (m.erase a) h2 (fun x hx => (List.mem_erase_of_ne (fun e => h1 (by rw [← e]; exact hx))).2 (h x (List.mem_cons_of_mem _ hx)))
    rw [List.length_erase_of_mem ha] at this
    have hp : 0 < m.length := List.length_pos_of_mem ha
    rw [List.length_cons]; omega
theorem diff_in {l m : List Ent} {D : List Ch} (hl : (l.map (·.name)).Nodup) (hm : (m.map (·.name)).Nodup) (h : IsDiff l m D) {c : Ch} (hc : c ∈ D) : c.path ∈ l.map (·.name) ++ m.map (·.name) := by
  obtain ⟨h1, h2, h3⟩ := (diff_mem hl hm h c).1 hc
  rw [List.mem_append]
  by_cases e1 : idl l c.path = none
  · by_cases e2 : idl m c.path = none
    · unfold wasOf at h1 h2
      rw [e1] at h1; rw [e2] at h2
      exact absurd (h1.trans h2.symm) h3
    · exact .inr (Classical.not_not.1 (fun hh => e2 (idl_none.2 hh)))
  · exact .inl (Classical.not_not.1 (fun hh => e1 (idl_none.2 hh)))
theorem diff_few {l m : List Ent} {D : List Ch} (hl : (l.map (·.name)).Nodup) (hm : (m.map (·.name)).Nodup) (h : IsDiff l m D) : D.length ≤ l.length + m.length := by
  have h1 : (D.map (·.path)).Nodup := by
    unfold List.Nodup
    rw [List.pairwise_map]
    refine List.Pairwise.imp (fun {a b} hab e => ?_) h.1
    rw [e] at hab
    rw [cmpP_self] at hab
    cases hab
  have h2 := nodup_len (D.map (·.path)) (l.map (·.name) ++ m.map (·.name)) h1 (fun x hx => by
    obtain ⟨c, hc, rfl⟩ := List.mem_map.1 hx
    exact diff_in hl hm h hc)
  simpa using h2
/-- what the law of differences needs to know of two lists, their differences, and these turned round -/
structure DiffLaw (l m : List Ent) (D : List Ch) : Prop where
  nl : (l.map (·.name)).Nodup
  nm : (m.map (·.name)).Nodup
  fl : Full l
  fm : Full m
  ll : l.length ≤ 60
  lm : m.length ≤ 60
  ok : ∀ y ∈ l ++ m, splitE y.name.data.toList = 0 ∧ y.name.size ≤ 131072
  d : IsDiff l m D
theorem DiffLaw.few {l m : List Ent} {D : List Ch} (h : DiffLaw l m D) : D.length ≤ 120 := by
  have := diff_few h.nl h.nm h.d
  have := h.ll; have := h.lm
  omega
theorem DiffLaw.path {l m : List Ent} {D : List Ch} (h : DiffLaw l m D) {c : Ch} (hc : c ∈ D) : splitE c.path.data.toList = 0 ∧ c.path.size ≤ 131072 := by
  have := diff_in h.nl h.nm h.d hc
  rw [← List.map_append] at this
  obtain ⟨y, hy, e⟩ := List.mem_map.1 this
  rw [← e]; exact h.ok y hy
theorem DiffLaw.ne {l m : List Ent} {D : List Ch} (h : DiffLaw l m D) {c : Ch} (hc : c ∈ D) : c.was ≠ c.is := ((diff_mem h.nl h.nm h.d c).1 hc).2.2
theorem DiffLaw.cmp {l m : List Ent} {D : List Ch} (h : DiffLaw l m D) {i : Nat} (hi : i + 1 < D.length) : compareR (D.getD i noCh).path.data.toList (D.getD (i + 1) noCh).path.data.toList = -1 := by
  have e0 : D.getD i noCh = D[i] := by rw [List.getD_eq_getElem?_getD, List.getElem?_eq_getElem (by omega)]; rfl
  have e1 : D.getD (i + 1) noCh = D[i + 1] := by rw [List.getD_eq_getElem?_getD, List.getElem?_eq_getElem hi]; rfl
  rw [e0, e1]
  unfold compareR
  rw [if_pos ⟨(h.path (List.getElem_mem _)).1, (h.path (List.getElem_mem _)).1⟩]
  exact diff_ne h.d (by omega) hi (by omega)
theorem DiffLaw.get {l m : List Ent} {D : List Ch} (h : DiffLaw l m D) {i : Nat} (hi : i < D.length) : ((D.take i).foldl stepW (idl l) (D.getD i noCh).path).getD ByteArray.empty = (D.getD i noCh).was := by
  have e0 : D.getD i noCh = D[i] := by rw [List.getD_eq_getElem?_getD, List.getElem?_eq_getElem hi]; rfl
  rw [e0]; exact diff_get h.nl h.nm h.fm h.d i hi
theorem DiffLaw.last {l m : List Ent} {D : List Ch} (h : DiffLaw l m D) : D.foldl stepW (idl l) = idl m := diff_end h.nl h.nm h.fl h.fm h.d
theorem keys_len {l : List Ent} (hn : (l.map (·.name)).Nodup) {ks vs : List ByteArray} (hr : Rising ks) (he : getO ks vs = idl l) : ks.length = l.length := by
  have hk : ∀ q, q ∈ ks ↔ q ∈ l.map (·.name) := fun q => by
    rw [getO_keys (ps := vs) q, he]
    constructor
    · intro h
      exact Classical.not_not.1 (fun hh => by rw [idl_none.2 hh] at h; cases h)
    · intro h
      cases hq : idl l q with
      | some i => rfl
      | none => exact absurd h (idl_none.1 hq)
  have h1 := nodup_len ks (l.map (·.name)) (rising_nodup hr) (fun x hx => (hk x).1 hx)
  have h2 := nodup_len (l.map (·.name)) ks hn (fun x hx => (hk x).2 hx)
  rw [List.length_map] at h1 h2
  omega
/-- two commits of files, and what they differ in -/
theorem diff_law {a b : List Fi} {na nb : ByteArray} {L : List ByteArray} (ha : OkFs a) (hb : OkFs b) (h6 : a.length ≤ 60) (k6 : b.length ≤ 60) (sa : ∀ f ∈ a, f.path.size ≤ 131072) (sb : ∀ f ∈ b, f.path.size ≤ 131072) (h1 : na.size ≤ 1000) (h2 : nb.size ≤ 1000) (hL : Sw.Apart L) (ia : ∀ t ∈ comL a na, t ∈ L) (ib : ∀ t ∈ comL b nb, t ∈ L) :
    ∃ l m, listS (getF (itemsS L)) (comI a na) = (l, 0) ∧ listS (getF (itemsS L)) (comI b nb) = (m, 0) ∧ (∀ D, IsDiff l m D → DiffLaw l m D) ∧ ∀ D R, IsDiff l m D → IsDiff m l R → R = D.map swapC := by
  refine ⟨_, _, com_list ha h6 h1 hL ia, com_list hb k6 h2 hL ib, fun D hD => ⟨ha.nodup, hb.nodup, OkFs.full, OkFs.full, ?_, ?_, ?_, hD⟩, fun D R hD hR => diff_swap ha.nodup hb.nodup hD hR⟩
  · rw [List.length_map, (sortF_perm a).length_eq]; exact h6
  · rw [List.length_map, (sortF_perm b).length_eq]; exact k6
  · intro y hy
    rcases List.mem_append.1 hy with h | h
    · refine ⟨ha.names y h, ?_⟩
      obtain ⟨f, hf, rfl⟩ := List.mem_map.1 h
      exact sa f ((sortF_perm a).mem_iff.1 hf)
    · refine ⟨hb.names y h, ?_⟩
      obtain ⟨f, hf, rfl⟩ := List.mem_map.1 h
      exact sb f ((sortF_perm b).mem_iff.1 hf)
end Go.Proofs.YtlenfiiocmchdaaGreatDoor
