/- The walk of SnapBack. -/
import Derived.Test.YtlenfiiocmchdaaGreatDoorMcL
namespace Go.Proofs.YtlenfiiocmchdaaGreatDoor
open Go.RowKit Book Pap Ojt Sn
set_option linter.unusedVariables false
set_option linter.unusedSimpArgs false

set_option maxRecDepth 100000 in
set_option maxHeartbeats 16000000 in
theorem walk_SnapBack (a0 : Option Addr) (n0 c0 : Nat) (l0 : List Fi) (note : ByteArray) (W : World) (w0 : FisAt W a0 n0 l0) (nc0 : n0 ≤ c0) (z0 : ∀ f ∈ l0, f.path.size ≤ 140737488355328 ∧ f.data.size ≤ 140737488355328)
    (hp : note.size ≤ 140737488355328) (hm : MaxAt W) :
    Calls Tryz.prog 8 #[.slice a0 n0 c0, .string note] W fun e w' => e = .returned (.bool true) ∧ Below W.heap.size W w' := by
  have HM := hid hm
  have H0 := hid w0
  have Z0 := hid z0
  have HA := hid (awake_any W hm)
  clear hm w0 z0
  go_enter Tryz.func8, Tryz.ntmps8
  go_wp2_with fail
  refine HA.out.mono ?_; rintro e w1 ⟨rfl, hb1⟩
  have HB1 := hid hb1
  have HG0 := hid (great_any a0 n0 c0 l0 w1 (H0.out.later hb1) Z0.out)
  clear hb1 HA
  go_wp2_with fail
  refine HG0.out.mono ?_; rintro e w2 ⟨r0, rfl, hb2, hr0⟩
  have HB2 := hid (below_then HB1.out hb2)
  clear hb2 HG0 HB1
  cases r0 with
  | true =>
    go_wp2_with fail
    go_ret
    exact ⟨rfl, HB2.out⟩
  | false =>
    obtain ⟨hn0, hs0⟩ := hr0 rfl
    have Y0 := hid (sumF_each hs0)
    clear hr0
    have hb3 : Below w2.heap.size w2 (w2.alloc (.cells #[.slice none 0 0] 31)) := (Below.refl _ _).alloc (Nat.le_refl _) _
    have HB3 := hid (below_then HB2.out hb3)
    have HBK : Hid (BookAt (w2.alloc (.cells #[.slice none 0 0] 31)) w2.heap.size []) := ⟨none, 0, 0, Blk.new w2 _ _, rfl, by omega, .inl rfl⟩
    have HCO := hid (commit_any 29 (.pointer (some ⟨w2.heap.size, 0, none⟩)) (getF []) (fun id t h => by cases h) a0 n0 c0 l0 none 0 0 [] note _ (book_src _ _ _ HBK.out) (H0.out.later HB3.out) (fun f hf => by have := Y0.out f hf; omega) ⟨rfl, by omega, .inl rfl⟩ (by omega) (HM.out.later HB3.out))
    clear hb3 HB2 HBK
    go_wp2_with fail
    generalize (w2.alloc (.cells #[.slice none 0 0] 31)) = w3 at HB3 HCO ⊢
    refine HCO.out.mono ?_; rintro e w4 ⟨hb4, v, rfl, ho4⟩
    have HB4 := hid (below_then HB3.out hb4)
    clear hb4 HCO HB3
    by_cases hok : OkFs l0 ∧ note.size ≤ 1000
    · obtain ⟨hok, hnote⟩ := hok
      obtain ⟨va, vc, rfl, hvc⟩ := own_slice' ho4
      have HO4 := hid ho4
      clear ho4 hvc
      rw [commit_is hok hnote] at HO4 ⊢
      have hll := comL_len (note := note) hok (by rw [H0.out.1]; exact hn0)
      have HLZ : Hid (∀ s ∈ comL l0 note, s.size ≤ 100000) := comL_size
      have HFN : Hid (Sw.Apart (comL l0 note) → BackLaw l0 (comL l0 note) (comI l0 note)) :=
        fun hL => back_law hok (by rw [H0.out.1]; exact hn0) hnote hL
      obtain ⟨L, hLe⟩ : ∃ L, comL l0 note = L := ⟨_, rfl⟩
      obtain ⟨cid, hce⟩ : ∃ c, comI l0 note = c := ⟨_, rfl⟩
      rw [hLe, hce] at HFN
      rw [hLe] at HLZ hll
      simp only [hLe, hce] at HO4 ⊢
      have HDS : Hid (∀ f ∈ l0, f.data.size ≤ 65536) := fun f hf => hok.size f hf
      clear hLe hce hok hnote
      have hS4 := HO4.out
      obtain ⟨q0, q1, e0, hS4⟩ := own_texts hS4 (by omega)
      injection e0 with e00 e01 e02
      subst e00; subst e02
      have HS4 := hid hS4
      have HSH := hid (shown_any va L.length vc L w4 hS4 (by omega) (fun s hs => by have := HLZ.out s hs; omega))
      clear hS4 e01
      go_wp2_with fail
      refine HSH.out.mono ?_; rintro e w5 ⟨bb, rfl, hbb, hb5⟩
      have HB5 := hid (below_then HB4.out hb5)
      have HS5 := hid (HS4.out.later hb5)
      clear hb5 HSH HS4 HO4 HB4
      cases bb with
      | true =>
        go_wp2_with fail
        go_ret
        exact ⟨rfl, HB5.out⟩
      | false =>
        have HF := hid (HFN.out (hbb rfl))
        clear hbb HFN
        have hb6 : Below w5.heap.size w5 (w5.alloc (.cells #[.slice none 0 0] 31)) := (Below.refl _ _).alloc (Nat.le_refl _) _
        have HB6 := hid (below_then HB5.out hb6)
        have HS6 := hid (HS5.out.later hb6)
        have HBK : Hid (BookAt (w5.alloc (.cells #[.slice none 0 0] 31)) w5.heap.size []) := ⟨none, 0, 0, Blk.new w5 _ _, rfl, by omega, .inl rfl⟩
        have HAD := hid (admit_any 29 (.pointer (some ⟨w5.heap.size, 0, none⟩)) (getF []) (fun id t h => by cases h) va L.length vc L _ (book_src _ _ _ HBK.out) HS6.out (by omega) (fun s hs => by have := HLZ.out s hs; omega))
        rw [HF.out.admitS] at HAD
        clear hb6 HB5 HS5 HBK
        go_wp2_with fail
        generalize (w5.alloc (.cells #[.slice none 0 0] 31)) = w6 at HB6 HS6 HAD ⊢
        refine HAD.out.mono ?_; rintro e w7 ⟨ia, ic, rfl, hI7, hb7⟩
        have hitl : (itL L).length = L.length := by unfold itL; rw [List.length_map]
        simp only [hitl, itFi_itL] at hI7 ⊢
        have HI7 := hid hI7
        have HB7 := hid (below_then HB6.out hb7)
        have HS7 := hid (HS6.out.later hb7)
        clear hI7 hb7 HAD HB6 HS6 hitl
        have hL0 := HF.out.pos
        have HLS := hid HF.out.last
        obtain ⟨-, -, h3⟩ := HS7.out
        obtain ⟨vb, voff, rfl, hcell⟩ := h3.resolve_left (by omega)
        have q1 := hcell (L.length - 1) (by omega)
        have hzl := HLZ.out (L.getD (L.length - 1) ByteArray.empty) (by rw [List.getD_eq_getElem?_getD, List.getElem?_eq_getElem (by omega)]; exact List.getElem_mem _)
        obtain ⟨ls, hls⟩ : ∃ s, L.getD (L.length - 1) ByteArray.empty = s := ⟨_, rfl⟩
        rw [hls] at q1 hzl HLS
        clear hcell h3 hls
        obtain ⟨N, hN⟩ : ∃ N, L.length = N := ⟨_, rfl⟩
        obtain ⟨M, rfl⟩ : ∃ M, N = M + 1 := ⟨N - 1, by omega⟩
        rw [hN] at q1 HI7 HS7 ⊢
        have HN := hid hN
        rw [hN] at hll hL0
        clear hN
        have em : IntKind.i64.wrap (((M + 1 : Nat) : Int) - 1) = (M : Int) := by rw [IntKind.wrap_i64]; omega
        have cm0 : (0 : Int) ≤ (M : Int) := by omega
        have cm1 : (M : Int) < ((M + 1 : Nat) : Int) := by omega
        have hMM : M + 1 - 1 = M := by omega
        rw [hMM] at q1
        clear hMM
        have HID := hid (objid_id ls (by omega) w7)
        rw [HLS.out] at HID
        go_wp2_with fail
        refine HID.out.mono ?_; rintro e w8 ⟨rfl, hb8⟩
        have HI8 := hid (HI7.out.later hb8)
        have HB8 := hid (below_then HB7.out hb8)
        have hb9 : Below w8.heap.size w8 (w8.alloc (.cells #[.slice ia (M + 1) ic] 31)) := (Below.refl _ _).alloc (Nat.le_refl _) _
        have HB9 := hid (below_then HB8.out hb9)
        have HK9 : Hid (BookAt (w8.alloc (.cells #[.slice ia (M + 1) ic] 31)) w8.heap.size (itemsS L)) := ⟨ia, M + 1, ic, Blk.new w8 _ _, HI8.out.later hb9⟩
        have HZG : Hid (SrcSz (getF (itemsS L))) := items_small (fun s hs => by have := HLZ.out s hs; omega)
        clear hb8 HID HI7 HB7 HS7 q1 em cm0 cm1 hzl HLS hb9 HI8 HB8
        have HFL := hid (files_any 29 (.pointer (some ⟨w8.heap.size, 0, none⟩)) (getF (itemsS L)) HZG.out cid _ (book_src _ _ _ HK9.out))
        rw [HF.out.files] at HFL
        go_wp2_with fail
        generalize (w8.alloc (.cells #[.slice ia (M + 1) ic] 31)) = w9 at HB9 HK9 HFL ⊢
        generalize w8.heap.size = bk at HK9 HFL ⊢
        refine HFL.out.mono ?_; rintro e wa ⟨fa, fn, fc, rfl, hF, hba, -, -, -⟩
        have HFa := hid hF
        have HBa := hid (below_then HB9.out hba)
        have HKa := hid (HK9.out.later hba)
        have HSO := hid (sortedF_any a0 n0 c0 l0 wa (H0.out.later HBa.out) (by omega) (fun f hf => by have := Y0.out f hf; omega) (HM.out.later HBa.out))
        clear hF hba HFL HB9 HK9
        go_wp2_with fail
        refine HSO.out.mono ?_; rintro e wb ⟨sa, sc, rfl, hS, hbb⟩
        have HFb := hid (HFa.out.later hbb)
        have HBb := hid (below_then HBa.out hbb)
        have HKb := hid (HKa.out.later hbb)
        have HSM := hid (same_any fa sa fn n0 fc sc (sortF l0) (sortF l0) wb HFb.out hS)
        clear hS hbb HSO HBa HKa HFa
        go_wp2_with fail
        refine HSM.out.mono ?_; rintro e wc ⟨r, rfl, hr, hbc⟩
        obtain rfl : r = true := by simpa using hr
        have HBc := hid (below_then HBb.out hbc)
        have HKc := hid (HKb.out.later hbc)
        clear hr hbc HSM HBb HKb HFb
        go_wp2_with fail
        go_loopw [11] (fun iv wr => ∃ i : Nat, i ≤ n0 ∧ iv = .int .i64 i ∧ Hid (Below wc.heap.size wc wr)) (fun iv _ => n0 - (intOf iv).toNat)
        case atStart => exact ⟨0, Nat.zero_le _, rfl, Below.refl _ _⟩
        case round =>
          obtain ⟨i, hi, rfl, HB⟩ := hrel
          have HBr := hid (below_then HBc.out HB.out)
          by_cases hlt : i < n0
          · have ci : (i : Int) < n0 := by omega
            have ci0 : (0 : Int) ≤ (i : Int) := by omega
            obtain ⟨hl1, -, h3⟩ := H0.out.later HBr.out
            obtain ⟨b, off, rfl, hc⟩ := h3.resolve_left (by omega)
            obtain ⟨q0, q1⟩ := hc i hlt
            have hil : i < l0.length := by omega
            have hmem : l0.getD i noFi ∈ l0 := by rw [List.getD_eq_getElem?_getD, List.getElem?_eq_getElem hil]; exact List.getElem_mem hil
            have hsz := Y0.out (l0.getD i noFi) hmem
            obtain ⟨nm, hfd⟩ := HF.out.found (l0.getD i noFi) hmem
            obtain ⟨x, hx⟩ : ∃ x, l0.getD i noFi = x := ⟨_, rfl⟩
            rw [hx] at q0 q1 hsz hfd
            obtain ⟨xp, xd⟩ := x
            simp only at q0 q1 hsz hfd
            have HFD := hid (find_any 29 (.pointer (some ⟨bk, 0, none⟩)) (getF (itemsS L)) HZG.out cid xp wr (book_src _ _ _ (HKc.out.later HB.out)) (by omega) (HM.out.later HBr.out))
            rw [hfd] at HFD
            have HIDs : Hid (∀ w, Calls Tryz.prog 42 #[.string ((⟨#[1]⟩ : ByteArray) ++ xd)] w fun e w' => e = .returned (.string (Sw.idOf ((⟨#[1]⟩ : ByteArray) ++ xd))) ∧ Below w.heap.size w w') := fun w => objid_id _ (by rw [ByteArray.size_append]; show 1 + xd.size ≤ _; omega) w
            obtain ⟨idd, hidd⟩ : ∃ d, Sw.idOf ((⟨#[1]⟩ : ByteArray) ++ xd) = d := ⟨_, rfl⟩
            rw [hidd] at HIDs HFD
            have hcat : ¬ 9223372036854775807 < 1 + xd.size := by omega
            have hcat2 : ¬ 9223372036854775807 < (⟨#[1]⟩ : ByteArray).size + xd.size := hcat
            clear hx hc h3 hl1 hfd hmem hidd
            go_wp2_with fail
            refine HFD.out.mono ?_; rintro e wd ⟨rfl, hbd⟩
            simp only [entCs]
            have hbe : Below wd.heap.size wd (wd.alloc (.cells #[.string nm, .int .i64 1, .string idd] 40)) := (Below.refl _ _).alloc (Nat.le_refl _) _
            have HXe : Hid (Blk (wd.alloc (.cells #[.string nm, .int .i64 1, .string idd] 40)) wd.heap.size 40 #[.string nm, .int .i64 1, .string idd]) := Blk.new wd _ _
            have HBe := hid (below_then hbd hbe)
            have q1e := (HBe.out.cell (World.block_lt_of_cell? wr _ q1)).trans q1
            clear hbd hbe HFD q0 q1
            go_upto_region 21 with fail
            generalize (wd.alloc (.cells #[.string nm, .int .i64 1, .string idd] 40)) = we at HXe HBe q1e ⊢
            generalize wd.heap.size = xb at HXe ⊢
            have hxl := Blk.lt HXe.out
            have EX1 : ∀ z : After we, z.val.cell? ⟨xb, 1, none⟩ = some (.int .i64 1) := fun z => (z.below.cell (p := ⟨xb, 1, none⟩) hxl).trans (Blk.cell HXe.out 1)
            have EX2 : ∀ z : After we, z.val.cell? ⟨xb, 2, none⟩ = some (.string idd) := fun z => (z.below.cell (p := ⟨xb, 2, none⟩) hxl).trans (Blk.cell HXe.out 2)
            have EF1 : ∀ z : After we, z.val.cell? ⟨b, off + i * 2 + 1, none⟩ = some (.string xd) := fun z => (z.below.cell (World.block_lt_of_cell? we _ q1e)).trans q1e
            clear q1e HXe hxl
            refine wp_region_after (by kernel_rfl) (by kernel_rfl) ?_
            repeat (go_big_quiet_step ((first | (go_at_call 42; with_reducible exact calls_after (HIDs.out _)))))
            refine wpQuiet_nil ?_
            intro _ hw'
            obtain ⟨z, rfl⟩ := hw'
            have HBz := hid (below_then HB.out (below_then HBe.out z.below))
            go_wp2_with fail
            go_roundw
            case rel => exact ⟨i + 1, by omega, by go_num, HBz⟩
            case measure => simp [intOf]; omega
          · obtain rfl : i = n0 := by omega
            have ci : ¬ (i : Int) < i := by omega
            go_wp2_with fail
            go_ret
            exact ⟨rfl, HBr.out⟩
    · have hne : (commitS (getF []) l0 [] note).2 ≠ 0 := by
        by_cases h1 : OkFs l0
        · exact commit_long (by
            have : ¬ note.size ≤ 1000 := fun h => hok ⟨h1, h⟩
            omega)
        · exact commit_not h1
      have he := commit_err hne
      obtain ⟨er, her⟩ : ∃ er, (commitS (getF []) l0 [] note).2 = er := ⟨_, rfl⟩
      rw [he] at ho4
      rw [her] at hne
      simp only [he, her]
      obtain ⟨va, vc, hv, hvc⟩ := own_slice' ho4
      simp only [List.length_nil] at hv
      subst hv
      have q1 : (er != 0) = true := by simp [hne]
      have q2 : (er == 0) = false := by simp [hne]
      clear ho4 hvc he her hne
      go_wp2_with fail
      go_ret
      exact ⟨rfl, HB4.out⟩
end Go.Proofs.YtlenfiiocmchdaaGreatDoor
