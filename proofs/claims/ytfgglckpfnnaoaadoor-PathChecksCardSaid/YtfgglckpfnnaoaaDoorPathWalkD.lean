/- Check of the program. -/
import Derived.Test.YtfgglckpfnnaoaaDoorPathWalkC
namespace Go.Proofs.YtfgglckpfnnaoaaDoor
open Go.RowKit Pap
set_option linter.unusedVariables false

set_option maxHeartbeats 1000000 in
theorem meets_any (b : Nat) (p q : ByteArray) (w : World) (hp : p.size < 4294967281) (hq : q.size < 4294967281) (hm : MaxAt w) (hb : w.cell? ⟨b, 0, none⟩ = some (.string p)) :
    Calls Tryd.prog 31 (#[.string q] ++ #[.pointer (some ⟨b, 0, none⟩)]) w fun e w' => e = .returned (.bool (meets p.data.toList q.data.toList)) ∧ Below w.heap.size w w' := by
  have HM := hid hm
  have HB := Below.refl w.heap.size w
  have hlt := World.block_lt_of_cell? w _ hb
  have HC := hid (fun W (h : Below w.heap.size w W) => (h.cell (p := ⟨b, 0, none⟩) hlt).trans hb)
  have m0 : meets p.data.toList q.data.toList = (withinR p.data.toList q.data.toList || withinR q.data.toList p.data.toList) := rfl
  clear hm
  cases h1 : withinR p.data.toList q.data.toList
  · have HR : Hid (meets p.data.toList q.data.toList = withinR q.data.toList p.data.toList) := by unfold Hid; rw [m0, h1]; rfl
    clear m0
    go_enter Tryd.func31, Tryd.ntmps31
    go_wp2_with (go_at_call 20; refine (within_any _ _ _ (by assumption) (by assumption) (HM.out.later HB)).mono ?_; rintro e w1 ⟨rfl, hb1⟩; replace HB := below_then HB hb1; have c1 := HC.out _ HB; clear hb1)
    go_ret
    exact ⟨ret_bool (by rw [HR.out]), HB⟩
  · have HR : Hid (meets p.data.toList q.data.toList = true) := by unfold Hid; rw [m0, h1]; rfl
    clear m0
    go_enter Tryd.func31, Tryd.ntmps31
    go_wp2_with (go_at_call 20; refine (within_any _ _ _ (by assumption) (by assumption) (HM.out.later HB)).mono ?_; rintro e w1 ⟨rfl, hb1⟩; replace HB := below_then HB hb1; have c1 := HC.out _ HB; clear hb1)
    go_ret
    exact ⟨ret_bool (by rw [HR.out]), HB⟩

theorem strsAt_take {w : World} {a : Option Addr} {n k : Nat} {l : List ByteArray} (h : StrsAt w a n l) (hk : k ≤ n) : StrsAt w a k (l.take k) := by
  obtain ⟨h1, h2, h3⟩ := h
  refine ⟨by rw [List.length_take]; omega, by omega, ?_⟩
  by_cases h0 : k = 0
  · exact .inl h0
  · obtain ⟨b, off, ha, hc⟩ := h3.resolve_left (by omega)
    refine .inr ⟨b, off, ha, fun j hj => ?_⟩
    rw [hc j (by omega)]
    simp [List.getD_eq_getElem?_getD, hj]
theorem any_ls (l : List ByteArray) (k : Nat) (f : List UInt8 → Bool) : (l.take k).any (fun x => f x.data.toList) = ((ls l).take k).any f := by
  unfold ls; rw [← List.map_take, List.any_map]; rfl
theorem mem_ls (l : List ByteArray) (k : Nat) (p : ByteArray) : (∃ o ∈ l.take k, o = p) ↔ p.data.toList ∈ (ls l).take k := by
  unfold ls; rw [← List.map_take, List.mem_map]
  constructor
  · rintro ⟨o, ho, rfl⟩; exact ⟨o, ho, rfl⟩
  · rintro ⟨o, ho, e⟩; exact ⟨o, ho, ba_ext e⟩
set_option maxRecDepth 100000 in
set_option maxHeartbeats 4000000 in
theorem pcheck_any (a : Option Addr) (n c : Nat) (l : List ByteArray) (w : World) (hS : StrsAt w a n l) (hc : n ≤ c) (hcm : c ≤ maxLen) (hz : ∀ x ∈ l, x.size < 4294967281) (hm : MaxAt w) :
    Calls Tryd.prog 22 #[.slice a n c] w fun e w' => e = .returned (.tuple #[.int .i64 (checkR (ls l)).1, .int .i64 (checkR (ls l)).2]) ∧ Below w.heap.size w w' := by
  have hnl := hS.1
  have hn := hS.2.1
  have xl := ls_length l
  have HM := hid hm; clear hm
  have HZ := hid hz; clear hz
  unfold maxLen at hcm
  have hmem : ∀ k, k < n → l.getD k ByteArray.empty ∈ l := fun k hk => by rw [List.getD_eq_getElem?_getD, List.getElem?_eq_getElem (by omega)]; exact List.getElem_mem _
  have HE := hid hmem; clear hmem
  go_enter Tryd.func22, Tryd.ntmps22
  go_wp2
  go_loopw [14] (fun i wr => ∃ k : Nat, k ≤ n ∧ i = .int .i64 k ∧ Below w.heap.size w wr ∧ Hid (bad1 0 (ls l) = bad1 k ((ls l).drop k))) (fun i _ => n - (intOf i).toNat)
  case atStart => exact ⟨0, by omega, rfl, Below.refl _ _, rfl⟩
  case round =>
    obtain ⟨k, hk, rfl, hbel, HK⟩ := hrel
    by_cases hlt : k < n
    · have hSr := hS.later hbel
      obtain ⟨b, off, rfl, hcc⟩ := hSr.2.2.resolve_left (by omega)
      have hck := hcc k hlt
      have st := bad1_step (ls l) k (by omega)
      rw [ls_get] at st
      have hzk := HZ.out _ (HE.out k hlt)
      obtain ⟨p, hp⟩ : ∃ p, l.getD k ByteArray.empty = p := ⟨_, rfl⟩
      rw [hp] at hck st hzk
      clear hp hcc
      by_cases h0 : splitE p.data.toList = 0
      · have HS : Hid (bad1 0 (ls l) = bad1 ((k + 1 : Nat) : Int) ((ls l).drop (k + 1))) := by rw [if_pos h0] at st; exact HK.out.trans st
        have f1 : (splitE p.data.toList != 0) = false := by simp [h0]
        clear st h0
        go_wp2_with (go_at_call 11; refine (split_any _ _ hzk (HM.out.later hbel)).mono ?_; rintro e w1 ⟨v, rfl, hv, hb1⟩; clear hv)
        go_roundw
        case rel => exact ⟨k + 1, by omega, by go_num, below_then hbel hb1, HS⟩
        case measure => simp [intOf]; omega
      · have HS : Hid (bad1 0 (ls l) = some ((k : Int), splitE p.data.toList)) := by rw [if_neg h0] at st; exact HK.out.trans st
        have f1 : (splitE p.data.toList != 0) = true := by simp [h0]
        clear st h0
        go_wp2_with (go_at_call 11; refine (split_any _ _ hzk (HM.out.later hbel)).mono ?_; rintro e w1 ⟨v, rfl, hv, hb1⟩; clear hv)
        go_ret2
        exact ⟨by unfold checkR; rw [HS.out]; rfl, below_then hbel hb1⟩
    · have HN : Hid (checkR (ls l) = pass2 [] 0 (ls l)) := by
        have : bad1 0 (ls l) = none := by rw [HK.out, List.drop_eq_nil_of_le (by omega)]; rfl
        unfold Hid checkR; rw [this]
      clear HK
      go_wp2
      go_loopw [31] (fun i wr => ∃ k : Nat, k ≤ n ∧ i = .int .i64 k ∧ Below w.heap.size w wr ∧ Hid (checkR (ls l) = pass2 ((ls l).take k) k ((ls l).drop k))) (fun i _ => n - (intOf i).toNat)
      case atStart => exact ⟨0, by omega, rfl, hbel, HN.out⟩
      case round =>
        clear hlt hk hbel HN
        obtain ⟨k, hk, rfl, hbel, HK⟩ := hrel
        by_cases hlt : k < n
        · have hSr := hS.later hbel
          obtain ⟨b, off, rfl, hcc⟩ := hSr.2.2.resolve_left (by omega)
          have hck := hcc k hlt
          have st := pass2_step (ls l) k (by omega)
          rw [ls_get] at st
          have hzk := HZ.out _ (HE.out k hlt)
          obtain ⟨p, hp⟩ : ∃ p, l.getD k ByteArray.empty = p := ⟨_, rfl⟩
          rw [hp] at hck st hzk
          clear hp hcc
          have hbA : Below wr.heap.size wr (wr.alloc (.cells #[.string p] 9)) := (Below.refl _ _).alloc (Nat.le_refl _) _
          obtain ⟨B, hB⟩ : ∃ B, wr.heap.size = B := ⟨_, rfl⟩
          have hcB : (wr.alloc (.cells #[.string p] 9)).cell? ⟨B, 0, none⟩ = some (.string p) := by
            subst hB; rw [World.cell?_alloc_mark]; rfl
          have hSA := strsAt_take (hSr.later hbA) hk
          have hMA := HM.out.later (below_then hbel hbA)
          have cN := contains_any (some ⟨b, off, none⟩) k c (l.take k) p _ hSA
          have cF := containsFunc_grows 31 #[.pointer (some ⟨B, 0, none⟩)] (fun args w => rfl) (fun x => meets p.data.toList x.data.toList) (some ⟨b, off, none⟩) k c (l.take k) _ hSA
            (fun W hW x hx => meets_any B p x W hzk (HZ.out x (List.mem_of_mem_take hx)) (hMA.later hW) ((hW.cell (p := ⟨B, 0, none⟩) (World.block_lt_of_cell? _ _ hcB)).trans hcB))
          rw [any_ls] at cF
          have hbB := below_then hbel hbA
          clear hSr hSA hMA hcB hbA
          by_cases d1 : p.data.toList ∈ (ls l).take k
          · have HS : Hid (checkR (ls l) = ((k : Int), 31)) := by rw [if_pos d1] at st; exact HK.out.trans st
            rw [decide_eq_true ((mem_ls l k p).2 d1)] at cN
            have CN := hid cN; have HBB := hid hbB; clear cN cF st d1 hbB
            subst hB
            go_wp2_with (go_at_call 32; refine CN.out.mono ?_; rintro e w1 ⟨rfl, rfl⟩)
            go_ret2
            exact ⟨by rw [HS.out]; rfl, HBB.out⟩
          · rw [if_neg d1] at st
            rw [decide_eq_false (fun e => d1 ((mem_ls l k p).1 e))] at cN
            by_cases d2 : ((ls l).take k).any (meets p.data.toList) = true
            · have HS : Hid (checkR (ls l) = ((k : Int), 32)) := by rw [if_pos d2] at st; exact HK.out.trans st
              rw [d2] at cF
              have CN := hid cN; have CF := hid cF; have HBB := hid hbB; clear cN cF st d1 d2 hbB
              subst hB
              go_wp2_with (first
                | (go_at_call 32; refine CN.out.mono ?_; rintro e w1 ⟨rfl, rfl⟩)
                | (go_at_call 33; refine CF.out.mono ?_; rintro e w1 ⟨rfl, hb1⟩))
              go_ret2
              exact ⟨by rw [HS.out]; rfl, below_then HBB.out hb1⟩
            · have HS : Hid (checkR (ls l) = pass2 ((ls l).take (k + 1)) ((k + 1 : Nat) : Int) ((ls l).drop (k + 1))) := by rw [if_neg d2] at st; exact HK.out.trans st
              have d3 : ((ls l).take k).any (meets p.data.toList) = false := by simpa using d2
              rw [d3] at cF
              have CN := hid cN; have CF := hid cF; have HBB := hid hbB; clear cN cF st d1 d2 d3 hbB
              subst hB
              go_wp2_with (first
                | (go_at_call 32; refine CN.out.mono ?_; rintro e w1 ⟨rfl, rfl⟩)
                | (go_at_call 33; refine CF.out.mono ?_; rintro e w1 ⟨rfl, hb1⟩))
              go_roundw
              case rel => exact ⟨k + 1, by omega, by go_num, below_then HBB.out hb1, HS⟩
              case measure => simp [intOf]; omega
        · have HR : Hid (checkR (ls l) = (0, 0)) := by rw [Hid, HK.out, List.drop_eq_nil_of_le (by omega)]; rfl
          go_wp2
          go_ret2
          exact ⟨by rw [HR.out]; rfl, hbel⟩
end Go.Proofs.YtfgglckpfnnaoaaDoor
