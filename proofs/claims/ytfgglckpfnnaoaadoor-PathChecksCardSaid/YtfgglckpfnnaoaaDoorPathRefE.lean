/- The reference's Check. -/
import Derived.Test.YtfgglckpfnnaoaaDoorPathRefD
namespace Go.Proofs.YtfgglckpfnnaoaaDoor
open Go.RowKit Pap
set_option linter.unusedVariables false

theorem any_succ (l : List ByteArray) (j : Nat) (h : j < l.length) (f : List UInt8 → Bool) : ((ls l).take (j + 1)).any f = (((ls l).take j).any f || f (l.getD j ByteArray.empty).data.toList) := by
  rw [ls_take_succ l j h, List.any_append]; simp
theorem notin_ls_succ {l : List ByteArray} {j : Nat} (h : j < l.length) {p : List UInt8} (hn : p ∉ (ls l).take j) (hp : p ≠ (l.getD j ByteArray.empty).data.toList) : p ∉ (ls l).take (j + 1) := by
  rw [ls_take_succ l j h]
  intro hm
  rcases List.mem_append.1 hm with hm | hm
  · exact hn hm
  · simp at hm; exact hp (by simpa using hm)
theorem mem_take_get {l : List ByteArray} {j i : Nat} (hj : j < i) (hi : i ≤ l.length) : (l.getD j ByteArray.empty).data.toList ∈ (ls l).take i := by
  refine List.mem_of_mem_take (i := j + 1) ?_
  rw [List.take_take, Nat.min_eq_left (by omega), ls_take_succ l j (by omega)]; simp

set_option maxHeartbeats 16000000 in
theorem rcheck_any (a : Option Addr) (n c : Nat) (l : List ByteArray) (w : World) (hS : StrsAt w a n l) (hz : ∀ x ∈ l, x.size ≤ 1048576) :
    Calls Tryd.prog 23 #[.slice a n c] w fun e w' => e = .returned (.tuple #[.int .i64 (checkR (ls l)).1, .int .i64 (checkR (ls l)).2]) ∧ Below w.heap.size w w' := by
  have hnl := hS.1
  have hn := hS.2.1
  have xl := ls_length l
  have HZ := hid hz; clear hz
  have hmem : ∀ k, k < n → l.getD k ByteArray.empty ∈ l := fun k hk => by rw [List.getD_eq_getElem?_getD, List.getElem?_eq_getElem (by omega)]; exact List.getElem_mem _
  have HE := hid hmem; clear hmem
  go_enter Tryd.func23, Tryd.ntmps23
  go_wp2
  go_loopw [4] (fun i wr => ∃ k : Nat, k ≤ n ∧ i = .int .i64 k ∧ Below w.heap.size w wr ∧ Hid (bad1 0 (ls l) = bad1 k ((ls l).drop k))) (fun i _ => n - (intOf i).toNat)
  case atStart => exact ⟨0, by omega, rfl, Below.refl _ _, rfl⟩
  case round =>
    obtain ⟨k, hk, rfl, hbel, HK⟩ := hrel
    by_cases hlt : k < n
    · have hSr := hS.later hbel
      obtain ⟨b, off, rfl, hcc⟩ := hSr.2.2.resolve_left (by omega)
      have hck := hcc k hlt
      have st := bad1_step (ls l) k (by omega)
      rw [ls_get] at st
      have hzk := HZ.out _ (HE.out k hlt)
      obtain ⟨p, hp⟩ : ∃ p, l.getD k ByteArray.empty = p := ⟨_, rfl⟩
      rw [hp] at hck st hzk
      clear hp hcc
      by_cases h0 : splitE p.data.toList = 0
      · have HS : Hid (bad1 0 (ls l) = bad1 ((k + 1 : Nat) : Int) ((ls l).drop (k + 1))) := by rw [if_pos h0] at st; exact HK.out.trans st
        have f1 : (splitE p.data.toList != 0) = false := by simp [h0]
        clear st h0
        go_wp2_with (go_at_call 12; refine (rsplit_any _ _ hzk).mono ?_; rintro e w1 ⟨v, rfl, hv, hb1⟩; clear hv)
        go_roundw
        case rel => exact ⟨k + 1, by omega, by go_num, below_then hbel hb1, HS⟩
        case measure => simp [intOf]; omega
      · have HS : Hid (bad1 0 (ls l) = some ((k : Int), splitE p.data.toList)) := by rw [if_neg h0] at st; exact HK.out.trans st
        have f1 : (splitE p.data.toList != 0) = true := by simp [h0]
        clear st h0
        go_wp2_with (go_at_call 12; refine (rsplit_any _ _ hzk).mono ?_; rintro e w1 ⟨v, rfl, hv, hb1⟩; clear hv)
        go_ret2
        exact ⟨by unfold checkR; rw [HS.out]; rfl, below_then hbel hb1⟩
    · have HN : Hid (checkR (ls l) = pass2 [] 0 (ls l)) := by
        have : bad1 0 (ls l) = none := by rw [HK.out, List.drop_eq_nil_of_le (by omega)]; rfl
        unfold Hid checkR; rw [this]
      clear HK
      go_wp2
      go_loopw [7] (fun i wr => ∃ k : Nat, k ≤ n ∧ i = .int .i64 k ∧ Below w.heap.size w wr ∧ Hid (checkR (ls l) = pass2 ((ls l).take k) k ((ls l).drop k))) (fun i _ => n - (intOf i).toNat)
      case atStart => exact ⟨0, by omega, rfl, hbel, HN.out⟩
      case round =>
        clear hlt hk hbel HN
        obtain ⟨k, hk, rfl, hbel, HK⟩ := hrel
        by_cases hlt : k < n
        · have st := HK.out.trans (pass2_step (ls l) k (by omega))
          rw [ls_get] at st
          have hzk := HZ.out _ (HE.out k hlt)
          have HPK : Hid (∀ W, Below w.heap.size w W → ∃ b off, a = some ⟨b, off, none⟩ ∧ ∀ j, j < n → W.cell? ⟨b, off + j, none⟩ = some (.string (l.getD j ByteArray.empty))) := fun W hW => (hS.later hW).2.2.resolve_left (by omega)
          obtain ⟨b, off, hab, -⟩ := HPK.out w (Below.refl _ _)
          have HPC : Hid (∀ W, Below w.heap.size w W → ∀ j, j < n → W.cell? ⟨b, off + j, none⟩ = some (.string (l.getD j ByteArray.empty))) := fun W hW j hj => by
            obtain ⟨b', off', hab', h⟩ := HPK.out W hW
            rw [hab] at hab'; cases hab'; exact h j hj
          clear HPK
          have HNI : Hid (∀ j, j < k → (l.getD j ByteArray.empty).data.toList ∈ (ls l).take k) := fun j hj => mem_take_get hj (by omega)
          have HPE : Hid (∃ p, l.getD k ByteArray.empty = p) := ⟨_, rfl⟩
          obtain ⟨p, hp⟩ := HPE.out
          clear HPE
          rw [hp] at st hzk
          have HP := hid hp
          have HST := hid st
          subst hab
          clear st hp
          go_wp2
          go_loopw [8, 9] (fun cl at' wr => ∃ j : Nat, j ≤ k ∧ at' = .int .i64 j ∧ cl = .bool (((ls l).take j).any (meets p.data.toList)) ∧ Below w.heap.size w wr ∧ Hid (p.data.toList ∉ (ls l).take j)) (fun _ i _ => k - (intOf i).toNat)
          case atStart => exact ⟨0, by omega, rfl, by simp, hbel, by unfold Hid; simp⟩
          case round =>
            clear hbel
            obtain ⟨j, hj, rfl, rfl, hbel, HJ⟩ := hrel
            by_cases hjk : j < k
            · have hcj := HPC.out _ hbel j (by omega)
              have hck := HPC.out _ hbel k hlt
              rw [HP.out] at hck
              have hzj := HZ.out _ (HE.out j (by omega))
              have hin := HNI.out j hjk
              have hAny := any_succ l j (by omega) (meets p.data.toList)
              have hNI := notin_ls_succ (l := l) (j := j) (by omega) HJ.out
              obtain ⟨q, hq⟩ : ∃ q, l.getD j ByteArray.empty = q := ⟨_, rfl⟩
              rw [hq] at hcj hzj hin hAny hNI
              clear hq
              by_cases he : q = p
              · have t1 : (q.toList == p.toList) = true := by rw [he]; simp
                have HS : Hid (checkR (ls l) = ((k : Int), 31)) := by have := HST.out; rw [if_pos (by rw [← he]; exact hin)] at this; exact this
                clear hin hAny hNI he
                go_wp2
                go_quiet (fail)
                go_wp2
                go_ret2
                exact ⟨by rw [HS.out] <;> rfl, below_drewN hbel _⟩
              · have t1 : (q.toList == p.toList) = false := by rw [beq_eq_false_iff_ne, ba_toList, ba_toList]; exact fun e => he (ba_ext e)
                have HNJ := hid (hNI (fun e => he (ba_ext e).symm))
                have m0 : meets p.data.toList q.data.toList = (withinR p.data.toList q.data.toList || withinR q.data.toList p.data.toList) := rfl
                obtain ⟨C, hC⟩ : ∃ C, ((ls l).take j).any (meets p.data.toList) = C := ⟨_, rfl⟩
                rw [hC] at hAny ⊢
                have HA := hid hAny; have HM := hid m0
                clear hin hAny hNI he m0 hC
                have EP : ∀ q1 : Nat, ∀ z : After (wr.drewN q1), z.val.cell? ⟨b, off + k, none⟩ = some (.string p) := fun q1 z => (z.below.cell (p := ⟨b, off + k, none⟩) (World.block_lt_of_cell? _ _ (show (wr.drewN q1).cell? ⟨b, off + k, none⟩ = _ from hck))).trans hck
                have EQ : ∀ q1 : Nat, ∀ z : After (wr.drewN q1), z.val.cell? ⟨b, off + j, none⟩ = some (.string q) := fun q1 z => (z.below.cell (p := ⟨b, off + j, none⟩) (World.block_lt_of_cell? _ _ (show (wr.drewN q1).cell? ⟨b, off + j, none⟩ = _ from hcj))).trans hcj
                have hbelq : ∀ q1, Below w.heap.size w (wr.drewN q1) := fun q1 => below_drewN hbel q1
                cases C
                · cases hw1 : withinR q.data.toList p.data.toList
                  · have HX : Hid (((ls l).take (j + 1)).any (meets p.data.toList) = withinR p.data.toList q.data.toList) := by rw [Hid, HA.out, HM.out, hw1]; simp
                    go_wp2
                    go_quiet (fail)
                    go_wp2
                    refine wp_region_after (by kernel_rfl) (by kernel_rfl) ?_
                    repeat (go_big_quiet_step ((go_at_call 21; exact calls_after (rwithin_any _ _ _ (by assumption) (by assumption)))))
                    refine wpQuiet_nil ?_
                    intro _ hw'
                    obtain ⟨z, rfl⟩ := hw'
                    go_wp2
                    go_roundw
                    case rel => exact ⟨j + 1, by omega, by go_num, by rw [HX.out], below_then (hbelq _) z.below, HNJ⟩
                    case measure => simp [intOf]; omega
                  · have HX : Hid (((ls l).take (j + 1)).any (meets p.data.toList) = true) := by rw [Hid, HA.out, HM.out, hw1]; simp
                    go_wp2
                    go_quiet (fail)
                    go_wp2
                    refine wp_region_after (by kernel_rfl) (by kernel_rfl) ?_
                    repeat (go_big_quiet_step ((go_at_call 21; exact calls_after (rwithin_any _ _ _ (by assumption) (by assumption)))))
                    refine wpQuiet_nil ?_
                    intro _ hw'
                    obtain ⟨z, rfl⟩ := hw'
                    go_wp2
                    go_roundw
                    case rel => exact ⟨j + 1, by omega, by go_num, by rw [HX.out], below_then (hbelq _) z.below, HNJ⟩
                    case measure => simp [intOf]; omega
                · have HX : Hid (((ls l).take (j + 1)).any (meets p.data.toList) = true) := by rw [Hid, HA.out]; simp
                  go_wp2
                  go_quiet (fail)
                  go_wp2
                  refine wp_region_after (by kernel_rfl) (by kernel_rfl) ?_
                  repeat (go_big_quiet_step (fail))
                  refine wpQuiet_nil ?_
                  intro _ hw'
                  obtain ⟨z, rfl⟩ := hw'
                  go_wp2
                  go_roundw
                  case rel => exact ⟨j + 1, by omega, by go_num, by rw [HX.out], below_then (hbelq _) z.below, HNJ⟩
                  case measure => simp [intOf]; omega
            · obtain rfl : j = k := by omega
              have st := HST.out
              rw [if_neg HJ.out] at st
              obtain ⟨C, hC⟩ : ∃ C, ((ls l).take j).any (meets p.data.toList) = C := ⟨_, rfl⟩
              rw [hC] at st ⊢
              clear hC
              cases C
              · have HS : Hid (checkR (ls l) = pass2 ((ls l).take (j + 1)) ((j + 1 : Nat) : Int) ((ls l).drop (j + 1))) := by unfold Hid; simpa using st
                clear st
                go_wp2
                go_roundw
                case rel => exact ⟨j + 1, by omega, by go_num, hbel, HS⟩
                case measure => simp [intOf]; omega
              · have HS : Hid (checkR (ls l) = ((j : Int), 32)) := by unfold Hid; simpa using st
                clear st
                go_wp2
                go_ret2
                exact ⟨by rw [HS.out] <;> rfl, hbel⟩
        · have HR : Hid (checkR (ls l) = (0, 0)) := by rw [Hid, HK.out, List.drop_eq_nil_of_le (by omega)]; rfl
          go_wp2
          go_ret2
          exact ⟨by rw [HR.out]; rfl, hbel⟩
end Go.Proofs.YtfgglckpfnnaoaaDoor
