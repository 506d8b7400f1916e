/- The walk of SnapSame. -/
import Derived.Test.YtlenfiiocmchdaaGreatDoorMcL
namespace Go.Proofs.YtlenfiiocmchdaaGreatDoor
open Go.RowKit Book Pap Ojt Sn
set_option linter.unusedVariables false
set_option linter.unusedSimpArgs false

set_option maxRecDepth 100000 in
set_option maxHeartbeats 16000000 in
theorem walk_SnapSame (a0 : Option Addr) (n0 c0 : Nat) (l0 : List Fi) (a1 : Option Addr) (n1 c1 : Nat) (l1 : List Fi) (turn : Int) (W : World) (w0 : FisAt W a0 n0 l0) (nc0 : n0 ≤ c0) (z0 : ∀ f ∈ l0, f.path.size ≤ 140737488355328 ∧ f.data.size ≤ 140737488355328)
    (w1 : FisAt W a1 n1 l1) (nc1 : n1 ≤ c1) (z1 : ∀ f ∈ l1, f.path.size ≤ 140737488355328 ∧ f.data.size ≤ 140737488355328) (ht : -9223372036854775808 ≤ turn ∧ turn ≤ 9223372036854775807) (hm : MaxAt W) :
    Calls Tryz.prog 5 #[.slice a0 n0 c0, .slice a1 n1 c1, .int .i64 turn] W fun e w' => e = .returned (.bool true) ∧ Below W.heap.size W w' := by
  have HM := hid hm
  have H0 := hid w0
  have H1 := hid w1
  have Z0 := hid z0
  have Z1 := hid z1
  have HA := hid (awake_any W hm)
  clear hm w0 w1 z0 z1
  go_enter Tryz.func5, Tryz.ntmps5
  go_wp2_with fail
  refine HA.out.mono ?_; rintro e w1 ⟨rfl, hb1⟩
  have HB1 := hid hb1
  have HG0 := hid (great_any a0 n0 c0 l0 w1 (H0.out.later hb1) Z0.out)
  clear hb1 HA
  go_wp2_with fail
  refine HG0.out.mono ?_; rintro e w2 ⟨r0, rfl, hb2, hr0⟩
  have HB2 := hid (below_then HB1.out hb2)
  clear hb2 HG0 HB1
  cases r0 with
  | true =>
    go_wp2_with fail
    go_ret
    exact ⟨rfl, HB2.out⟩
  | false =>
    obtain ⟨hn0, hs0⟩ := hr0 rfl
    have HG1 := hid (great_any a1 n1 c1 l1 w2 (H1.out.later HB2.out) Z1.out)
    go_wp2_with fail
    refine HG1.out.mono ?_; rintro e w3 ⟨r1, rfl, hb3, hr1⟩
    have HB3 := hid (below_then HB2.out hb3)
    clear hb3 HG1 HB2
    cases r1 with
    | true =>
      go_wp2_with fail
      go_ret
      exact ⟨rfl, HB3.out⟩
    | false =>
      obtain ⟨hn1, hs1⟩ := hr1 rfl
      have Y0 := hid (sumF_each hs0)
      have Y1 := hid (sumF_each hs1)
      have HU0 := hid (Build_any a0 n0 c0 l0 w3 (H0.out.later HB3.out) (fun f hf => by have := Y0.out f hf; omega) (HM.out.later HB3.out))
      clear hr0 hr1
      go_wp2_with fail
      refine HU0.out.mono ?_; rintro e w4 ⟨hb4, v0, rfl, ho0⟩
      have HP0 := hid (fun h => buildS_perm (l := l0) (m := l0.drop 0 ++ l0.take 0) h (rot_perm l0 0))
      have HPK : Hid (∀ k, (buildS l0).2 = 0 → buildS (l0.drop k ++ l0.take k) = buildS l0) := fun k h => buildS_perm h (rot_perm l0 k)
      have HLW : Hid ((buildS l0).2 = 0 → (buildS l1).2 = 0 → Sw.Apart ((buildS l0).1.1 ++ (buildS l1).1.1) → ((buildS l0).1.2 = (buildS l1).1.2 ↔ sortF l0 = sortF l1)) := fun h1 h2 h3 => same_law h1 h2 (by rw [H0.out.1]; exact hn0) (by rw [H1.out.1]; exact hn1) h3
      have HZ0 : Hid ((buildS l0).2 = 0 → (buildS l0).1.1.length ≤ 3841 ∧ ∀ s ∈ (buildS l0).1.1, s.size ≤ 100000) := fun h => ⟨buildS_few h (by rw [H0.out.1]; exact hn0), buildS_size h⟩
      clear HP0
      obtain ⟨⟨⟨L0, t0⟩, E0⟩, hr⟩ : ∃ r, buildS l0 = r := ⟨_, rfl⟩
      rw [hr] at ho0 HPK HLW HZ0 ⊢
      clear hr HU0
      obtain ⟨va, vc, rfl, hvc⟩ := own_slice' ho0
      have HO4 := hid ho0
      have HB4 := hid (below_then HB3.out hb4)
      clear hb4 ho0 hvc
      by_cases hE : E0 = 0
      · subst hE
        have HS4 := hid (H0.out.later HB4.out)
        go_upto_if 36 with fail
        go_cut [10] (fun s10 wx => ∃ k : Nat, (n0 = 0 ∧ k = 0 ∨ k < n0) ∧ s10 = .int .i64 k ∧ w4 = wx)
        case first =>
          by_cases cn : (0 : Int) < n0
          · have hu : (0 : Int) ≤ IntKind.u64.wrap turn := (wrap_within .u64 turn).1
            have hk : ∃ k : Nat, k < n0 ∧ wrap64 (IntKind.u64.wrap turn % n0) = (k : Int) := by
              obtain ⟨u, hu'⟩ : ∃ u : Nat, IntKind.u64.wrap turn = u := ⟨(IntKind.u64.wrap turn).toNat, by omega⟩
              rw [hu']
              refine ⟨u % n0, Nat.mod_lt _ (by omega), ?_⟩
              have := Nat.mod_lt u (show 0 < n0 by omega)
              rw [← Int.natCast_emod]; unfold wrap64; omega
            obtain ⟨k, hk, ek⟩ := hk
            go_wp2_with fail
            go_meet
            case rel => exact ⟨k, .inr hk, by rw [ek], rfl⟩
          · have hn : n0 = 0 ∧ 0 = 0 := ⟨by omega, rfl⟩
            have HN := hid hn
            clear hn
            go_wp2_with fail
            go_meet
            case rel => exact ⟨0, .inl ⟨HN.out.1, rfl⟩, rfl, rfl⟩
        case rest =>
          obtain ⟨k, hk, rfl, rfl⟩ := hcut
          have HP : Hid (FisAt w4 a0 k (l0.take k)) := HS4.out.take (by omega)
          have HBF : Hid (MaxAt w4) := HM.out.later HB4.out
          go_upto_region 11 with fail
          go_cut [11] (fun s11 wx => ∃ a' c', s11 = .slice a' n0 c' ∧ Hid (FisAt wx a' n0 (l0.drop k ++ l0.take k)) ∧ Hid (Below w4.heap.size w4 wx))
          case first =>
            by_cases cn : n0 = 0
            · subst cn
              obtain rfl : k = 0 := by omega
              have HNN : Hid (l0 = []) := List.length_eq_zero_iff.1 HS4.out.1
              rcases a0 with _ | ⟨b, off, fl⟩ <;> rcases Nat.eq_zero_or_pos c0 with rfl | cz
              all_goals
                go_region_law (first
                  | ((refine step_append_fis (by rfl) (.tmp 44) (.tmp 47) 34 Tryz.underlying34 (by rfl) w4.heap.size (.slice (some ⟨w4.heap.size, 0, none⟩) 0 0) 0 [] (by simp [Act.eval, Act.put]) (own_noneFi w4.drew) _ 0 _ [] (by rfl) ⟨rfl, by omega, .inl rfl⟩ (by omega) (by simp) ?_; intro a5 c5 w5 ho5 hb5; have HO5 := hid ho5; have HB5 := hid (hb5 w4 ((Below.refl _ _).drew.alloc (Nat.le_refl _) _)); clear ho5 hb5))
                  | ((refine step_append_fis (by rfl) (.tmp 48) (.tmp 51) 34 Tryz.underlying34 (by rfl) w4.heap.size (.slice a5 (0 + 0) c5) (0 + 0) ([] ++ []) (by simp [Act.eval, Act.put]) HO5.out _ 0 _ [] (by rfl) ⟨rfl, by omega, .inl rfl⟩ (by omega) HB5.out.size ?_; intro a6 c6 w6 ho6 hb6; have HO6 := hid ho6; have HB6 := hid (hb6 w4 HB5.out); clear ho6 hb6)))
                obtain ⟨a7, c7, he, hF⟩ := own_files HO6.out (by omega)
                injection he with he1 he2 he3
                subst he1; subst he3
                have HFF : Hid (FisAt w6 a6 0 (l0.drop 0 ++ l0.take 0)) := by rw [HNN.out]; exact hF
                clear hF HO6 HO5
                go_wp2_with fail
                go_meet
                case rel => exact ⟨a6, c6, rfl, HFF, HB6⟩
            · obtain ⟨b, off, rfl, -⟩ := HS4.out.2.2.resolve_left cn
              have hk : k < n0 := by omega
              have HD : Hid (FisAt w4 (some ⟨b, off + k * 2, none⟩) (n0 - k) (l0.drop k)) := HS4.out.drop (by omega)
              have ck : (k : Int) ≤ n0 := by omega
              have ck0 : (0 : Int) ≤ (k : Int) := by omega
              have hne : c0 ≠ k := by omega
              have hkc : k ≤ c0 := by omega
              go_region_law (first
                | ((refine step_append_fis (by rfl) (.tmp 44) (.tmp 47) 34 Tryz.underlying34 (by rfl) w4.heap.size (.slice (some ⟨w4.heap.size, 0, none⟩) 0 0) 0 [] (by simp [Act.eval, Act.put]) (own_noneFi w4.drew) (some ⟨b, off + k * 2, none⟩) (n0 - k) (c0 - k) (l0.drop k) (by simp [Act.eval, Act.put, hne]) (HD.out.later ((Below.refl _ _).drew.alloc (Nat.le_refl _) _)) (by omega) (by simp) ?_; intro a5 c5 w5 ho5 hb5; have HO5 := hid ho5; have HB5 := hid (hb5 w4 ((Below.refl _ _).drew.alloc (Nat.le_refl _) _)); clear ho5 hb5))
                | ((refine step_append_fis (by rfl) (.tmp 48) (.tmp 51) 34 Tryz.underlying34 (by rfl) w4.heap.size (.slice a5 (0 + (n0 - k)) c5) (0 + (n0 - k)) ([] ++ l0.drop k) (by simp [Act.eval, Act.put]) HO5.out (some ⟨b, off, none⟩) k c0 (l0.take k) (by simp [Act.eval, Act.put]) (HP.out.later HB5.out) (by omega) HB5.out.size ?_; intro a6 c6 w6 ho6 hb6; have HO6 := hid ho6; have HB6 := hid (hb6 w4 HB5.out); clear ho6 hb6)))
              all_goals
                obtain ⟨a7, c7, he, hF⟩ := own_files HO6.out (by omega)
                injection he with he1 he2 he3
                subst he1; subst he3
                have en : 0 + (n0 - k) + k = n0 := by omega
                rw [en, List.nil_append] at hF
                have en2 : n0 - k + k = n0 := by omega
                have HFF := hid hF
                have HEN := hid en2
                clear hF en en2 HO6 HO5
                go_wp2_with fail
                go_meet
                case rel => exact ⟨a6, c6, by rw [HEN.out], HFF, HB6⟩
          case rest =>
            obtain ⟨ar, cr, rfl, HR, HBR⟩ := hcut
            have HBW := hid (below_then HB4.out HBR.out)
            have HUR := hid (Build_any ar n0 cr (l0.drop k ++ l0.take k) wc HR.out (fun f hf => by have := Y0.out f ((rot_perm l0 k).mem_iff.1 hf); omega) (HM.out.later HBW.out))
            rw [HPK.out k trivial] at HUR
            have HO5 := hid (own_below HO4.out HBR.out)
            clear HR HBR HP HBF HO4 HS4 HPK hk
            go_wp2_with fail
            refine HUR.out.mono ?_; rintro e w5 ⟨hb5, v5, rfl, ho5⟩
            obtain ⟨va5, vc5, rfl, hvc5⟩ := own_slice' ho5
            have HO6 := hid (own_below HO5.out hb5)
            have HB6 := hid (below_then HBW.out hb5)
            clear hb5 ho5 hvc5 HUR HO5 HBW
            have HU1 := hid (Build_any a1 n1 c1 l1 w5 (H1.out.later HB6.out) (fun f hf => by have := Y1.out f hf; omega) (HM.out.later HB6.out))
            have HZ1 : Hid ((buildS l1).2 = 0 → (buildS l1).1.1.length ≤ 3841 ∧ ∀ s ∈ (buildS l1).1.1, s.size ≤ 100000) := fun h => ⟨buildS_few h (by rw [H1.out.1]; exact hn1), buildS_size h⟩
            obtain ⟨⟨⟨L1, t1⟩, E1⟩, hr⟩ : ∃ r, buildS l1 = r := ⟨_, rfl⟩
            rw [hr] at HU1 HZ1 HLW
            clear hr
            go_wp2_with fail
            refine HU1.out.mono ?_; rintro e w6 ⟨hb6, v6, rfl, ho6⟩
            have HB7 := hid (below_then HB6.out hb6)
            have HO7 := hid (own_below HO6.out hb6)
            have HL7 := hid ho6
            have hsz6 := hb6.size
            clear hb6 ho6 HU1 HB6 HO6
            by_cases hE : E1 = 0
            · subst hE
              obtain ⟨vb, vd, rfl, hvd⟩ := own_slice' HL7.out
              clear hvd
              have HQ0 := hid (sortedF_any a0 n0 c0 l0 w6 (H0.out.later HB7.out) (by omega) (fun f hf => by have := Y0.out f hf; omega) (HM.out.later HB7.out))
              go_wp2_with fail
              refine HQ0.out.mono ?_; rintro e w7 ⟨sa, sc, rfl, hF7, hb7⟩
              have HO8 := hid (own_below HO7.out hb7)
              have HL8 := hid (own_below HL7.out hb7)
              have HB8 := hid (below_then HB7.out hb7)
              have HF8 := hid hF7
              have hsz7 := Nat.le_trans hsz6 hb7.size
              clear hb7 hF7 HQ0 HO7 HL7 HB7 hsz6
              have HQ1 := hid (sortedF_any a1 n1 c1 l1 w7 (H1.out.later HB8.out) (by omega) (fun f hf => by have := Y1.out f hf; omega) (HM.out.later HB8.out))
              go_wp2_with fail
              refine HQ1.out.mono ?_; rintro e w8 ⟨sb, sd, rfl, hF8, hb8⟩
              have HO9 := hid (own_below HO8.out hb8)
              have HL9 := hid (own_below HL8.out hb8)
              have HB9 := hid (below_then HB8.out hb8)
              have HF9 := hid (HF8.out.later hb8)
              have HG9 := hid hF8
              have hsz8 := Nat.le_trans hsz7 hb8.size
              clear hb8 hF8 HQ1 HO8 HL8 HB8 hsz7 HF8
              have HQ2 := hid (same_any sa sb n0 n1 sc sd (sortF l0) (sortF l1) w8 HF9.out HG9.out)
              go_wp2_with fail
              refine HQ2.out.mono ?_; rintro e w9 ⟨r, rfl, hr, hb9⟩
              have HOa := hid (own_below HO9.out hb9)
              have HLa := hid (own_below HL9.out hb9)
              have HBa := hid (below_then HB9.out hb9)
              have hsz9 := Nat.le_trans hsz8 hb9.size
              have HR := hid hr
              clear hb9 HQ2 HO9 HL9 HB9 hsz8 HF9 HG9 hr
              have ZZ0 := hid (HZ0.out trivial)
              have ZZ1 := hid (HZ1.out trivial)
              have hl0 := ZZ0.out.1
              have hl1 := ZZ1.out.1
              obtain ⟨q0, q1, e0, hS0⟩ := own_texts HOa.out (by omega)
              obtain ⟨q2, q3, e1, hS1⟩ := own_texts HLa.out (by omega)
              injection e0 with e00 e01 e02
              injection e1 with e10 e11 e12
              subst e00; subst e02; subst e10; subst e12
              have HS0 := hid hS0
              have HS1 := hid hS1
              have HBb : Hid (Below w9.heap.size w9 (w9.alloc (.cells #[] 9))) := (Below.refl _ _).alloc (Nat.le_refl _) _
              clear hS0 hS1 e01 e11
              by_cases htl : t0.toList = t1.toList <;> cases r
              · have hc : ¬ Sw.Apart (L0 ++ L1) := fun h => by have := HR.out.2 ((HLW.out trivial trivial h).1 (ba_ext (by rw [← ba_toList, ← ba_toList]; exact htl))); cases this
                have HC := hid hc
                clear hc
                go_wp2_with (first
                  | (at_builtin; (refine wpList_append_strs (by rfl) (.tmp 91) (.tmp 92) (by rfl) w9.heap.size (.slice (some ⟨w9.heap.size, 0, none⟩) 0 0) 0 [] (by rfl) (own_noneSt w9) va L0.length vc L0 (by rfl) (HS0.out.later HBb.out) (by omega) (by simp) ?_; intro a5 c5 w10 ho10 hb10; rw [Nat.zero_add, List.nil_append] at ho10; have HOx := hid ho10; have HBx := hid (hb10 w9 HBb.out); clear ho10 hb10))
                  | (at_builtin; (refine wpList_append_strs (by rfl) (.tmp 93) (.tmp 94) (by rfl) w9.heap.size (.slice a5 L0.length c5) L0.length L0 (by rfl) HOx.out vb L1.length vd L1 (by rfl) (HS1.out.later HBx.out) (by omega) HBx.out.size ?_; intro a6 c6 w11 ho11 hb11; have HOy := hid ho11; have HBy := hid (hb11 w9 HBx.out); clear ho11 hb11)))
                obtain ⟨g5, g6, eg, hS5⟩ := own_texts HOy.out (by omega)
                injection eg with eg0 eg1 eg2
                subst eg0; subst eg2
                have HSW := hid (shown_any a6 (L0.length + L1.length) c6 (L0 ++ L1) w11 hS5 (by omega) (fun s hs => by
                  rcases List.mem_append.1 hs with h | h
                  · have := ZZ0.out.2 s h; omega
                  · have := ZZ1.out.2 s h; omega))
                clear hS5 eg1
                refine HSW.out.mono ?_; rintro e w12 ⟨bb, rfl, hbb, hb12⟩
                cases bb with
                | false => exact (HC.out (hbb rfl)).elim
                | true =>
                  have HBz := hid (below_then (below_then HBa.out HBy.out) hb12)
                  clear hb12 hbb
                  go_wp2_with fail
                  go_ret
                  exact ⟨rfl, HBz.out⟩
              · go_wp2_with fail
                go_ret
                exact ⟨rfl, HBa.out⟩
              · go_wp2_with fail
                go_ret
                exact ⟨rfl, HBa.out⟩
              · have hc : ¬ Sw.Apart (L0 ++ L1) := fun h => by exact htl (by rw [(HLW.out trivial trivial h).2 (HR.out.1 rfl)])
                have ht1 : (t0.toList == t1.toList) = false := by rw [beq_eq_false_iff_ne]; exact htl
                have HC := hid hc
                clear hc
                go_wp2_with (first
                  | (at_builtin; (refine wpList_append_strs (by rfl) (.tmp 91) (.tmp 92) (by rfl) w9.heap.size (.slice (some ⟨w9.heap.size, 0, none⟩) 0 0) 0 [] (by rfl) (own_noneSt w9) va L0.length vc L0 (by rfl) (HS0.out.later HBb.out) (by omega) (by simp) ?_; intro a5 c5 w10 ho10 hb10; rw [Nat.zero_add, List.nil_append] at ho10; have HOx := hid ho10; have HBx := hid (hb10 w9 HBb.out); clear ho10 hb10))
                  | (at_builtin; (refine wpList_append_strs (by rfl) (.tmp 93) (.tmp 94) (by rfl) w9.heap.size (.slice a5 L0.length c5) L0.length L0 (by rfl) HOx.out vb L1.length vd L1 (by rfl) (HS1.out.later HBx.out) (by omega) HBx.out.size ?_; intro a6 c6 w11 ho11 hb11; have HOy := hid ho11; have HBy := hid (hb11 w9 HBx.out); clear ho11 hb11)))
                obtain ⟨g5, g6, eg, hS5⟩ := own_texts HOy.out (by omega)
                injection eg with eg0 eg1 eg2
                subst eg0; subst eg2
                have HSW := hid (shown_any a6 (L0.length + L1.length) c6 (L0 ++ L1) w11 hS5 (by omega) (fun s hs => by
                  rcases List.mem_append.1 hs with h | h
                  · have := ZZ0.out.2 s h; omega
                  · have := ZZ1.out.2 s h; omega))
                clear hS5 eg1
                refine HSW.out.mono ?_; rintro e w12 ⟨bb, rfl, hbb, hb12⟩
                cases bb with
                | false => exact (HC.out (hbb rfl)).elim
                | true =>
                  have HBz := hid (below_then (below_then HBa.out HBy.out) hb12)
                  clear hb12 hbb
                  go_wp2_with fail
                  go_ret
                  exact ⟨rfl, HBz.out⟩
            · go_wp2_with fail
              go_ret
              exact ⟨rfl, HB7.out⟩
      · go_wp2_with fail
        go_ret
        exact ⟨rfl, HB4.out⟩
end Go.Proofs.YtlenfiiocmchdaaGreatDoor
