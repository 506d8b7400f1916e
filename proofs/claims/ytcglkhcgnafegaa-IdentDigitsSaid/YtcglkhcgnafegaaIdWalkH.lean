/- Short of the program and of the reference. -/
import Derived.Test.YtcglkhcgnafegaaIdShort
namespace Go.Proofs.Ytcglkhcgnafegaa
open Go.RowKit Idp
set_option linter.unusedVariables false

theorem shortR_no {l : List ByteArray} {id : ByteArray} (h : ¬ (id.size = 32 ∧ ∃ o ∈ l, o = id)) : shortR l id = [] := by unfold shortR; rw [if_neg h]
theorem shortR_yes {l : List ByteArray} {id : ByteArray} (h : id.size = 32) (h2 : ∃ o ∈ l, o = id) : shortR l id = (hexL id).take (mostUpto l id) := by unfold shortR; rw [if_pos ⟨h, h2⟩]
def mostTo (l : List ByteArray) (id : ByteArray) (k : Nat) : Nat := (l.take k).foldl (moreOf id) 4
theorem mostTo_succ {l : List ByteArray} {id : ByteArray} {k : Nat} (h : k < l.length) : mostTo l id (k + 1) = moreOf id (mostTo l id k) (l.getD k ByteArray.empty) := by
  unfold mostTo; rw [take_snoc h, List.foldl_append]; rfl
theorem mostTo_le {l : List ByteArray} {id : ByteArray} (hs : id.size = 32) (k : Nat) : mostTo l id k ≤ 64 := most_le (l := l.take k) hs
theorem mostTo_all (l : List ByteArray) (id : ByteArray) : mostTo l id l.length = mostUpto l id := by unfold mostTo; rw [List.take_length]; rfl

theorem is_true {l : List ByteArray} {id o : ByteArray} {k : Nat} (h : Hid (true = true ↔ ∃ o ∈ l.take k, o = id)) (ht : Hid (l.take (k + 1) = l.take k ++ [o])) : Hid (true = true ↔ ∃ o ∈ l.take (k + 1), o = id) := by
  obtain ⟨x, hx, he⟩ := h.out.1 rfl
  exact ⟨fun _ => ⟨x, by rw [ht.out]; exact List.mem_append_left _ hx, he⟩, fun _ => rfl⟩
theorem is_here {l : List ByteArray} {id o : ByteArray} {k : Nat} (he : o = id) (ht : Hid (l.take (k + 1) = l.take k ++ [o])) : Hid (true = true ↔ ∃ o ∈ l.take (k + 1), o = id) :=
  ⟨fun _ => ⟨o, by rw [ht.out]; simp, he⟩, fun _ => rfl⟩
theorem is_not {l : List ByteArray} {id o : ByteArray} {k : Nat} (he : o ≠ id) (h : Hid (false = true ↔ ∃ o ∈ l.take k, o = id)) (ht : Hid (l.take (k + 1) = l.take k ++ [o])) : Hid (false = true ↔ ∃ o ∈ l.take (k + 1), o = id) := by
  refine ⟨fun h => by (cases h), ?_⟩
  rw [ht.out]
  rintro ⟨x, hx, h2⟩
  rcases List.mem_append.1 hx with h3 | h3
  · exact h.out.2 ⟨x, h3, h2⟩
  · rw [List.mem_singleton] at h3; subst h3; exact absurd h2 he
theorem extract_take (l : List UInt8) (m : Nat) : (⟨l.toArray⟩ : ByteArray).extract 0 m = ⟨(l.take m).toArray⟩ := by
  apply ba_ext; simp [ByteArray.data_extract]

set_option maxHeartbeats 1000000 in
theorem short_any (a : Option Addr) (n c : Nat) (l : List ByteArray) (id : ByteArray) (w : World) (hS : StrsAt w a n l) :
    Calls Try.prog 12 #[.slice a n c, .string id] w fun e w' => e = .returned (.string ⟨(shortR l id).toArray⟩) ∧ Below w.heap.size w w' := by
  by_cases hs : id.size = 32
  · have hb : decide (id.size = 32) = true := by simpa using hs
    by_cases hi : ∃ o ∈ l, o = id
    · have hq : decide (∃ o ∈ l, o = id) = true := decide_eq_true hi
      have HX := hid (shortR_yes hs hi)
      have HL := hid (hexL_in hs)
      have HS := hid hs
      have hl : l.length = n := hS.1
      have hm := hS.2.1
      clear hi hs
      go_enter Try.func12, Try.ntmps12
      go_wp2_with (first
        | (go_at_call 20; refine (good_any _ _).mono ?_; rintro e w' ⟨rfl, rfl⟩)
        | (go_at_call 28; refine (contains_any _ _ _ _ _ _ hS).mono ?_; rintro e w2 ⟨rfl, rfl⟩; rw [hq]))
      go_loop [5, 19] (fun v i => ∃ k : Nat, k ≤ n ∧ i = .int .i64 k ∧ v = .int .i64 (mostTo l id k : Nat)) (fun _ i => n - (intOf i).toNat)
      case atStart => exact ⟨0, by omega, rfl, rfl⟩
      case round =>
        obtain ⟨k, hk, rfl, rfl⟩ := hrel
        have hle := mostTo_le (l := l) HS.out k
        by_cases hlt : k < n
        · have HU := hid (mostTo_succ (l := l) (id := id) (k := k) (by omega))
          obtain ⟨b, off, rfl, hc⟩ := hS.2.2.resolve_left (by omega)
          have hck := hc k hlt
          obtain ⟨o, ho⟩ : ∃ o, l.getD k ByteArray.empty = o := ⟨_, rfl⟩
          rw [ho] at hck HU
          clear ho hc
          obtain ⟨m, hm'⟩ : ∃ m, mostTo l id k = m := ⟨_, rfl⟩
          rw [hm'] at hle HU
          simp only [hm']
          clear hm'
          by_cases he : o = id
          · have HN : Hid (moreOf id m o = m) := by unfold moreOf; exact if_neg (fun h => h.1 he)
            subst he
            go_wp2
            go_round
            case rel => exact ⟨k + 1, by omega, by go_num, by rw [HU.out, HN.out]⟩
            case measure => simp [intOf]; omega
          · have hne := bstr_ne he
            by_cases hg : o.size = 32
            · have HN : Hid (moreOf id m o = max m (share o id + 1)) := by unfold moreOf; exact if_pos ⟨he, hg⟩
              have hgb : decide (o.size = 32) = true := by simpa using hg
              have hsl := share_le o id
              clear he hg
              go_wp2_with (first
                | (go_at_call 20; refine (good_any _ _).mono ?_; rintro e w' ⟨rfl, rfl⟩)
                | (go_at_call 14; refine (share_any _ _ _).mono ?_; rintro e w' ⟨rfl, rfl⟩))
              go_round
              case rel => exact ⟨k + 1, by omega, by go_num, by rw [HU.out, HN.out]; exact congrArg (Value.int .i64) (by omega)⟩
              case measure => simp [intOf]; omega
            · have HN : Hid (moreOf id m o = m) := by unfold moreOf; exact if_neg (fun h => hg h.2)
              have hgb : decide (o.size = 32) = false := by simpa using hg
              clear he hg
              go_wp2_with (first
                | (go_at_call 20; refine (good_any _ _).mono ?_; rintro e w' ⟨rfl, rfl⟩))
              go_round
              case rel => exact ⟨k + 1, by omega, by go_num, by rw [HU.out, HN.out]⟩
              case measure => simp [intOf]; omega
        · obtain rfl : k = l.length := by omega
          have hall := mostTo_all l id
          have hM4 := most_ge l id
          rw [hall] at hle
          obtain ⟨M, hM⟩ : ∃ M, mostUpto l id = M := ⟨_, rfl⟩
          rw [hM] at hle hM4 hall HX
          rw [hall]
          clear hM hall
          have HZ : Hid (hexL id = hexUpto id 64) := HL
          obtain ⟨H, hH⟩ : ∃ H, hexL id = H := ⟨_, rfl⟩
          have hHl : H.length = 64 := by rw [← hH, HL.out, hexUpto_length]
          have cH := hex_any id w
          rw [hH] at cH HX
          have HC := hid cH; have HHl := hid hHl
          have hsz : (⟨H.toArray⟩ : ByteArray).size = 64 := by simp [ByteArray.size, hHl]
          clear cH hHl hH HZ
          go_wp2_with (first
            | (go_at_call 15; refine HC.out.mono ?_; rintro e w2 ⟨rfl, hb2⟩))
          go_ret
          refine ⟨ret_string ?_, hb2⟩
          rw [HX.out]
          exact extract_take H M
    · have hq : decide (∃ o ∈ l, o = id) = false := decide_eq_false hi
      have HX := hid (shortR_no (fun h => hi h.2))
      clear hi
      go_enter Try.func12, Try.ntmps12
      go_wp2_with (first
        | (go_at_call 20; refine (good_any _ _).mono ?_; rintro e w' ⟨rfl, rfl⟩)
        | (go_at_call 28; refine (contains_any _ _ _ _ _ _ hS).mono ?_; rintro e w2 ⟨rfl, rfl⟩; rw [hq]))
      go_ret
      exact ⟨ret_string (by rw [HX.out]), Below.refl _ _⟩
  · have hb : decide (id.size = 32) = false := by simpa using hs
    have HX := hid (shortR_no (l := l) (fun h => hs h.1))
    go_enter Try.func12, Try.ntmps12
    go_wp2_with (first
        | (go_at_call 20; refine (good_any _ _).mono ?_; rintro e w' ⟨rfl, rfl⟩))
    go_ret
    exact ⟨ret_string (by rw [HX.out]), Below.refl _ _⟩

set_option maxHeartbeats 1000000 in
theorem shortRef_any (a : Option Addr) (n c : Nat) (l : List ByteArray) (id : ByteArray) (w : World) (hS : StrsAt w a n l) :
    Calls Try.prog 13 #[.slice a n c, .string id] w fun e w' => e = .returned (.string ⟨(shortR l id).toArray⟩) ∧ Below w.heap.size w w' := by
  have hl : l.length = n := hS.1
  have hm := hS.2.1
  have HE : Hid (l.take n = l) := by rw [← hl]; exact List.take_length
  go_enter Try.func13, Try.ntmps13
  go_wp2
  go_loop [5, 6] (fun v i => ∃ k : Nat, k ≤ n ∧ i = .int .i64 k ∧ ∃ q : Bool, v = .bool q ∧ Hid (q = true ↔ ∃ o ∈ l.take k, o = id)) (fun _ i => n - (intOf i).toNat)
  case atStart => exact ⟨0, by omega, rfl, false, rfl, by simp [Hid]⟩
  case round =>
    obtain ⟨k, hk, rfl, q, rfl, hq⟩ := hrel
    by_cases hlt : k < n
    · obtain ⟨b, off, rfl, hc⟩ := hS.2.2.resolve_left (by omega)
      have hck := hc k hlt
      have HT := hid (take_snoc (l := l) (k := k) (by omega))
      obtain ⟨o, ho⟩ : ∃ o, l.getD k ByteArray.empty = o := ⟨_, rfl⟩
      rw [ho] at hck HT
      clear ho hc
      cases q with
      | true =>
        go_wp2
        go_round
        case rel => exact ⟨k + 1, by omega, by go_num, true, rfl, is_true hq HT⟩
        case measure => simp [intOf]; omega
      | false =>
        by_cases he : o = id
        · have hb : (o.toList == id.toList) = true := by rw [he]; simp
          have HN := hid (is_here he HT)
          clear he
          go_wp2
          go_round
          case rel => exact ⟨k + 1, by omega, by go_num, true, rfl, HN.out⟩
          case measure => simp [intOf]; omega
        · have hb := bstr_ne he
          have HN := hid (is_not he hq HT)
          clear he
          go_wp2
          go_round
          case rel => exact ⟨k + 1, by omega, by go_num, false, rfl, HN.out⟩
          case measure => simp [intOf]; omega
    · obtain rfl : k = n := by omega
      have cH := hexR_any id w
      obtain ⟨H, hH⟩ : ∃ H, hexL id = H := ⟨_, rfl⟩
      have hHl := hexL_len id
      rw [hH] at cH hHl
      have HC := hid cH
      have hsz : (⟨H.toArray⟩ : ByteArray).size = H.length := by simp [ByteArray.size]
      cases q with
      | false =>
        have HX := hid (shortR_no (l := l) (id := id) (fun h => by have := hq.out.2 (by rw [HE.out]; exact h.2); cases this))
        clear cH hq
        go_wp2_with (first
          | (go_at_call 22; refine HC.out.mono ?_; rintro e w2 ⟨rfl, hb2⟩))
        refine wp_loop_rounds 1 ?_
        rw [rounds_succ]
        go_wp2
        go_ret
        exact ⟨ret_string (by rw [HX.out]), hb2⟩
      | true =>
        have hin : ∃ o ∈ l, o = id := by have := hq.out.1 rfl; rwa [HE.out] at this
        by_cases hs : id.size = 32
        · have HX := hid (shortR_yes hs hin)
          have hM4 := most_ge l id
          have hM := most_le (l := l) hs
          have HF : Hid (∀ n, 4 ≤ n → n ≤ 64 → findR l (H.take n) = if mostUpto l id ≤ n then (id, 0) else (ByteArray.empty, 6)) := fun n h1 h2 => by
            rw [← hH, hexL_in hs, hexUpto_take id h2]; exact findR_hex hs hin h1 h2
          have hH64 : H.length = 64 := by rw [← hH, hexL_in hs, hexUpto_length]
          rw [hH] at HX
          have HH := hid hH64
          have hsz : (⟨H.toArray⟩ : ByteArray).size = 64 := by simp [ByteArray.size, hH64]
          clear cH hq hin hH hH64 hHl
          obtain ⟨M, hMM⟩ : ∃ M, mostUpto l id = M := ⟨_, rfl⟩
          rw [hMM] at hM hM4 HX HF
          clear hMM
          go_wp2_with (first
            | (go_at_call 22; refine HC.out.mono ?_; rintro e w2 ⟨rfl, hb2⟩))
          have hS2 := hS.later hb2
          go_loop [8] (fun i => ∃ k : Nat, 4 ≤ k ∧ k ≤ M ∧ i = .int .i64 k) (fun i => 64 - (intOf i).toNat)
          case atStart => exact ⟨4, by omega, hM4, rfl⟩
          case round =>
            obtain ⟨j, hj4, hjM, rfl⟩ := hrel
            have hf : findR l ((⟨H.toArray⟩ : ByteArray).extract 0 j).data.toList = if M ≤ j then (id, 0) else (ByteArray.empty, 6) := by
              rw [extract_take]; exact HF.out j hj4 (by omega)
            obtain ⟨dj, hdj⟩ : ∃ dj, (⟨H.toArray⟩ : ByteArray).extract 0 j = dj := ⟨_, rfl⟩
            rw [hdj] at hf
            have HDJ := hid hdj
            have cF := findR_any a k c l dj w2 hS2
            rw [hf] at cF
            by_cases hjm : M ≤ j
            · obtain rfl : j = M := by omega
              rw [if_pos hjm] at cF
              have CF := hid cF; clear cF hf
              go_wp2_with (first
                | (go_at_call 11; refine CF.out.mono ?_; rintro e w3 ⟨rfl, rfl⟩))
              go_ret
              exact ⟨ret_string (by rw [HX.out, ← HDJ.out]; exact extract_take H j), hb2⟩
            · rw [if_neg hjm] at cF
              have CF := hid cF; clear cF hf
              go_wp2_with (first
                | (go_at_call 11; refine CF.out.mono ?_; rintro e w3 ⟨rfl, rfl⟩))
              go_round
              case rel => exact ⟨j + 1, by omega, by omega, by go_num⟩
              case measure => simp [intOf]; omega
        · have HX := hid (shortR_no (l := l) (id := id) (fun h => hs h.1))
          have hH0 := hexL_out hs
          rw [hH] at hH0
          subst hH0
          clear cH hq hin hH
          go_wp2_with (first
            | (go_at_call 22; refine HC.out.mono ?_; rintro e w2 ⟨rfl, hb2⟩))
          refine wp_loop_rounds 1 ?_
          rw [rounds_succ]
          go_wp2
          go_ret
          exact ⟨ret_string (by rw [HX.out]), hb2⟩
end Go.Proofs.Ytcglkhcgnafegaa
