/- The reference's disk in memory; the calls that only read. -/
import Derived.Test.YthjomknhbfplnaaReelEnts
import Derived.Test.YthjomknhbfplnaaReelL
namespace Go.Proofs.Ythjomknhbfplnaa
open Go.RowKit Reel
set_option linter.unusedVariables false

abbrev Ent := ByteArray × Spool
def bt (l : List UInt8) : ByteArray := ⟨l.toArray⟩
theorem bt_size (l : List UInt8) : (bt l).size = l.length := by unfold bt; simp [ByteArray.size]
theorem bt_list (l : List UInt8) : (bt l).data.toList = l := by unfold bt; simp
def rcell (e : Ent) : List Value := [.string e.1, .string (bt e.2.bytes), .int .i64 e.2.safe]
def rvals (L : List Ent) : List Value := L.flatMap rcell
theorem rvals_len (L : List Ent) : (rvals L).length = L.length * 3 := by
  unfold rvals
  induction L with
  | nil => rfl
  | cons e r ih => rw [List.flatMap_cons, List.length_append, ih, List.length_cons]; show 3 + _ = _; omega
theorem rvals_append (a b : List Ent) : rvals (a ++ b) = rvals a ++ rvals b := by unfold rvals; rw [List.flatMap_append]
theorem rvals_get : ∀ (L : List Ent) (k q : Nat) (h : k < L.length), q < 3 → (rvals L)[k * 3 + q]? = (rcell L[k])[q]?
  | e :: r, 0, q, h, hq => by
    show (rcell e ++ rvals r)[0 * 3 + q]? = _
    rw [Nat.zero_mul, Nat.zero_add, List.getElem?_append_left (by show q < 3; exact hq)]; rfl
  | e :: r, k + 1, q, h, hq => by
    show (rcell e ++ rvals r)[(k + 1) * 3 + q]? = _
    rw [List.getElem?_append_right (by show 3 ≤ _; omega)]
    have := rvals_get r k q (by simpa using h) hq
    rw [show (k + 1) * 3 + q - (rcell e).length = k * 3 + q by show (k + 1) * 3 + q - 3 = _; omega, this]
    rfl
theorem Try.infoRl : (Try.prog.info? 79).map (fun i => (i.zero, i.size, i.bytes)) = some (some (.agg #[.string ⟨#[]⟩, .string ⟨#[]⟩, .int .i64 0]), 3, 40) := by kernel_rfl

/-- reels that lie in a slice -/
def ReelsAt (w : World) (a : Option Addr) (n : Nat) (L : List Ent) : Prop :=
  L.length = n ∧ (n = 0 ∨ ∃ g, a = some ⟨g, 0, none⟩ ∧ ∀ k (h : k < L.length), w.cell? ⟨g, k * 3, none⟩ = some (.string L[k].1) ∧ w.cell? ⟨g, k * 3 + 1, none⟩ = some (.string (bt L[k].2.bytes)) ∧ w.cell? ⟨g, k * 3 + 2, none⟩ = some (.int .i64 L[k].2.safe))
theorem own_reels {w : World} {B : Nat} {v : Value} {L : List Ent} (h : w.ownsRow B 79 3 v L.length (rvals L)) : ∃ a c, v = .slice a L.length c ∧ L.length ≤ c ∧ ReelsAt w a L.length L := by
  have h' := h
  rcases h.2 with ⟨rfl, h0⟩ | ⟨g, cap, cur, rfl, hb, hg, hn, r⟩
  · exact ⟨none, 0, by rw [h0], by omega, rfl, .inl h0⟩
  · refine ⟨_, _, rfl, hn, rfl, .inr ⟨g, rfl, fun k hk => ?_⟩⟩
    have hc : ∀ q, q < 3 → w.cell? ⟨g, k * 3 + q, none⟩ = (rcell L[k])[q]? := fun q hq => by
      rw [h'.cellAt _ (by omega), rvals_get L k q hk hq]
    exact ⟨(hc 0 (by omega)).trans rfl, (hc 1 (by omega)).trans rfl, (hc 2 (by omega)).trans rfl⟩
theorem ReelsAt.get {w : World} {a : Option Addr} {n : Nat} {L : List Ent} (h : ReelsAt w a n L) {k : Nat} (hk : k < L.length) : ∃ g, a = some ⟨g, 0, none⟩ ∧ w.cell? ⟨g, k * 3, none⟩ = some (.string L[k].1) ∧ w.cell? ⟨g, k * 3 + 1, none⟩ = some (.string (bt L[k].2.bytes)) ∧ w.cell? ⟨g, k * 3 + 2, none⟩ = some (.int .i64 L[k].2.safe) := by
  obtain ⟨h1, h2⟩ := h
  rcases h2 with h2 | ⟨g, ha, hc⟩
  · omega
  · exact ⟨g, ha, hc k hk⟩

/-- the reference's disk -/
structure RefAt (w : World) (u : Nat) (v : Value) (S : St) : Prop where
  blk : Blk w u 77 #[v, .int .i64 S.room, .bool S.down, .int .i64 S.acts, .int .i64 S.life, .int .i64 S.armed]
  row : w.ownsRow 0 79 3 v S.ents.length (rvals S.ents)
  ok : S.Ok
section
variable {w : World} {u : Nat} {v : Value} {S : St} {x : ByteArray}
theorem RefAt.cells (h : RefAt w u v S) : w.cell? ⟨u, 0, none⟩ = some v ∧ w.cell? ⟨u, 1, none⟩ = some (.int .i64 S.room) ∧ w.cell? ⟨u, 2, none⟩ = some (.bool S.down) ∧ w.cell? ⟨u, 3, none⟩ = some (.int .i64 S.acts) ∧ w.cell? ⟨u, 4, none⟩ = some (.int .i64 S.life) ∧ w.cell? ⟨u, 5, none⟩ = some (.int .i64 S.armed) :=
  ⟨(Blk.cell h.blk 0).trans rfl, (Blk.cell h.blk 1).trans rfl, (Blk.cell h.blk 2).trans rfl, (Blk.cell h.blk 3).trans rfl, (Blk.cell h.blk 4).trans rfl, (Blk.cell h.blk 5).trans rfl⟩
theorem ents_few (h : S.Ok) : S.ents.length ≤ 64 := by rw [ents_len h]; exact h.few
theorem ents_name (h : S.Ok) {k : Nat} (hk : k < S.ents.length) : ∃ hl : k < S.l.length, S.ents[k].1 = S.l[k] := by
  obtain ⟨h1, h2, e⟩ := ents_get (S := S) k hk
  exact ⟨h1, by rw [e]⟩
/-- where a name stands: what 'place' answers -/
def placeI (S : St) (x : ByteArray) : Int := if hasN S.l x = true then (posOf S.l x : Int) else -1
theorem place_found (h : S.Ok) {k : Nat} (hk : k < S.ents.length) (hx : S.ents[k].1 = x) : placeI S x = k := by
  obtain ⟨hl, e⟩ := ents_name h hk
  have hh : hasN S.l x = true := by rw [hasN_iff, ← hx, e]; exact List.getElem_mem _
  obtain ⟨h3, h4⟩ := pos_get h.rising hh
  unfold placeI; rw [if_pos hh, rising_inj h.rising h3 hl (by rw [h4, ← hx, e])]
theorem place_none (h : S.Ok) (hx : ∀ k (hk : k < S.ents.length), S.ents[k].1 ≠ x) : placeI S x = -1 := by
  unfold placeI
  rw [if_neg]
  intro hh
  obtain ⟨h3, h4⟩ := pos_get h.rising hh
  have hk : posOf S.l x < S.ents.length := by rw [ents_len h]; exact h3
  obtain ⟨hl, e⟩ := ents_name h hk
  exact hx _ hk (e.trans h4)
set_option maxHeartbeats 1000000 in
theorem rplace_any (x : ByteArray) (h : RefAt w u v S) : Calls Try.prog 56 #[.pointer (some ⟨u, 0, none⟩), .string x] w fun e w' => e = .returned (.int .i64 (placeI S x)) ∧ w = w' := by
  obtain ⟨c0, -, -, -, -, -⟩ := h.cells
  have hf := ents_few h.ok
  obtain ⟨a, c, rfl, hc, hR⟩ := own_reels h.row
  have HPF : Hid (∀ k (hk : k < S.ents.length), S.ents[k].1 = x → placeI S x = k) := fun k hk e => place_found h.ok hk e
  have HPN : Hid ((∀ k (hk : k < S.ents.length), S.ents[k].1 ≠ x) → placeI S x = -1) := fun e => place_none h.ok e
  obtain ⟨P, hP⟩ : ∃ P, placeI S x = P := ⟨_, rfl⟩
  rw [hP] at HPF HPN ⊢
  have HR := hid hR
  clear h hP hR hc
  generalize hL : S.ents = L at HPF HPN HR c0 hf
  clear hL
  go_enter Try.func56, Try.ntmps56
  go_wp2
  go_loop [5] (fun iv => ∃ k : Nat, k ≤ L.length ∧ iv = .int .i64 k ∧ Hid (∀ i (hi : i < L.length), i < k → L[i].1 ≠ x)) (fun iv => L.length - (intOf iv).toNat)
  case atStart => exact ⟨0, by omega, rfl, fun i _ hi => absurd hi (by omega)⟩
  case round =>
    obtain ⟨k, hk, rfl, HN⟩ := hrel
    by_cases hlt : k < L.length
    · have ck : (k : Int) < L.length := by omega
      obtain ⟨g, rfl, hc0, hc1, hc2⟩ := HR.out.get hlt
      obtain ⟨y, hy⟩ : ∃ y, L[k].1 = y := ⟨_, rfl⟩
      rw [hy] at hc0
      have HY := hid hy
      clear hc1 hc2 hy
      by_cases hxy : y = x
      · subst hxy
        have e := HPF.out k hlt HY.out
        have HE := hid e; clear e
        go_wp2_with fail
        go_ret
        exact ⟨ret_int HE.out.symm, rfl⟩
      · have hne := bstr_ne hxy
        have HXY := hid hxy
        clear hxy
        go_wp2_with fail
        go_round
        case rel =>
          refine ⟨k + 1, by omega, by go_num, fun i hi hlt' => ?_⟩
          by_cases e : i = k
          · subst e; rw [HY.out]; exact HXY.out
          · exact HN.out i hi (by omega)
        case measure => simp [intOf]; omega
    · have ck : ¬ (k : Int) < L.length := by omega
      have e := HPN.out (fun i hi => HN.out i hi (by omega))
      have HE := hid e; clear e
      go_wp2_with fail
      go_ret
      exact ⟨ret_int HE.out.symm, rfl⟩
theorem size_ents (S : St) (h : S.Ok) : size (S.ents.map (·.2)) = S.used := by rw [ents_snd h, h.used]
theorem esize_take (L : List Ent) (k : Nat) (hk : k < L.length) : size ((L.take (k + 1)).map (·.2)) = size ((L.take k).map (·.2)) + L[k].2.bytes.length := by
  rw [List.take_succ_eq_append_getElem hk, List.map_append, size_append]; simp [size]
theorem esize_le (L : List Ent) (k : Nat) : size ((L.take k).map (·.2)) ≤ size (L.map (·.2)) := by
  conv => rhs; rw [← List.take_append_drop k L, List.map_append, size_append]
  omega
set_option maxHeartbeats 1000000 in
theorem rall_any (h : RefAt w u v S) : Calls Try.prog 69 #[.pointer (some ⟨u, 0, none⟩)] w fun e w' => e = .returned (.int .i64 S.used) ∧ w = w' := by
  obtain ⟨c0, -, -, -, -, -⟩ := h.cells
  have hf := ents_few h.ok
  obtain ⟨a, c, rfl, hc, hR⟩ := own_reels h.row
  have hsz := size_ents S h.ok
  have hmost := h.ok.most
  have HR := hid hR
  obtain ⟨L, hL⟩ : ∃ L, S.ents = L := ⟨_, rfl⟩
  obtain ⟨U, hU⟩ : ∃ U, S.used = U := ⟨_, rfl⟩
  simp only [hL, hU] at HR c0 hf hsz hmost ⊢
  have HSZ := hid hsz
  clear h hR hL hc hU hsz
  go_enter Try.func69, Try.ntmps69
  go_wp2
  go_loop [3, 4] (fun nv iv => ∃ k : Nat, k ≤ L.length ∧ iv = .int .i64 k ∧ nv = .int .i64 (size ((L.take k).map (·.2)))) (fun _ iv => L.length - (intOf iv).toNat)
  case atStart => exact ⟨0, by omega, rfl, rfl⟩
  case round =>
    obtain ⟨k, hk, rfl, rfl⟩ := hrel
    by_cases hlt : k < L.length
    · have ck : (k : Int) < L.length := by omega
      obtain ⟨g, rfl, hc0, hc1, hc2⟩ := HR.out.get hlt
      have z1 := esize_take L k hlt
      have z2 := esize_le L (k + 1)
      rw [HSZ.out, z1] at z2
      obtain ⟨y, hy⟩ : ∃ y, bt L[k].2.bytes = y := ⟨_, rfl⟩
      have hys : L[k].2.bytes.length = y.size := by rw [← hy, bt_size]
      rw [hy] at hc1
      rw [hys] at z1 z2
      have Z1 := hid z1
      obtain ⟨q, hq⟩ : ∃ q, size ((L.take k).map (·.2)) = q := ⟨_, rfl⟩
      rw [hq] at z2 Z1 ⊢
      clear hc0 hc2 hy z1 hys hq
      go_wp2_with fail
      go_round
      case rel => exact ⟨k + 1, by omega, by go_num, by rw [Z1.out]; go_num⟩
      case measure => simp [intOf]; omega
    · have ck : ¬ (k : Int) < L.length := by omega
      have e : size ((L.take k).map (·.2)) = U := by rw [List.take_of_length_le (by omega)]; exact HSZ.out
      have HE := hid e; clear e
      go_wp2_with fail
      go_ret
      exact ⟨ret_int (by rw [← HE.out, List.map_take]), rfl⟩
end
end Go.Proofs.Ythjomknhbfplnaa
