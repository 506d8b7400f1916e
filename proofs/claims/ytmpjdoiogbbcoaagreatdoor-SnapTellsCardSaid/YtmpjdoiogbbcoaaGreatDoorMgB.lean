/- Texts in a row: Oct, OctB, ObD, ObE, ObF, ObG, ShaP, SwP, SnP, SnS. -/
import Derived.Test.YtmpjdoiogbbcoaaGreatDoorMgA
import Derived.Laws.BitsAllLaws
import Derived.Laws.CopyOwn
import Derived.Deep.DeepFit
/- The reader of bytes (layer 1), and numbers and texts as bytes. -/
namespace Go.Proofs.YtmpjdoiogbbcoaaGreatDoor
open Go.RowKit Book
set_option linter.unusedVariables false

def bx (l : List UInt8) : ByteArray := ⟨l.toArray⟩
theorem bx_size (l : List UInt8) : (bx l).size = l.length := by unfold bx; simp [ByteArray.size]
theorem bx_list (l : List UInt8) : (bx l).data.toList = l := by unfold bx; simp
theorem bx_back (s : ByteArray) : bx s.data.toList = s := ba_ext (bx_list _)
theorem bx_take (l : List UInt8) (n : Nat) (h : n ≤ l.length) : (bx l).extract 0 n = bx (l.take n) := by
 apply ba_ext
 rw [bx_list, ByteArray.data_extract, Array.toList_extract]
 unfold bx; simp
theorem bx_drop (l : List UInt8) (n : Nat) : (bx l).extract n (bx l).size = bx (l.drop n) := by
 apply ba_ext
 rw [bx_list, ByteArray.data_extract, Array.toList_extract, bx_size]
 unfold bx; simp [List.extract]
 exact List.take_of_length_le (by simp)
theorem bx_append (a b : List UInt8) : bx a ++ bx b = bx (a ++ b) := by
 apply ba_ext
 rw [bx_list, ByteArray.data_append, Array.toList_append]; unfold bx; simp
/-- a reader in memory -/
def RdAt (w : World) (b : Nat) (r : Rd) : Prop := Blk w b 254 #[.string (bx r.rest), .bool r.bad]
section
variable {w : World} {b : Nat} {r : Rd}
theorem RdAt.cells (h : RdAt w b r) : w.cell? ⟨b, 0, none⟩ = some (.string (bx r.rest)) ∧ w.cell? ⟨b, 1, none⟩ = some (.bool r.bad) := ⟨Blk.cell h 0, Blk.cell h 1⟩
theorem onew_any (s : ByteArray) (w : World) : Calls Tryz.prog 108 #[.string s] w fun e w' => e = .returned (.pointer (some ⟨w.heap.size, 0, none⟩)) ∧ RdAt w' w.heap.size (newR s.data.toList) ∧ Below w.heap.size w w' := by
 go_enter Tryz.func108, Tryz.ntmps108
 go_wp2
 go_ret
 refine ⟨rfl, ?_, (Below.refl _ _).alloc (Nat.le_refl _) _⟩
 have := Blk.new w 254 #[.string s, .bool false]
 unfold RdAt newR; rw [bx_back]; exact this
theorem obad_any (h : RdAt w b r) : Calls Tryz.prog 173 #[.pointer (some ⟨b, 0, none⟩)] w fun e w' => e = .returned (.bool r.bad) ∧ w = w' := by
 obtain ⟨-, c1⟩ := h.cells
 clear h
 go_enter Tryz.func173, Tryz.ntmps173
 go_wp2
 go_ret
 exact ⟨rfl, rfl⟩
theorem ospoil_any (h : RdAt w b r) : Calls Tryz.prog 174 #[.pointer (some ⟨b, 0, none⟩)] w fun e w' => e = .returned (.tuple #[]) ∧ RdAt w' b ⟨[], true⟩ ∧ Only (· = b) w w' := by
 obtain ⟨c0, c1⟩ := h.cells
 have f0 := Blk.frozen h 0
 have f1 := Blk.frozen h 1
 have HFIN : Hid (RdAt ((w.setCell ⟨b, 1, none⟩ (.bool true)).setCell ⟨b, 0, none⟩ (.string ⟨#[]⟩)) b ⟨[], true⟩ ∧ Only (· = b) w ((w.setCell ⟨b, 1, none⟩ (.bool true)).setCell ⟨b, 0, none⟩ (.string ⟨#[]⟩))) := by
  refine ⟨?_, ((Only.refl (· = b) w).setCell (p := ⟨b, 1, none⟩) (.inl rfl) _).setCell (p := ⟨b, 0, none⟩) (.inl rfl) _⟩
  have := (Blk.set h 1 (.bool true)).set 0 (.string ⟨#[]⟩)
  show Blk _ _ _ #[.string ⟨#[]⟩, .bool true]; simpa using this
 clear h
 go_enter Tryz.func174, Tryz.ntmps174
 go_wp2
 go_end0
 exact ⟨rfl, HFIN.out⟩
theorem oleft_any (h : RdAt w b r) : Calls Tryz.prog 110 #[.pointer (some ⟨b, 0, none⟩)] w fun e w' => e = .returned (.int .i64 r.rest.length) ∧ w = w' := by
 obtain ⟨c0, -⟩ := h.cells
 have e : (r.rest.length : Int) = ((bx r.rest).size : Int) := by rw [bx_size]
 rw [e]
 clear h e
 go_enter Tryz.func110, Tryz.ntmps110
 go_wp2
 go_ret
 exact ⟨rfl, rfl⟩
theorem owhole_any (h : RdAt w b r) : Calls Tryz.prog 115 #[.pointer (some ⟨b, 0, none⟩)] w fun e w' => e = .returned (.bool (wholeR r)) ∧ w = w' := by
 have HB := hid (obad_any h)
 have HL := hid (oleft_any h)
 obtain ⟨rest, bad⟩ := r
 cases bad
 ·cases rest with
  | nil =>
   clear h
   go_enter Tryz.func115, Tryz.ntmps115
   go_wp2_with (first
    | (go_at_call 173; refine HB.out.mono ?_; rintro e w' ⟨rfl, rfl⟩)
    | (go_at_call 110; refine HL.out.mono ?_; rintro e w' ⟨rfl, rfl⟩))
   go_ret
   exact ⟨rfl, rfl⟩
  | cons x l =>
   have g : (((x :: l).length : Int) == 0) = false := by rw [beq_eq_false_iff_ne]; simp; omega
   obtain ⟨m, hm⟩ : ∃ m : Int, ((x :: l).length : Int) = m := ⟨_, rfl⟩
   simp only at HL
   rw [hm] at HL g
   clear h hm
   go_enter Tryz.func115, Tryz.ntmps115
   go_wp2_with (first
    | (go_at_call 173; refine HB.out.mono ?_; rintro e w' ⟨rfl, rfl⟩)
    | (go_at_call 110; refine HL.out.mono ?_; rintro e w' ⟨rfl, rfl⟩))
   go_ret
   exact ⟨rfl, rfl⟩
 ·clear h
  go_enter Tryz.func115, Tryz.ntmps115
  go_wp2_with (go_at_call 173; refine HB.out.mono ?_; rintro e w' ⟨rfl, rfl⟩)
  go_ret
  exact ⟨rfl, rfl⟩
theorem otake_any (n : Nat) (h : RdAt w b r) (hr : r.rest.length ≤ 9223372036854775807) (hn : n ≤ 9223372036854775807) : Calls Tryz.prog 109 #[.pointer (some ⟨b, 0, none⟩), .int .i64 n] w fun e w' => e = .returned (.string (bx (takeR r n).1)) ∧ RdAt w' b (takeR r n).2 ∧ Only (· = b) w w' := by
 have HB := hid (obad_any h)
 have HS := hid (ospoil_any h)
 obtain ⟨c0, -⟩ := h.cells
 obtain ⟨rest, bad⟩ := r
 obtain ⟨y, hy⟩ : ∃ y, bx rest = y := ⟨_, rfl⟩
 have hyl : rest.length = y.size := by rw [← hy, bx_size]
 simp only [hy] at c0 hr
 rw [hyl] at hr
 by_cases hb : bad = true ∨ rest.length < n
 ·have e : takeR ⟨rest, bad⟩ n = ([], ⟨[], true⟩) := by unfold takeR; exact if_pos hb
  rw [e]
  show Calls _ _ _ _ fun e w' => e = .returned (.string ⟨#[]⟩) ∧ _
  have hn0 : ¬ ((n : Int) < 0) := by omega
  cases bad
  ·have hb' : (y.size : Int) < n := by rcases hb with h | h; cases h; omega
   clear h hb e hy hyl
   go_enter Tryz.func109, Tryz.ntmps109
   go_wp2_with (first
    | (go_at_call 173; refine HB.out.mono ?_; rintro e w' ⟨rfl, rfl⟩)
    | (go_at_call 174; refine HS.out.mono ?_; rintro e w' ⟨rfl, hs⟩; have HF := hid hs; clear hs))
   go_ret
   exact ⟨rfl, HF.out⟩
  ·clear h hb e hy hyl
   go_enter Tryz.func109, Tryz.ntmps109
   go_wp2_with (first
    | (go_at_call 173; refine HB.out.mono ?_; rintro e w' ⟨rfl, rfl⟩)
    | (go_at_call 174; refine HS.out.mono ?_; rintro e w' ⟨rfl, hs⟩; have HF := hid hs; clear hs))
   go_ret
   exact ⟨rfl, HF.out⟩
 ·have e : takeR ⟨rest, bad⟩ n = (rest.take n, ⟨rest.drop n, false⟩) := by unfold takeR; exact if_neg hb
  rw [e]
  have hb0 : bad = false := by cases bad; rfl; exact absurd (.inl rfl) hb
  subst hb0
  have hnl : n ≤ rest.length := by have : ¬ rest.length < n := fun h => hb (.inr h); omega
  have e1 : bx (rest.take n) = y.extract 0 n := by rw [← hy, bx_take _ _ hnl]
  have e2 : bx (rest.drop n) = y.extract n y.size := by rw [← hy, bx_drop]
  have f0 := Blk.frozen h 0
  have HFIN : Hid (RdAt (w.setCell ⟨b, 0, none⟩ (.string (y.extract n y.size))) b ⟨rest.drop n, false⟩ ∧ Only (· = b) w (w.setCell ⟨b, 0, none⟩ (.string (y.extract n y.size)))) := by
   refine ⟨?_, (Only.refl (· = b) w).setCell (p := ⟨b, 0, none⟩) (.inl rfl) _⟩
   have := Blk.set h 0 (.string (y.extract n y.size))
   unfold RdAt; rw [e2]; simpa using this
  rw [e1]
  have hn0 : ¬ ((n : Int) < 0) := by omega
  have hn1 : ¬ ((y.size : Int) < n) := by omega
  have hn2 : (n : Int) ≤ y.size := by omega
  have hn3 : (0 : Int) ≤ n := by omega
  clear h hb e hy hyl e1 e2 hnl
  go_enter Tryz.func109, Tryz.ntmps109
  go_wp2_with (first
   | (go_at_call 173; refine HB.out.mono ?_; rintro e w' ⟨rfl, rfl⟩))
  go_ret
  exact ⟨rfl, HFIN.out⟩
theorem takeR_four (r : Rd) : (takeR r 4).1 = [] ∨ ∃ a b c d, (takeR r 4).1 = [a, b, c, d] := by
 unfold takeR
 split
 ·exact .inl rfl
 ·rename_i h
  right
  have hl : (r.rest.take 4).length = 4 := by rw [List.length_take]; simp only [not_or] at h; omega
  match hq : r.rest.take 4, hl with
  | [a, b, c, d], _ => exact ⟨a, b, c, d, rfl⟩
/-- a text turned to bytes, as it lies -/
theorem bytesRow_cell (w : World) (y : ByteArray) (cap : Nat) (e : TypeId) (fz : Nat × Nat) (j : Nat) (hj : j < y.size) : ((w.alloc (.cells (bytesRow y cap) e fz)).drew).cell? ⟨w.heap.size, j, none⟩ = some (.int .u8 ((y.data.toList.getD j 0).toNat : Int)) := by
 have hj' : j < y.data.size := hj
 have h1 : ((w.alloc (.cells (bytesRow y cap) e fz)).drew).heap[w.heap.size]? = some (.cells (bytesRow y cap) e fz) := heap_alloc_new w _
 rw [cell_of_row _ _ j _ e fz h1, bytesRow_at y cap j hj']
 rw [List.getD_eq_getElem?_getD, List.getElem?_eq_getElem (by simpa using hj')]
 simp
theorem or_add (a b i m : Nat) (hm : 2 ^ i = m) (ha : a < m) (ht : a + m * b < 4294967296) : bits .or .u32 (a : Int) ((b : Int) * (m : Int)) = ((a + m * b : Nat) : Int) := by
 subst hm
 have e : ((b : Int) * ((2 ^ i : Nat) : Int)) = ((b * 2 ^ i : Nat) : Int) := (Int.natCast_mul _ _).symm
 rw [e, u32_or_nat a _ (by omega) (by rw [Nat.mul_comm]; omega), Nat.or_comm, Nat.mul_comm b, ← Nat.two_pow_add_eq_or_of_lt ha, Nat.add_comm]
def pre4 (a b c d : UInt8) (k : Nat) : Nat := if k = 0 then 0 else if k = 1 then a.toNat else if k = 2 then a.toNat + 256 * b.toNat else if k = 3 then a.toNat + 256 * b.toNat + 65536 * c.toNat else a.toNat + 256 * b.toNat + 65536 * c.toNat + 16777216 * d.toNat
set_option maxRecDepth 100000 in
set_option maxHeartbeats 4000000 in
theorem onum_any (h : RdAt w b r) (hr : r.rest.length ≤ 9223372036854775807) : Calls Tryz.prog 113 #[.pointer (some ⟨b, 0, none⟩)] w fun e w' => e = .returned (.int .u32 (numR r).1) ∧ RdAt w' b (numR r).2 ∧ Only (fun k => k = b) w w' := by
 have HT := hid (otake_any 4 h hr (by omega))
 unfold numR
 obtain ⟨r2, hr2⟩ : ∃ r2, (takeR r 4).2 = r2 := ⟨_, rfl⟩
 have hcv := fun w s => run_bytes_of_string (P := Tryz.prog) w 9 59 5 s Tryz.underlying9 Tryz.underlying59 Tryz.underlying5
 rcases takeR_four r with e | ⟨x0, x1, x2, x3, e⟩
 ·rw [e, hr2] at HT
  rw [e, hr2]
  show Calls _ _ _ _ fun e w' => e = .returned (.int .u32 0) ∧ _
  obtain ⟨y, hy⟩ : ∃ y, bx [] = y := ⟨_, rfl⟩
  have hys : y.size = 0 := by rw [← hy]; rfl
  rw [hy] at HT
  clear h hr hr2 e hy
  go_enter Tryz.func113, Tryz.ntmps113
  go_wp2_with (go_at_call 109; refine HT.out.mono ?_; rintro e w' ⟨rfl, hs⟩; have HF := hid hs; clear hs)
  generalize grownCap w' 0 0 5 = cap
  have HW : Hid (RdAt ((w'.alloc (.cells (bytesRow y cap) 5 ((bytesRow y cap).size, (bytesRow y cap).size + 1))).drew) b r2 ∧ Only (fun k => k = b) w ((w'.alloc (.cells (bytesRow y cap) 5 ((bytesRow y cap).size, (bytesRow y cap).size + 1))).drew)) := ⟨Blk.drew (Blk.alloc HF.out.1 _), (HF.out.2.alloc _).drew⟩
  generalize ((w'.alloc (.cells (bytesRow y cap) 5 ((bytesRow y cap).size, (bytesRow y cap).size + 1))).drew) = w2 at HW ⊢
  go_loop [10, 3] (fun kv nv => kv = .int .i64 0 ∧ nv = .int .u32 0) (fun _ _ => 0)
  case atStart => exact ⟨rfl, rfl⟩
  case round =>
   obtain ⟨rfl, rfl⟩ := hrel
   go_wp2
   go_ret
   exact ⟨rfl, HW.out⟩
 ·rw [e, hr2] at HT
  rw [e, hr2]
  obtain ⟨y, hy⟩ : ∃ y, bx [x0, x1, x2, x3] = y := ⟨_, rfl⟩
  have hys : y.size = 4 := by rw [← hy]; rfl
  have hyl : y.data.toList = [x0, x1, x2, x3] := by rw [← hy, bx_list]
  have HYL := hid hyl
  rw [hy] at HT
  clear h hr hr2 e hy hyl
  go_enter Tryz.func113, Tryz.ntmps113
  go_wp2_with (go_at_call 109; refine HT.out.mono ?_; rintro e w' ⟨rfl, hs⟩; have HF := hid hs; clear hs)
  generalize grownCap w' 4 0 5 = cap
  have hb : ∀ j, j < 4 → ((w'.alloc (.cells (bytesRow y cap) 5 ((bytesRow y cap).size, (bytesRow y cap).size + 1))).drew).cell? ⟨w'.heap.size, j, none⟩ = some (.int .u8 ((y.data.toList.getD j 0).toNat : Int)) := fun j hj => bytesRow_cell w' y cap _ _ j (by rw [hys]; exact hj)
  rw [HYL.out] at hb
  have c0 := hb 0 (by omega)
  have c1 := hb 1 (by omega)
  have c2 := hb 2 (by omega)
  have c3 := hb 3 (by omega)
  simp only [List.getD_cons_zero, List.getD_cons_succ] at c0 c1 c2 c3
  have HW : Hid (RdAt ((w'.alloc (.cells (bytesRow y cap) 5 ((bytesRow y cap).size, (bytesRow y cap).size + 1))).drew) b r2 ∧ Only (fun k => k = b) w ((w'.alloc (.cells (bytesRow y cap) 5 ((bytesRow y cap).size, (bytesRow y cap).size + 1))).drew)) := ⟨Blk.drew (Blk.alloc HF.out.1 _), (HF.out.2.alloc _).drew⟩
  clear hb
  generalize ((w'.alloc (.cells (bytesRow y cap) 5 ((bytesRow y cap).size, (bytesRow y cap).size + 1))).drew) = w2 at c0 c1 c2 c3 HW ⊢
  have t0 := x0.toNat_lt; have t1 := x1.toNat_lt; have t2 := x2.toNat_lt; have t3 := x3.toNat_lt
  go_loop [10, 3] (fun kv nv => ∃ k : Nat, k ≤ 4 ∧ kv = .int .i64 k ∧ nv = .int .u32 (pre4 x0 x1 x2 x3 k)) (fun kv _ => 4 - (intOf kv).toNat)
  case atStart => exact ⟨0, by omega, rfl, rfl⟩
  case round =>
   obtain ⟨k, hk, rfl, rfl⟩ := hrel
   obtain rfl | rfl | rfl | rfl | rfl : k = 0 ∨ k = 1 ∨ k = 2 ∨ k = 3 ∨ k = 4 := by omega
   ·go_wp2
    go_roundw
    case rel => exact ⟨1, by omega, rfl, congrArg (Value.int .u32) ((u32_or_nat 0 x0.toNat (by omega) (by omega)).trans (congrArg Nat.cast (Nat.zero_or _)))⟩
    case measure => simp [intOf]
   ·go_wp2
    go_roundw
    case rel => exact ⟨2, by omega, rfl, congrArg (Value.int .u32) (or_add x0.toNat x1.toNat 8 256 rfl (by omega) (by omega))⟩
    case measure => simp [intOf]
   ·go_wp2
    go_roundw
    case rel => exact ⟨3, by omega, rfl, congrArg (Value.int .u32) (or_add (x0.toNat + 256 * x1.toNat) x2.toNat 16 65536 rfl (by omega) (by omega))⟩
    case measure => simp [intOf]
   ·go_wp2
    go_roundw
    case rel => exact ⟨4, by omega, rfl, congrArg (Value.int .u32) (or_add (x0.toNat + 256 * x1.toNat + 65536 * x2.toNat) x3.toNat 24 16777216 rfl (by omega) (by omega))⟩
    case measure => simp [intOf]
   ·go_wp2
    go_ret
    exact ⟨rfl, HW.out⟩
end
end Go.Proofs.YtmpjdoiogbbcoaaGreatDoor
/- Texts read; numbers and texts as bytes. -/
namespace Go.Proofs.YtmpjdoiogbbcoaaGreatDoor
open Go.RowKit Book
set_option linter.unusedVariables false

section
variable {w : World} {b : Nat} {r : Rd}
theorem takeR_rest (r : Rd) (n : Nat) : (takeR r n).2.rest.length ≤ r.rest.length := by unfold takeR; split <;> simp
theorem otext_any (most : Nat) (hm : most ≤ 1000000) (h : RdAt w b r) (hr : r.rest.length ≤ 9223372036854775807) : Calls Tryz.prog 114 #[.pointer (some ⟨b, 0, none⟩), .int .i64 most] w fun e w' => e = .returned (.string (bx (textR r most).1)) ∧ RdAt w' b (textR r most).2 ∧ Only (fun k => k = b) w w' := by
 have HN := hid (onum_any h hr)
 have hn32 : (numR r).1 < 4294967296 := numV_lt _
 have hrl : (numR r).2.rest.length ≤ 9223372036854775807 := Nat.le_trans (takeR_rest r 4) hr
 unfold textR
 obtain ⟨n, hn⟩ : ∃ n, (numR r).1 = n := ⟨_, rfl⟩
 obtain ⟨r2, hr2⟩ : ∃ r2, (numR r).2 = r2 := ⟨_, rfl⟩
 rw [hn, hr2] at HN
 rw [hn, hr2]
 rw [hn] at hn32; rw [hr2] at hrl
 have ew : IntKind.i64.wrap (n : Int) = n := by rw [IntKind.wrap_i64]; omega
 by_cases hgt : most < n
 ·rw [if_pos hgt]
  have g : (most : Int) < n := by omega
  have HT : Hid (∀ w', RdAt w' b ⟨[], true⟩ → Calls Tryz.prog 109 #[.pointer (some ⟨b, 0, none⟩), .int .i64 n] w' fun e w'' => e = .returned (.string (bx (takeR ⟨[], true⟩ n).1)) ∧ RdAt w'' b (takeR ⟨[], true⟩ n).2 ∧ Only (· = b) w' w'') := fun w' h' => otake_any n h' (by simp) (by omega)
  clear h hr hn hr2 hgt
  go_enter Tryz.func114, Tryz.ntmps114
  go_wp2_with (first
   | (go_at_call 113; refine HN.out.mono ?_; rintro e w1 ⟨rfl, hs⟩; have H1 := hid hs; clear hs)
   | (go_at_call 174; refine (ospoil_any H1.out.1).mono ?_; rintro e w2 ⟨rfl, hs⟩; have H2 := hid hs; clear hs)
   | (go_at_call 109; refine (HT.out _ H2.out.1).mono ?_; rintro e w3 ⟨rfl, hs⟩; have H3 := hid hs; clear hs))
  go_ret
  exact ⟨rfl, H3.out.1, H1.out.2.then (H2.out.2.then H3.out.2)⟩
 ·rw [if_neg hgt]
  have g : ¬ (most : Int) < n := by omega
  have HT : Hid (∀ w', RdAt w' b r2 → Calls Tryz.prog 109 #[.pointer (some ⟨b, 0, none⟩), .int .i64 n] w' fun e w'' => e = .returned (.string (bx (takeR r2 n).1)) ∧ RdAt w'' b (takeR r2 n).2 ∧ Only (· = b) w' w'') := fun w' h' => otake_any n h' hrl (by omega)
  clear h hr hn hr2 hgt hrl
  go_enter Tryz.func114, Tryz.ntmps114
  go_wp2_with (first
   | (go_at_call 113; refine HN.out.mono ?_; rintro e w1 ⟨rfl, hs⟩; have H1 := hid hs; clear hs)
   | (go_at_call 109; refine (HT.out _ H1.out.1).mono ?_; rintro e w3 ⟨rfl, hs⟩; have H3 := hid hs; clear hs))
  go_ret
  exact ⟨rfl, H3.out.1, H1.out.2.then H3.out.2⟩
def arr4 (n k : Nat) : Array Value := #[.int .u8 (if 0 < k then (n : Int) % 256 else 0), .int .u8 (if 1 < k then (n : Int) / 256 % 256 else 0), .int .u8 (if 2 < k then (n : Int) / 65536 % 256 else 0), .int .u8 (if 3 < k then (n : Int) / 16777216 else 0)]
set_option maxRecDepth 100000 in
set_option maxHeartbeats 4000000 in
theorem onumw_any (n : Nat) (hn : n < 4294967296) (w : World) : Calls Tryz.prog 167 #[.int .u32 n] w fun e w' => e = .returned (.string (bx (numL n))) ∧ Below w.heap.size w w' := by
 go_enter Tryz.func167, Tryz.ntmps167
 go_wp2
 go_loopw [5] (fun kv wr => ∃ k : Nat, k ≤ 4 ∧ kv = .int .i64 k ∧ wr = w.alloc (.cells (arr4 n k) 275)) (fun kv _ => 4 - (intOf kv).toNat)
 case atStart => exact ⟨0, by omega, rfl, rfl⟩
 case round =>
  obtain ⟨k, hk, rfl, rfl⟩ := hrel
  obtain rfl | rfl | rfl | rfl | rfl : k = 0 ∨ k = 1 ∨ k = 2 ∨ k = 3 ∨ k = 4 := by omega
  ·simp only [arr4]
   go_wp2
   go_roundw
   case rel => exact ⟨1, by omega, rfl, rfl⟩
   case measure => simp [intOf]
  ·simp only [arr4]
   go_wp2
   go_roundw
   case rel => exact ⟨2, by omega, rfl, rfl⟩
   case measure => simp [intOf]
  ·simp only [arr4]
   go_wp2
   go_roundw
   case rel => exact ⟨3, by omega, rfl, rfl⟩
   case measure => simp [intOf]
  ·simp only [arr4]
   go_wp2
   go_roundw
   case rel => exact ⟨4, by omega, rfl, rfl⟩
   case measure => simp [intOf]
  ·have hconv : (convert 59 9 (.slice (some ⟨w.heap.size, 0, none⟩) 4 4)).run Tryz.prog (w.alloc (.cells #[.int .u8 ((n : Int) % 256), .int .u8 ((n : Int) / 256 % 256), .int .u8 ((n : Int) / 65536 % 256), .int .u8 ((n : Int) / 16777216)] 275)) = .ok (.string (bx (numL n))) (w.alloc (.cells #[.int .u8 ((n : Int) % 256), .int .u8 ((n : Int) / 256 % 256), .int .u8 ((n : Int) / 65536 % 256), .int .u8 ((n : Int) / 16777216)] 275)) := by
    have hb := Blk.new w 275 #[.int .u8 ((n : Int) % 256), .int .u8 ((n : Int) / 256 % 256), .int .u8 ((n : Int) / 65536 % 256), .int .u8 ((n : Int) / 16777216)]
    refine run_convert_bytes_back _ _ _ _ _ 4 (numL n) Tryz.underlying59 Tryz.underlying5 Tryz.underlying9 ?_
    intro j hj
    have hj4 : j < 4 := hj
    have ha : (⟨w.heap.size, 0, none⟩ : Addr).add j = ⟨w.heap.size, j, none⟩ := by unfold Addr.add; split <;> simp_all
    rw [ha, hb.cell]
    obtain rfl | rfl | rfl | rfl : j = 0 ∨ j = 1 ∨ j = 2 ∨ j = 3 := by omega
    ·show some (Value.int .u8 ((n : Int) % 256)) = some (.int .u8 (((UInt8.ofNat n).toNat : Nat) : Int)); rw [UInt8.toNat_ofNat']; rfl
    ·show some (Value.int .u8 ((n : Int) / 256 % 256)) = some (.int .u8 (((UInt8.ofNat (n / 256)).toNat : Nat) : Int)); rw [UInt8.toNat_ofNat']; rfl
    ·show some (Value.int .u8 ((n : Int) / 65536 % 256)) = some (.int .u8 (((UInt8.ofNat (n / 65536)).toNat : Nat) : Int)); rw [UInt8.toNat_ofNat']; rfl
    ·show some (Value.int .u8 ((n : Int) / 16777216)) = some (.int .u8 (((UInt8.ofNat (n / 16777216)).toNat : Nat) : Int)); rw [UInt8.toNat_ofNat', Nat.mod_eq_of_lt (by omega)]; rfl
   simp only [arr4]
   go_wp2
   go_ret
   exact ⟨rfl, (Below.refl _ _).alloc (Nat.le_refl _) _⟩
theorem otextw_any (s : ByteArray) (hs : s.size ≤ 2147483648) (w : World) : Calls Tryz.prog 168 #[.string s] w fun e w' => e = .returned (.string (bx (textL s.data.toList))) ∧ Below w.heap.size w w' := by
 have HN := hid (onumw_any s.size (by omega) w)
 have hl : s.data.toList.length = s.size := by rw [Array.length_toList]; rfl
 have HR : Hid (bx (numL s.size) ++ s = bx (textL s.data.toList)) := by
  show bx (numL s.size) ++ s = bx (textL s.data.toList)
  conv => lhs; rw [← bx_back s, bx_append]
  unfold textL; rw [hl, bx_back]
 have ew : IntKind.u32.wrap (s.size : Int) = s.size := by rw [IntKind.wrap_u32]; omega
 obtain ⟨y, hy⟩ : ∃ y, bx (numL s.size) = y := ⟨_, rfl⟩
 have hys : y.size ≤ 4 := by rw [← hy]; exact Nat.le_of_eq (bx_size _)
 rw [hy] at HN HR
 have hcat : ¬ 9223372036854775807 < y.size + s.size := by omega
 rw [← HR.out]
 clear hl hy
 go_enter Tryz.func168, Tryz.ntmps168
 go_wp2_with (go_at_call 167; refine HN.out.mono ?_; rintro e w1 ⟨rfl, hs⟩; have H1 := hid hs; clear hs)
 go_ret
 exact ⟨rfl, H1.out⟩
end
end Go.Proofs.YtmpjdoiogbbcoaaGreatDoor
/- Objects: read from bytes: entries, parents. -/
namespace Go.Proofs.YtmpjdoiogbbcoaaGreatDoor
open Go.RowKit Book Pap Ojt
set_option linter.unusedVariables false

def ecells (e : Ent) : List Value := [.string e.name, .int .i64 e.kind, .string e.id]
def evals (l : List Ent) : List Value := l.flatMap ecells
theorem evals_append (a b : List Ent) : evals (a ++ b) = evals a ++ evals b := by simp [evals]
theorem evals_get : ∀ (l : List Ent) (j : Nat), j < l.length → (evals l)[j * 3]? = some (.string (l.getD j ⟨ByteArray.empty, 0, ByteArray.empty⟩).name) ∧ (evals l)[j * 3 + 1]? = some (.int .i64 (l.getD j ⟨ByteArray.empty, 0, ByteArray.empty⟩).kind) ∧ (evals l)[j * 3 + 2]? = some (.string (l.getD j ⟨ByteArray.empty, 0, ByteArray.empty⟩).id)
 | [], j, h => by simp at h
 | a :: r, 0, h => ⟨rfl, rfl, rfl⟩
 | a :: r, j + 1, h => by
  obtain ⟨h1, h2, h3⟩ := evals_get r j (by simpa using h)
  have e : evals (a :: r) = ecells a ++ evals r := rfl
  have hl : (ecells a).length = 3 := rfl
  rw [e]
  refine ⟨?_, ?_, ?_⟩
  ·rw [List.getElem?_append_right (by rw [hl]; omega), hl, show (j + 1) * 3 - 3 = j * 3 by omega]; exact h1
  ·rw [List.getElem?_append_right (by rw [hl]; omega), hl, show (j + 1) * 3 + 1 - 3 = j * 3 + 1 by omega]; exact h2
  ·rw [List.getElem?_append_right (by rw [hl]; omega), hl, show (j + 1) * 3 + 2 - 3 = j * 3 + 2 by omega]; exact h3
theorem own_ents {w : World} {B : Nat} {v : Value} {l : List Ent} (h : w.ownsRow B 76 3 v l.length (evals l)) (hm : l.length ≤ 9223372036854775807) : ∃ a c, v = .slice a l.length c ∧ EntsAt w a l.length l := by
 have h' := h
 rcases h.2 with ⟨rfl, h0⟩ | ⟨g, cap, cur, rfl, hb, hg, hn, hc, hsz, htk⟩
 ·exact ⟨none, 0, by rw [h0], rfl, hm, .inl h0⟩
 ·refine ⟨_, _, rfl, rfl, hm, .inr ⟨g, 0, rfl, fun j hj => ?_⟩⟩
  obtain ⟨h1, h2, h3⟩ := evals_get l j hj
  have c0 := h'.cellAt (j * 3) (by omega)
  have c1 := h'.cellAt (j * 3 + 1) (by omega)
  have c2 := h'.cellAt (j * 3 + 2) (by omega)
  rw [Nat.zero_add]
  exact ⟨c0.trans h1, c1.trans h2, c2.trans h3⟩
theorem Tryz.infoEnt : (Tryz.prog.info? 76).map (fun i => (i.zero, i.size, i.bytes)) = some (some (.agg #[.string ⟨#[]⟩, .int .i64 0, .string ⟨#[]⟩]), 3, 40) := by kernel_rfl
theorem cellNew3 (w : World) (x0 x1 x2 : Value) (t : TypeId) : ∀ j u, [x0, x1, x2][j]? = some u → (w.alloc (.cells #[x0, x1, x2] t)).cell? ((⟨w.heap.size, 0, none⟩ : Addr).add j) = some u := by
 intro j u h
 rw [Addr.add_lit, Nat.zero_add, (Blk.new w t #[x0, x1, x2]).cell]
 rw [← h]; simp
theorem one3 {P : Value → Prop} {a b c : Value} (ha : P a) (hb : P b) (hc : P c) : ∀ u ∈ [a, b, c], P u := by
 intro u hu; simp at hu; rcases hu with rfl | rfl | rfl <;> assumption
theorem entsR_step {n : Nat} {r : Rd} (h : r.bad = false) : entsR (n + 1) r = ((entR r).1 :: (entsR n (entR r).2).1, (entsR n (entR r).2).2) := by
 show (if r.bad = true then ([], r) else _) = _
 rw [if_neg (by rw [h]; simp)]
theorem entsR_bad {n : Nat} {r : Rd} (h : r.bad = true) : entsR n r = ([], r) := by
 cases n with
 | zero => rfl
 | succ n => show (if r.bad = true then ([], r) else _) = _; rw [if_pos h]
theorem textR_rest (r : Rd) (m : Nat) : (textR r m).2.rest.length ≤ r.rest.length := by
 unfold textR
 refine Nat.le_trans (takeR_rest _ _) ?_
 split
 ·exact Nat.zero_le _
 ·exact takeR_rest r 4
end Go.Proofs.YtmpjdoiogbbcoaaGreatDoor
/- Objects: read from bytes: entries. -/
namespace Go.Proofs.YtmpjdoiogbbcoaaGreatDoor
open Go.RowKit Book Pap Ojt
set_option linter.unusedVariables false

theorem takeR_one (r : Rd) : (takeR r 1).1 = [] ∨ ∃ x, (takeR r 1).1 = [x] := by
 unfold takeR
 split
 ·exact .inl rfl
 ·rename_i h
  right
  have hl : (r.rest.take 1).length = 1 := by rw [List.length_take]; simp only [not_or] at h; omega
  match hq : r.rest.take 1, hl with
  | [x], _ => exact ⟨x, rfl⟩
/-- what entries hand back -/
def EntsOut (w : World) (b : Nat) (r : Rd) (e : Ending) (w' : World) : Prop :=
 ∃ a n c l, e = .returned (.slice a n c) ∧ EntsAt w' a n l ∧ ((treeR r).2.bad = false → l = (treeR r).1) ∧ RdAt w' b (treeR r).2 ∧ Only (· = b) w w' ∧ ∀ k, (Value.slice a n c).ownBlock = some k → w.heap.size ≤ k
set_option maxRecDepth 100000 in
set_option maxHeartbeats 4000000 in
theorem entries_any (b : Nat) (r : Rd) (w : World) (h : RdAt w b r) (hr : r.rest.length ≤ 1000000000) : Calls Tryz.prog 111 #[.pointer (some ⟨b, 0, none⟩)] w (EntsOut w b r) := by
  obtain ⟨i0, hi0, hz0, hz1, hz2⟩ := info_parts Tryz.infoEnt
  have HN := hid (onum_any h (by omega))
  have hn32 : (numR r).1 < 4294967296 := numV_lt _
  have hrl : (numR r).2.rest.length ≤ 1000000000 := Nat.le_trans (takeR_rest r 4) hr
  have HT : Hid (treeR r = entsR (numR r).1 (spoil (numR r).2 (numR r).1 256)) := rfl
  have hbw : b < w.heap.size := Blk.lt h
  obtain ⟨n, hn⟩ : ∃ n, (numR r).1 = n := ⟨_, rfl⟩
  obtain ⟨r2, hr2⟩ : ∃ x, (numR r).2 = x := ⟨_, rfl⟩
  rw [hn, hr2] at HN HT
  rw [hn] at hn32
  rw [hr2] at hrl
  clear h hr hn hr2
  by_cases h256 : 256 < n
  · have g1 : (256 : Int) < n := by omega
    have HT2 : Hid (treeR r = ([], ⟨[], true⟩)) := by
      show _ = _
      rw [HT.out]
      unfold spoil
      rw [if_pos h256]
      exact entsR_bad rfl
    clear HT
    go_enter Tryz.func111, Tryz.ntmps111
    go_wp2_with fail
    refine HN.out.mono ?_; rintro e w1 ⟨rfl, hs, ho⟩
    have H1 := hid hs; have O1 := hid ho
    clear hs ho
    go_wp2_with fail
    refine (ospoil_any H1.out).mono ?_; rintro e w2 ⟨rfl, hs, ho⟩
    have H2 := hid hs; have O2 := hid (O1.out.then ho)
    clear hs ho
    have g0 : (0 : Int) < n := by omega
    go_wp2_with fail
    refine wp_loop_rounds 1 ?_
    rw [rounds_succ]
    go_wp2_with fail
    refine (obad_any H2.out).mono ?_; rintro e w' ⟨rfl, rfl⟩
    go_wp2_with fail
    go_ret
    exact ⟨none, 0, 0, [], rfl, ⟨rfl, by omega, .inl rfl⟩, (fun hb => by rw [HT2.out] at hb; cases hb), by rw [HT2.out]; exact H2.out, O2.out, fun k hk => by simp [Value.ownBlock] at hk⟩
  · have g1 : ¬ (256 : Int) < n := by omega
    have HT2 : Hid (treeR r = entsR n r2) := by
      show _ = _
      rw [HT.out]
      unfold spoil
      rw [if_neg h256]
    clear HT
    go_enter Tryz.func111, Tryz.ntmps111
    go_wp2_with fail
    refine HN.out.mono ?_; rintro e w1 ⟨rfl, hs, ho⟩
    have H1 := hid hs; have O1 := hid ho
    clear hs ho
    go_wp2_with fail
    go_loopw [14, 4] (fun iv v wr => ∃ (i : Nat) (l : List Ent) (ri : Rd), i ≤ n ∧ iv = .int .u32 i ∧ Hid (l.length = i) ∧ Hid (wr.ownsRow w.heap.size 76 3 v i (evals l)) ∧ Hid (RdAt wr b ri) ∧ Hid (ri.rest.length ≤ 1000000000) ∧ Hid (Only (· = b) w wr) ∧ Hid (entsR n r2 = (l ++ (entsR (n - i) ri).1, (entsR (n - i) ri).2))) (fun iv _ _ => n - (intOf iv).toNat)
    case atStart => exact ⟨0, [], r2, Nat.zero_le _, rfl, rfl, World.ownsRow_nil _ _ _ _, H1, hrl, O1, rfl⟩
    case round =>
      obtain ⟨i, l, ri, hi, rfl, HL, HO, HRd, HRl, HOn, HE⟩ := hrel
      obtain ⟨va, vc, rfl, hvc⟩ := own_slice' HO.out
      have hszw : w.heap.size ≤ wr.heap.size := HOn.out.size
      clear H1 O1
      by_cases hlt : i < n
      · have ci : (i : Int) < n := by omega
        have ew : IntKind.u32.wrap ((i : Int) + 1) = (i : Int) + 1 := by rw [IntKind.wrap_u32]; omega
        have HB := hid (obad_any HRd.out)
        obtain ⟨bad, hbad⟩ : ∃ q, ri.bad = q := ⟨_, rfl⟩
        rw [hbad] at HB
        cases bad
        · have HST : Hid (entsR (n - i) ri = ((entR ri).1 :: (entsR (n - (i + 1)) (entR ri).2).1, (entsR (n - (i + 1)) (entR ri).2).2)) := by
            show _ = _
            rw [show n - i = (n - (i + 1)) + 1 by omega]
            exact entsR_step hbad
          have HBAD := hid hbad
          clear hbad
          go_wp2_with fail
          refine HB.out.mono ?_; rintro e w' ⟨rfl, rfl⟩
          go_upto_region 10 with fail
          have HX1 : Hid (Blk (wr.alloc (.cells #[.string ⟨#[]⟩, .int .i64 0, .string ⟨#[]⟩] 76)) wr.heap.size 76 #[.string ⟨#[]⟩, .int .i64 0, .string ⟨#[]⟩]) := Blk.new wr _ _
          have HR1 : Hid (RdAt (wr.alloc (.cells #[.string ⟨#[]⟩, .int .i64 0, .string ⟨#[]⟩] 76)) b ri) := Blk.alloc HRd.out _
          have HO1 : Hid ((wr.alloc (.cells #[.string ⟨#[]⟩, .int .i64 0, .string ⟨#[]⟩] 76)).ownsRow w.heap.size 76 3 (.slice va i vc) i (evals l)) := HO.out.alloc _
          have HOn1 : Hid (Only (· = b) w (wr.alloc (.cells #[.string ⟨#[]⟩, .int .i64 0, .string ⟨#[]⟩] 76))) := HOn.out.alloc _
          have hbg : b < wr.heap.size := by omega
          have hog : w.heap.size ≤ wr.heap.size := hszw
          have HNO : Hid (∀ k, (Value.slice va i vc).ownBlock = some k → w.heap.size ≤ k ∧ k < wr.heap.size) := fun k hk => HO.out.lt k hk
          clear HRd HO HOn HB
          generalize (wr.alloc (.cells #[.string ⟨#[]⟩, .int .i64 0, .string ⟨#[]⟩] 76)) = w3 at HX1 HR1 HO1 HOn1 ⊢
          generalize wr.heap.size = g1 at HX1 hbg hog HNO ⊢
          have HEN : Hid ((entR ri).1 = ⟨bz (textR (kindR ri).2 255).1, (kindR ri).1, bz (takeR (textR (kindR ri).2 255).2 32).1⟩ ∧ (entR ri).2 = (takeR (textR (kindR ri).2 255).2 32).2) := ⟨rfl, rfl⟩
          have HK : Hid ((kindR ri).1 = (((takeR ri 1).1.headD 0).toNat : Int) ∧ (kindR ri).2 = (takeR ri 1).2) := ⟨rfl, rfl⟩
          obtain ⟨rk, hrk⟩ : ∃ x, (takeR ri 1).2 = x := ⟨_, rfl⟩
          have HRK := hid hrk
          have hrkl : rk.rest.length ≤ 1000000000 := by rw [← hrk]; exact Nat.le_trans (takeR_rest ri 1) HRl.out
          obtain ⟨kd, hkd⟩ : ∃ x, (kindR ri).1 = x := ⟨_, rfl⟩
          rw [hkd] at HEN HK
          have hrl1 := HRl.out
          have CT := hid (otake_any 1 HR1.out (by omega) (by omega))
          rw [hrk] at CT
          clear hrk hkd
          rcases takeR_one ri with e | ⟨x, e⟩
          all_goals first
            | (have hk0 : kd = 0 := by rw [HK.out.1, e]; rfl
               rw [e] at CT
               have CT2 : Hid (Calls Tryz.prog 109 #[.pointer (some ⟨b, 0, none⟩), .int .i64 1] w3 fun e w' => e = .returned (.string ⟨#[]⟩) ∧ RdAt w' b rk ∧ Only (· = b) w3 w') := CT
               clear CT e
               go_wp2_with fail
               refine CT2.out.mono ?_; rintro e w4 ⟨rfl, hs, ho⟩
               have H5 := hid hs
               have HX5 : Hid (Blk w4 g1 76 #[.string ⟨#[]⟩, .int .i64 kd, .string ⟨#[]⟩]) := by rw [hk0]; exact HX1.out.only ho (by omega)
               clear hk0
               have HO5 := hid (own_only HO1.out ho (fun k hk e => by have := (HNO.out k hk).1; have e : k = b := e; omega))
               have HOn5 := hid (HOn1.out.then ho)
               clear hs ho CT2
               go_upto_region 13 with fail
               obtain ⟨wc, rfl⟩ : ∃ wc : World, wc = w4 := ⟨_, rfl⟩)
            | (have hk0 : kd = (x.toNat : Int) := by rw [HK.out.1, e]; rfl
               rw [e] at CT
               obtain ⟨y, hy⟩ : ∃ y, bx [x] = y := ⟨_, rfl⟩
               have hys : y.size = 1 := by rw [← hy]; rfl
               have hxl : x.toNat < 256 := x.toNat_lt
               have hxi : (x.toNat : Int) ≤ 255 := by omega
               have hxi0 : (0 : Int) ≤ (x.toNat : Int) := by omega
               have hy1 : y.toList.isEmpty = false := bstr_isEmpty (by omega)
               have hy2 : ¬ y.toList = [] := bstr_some (by omega)
               have hy3 : (y.toList == []) = false := by rw [beq_eq_false_iff_ne]; exact hy2
               have hy4 : y[0]? = some x := by rw [← hy]; rfl
               have hy0 : ∀ h : 0 < y.size, y[0]'h = x := fun h => by subst hy; rfl
               rw [hy] at CT
               clear hy e
               go_wp2_with fail
               refine CT.out.mono ?_; rintro e w4 ⟨rfl, hs, ho⟩
               have H4 := hid hs
               have hx4 := HX1.out.only ho (by omega)
               have HX4 := hid hx4
               have HO4 := hid (own_only HO1.out ho (fun k hk e => by have := (HNO.out k hk).1; have e : k = b := e; omega))
               have HOn4 := hid (HOn1.out.then ho)
               have k1 := Blk.cell hx4 1
               have f1 := Blk.frozen hx4 1
               simp at k1
               clear hs ho CT hx4
               go_upto_region 13 with fail
               have hob : Only (· = g1) w4 (w4.setCell ⟨g1, 1, none⟩ (.int .i64 (x.toNat : Int))) := (Only.refl (· = g1) w4).setCell (p := ⟨g1, 1, none⟩) (.inl rfl) _
               have HX5 : Hid (Blk (w4.setCell ⟨g1, 1, none⟩ (.int .i64 (x.toNat : Int))) g1 76 #[.string ⟨#[]⟩, .int .i64 kd, .string ⟨#[]⟩]) := by
                 have := Blk.set HX4.out 1 (.int .i64 (x.toNat : Int))
                 rw [hk0]
                 show Blk _ _ _ _
                 simpa using this
               have H5 : Hid (RdAt (w4.setCell ⟨g1, 1, none⟩ (.int .i64 (x.toNat : Int))) b rk) := Blk.far H4.out (p := ⟨g1, 1, none⟩) (by show b ≠ g1; omega) _
               have HO5 := hid (own_only HO4.out hob (fun k hk e => by have := (HNO.out k hk).2; have e : k = g1 := e; omega))
               have HOn5 : Hid (Only (· = b) w (w4.setCell ⟨g1, 1, none⟩ (.int .i64 (x.toNat : Int)))) := HOn4.out.setCell (p := ⟨g1, 1, none⟩) (.inr hog) _
               clear hob k1 f1 HX4 H4 HO4 HOn4 hy0 hy1 hy2 hy3 hy4 hys
               generalize w4.setCell ⟨g1, 1, none⟩ (.int .i64 (x.toNat : Int)) = wc at HX5 H5 HO5 HOn5 ⊢
               clear hk0)
          all_goals
            clear HX1 HR1 HO1 HOn1
            rw [HK.out.2, HRK.out] at HEN
            obtain ⟨nm, hnm⟩ : ∃ x, bz (textR rk 255).1 = x := ⟨_, rfl⟩
            have HTX := hid (otext_any 255 (by omega) H5.out (by omega))
            have hrt : (textR rk 255).2.rest.length ≤ 1000000000 := Nat.le_trans (textR_rest _ _) hrkl
            obtain ⟨rt, hrt2⟩ : ∃ x, (textR rk 255).2 = x := ⟨_, rfl⟩
            have hnm2 : bx (textR rk 255).1 = nm := hnm
            rw [hnm, hrt2] at HEN
            rw [hnm2, hrt2] at HTX
            rw [hrt2] at hrt
            clear hnm hnm2 hrt2 HK HRK
            go_wp2_with fail
            refine HTX.out.mono ?_; rintro e w6 ⟨rfl, hs, ho⟩
            have hx6 := HX5.out.only ho (by omega)
            have k0 := Blk.cell hx6 0
            have f0 := Blk.frozen hx6 0
            simp at k0
            have HX6 : Hid (Blk (w6.setCell ⟨g1, 0, none⟩ (.string nm)) g1 76 #[.string nm, .int .i64 kd, .string ⟨#[]⟩]) := by
              have := Blk.set hx6 0 (.string nm)
              show Blk _ _ _ _
              simpa using this
            have hob : Only (· = g1) w6 (w6.setCell ⟨g1, 0, none⟩ (.string nm)) := (Only.refl (· = g1) w6).setCell (p := ⟨g1, 0, none⟩) (.inl rfl) _
            have H6 : Hid (RdAt (w6.setCell ⟨g1, 0, none⟩ (.string nm)) b rt) := Blk.far hs (p := ⟨g1, 0, none⟩) (by show b ≠ g1; omega) _
            have HO6 := hid (own_only (own_only HO5.out ho (fun k hk e => by have := (HNO.out k hk).1; have e : k = b := e; omega)) hob (fun k hk e => by have := (HNO.out k hk).2; have e : k = g1 := e; omega))
            have HOn6 : Hid (Only (· = b) w (w6.setCell ⟨g1, 0, none⟩ (.string nm))) := (HOn5.out.then ho).setCell (p := ⟨g1, 0, none⟩) (.inr hog) _
            have HTK := hid (otake_any 32 H6.out (by omega) (by omega))
            obtain ⟨id, hid1⟩ : ∃ x, bz (takeR rt 32).1 = x := ⟨_, rfl⟩
            have hid2 : bx (takeR rt 32).1 = id := hid1
            have hre : (takeR rt 32).2.rest.length ≤ 1000000000 := Nat.le_trans (takeR_rest _ _) hrt
            obtain ⟨re, hre2⟩ : ∃ x, (takeR rt 32).2 = x := ⟨_, rfl⟩
            rw [hid1, hre2] at HEN
            rw [hid2, hre2] at HTK
            rw [hre2] at hre
            clear hid1 hid2 hre2 hs ho hx6 hob HX5 H5 HO5 HOn5 HTX
            go_wp2_with fail
            refine HTK.out.mono ?_; rintro e w7 ⟨rfl, hs, ho⟩
            have hx7 := HX6.out.only ho (by omega)
            clear k0 f0
            have k2 := Blk.cell hx7 2
            have f2 := Blk.frozen hx7 2
            have k0 := Blk.cell hx7 0
            have k1 := Blk.cell hx7 1
            simp at k0 k1 k2
            have HX7 : Hid (Blk (w7.setCell ⟨g1, 2, none⟩ (.string id)) g1 76 #[.string nm, .int .i64 kd, .string id]) := by
              have := Blk.set hx7 2 (.string id)
              show Blk _ _ _ _
              simpa using this
            have hob : Only (· = g1) w7 (w7.setCell ⟨g1, 2, none⟩ (.string id)) := (Only.refl (· = g1) w7).setCell (p := ⟨g1, 2, none⟩) (.inl rfl) _
            have H7 : Hid (RdAt (w7.setCell ⟨g1, 2, none⟩ (.string id)) b re) := Blk.far hs (p := ⟨g1, 2, none⟩) (by show b ≠ g1; omega) _
            have HO7 := hid (own_only (own_only HO6.out ho (fun k hk e => by have := (HNO.out k hk).1; have e : k = b := e; omega)) hob (fun k hk e => by have := (HNO.out k hk).2; have e : k = g1 := e; omega))
            have HOn7 : Hid (Only (· = b) w (w7.setCell ⟨g1, 2, none⟩ (.string id))) := (HOn6.out.then ho).setCell (p := ⟨g1, 2, none⟩) (.inr hog) _
            clear hs ho hx7 hob HX6 H6 HO6 HOn6 HTK
            go_upto_region 15 with fail
            clear k0 k1 k2 f2
            generalize w7.setCell ⟨g1, 2, none⟩ (.string id) = w8 at HX7 H7 HO7 HOn7 ⊢
            have k0 : w8.cell? ⟨g1, 0, none⟩ = some (.string nm) := Blk.cell HX7.out 0
            have k1 : w8.cell? ⟨g1, 1, none⟩ = some (.int .i64 kd) := Blk.cell HX7.out 1
            have k2 : w8.cell? ⟨g1, 2, none⟩ = some (.string id) := Blk.cell HX7.out 2
            have hs8 : w.heap.size ≤ w8.heap.size := HOn7.out.size
            have hvb : i ≤ 4294967296 := by omega
            go_wp2_with (first
              | (at_builtin; refine wpList_append_own _ rfl (.tmp 32) (.tmp 34) 83 rfl w.heap.size 76 i0 (.agg #[.string ⟨#[]⟩, .int .i64 0, .string ⟨#[]⟩]) 3 40 Tryz.underlying83 hi0 hz0 hz1 hz2 rfl (by decide) (.slice va i vc) _ _ rfl (HO7.out.alloc _) ⟨w8.heap.size, 0, none⟩ 1 1 [.string nm, .int .i64 kd, .string id] rfl rfl (cellNew3 _ _ _ _ _) (one3 rfl rfl rfl) (by unfold maxLen; omega) (by omega) (by simp; omega) ?_; intro v' w9 hown' hgrow _; have HOWN := hid hown'; have HGR := hid hgrow; clear hown' hgrow))
            obtain ⟨va', vc', rfl, hvc'⟩ := own_slice' HOWN.out
            have hogb : ∀ k, (Value.slice va i vc).ownBlock = some k → k ≠ b := fun k hk e => by have := (HNO.out k hk).1; omega
            have HE9 : Hid (entsR n r2 = ((l ++ [⟨nm, kd, id⟩]) ++ (entsR (n - (i + 1)) re).1, (entsR (n - (i + 1)) re).2)) := by
              show _ = _
              rw [HE.out, HST.out, HEN.out.1, HEN.out.2, List.append_assoc]; rfl
            have HL9 : Hid ((l ++ [(⟨nm, kd, id⟩ : Ent)]).length = i + 1) := by show _ = _; rw [List.length_append, HL.out]; rfl
            have HO9 : Hid (w9.ownsRow w.heap.size 76 3 (.slice va' (i + 1) vc') (i + 1) (evals (l ++ [⟨nm, kd, id⟩]))) := by
              have h := HOWN.out
              rw [evals_append]; exact h
            have H9 : Hid (RdAt w9 b re) := (Blk.alloc H7.out _).grown HGR.out (fun e => hogb b e.symm rfl)
            have HOn9 : Hid (Only (· = b) w w9) := (HOn7.out.alloc _).grown HGR.out (fun k hk => .inr (HNO.out k hk).1)
            go_roundw
            case rel => first | exact ⟨i + 1, _, re, by omega, by go_num, HL9, HO9, H9, hre, HOn9, HE9⟩ | ((repeat apply Exists.intro); exact ⟨⟨i + 1, _, re, by omega, by go_num, HL9, HO9, H9, hre, HOn9, HE9⟩, rfl⟩)
            case measure => simp [intOf]; omega
        · have HST : Hid (entsR (n - i) ri = ([], ri)) := entsR_bad hbad
          have HBAD := hid hbad
          clear hbad
          go_wp2_with fail
          refine HB.out.mono ?_; rintro e w' ⟨rfl, rfl⟩
          go_wp2_with fail
          go_ret
          exact ⟨none, 0, 0, [], rfl, ⟨rfl, by omega, .inl rfl⟩, (fun hb => by rw [HT2.out, HE.out, HST.out] at hb; rw [HBAD.out] at hb; cases hb), by rw [HT2.out, HE.out, HST.out]; exact HRd.out, HOn.out, fun k hk => by simp [Value.ownBlock] at hk⟩
      · obtain rfl : i = n := by omega
        have HF : Hid (treeR r = (l, ri)) := by
          show _ = _
          rw [HT2.out, HE.out, Nat.sub_self]
          show (l ++ [], ri) = _
          rw [List.append_nil]
        have HA : Hid (EntsAt wr va i l) := by
          have h := HO.out
          have h' : wr.ownsRow w.heap.size 76 3 (.slice va i vc) l.length (evals l) := by rw [HL.out]; exact h
          obtain ⟨a', c', he, hst⟩ := own_ents h' (by rw [HL.out]; omega)
          injection he with e1 e2 e3
          rw [HL.out, ← e1] at hst
          exact hst
        go_wp2_with fail
        go_ret
        exact ⟨va, i, vc, l, rfl, HA.out, (fun _ => by rw [HF.out]), by rw [HF.out]; exact HRd.out, HOn.out, fun k hk => (HO.out.lt k hk).1⟩
end Go.Proofs.YtmpjdoiogbbcoaaGreatDoor
/- Objects: read from bytes: parents. -/
namespace Go.Proofs.YtmpjdoiogbbcoaaGreatDoor
open Go.RowKit Book Pap Ojt
set_option linter.unusedVariables false

theorem idsR_step {n : Nat} {r : Rd} (h : r.bad = false) : idsR (n + 1) r = (bz (takeR r 32).1 :: (idsR n (takeR r 32).2).1, (idsR n (takeR r 32).2).2) := by
 show (if r.bad = true then ([], r) else _) = _
 rw [if_neg (by rw [h]; simp)]
theorem idsR_bad {n : Nat} {r : Rd} (h : r.bad = true) : idsR n r = ([], r) := by
 cases n with
 | zero => rfl
 | succ n => show (if r.bad = true then ([], r) else _) = _; rw [if_pos h]
/-- what parents hand back -/
def ParsOut (w : World) (b : Nat) (r : Rd) (e : Ending) (w' : World) : Prop :=
 ∃ a n c l, e = .returned (.slice a n c) ∧ StrsAt w' a n l ∧ ((parsR r).2.bad = false → l = (parsR r).1) ∧ RdAt w' b (parsR r).2 ∧ Only (· = b) w w' ∧ ∀ k, (Value.slice a n c).ownBlock = some k → w.heap.size ≤ k
set_option maxRecDepth 100000 in
set_option maxHeartbeats 4000000 in
theorem parents_any (b : Nat) (r : Rd) (w : World) (h : RdAt w b r) (hr : r.rest.length ≤ 1000000000) : Calls Tryz.prog 112 #[.pointer (some ⟨b, 0, none⟩)] w (ParsOut w b r) := by
 obtain ⟨i0, hi0, hz0, hz1, hz2⟩ := info_parts Tryz.infoS
 have HN := hid (onum_any h (by omega))
 have hn32 : (numR r).1 < 4294967296 := numV_lt _
 have hrl : (numR r).2.rest.length ≤ 1000000000 := Nat.le_trans (takeR_rest r 4) hr
 have HT : Hid (parsR r = idsR (numR r).1 (spoil (numR r).2 (numR r).1 8)) := rfl
 have hbw : b < w.heap.size := Blk.lt h
 obtain ⟨n, hn⟩ : ∃ n, (numR r).1 = n := ⟨_, rfl⟩
 obtain ⟨r2, hr2⟩ : ∃ x, (numR r).2 = x := ⟨_, rfl⟩
 rw [hn, hr2] at HN HT
 rw [hn] at hn32
 rw [hr2] at hrl
 clear h hr hn hr2
 by_cases h8 : 8 < n
 ·have g1 : (8 : Int) < n := by omega
  have HT2 : Hid (parsR r = ([], ⟨[], true⟩)) := by
   show _ = _
   rw [HT.out]
   unfold spoil
   rw [if_pos h8]
   exact idsR_bad rfl
  clear HT
  go_enter Tryz.func112, Tryz.ntmps112
  go_wp2_with fail
  refine HN.out.mono ?_; rintro e w1 ⟨rfl, hs, ho⟩
  have H1 := hid hs; have O1 := hid ho
  clear hs ho
  go_wp2_with fail
  refine (ospoil_any H1.out).mono ?_; rintro e w2 ⟨rfl, hs, ho⟩
  have H2 := hid hs; have O2 := hid (O1.out.then ho)
  clear hs ho
  have g0 : (0 : Int) < n := by omega
  go_wp2_with fail
  refine wp_loop_rounds 1 ?_
  rw [rounds_succ]
  go_wp2_with fail
  refine (obad_any H2.out).mono ?_; rintro e w' ⟨rfl, rfl⟩
  go_wp2_with fail
  go_ret
  exact ⟨none, 0, 0, [], rfl, ⟨rfl, by omega, .inl rfl⟩, (fun hb => by rw [HT2.out] at hb; cases hb), by rw [HT2.out]; exact H2.out, O2.out, fun k hk => by simp [Value.ownBlock] at hk⟩
 ·have g1 : ¬ (8 : Int) < n := by omega
  have HT2 : Hid (parsR r = idsR n r2) := by
   show _ = _
   rw [HT.out]
   unfold spoil
   rw [if_neg h8]
  clear HT
  go_enter Tryz.func112, Tryz.ntmps112
  go_wp2_with fail
  refine HN.out.mono ?_; rintro e w1 ⟨rfl, hs, ho⟩
  have H1 := hid hs; have O1 := hid ho
  clear hs ho
  go_wp2_with fail
  go_loopw [12, 4] (fun iv v wr => ∃ (i : Nat) (l : List ByteArray) (ri : Rd), i ≤ n ∧ iv = .int .u32 i ∧ Hid (l.length = i) ∧ Hid (wr.ownsRow w.heap.size 9 1 v i (svals l)) ∧ Hid (RdAt wr b ri) ∧ Hid (ri.rest.length ≤ 1000000000) ∧ Hid (Only (· = b) w wr) ∧ Hid (idsR n r2 = (l ++ (idsR (n - i) ri).1, (idsR (n - i) ri).2))) (fun iv _ _ => n - (intOf iv).toNat)
  case atStart => exact ⟨0, [], r2, Nat.zero_le _, rfl, rfl, World.ownsRow_nil _ _ _ _, H1, hrl, O1, rfl⟩
  case round =>
   obtain ⟨i, l, ri, hi, rfl, HL, HO, HRd, HRl, HOn, HE⟩ := hrel
   obtain ⟨va, vc, rfl, hvc⟩ := own_slice' HO.out
   have hszw : w.heap.size ≤ wr.heap.size := HOn.out.size
   clear H1 O1
   by_cases hlt : i < n
   ·have ci : (i : Int) < n := by omega
    have ew : IntKind.u32.wrap ((i : Int) + 1) = (i : Int) + 1 := by rw [IntKind.wrap_u32]; omega
    have HB := hid (obad_any HRd.out)
    obtain ⟨bad, hbad⟩ : ∃ q, ri.bad = q := ⟨_, rfl⟩
    rw [hbad] at HB
    cases bad
    ·have HST : Hid (idsR (n - i) ri = (bz (takeR ri 32).1 :: (idsR (n - (i + 1)) (takeR ri 32).2).1, (idsR (n - (i + 1)) (takeR ri 32).2).2)) := by
      show _ = _
      rw [show n - i = (n - (i + 1)) + 1 by omega]
      exact idsR_step hbad
     clear hbad
     have hrl1 := HRl.out
     have HTK := hid (otake_any 32 HRd.out (by omega) (by omega))
     obtain ⟨id, hid1⟩ : ∃ x, bz (takeR ri 32).1 = x := ⟨_, rfl⟩
     have hid2 : bx (takeR ri 32).1 = id := hid1
     have hre : (takeR ri 32).2.rest.length ≤ 1000000000 := Nat.le_trans (takeR_rest _ _) hrl1
     obtain ⟨re, hre2⟩ : ∃ x, (takeR ri 32).2 = x := ⟨_, rfl⟩
     rw [hid1, hre2] at HST
     rw [hid2, hre2] at HTK
     rw [hre2] at hre
     clear hid1 hid2 hre2
     have hogb : ∀ k, (Value.slice va i vc).ownBlock = some k → w.heap.size ≤ k := fun k hk => (HO.out.lt k hk).1
     have HOG := hid hogb
     clear hogb
     go_wp2_with fail
     refine HB.out.mono ?_; rintro e w' ⟨rfl, rfl⟩
     go_wp2_with fail
     refine HTK.out.mono ?_; rintro e w7 ⟨rfl, hs, ho⟩
     have H7 := hid hs
     have HO7 := hid (own_only HO.out ho (fun k hk e => by have := HOG.out k hk; have e : k = b := e; omega))
     have HOn7 := hid (HOn.out.then ho)
     have hs8 : w.heap.size ≤ w7.heap.size := HOn7.out.size
     clear hs ho
     go_wp2_with (first
      | (at_builtin; refine wpList_append_own _ rfl (.tmp 16) (.tmp 19) 40 rfl w.heap.size 9 i0 (.string ⟨#[]⟩) 1 16 Tryz.underlying40 hi0 hz0 hz1 hz2 rfl (by decide) (.slice va i vc) _ _ rfl (HO7.out.alloc _) ⟨w7.heap.size, 0, none⟩ 1 1 [.string id] rfl rfl (cellNew1 _ _ _) (one_bytes rfl) (by unfold maxLen; omega) (by omega) (by simp; omega) ?_; intro v' w9 hown' hgrow _; have HOWN := hid hown'; have HGR := hid hgrow; clear hown' hgrow))
     obtain ⟨va', vc', rfl, hvc'⟩ := own_slice' HOWN.out
     have HE9 : Hid (idsR n r2 = ((l ++ [id]) ++ (idsR (n - (i + 1)) re).1, (idsR (n - (i + 1)) re).2)) := by
      show _ = _
      rw [HE.out, HST.out, List.append_assoc]; rfl
     have HL9 : Hid ((l ++ [id]).length = i + 1) := by show _ = _; rw [List.length_append, HL.out]; rfl
     have HO9 : Hid (w9.ownsRow w.heap.size 9 1 (.slice va' (i + 1) vc') (i + 1) (svals (l ++ [id]))) := by
      have h := HOWN.out
      rw [svals_append]; exact h
     have H9 : Hid (RdAt w9 b re) := (Blk.alloc H7.out _).grown HGR.out (fun e => by have := HOG.out b e.symm; omega)
     have HOn9 : Hid (Only (· = b) w w9) := (HOn7.out.alloc _).grown HGR.out (fun k hk => .inr (HOG.out k hk))
     go_roundw
     case rel => first | exact ⟨i + 1, _, re, by omega, by go_num, HL9, HO9, H9, hre, HOn9, HE9⟩ | ((repeat apply Exists.intro); exact ⟨⟨i + 1, _, re, by omega, by go_num, HL9, HO9, H9, hre, HOn9, HE9⟩, rfl⟩)
     case measure => simp [intOf]; omega
    ·have HST : Hid (idsR (n - i) ri = ([], ri)) := idsR_bad hbad
     have HBAD := hid hbad
     clear hbad
     go_wp2_with fail
     refine HB.out.mono ?_; rintro e w' ⟨rfl, rfl⟩
     go_wp2_with fail
     go_ret
     exact ⟨none, 0, 0, [], rfl, ⟨rfl, by omega, .inl rfl⟩, (fun hb => by rw [HT2.out, HE.out, HST.out] at hb; rw [HBAD.out] at hb; cases hb), by rw [HT2.out, HE.out, HST.out]; exact HRd.out, HOn.out, fun k hk => by simp [Value.ownBlock] at hk⟩
   ·obtain rfl : i = n := by omega
    have HF : Hid (parsR r = (l, ri)) := by
     show _ = _
     rw [HT2.out, HE.out, Nat.sub_self]
     show (l ++ [], ri) = _
     rw [List.append_nil]
    have HA : Hid (StrsAt wr va i l) := by
     have h := HO.out
     have h' : wr.ownsRow w.heap.size 9 1 (.slice va i vc) l.length (svals l) := by rw [HL.out]; exact h
     obtain ⟨a', c', he, hst⟩ := own_strs h' (by rw [HL.out]; omega)
     injection he with e1 e2 e3
     rw [HL.out, ← e1] at hst
     exact hst
    go_wp2_with fail
    go_ret
    exact ⟨va, i, vc, l, rfl, HA.out, (fun _ => by rw [HF.out]), by rw [HF.out]; exact HRd.out, HOn.out, fun k hk => (HO.out.lt k hk).1⟩
end Go.Proofs.YtmpjdoiogbbcoaaGreatDoor
/- Objects: read from bytes: Decode. -/
namespace Go.Proofs.YtmpjdoiogbbcoaaGreatDoor
open Go.RowKit Book Pap Ojt
set_option linter.unusedVariables false

def decR (l : List UInt8) : Ob × Int := match dec l with
 | some x => (x, 0)
 | none => (zero, 4)
/-- what Decode hands back -/
def DecOut (w : World) (l : List UInt8) (e : Ending) (w' : World) : Prop :=
 ∃ x ev pv er, (x, er) = decR l ∧ e = .returned (.tuple #[.agg (obCs x ev pv), .int .i64 er]) ∧ ObAt w' ev pv x ∧ Below w.heap.size w w' ∧ ∀ k, (ev.ownBlock = some k ∨ pv.ownBlock = some k) → w.heap.size ≤ k
theorem zero_at (w : World) : ObAt w (.slice none 0 0) (.slice none 0 0) zero := ⟨none, 0, 0, none, 0, 0, rfl, ⟨rfl, by omega, .inl rfl⟩, rfl, ⟨rfl, by omega, .inl rfl⟩⟩
theorem zero_cs : obCs zero (.slice none 0 0) (.slice none 0 0) = #[.int .i64 0, .string ⟨#[]⟩, .slice none 0 0, .string ⟨#[]⟩, .slice none 0 0, .int .i64 0, .string ⟨#[]⟩] := rfl
set_option maxRecDepth 100000 in
set_option maxHeartbeats 4000000 in
theorem decode_nil (s : ByteArray) (hs : s.size = 0) (w : World) : Calls Tryz.prog 63 #[.string s] w (DecOut w s.data.toList) := by
 have HD : Hid (decR s.data.toList = (zero, 4)) := by
  have : s.data.toList = [] := by apply List.length_eq_zero_iff.1; simpa using hs
  show _ = _
  rw [this]; rfl
 have hs1 : s.toList.isEmpty = true := by rw [bstr_nil hs]; rfl
 have hs2 : s.toList = [] := bstr_nil hs
 have hs3 : (s.toList == []) = true := by rw [beq_iff_eq]; exact hs2
 go_enter Tryz.func63, Tryz.ntmps63
 go_wp2_with fail
 refine bodyPost_ret (v := .tuple #[.agg #[.int .i64 0, .string ⟨#[]⟩, .slice none 0 0, .string ⟨#[]⟩, .slice none 0 0, .int .i64 0, .string ⟨#[]⟩], .int .i64 4]) (by simp [results, Tryz.results63, go_sem]) rfl ⟨zero, .slice none 0 0, .slice none 0 0, 4, HD.out.symm, by rw [zero_cs], zero_at _, ?_, fun k hk => by simp [Value.ownBlock] at hk⟩
 exact (Below.refl _ _).alloc (Nat.le_refl _) _
/-- a text of one byte and more: what the walk asks of it -/
structure Head (s : ByteArray) (k : UInt8) (t : List UInt8) : Prop where
 l : s.data.toList = k :: t
theorem Head.size {s : ByteArray} {k : UInt8} {t : List UInt8} (h : Head s k t) : s.size = t.length + 1 := by
 have : s.data.toList.length = s.size := Array.length_toList
 rw [h.l] at this; simpa using this.symm
theorem Head.at0 {s : ByteArray} {k : UInt8} {t : List UInt8} (h : Head s k t) (hz : 0 < s.size) : s[0]'hz = k := by
 have h1 : s.data.toList[0]? = some k := by rw [h.l]; rfl
 rw [Array.getElem?_toList] at h1
 obtain ⟨_, h2⟩ := Array.getElem?_eq_some_iff.1 h1
 exact h2
theorem Head.rest {s : ByteArray} {k : UInt8} {t : List UInt8} (h : Head s k t) : (s.extract 1 s.size).data.toList = t := by
 have := bx_drop s.data.toList 1
 rw [bx_back] at this
 rw [this, bx_list, h.l]; rfl
theorem whole_bad {r : Rd} (h : wholeR r = true) : r.bad = false := by
 unfold wholeR at h
 cases hb : r.bad
 ·rfl
 ·rw [hb] at h; simp at h
theorem decR_blob (t : List UInt8) : decR (1 :: t) = if wholeR ⟨[], false⟩ = true ∧ good { zero with kind := 1, data := bx t } = true then ({ zero with kind := 1, data := bx t }, 0) else (zero, 4) := by
 have e : decR (1 :: t) = match (if good (blobO t) = true then some (blobO t) else none) with | some x => (x, 0) | none => (zero, 4) := rfl
 rw [e]
 by_cases h : good (blobO t) = true
 ·rw [if_pos h, if_pos ⟨rfl, h⟩]; rfl
 ·rw [if_neg h, if_neg (fun h2 => h h2.2)]
theorem decR_tree (t : List UInt8) (l : List Ent) (hl : (treeR (newR t)).2.bad = false → l = (treeR (newR t)).1) : decR (2 :: t) = if wholeR (treeR (newR t)).2 = true ∧ good { zero with kind := 2, ents := l } = true then ({ zero with kind := 2, ents := l }, 0) else (zero, 4) := by
 have e : decR (2 :: t) = match (if wholeR (treeR (newR t)).2 = true ∧ good (treeO t) = true then some (treeO t) else none) with | some x => (x, 0) | none => (zero, 4) := rfl
 rw [e]
 by_cases hw : wholeR (treeR (newR t)).2 = true
 ·have := hl (whole_bad hw)
  subst this
  by_cases h : good (treeO t) = true
  ·rw [if_pos ⟨hw, h⟩, if_pos ⟨hw, h⟩]; rfl
  ·rw [if_neg (fun h2 => h h2.2), if_neg (fun h2 => h h2.2)]
 ·rw [if_neg (fun h2 => hw h2.1), if_neg (fun h2 => hw h2.1)]
theorem decR_commit (t : List UInt8) (l : List ByteArray) (hl : (parsR (takeR (newR t) 32).2).2.bad = false → l = (parsR (takeR (newR t) 32).2).1) (hb : (commitR t).bad = false → (parsR (takeR (newR t) 32).2).2.bad = false) :
  decR (3 :: t) = if wholeR (commitR t) = true ∧ good { zero with kind := 3, tree := bx (takeR (newR t) 32).1, pars := l, height := (numR (parsR (takeR (newR t) 32).2).2).1, note := bx (textR (numR (parsR (takeR (newR t) 32).2).2).2 1000).1 } = true then ({ zero with kind := 3, tree := bx (takeR (newR t) 32).1, pars := l, height := (numR (parsR (takeR (newR t) 32).2).2).1, note := bx (textR (numR (parsR (takeR (newR t) 32).2).2).2 1000).1 }, 0) else (zero, 4) := by
 have e : decR (3 :: t) = match (if wholeR (commitR t) = true ∧ good (commitO t) = true then some (commitO t) else none) with | some x => (x, 0) | none => (zero, 4) := rfl
 rw [e]
 by_cases hw : wholeR (commitR t) = true
 ·have := hl (hb (whole_bad hw))
  subst this
  by_cases h : good (commitO t) = true
  ·rw [if_pos ⟨hw, h⟩, if_pos ⟨hw, h⟩]; rfl
  ·rw [if_neg (fun h2 => h h2.2), if_neg (fun h2 => h h2.2)]
 ·rw [if_neg (fun h2 => hw h2.1), if_neg (fun h2 => hw h2.1)]
theorem decR_other (k : UInt8) (t : List UInt8) (h1 : k ≠ 1) (h2 : k ≠ 2) (h3 : k ≠ 3) (r : Rd) : decR (k :: t) = if wholeR r = true ∧ good { zero with kind := k.toNat } = true then ({ zero with kind := k.toNat }, 0) else (zero, 4) := by
 have e : decR (k :: t) = (zero, 4) := by
  show (match (if k = 1 then (if good (blobO t) = true then some (blobO t) else none) else if k = 2 then (if wholeR (treeR (newR t)).2 = true ∧ good (treeO t) = true then some (treeO t) else none) else if k = 3 then (if wholeR (commitR t) = true ∧ good (commitO t) = true then some (commitO t) else none) else none : Option Ob) with | some x => (x, (0 : Int)) | none => (zero, 4)) = _
  rw [if_neg h1, if_neg h2, if_neg h3]
 have g : good { zero with kind := (k.toNat : Int) } = false := by
  have n1 : (k.toNat : Int) ≠ 1 := fun e => h1 (UInt8.toNat_inj.1 (by show k.toNat = 1; omega))
  have n2 : (k.toNat : Int) ≠ 2 := fun e => h2 (UInt8.toNat_inj.1 (by show k.toNat = 2; omega))
  have n3 : (k.toNat : Int) ≠ 3 := fun e => h3 (UInt8.toNat_inj.1 (by show k.toNat = 3; omega))
  unfold good
  simp only
  rw [if_neg n1, if_neg n2, if_neg n3]
 rw [e, g, if_neg (by simp)]
theorem takeR_badkeep {r : Rd} {n : Nat} (h : (takeR r n).2.bad = false) : r.bad = false := by
 unfold takeR at h
 cases hb : r.bad
 ·rfl
 ·rw [if_pos (.inl hb)] at h; cases h
theorem commit_keep {r : Rd} (h : (textR (numR r).2 1000).2.bad = false) : r.bad = false := by
 have h1 : (numR (numR r).2).2.bad = false ∨ True := .inr trivial
 unfold textR at h
 have h2 := takeR_badkeep h
 split at h2
 ·cases h2
 ·exact takeR_badkeep (takeR_badkeep h2)
theorem Tryz.infoObj (x : Ob) (ev pv : Value) : (Tryz.prog.info? 98).map (·.size) = some (obCs x ev pv).size := by
 show _ = some 7
 kernel_rfl
theorem obcs_one (x : Ob) (ea pa : Option Addr) (en ec pn pc : Nat) : (obCs x (.slice ea en ec) (.slice pa pn pc)).all (·.oneCell') = true := by
 simp [obCs, Value.oneCell']
theorem ObAt.far {w : World} {g : Nat} {x : Ob} {ea pa : Option Addr} {en ec pn pc : Nat} (h : ObAt w (.slice ea en ec) (.slice pa pn pc) x) (h1 : ∀ k, (Value.slice ea en ec).ownBlock = some k → k ≠ g) (h2 : ∀ k, (Value.slice pa pn pc).ownBlock = some k → k ≠ g) (cs : Array Value) : ObAt (w.setRow g cs) (.slice ea en ec) (.slice pa pn pc) x := by
 obtain ⟨ea', en', ec', pa', pn', pc', e1, he, e2, hp⟩ := h
 injection e1 with a1 a2 a3
 injection e2 with a4 a5 a6
 subst a1; subst a2; subst a3; subst a4; subst a5; subst a6
 refine ⟨_, _, _, _, _, _, rfl, ?_, rfl, ?_⟩
 ·obtain ⟨b1, b2, b3⟩ := he
  refine ⟨b1, b2, b3.imp id ?_⟩
  rintro ⟨b, off, rfl, hc⟩
  refine ⟨b, off, rfl, fun j hj => ?_⟩
  have hk : (w.setRow g cs).heap[b]? = w.heap[b]? := setRow_other w g b cs (h1 b rfl)
  obtain ⟨c0, c1, c2⟩ := hc j hj
  exact ⟨(World.cell?_of_block (a := ⟨b, _, none⟩) hk).trans c0, (World.cell?_of_block (a := ⟨b, _, none⟩) hk).trans c1, (World.cell?_of_block (a := ⟨b, _, none⟩) hk).trans c2⟩
 ·obtain ⟨b1, b2, b3⟩ := hp
  refine ⟨b1, b2, b3.imp id ?_⟩
  rintro ⟨b, off, rfl, hc⟩
  refine ⟨b, off, rfl, fun j hj => ?_⟩
  have hk : (w.setRow g cs).heap[b]? = w.heap[b]? := setRow_other w g b cs (h2 b rfl)
  exact (World.cell?_of_block (a := ⟨b, _, none⟩) hk).trans (hc j hj)
theorem entsR_len : ∀ (n : Nat) (r : Rd), (entsR n r).1.length ≤ n
 | 0, r => Nat.le_refl _
 | n + 1, r => by
  unfold entsR
  split
  ·exact Nat.zero_le _
  ·have := entsR_len n (entR r).2
   simp only [List.length_cons]; omega
theorem treeR_len (r : Rd) : (treeR r).1.length ≤ 256 := by
 unfold treeR spoil
 by_cases h : 256 < (numR r).1
 ·rw [if_pos h, entsR_bad rfl]; exact Nat.zero_le _
 ·have := entsR_len (numR r).1 (numR r).2
  rw [if_neg h]; omega
theorem EntsAt.kept {w w' : World} {a : Option Addr} {n c : Nat} {l : List Ent} (h : EntsAt w a n l) (hk : ∀ b, (Value.slice a n c).ownBlock = some b → w'.heap[b]? = w.heap[b]?) : EntsAt w' a n l := by
 obtain ⟨b1, b2, b3⟩ := h
 refine ⟨b1, b2, b3.imp id ?_⟩
 rintro ⟨b, off, rfl, hc⟩
 refine ⟨b, off, rfl, fun j hj => ?_⟩
 obtain ⟨c0, c1, c2⟩ := hc j hj
 exact ⟨(World.cell?_of_block (a := ⟨b, _, none⟩) (hk b rfl)).trans c0, (World.cell?_of_block (a := ⟨b, _, none⟩) (hk b rfl)).trans c1, (World.cell?_of_block (a := ⟨b, _, none⟩) (hk b rfl)).trans c2⟩
theorem StrsAt.kept {w w' : World} {a : Option Addr} {n c : Nat} {l : List ByteArray} (h : StrsAt w a n l) (hk : ∀ b, (Value.slice a n c).ownBlock = some b → b < w.heap.size → w'.heap[b]? = w.heap[b]?) : StrsAt w' a n l := by
 obtain ⟨b1, b2, b3⟩ := h
 refine ⟨b1, b2, b3.imp id ?_⟩
 rintro ⟨b, off, rfl, hc⟩
 exact ⟨b, off, rfl, fun j hj => (World.cell?_of_block (a := ⟨b, _, none⟩) (hk b rfl (World.block_lt_of_cell? w _ (hc j hj)))).trans (hc j hj)⟩
theorem idsR_rest : ∀ (n : Nat) (r : Rd), (idsR n r).2.rest.length ≤ r.rest.length
 | 0, r => Nat.le_refl _
 | n + 1, r => by
  unfold idsR
  split
  ·exact Nat.le_refl _
  ·exact Nat.le_trans (idsR_rest n _) (takeR_rest r 32)
theorem parsR_rest (r : Rd) : (parsR r).2.rest.length ≤ r.rest.length := by
 unfold parsR
 refine Nat.le_trans (idsR_rest _ _) ?_
 unfold spoil
 split
 ·exact Nat.zero_le _
 ·exact takeR_rest r 4
theorem dec_results (tmps : Array Value) (g : Nat) (er : Int) (x : Ob) (ev pv : Value) (w : World) (h2 : tmps.getD 2 undef = .pointer (some ⟨g, 0, none⟩)) (h3 : tmps.getD 3 undef = .int .i64 er) (H : Blk w g 98 (obCs x ev pv)) : (results Tryz.f63 tmps).run Tryz.prog w = .ok (.tuple #[.agg (obCs x ev pv), .int .i64 er]) w := by
 have c0 : w.cell? ⟨g, 0, none⟩ = some (.int .i64 x.kind) := Blk.cell H 0
 have c1 : w.cell? ⟨g, 1, none⟩ = some (.string x.data) := Blk.cell H 1
 have c2 : w.cell? ⟨g, 2, none⟩ = some ev := Blk.cell H 2
 have c3 : w.cell? ⟨g, 3, none⟩ = some (.string x.tree) := Blk.cell H 3
 have c4 : w.cell? ⟨g, 4, none⟩ = some pv := Blk.cell H 4
 have c5 : w.cell? ⟨g, 5, none⟩ = some (.int .i64 x.height) := Blk.cell H 5
 have c6 : w.cell? ⟨g, 6, none⟩ = some (.string x.note) := Blk.cell H 6
 have h2' : tmps[2]?.getD undef = .pointer (some ⟨g, 0, none⟩) := by simpa using h2
 have h3' : tmps[3]?.getD undef = .int .i64 er := by simpa using h3
 simp [results, Tryz.results63, go_sem, h2', h3', c0, c1, c2, c3, c4, c5, c6, obCs]
set_option maxRecDepth 100000 in
set_option maxHeartbeats 4000000 in
theorem decode_some (s : ByteArray) (k : UInt8) (t : List UInt8) (hd : Head s k t) (hsz : s.size ≤ 1000000000) (w : World) : Calls Tryz.prog 63 #[.string s] w (DecOut w s.data.toList) := by
 have hs0 := hd.size
 have hs1 : s.toList.isEmpty = false := bstr_isEmpty (by omega)
 have hs2 : ¬ s.toList = [] := bstr_some (by omega)
 have hs3 : (s.toList == []) = false := by rw [beq_eq_false_iff_ne]; exact hs2
 have hpos : 0 < s.size := by omega
 have hpos1 : (1 : Int) ≤ s.size := by omega
 have h0 : s[0]'hpos = k := hd.at0 hpos
 have h01 : s[0]? = some k := by rw [← h0]; exact getElem?_pos s 0 hpos
 have hk : k.toNat < 256 := k.toNat_lt
 have hki : (k.toNat : Int) ≤ 255 := by omega
 have hki0 : (0 : Int) ≤ (k.toNat : Int) := by omega
 have hrest := hd.rest
 have HDL := hid hd.l
 have HTL : Hid (t.length ≤ 1000000000) := by show _ ≤ _; omega
 obtain ⟨y, hy⟩ : ∃ y, s.extract 1 s.size = y := ⟨_, rfl⟩
 rw [hy] at hrest
 have HRS := hid hrest
 clear hd hrest hs0
 go_enter Tryz.func63, Tryz.ntmps63
 go_upto_region 4 with fail
 obtain ⟨g, hg⟩ : ∃ g, w.heap.size = g := ⟨_, rfl⟩
 have HG := hid hg
 have HZ1 : Hid (Blk ((w.alloc (.cells (obCs zero (.slice none 0 0) (.slice none 0 0)) 98)).alloc (.cells (obCs { zero with kind := k.toNat } (.slice none 0 0) (.slice none 0 0)) 98)) g 98 (obCs zero (.slice none 0 0) (.slice none 0 0))) := by
  have := (Blk.new w 98 (obCs zero (.slice none 0 0) (.slice none 0 0))).alloc (.cells (obCs { zero with kind := k.toNat } (.slice none 0 0) (.slice none 0 0)) 98)
  rw [hg] at this; exact this
 have HX1 : Hid (Blk ((w.alloc (.cells (obCs zero (.slice none 0 0) (.slice none 0 0)) 98)).alloc (.cells (obCs { zero with kind := k.toNat } (.slice none 0 0) (.slice none 0 0)) 98)) (g + 1) 98 (obCs { zero with kind := k.toNat } (.slice none 0 0) (.slice none 0 0))) := by
  have := Blk.new (w.alloc (.cells (obCs zero (.slice none 0 0) (.slice none 0 0)) 98)) 98 (obCs { zero with kind := k.toNat } (.slice none 0 0) (.slice none 0 0))
  simp only [World.size_alloc, hg] at this; exact this
 have HB1 : Hid (Below g w ((w.alloc (.cells (obCs zero (.slice none 0 0) (.slice none 0 0)) 98)).alloc (.cells (obCs { zero with kind := k.toNat } (.slice none 0 0) (.slice none 0 0)) 98))) := ((Below.refl _ _).alloc (Nat.le_of_eq hg.symm) _).alloc (by simp [hg]) _
 have hz1 : ((w.alloc (.cells (obCs zero (.slice none 0 0) (.slice none 0 0)) 98)).alloc (.cells (obCs { zero with kind := k.toNat } (.slice none 0 0) (.slice none 0 0)) 98)).heap.size = g + 2 := by simp [hg]
 rw [hg]
 unfold zero obCs at HZ1 HX1 HB1 hz1
 simp only at HZ1 HX1 HB1 hz1
 clear hg
 have hem : ByteArray.empty = ⟨#[]⟩ := rfl
 rw [hem] at HZ1 HX1 HB1 hz1
 clear hem
 generalize ((w.alloc (.cells #[.int .i64 0, .string ⟨#[]⟩, .slice none 0 0, .string ⟨#[]⟩, .slice none 0 0, .int .i64 0, .string ⟨#[]⟩] 98)).alloc (.cells #[.int .i64 (k.toNat : Int), .string ⟨#[]⟩, .slice none 0 0, .string ⟨#[]⟩, .slice none 0 0, .int .i64 0, .string ⟨#[]⟩] 98)) = w1 at HZ1 HX1 HB1 hz1 ⊢
 have HSZ := hid hz1
 clear hz1
 go_wp2_with fail
 refine (onew_any _ _).mono ?_; rintro e w2 ⟨rfl, hR, hb⟩
 rw [HRS.out, HSZ.out] at hR
 have HR2 := hid hR
 have HZ2 : Hid (Blk w2 g 98 _) := (hb.block g (by rw [HSZ.out]; omega)).trans HZ1.out
 have HX2 : Hid (Blk w2 (g + 1) 98 _) := (hb.block (g + 1) (by rw [HSZ.out]; omega)).trans HX1.out
 have HB2 : Hid (Below g w w2) := HB1.out.trans (hb.mono (by rw [HSZ.out]; omega))
 clear hR hb HZ1 HX1 HB1 h0 h01 hs1 hs2 hs3 hpos hpos1
 rw [HSZ.out]
 clear HSZ hy
 go_upto_region 5 with fail
 have k0 : w2.cell? ⟨g + 1, 0, none⟩ = some (.int .i64 (k.toNat : Int)) := Blk.cell HX2.out 0
 have hrt := HTL.out
 rw [HDL.out]
 by_cases e1 : k = 1
 ·subst e1
  have HL := hid (oleft_any HR2.out)
  have HTK := hid (otake_any t.length HR2.out (by show t.length ≤ _; omega) (by omega))
  have et : takeR (newR t) t.length = (t, ⟨[], false⟩) := by
   unfold takeR newR
   rw [if_neg (by simp)]
   simp
  rw [et] at HTK
  clear et
  have hL2 : (newR t).rest.length = t.length := rfl
  rw [hL2] at HL
  clear hL2
  obtain ⟨d, hd⟩ : ∃ d, bx t = d := ⟨_, rfl⟩
  have HDD := hid hd
  simp only at HTK
  rw [hd] at HTK
  clear hd
  have k0' : w2.cell? ⟨g + 1, 0, none⟩ = some (.int .i64 1) := k0
  clear k0
  go_wp2_with fail
  refine HL.out.mono ?_; rintro e w' ⟨rfl, rfl⟩
  go_wp2_with fail
  refine HTK.out.mono ?_; rintro e w3 ⟨rfl, hs, ho⟩
  have hx3 := HX2.out.only ho (by omega)
  have q1 := Blk.cell hx3 1
  have f1 := Blk.frozen hx3 1
  simp at q1
  clear k0'
  go_upto_region 15 with fail
  clear q1 f1
  have HX5 : Hid (Blk (w3.setCell ⟨g + 1, 1, none⟩ (.string d)) (g + 1) 98 (obCs { zero with kind := 1, data := d } (.slice none 0 0) (.slice none 0 0))) := Blk.set hx3 1 (.string d)
  have HZ5 : Hid (Blk (w3.setCell ⟨g + 1, 1, none⟩ (.string d)) g 98 (obCs zero (.slice none 0 0) (.slice none 0 0))) := Blk.far (HZ2.out.only ho (by omega)) (p := ⟨g + 1, 1, none⟩) (by show g ≠ g + 1; omega) _
  have HR5 : Hid (RdAt (w3.setCell ⟨g + 1, 1, none⟩ (.string d)) (g + 2) ⟨[], false⟩) := Blk.far hs (p := ⟨g + 1, 1, none⟩) (by show g + 2 ≠ g + 1; omega) _
  have HO5 : Hid (ObAt (w3.setCell ⟨g + 1, 1, none⟩ (.string d)) (.slice none 0 0) (.slice none 0 0) { zero with kind := 1, data := d }) := ⟨none, 0, 0, none, 0, 0, rfl, ⟨rfl, by omega, .inl rfl⟩, rfl, ⟨rfl, by omega, .inl rfl⟩⟩
  have HB5 : Hid (Below g w (w3.setCell ⟨g + 1, 1, none⟩ (.string d))) := (HB2.out.trans (ho.below (fun i e => by omega) (by have := Blk.lt HZ2.out; omega))).setCell (p := ⟨g + 1, 1, none⟩) (by show g ≤ g + 1; omega) _
  have HD5 : Hid (decR (1 :: t) = if wholeR ⟨[], false⟩ = true ∧ good { zero with kind := 1, data := d } = true then ({ zero with kind := 1, data := d }, 0) else (zero, 4)) := by
   have := decR_blob t; rw [HDD.out] at this; exact this
  have HN5 : Hid (wholeR ⟨[], false⟩ = true → ObN { zero with kind := 1, data := d }) := fun _ => ⟨⟨by show (-9223372036854775808 : Int) ≤ 1; omega, by show (1 : Int) ≤ 9223372036854775807; omega⟩, ⟨by show (-9223372036854775808 : Int) ≤ 0; omega, by show (0 : Int) ≤ 9223372036854775807; omega⟩, by show 0 ≤ 1000000; omega⟩
  generalize w3.setCell ⟨g + 1, 1, none⟩ (.string d) = W at HX5 HZ5 HR5 HO5 HB5 ⊢
  generalize (⟨[], false⟩ : Rd) = r at HR5 HD5 HN5
  generalize ({ zero with kind := 1, data := d } : Ob) = x at HX5 HO5 HD5 HN5
  clear HL HTK HX2 HZ2 HR2 HB2 hx3 hs ho
  obtain ⟨ea, en, ec, pa, pn, pc, hx5, ho5, hne, hnp⟩ : ∃ ea en ec pa pn pc, Blk W (g + 1) 98 (obCs x (.slice ea en ec) (.slice pa pn pc)) ∧ ObAt W (.slice ea en ec) (.slice pa pn pc) x ∧ (∀ k, (Value.slice ea en ec).ownBlock = some k → g < k) ∧ (∀ k, (Value.slice pa pn pc).ownBlock = some k → g < k) := ⟨_, _, _, _, _, _, HX5.out, HO5.out, (fun k hk => by simp [Value.ownBlock] at hk), (fun k hk => by simp [Value.ownBlock] at hk)⟩
  clear HX5 HO5
  have HX5 := hid hx5
  have HO5 := hid ho5
  have HNE := hid hne
  have HNP := hid hnp
  clear hx5 ho5 hne hnp
  have HWH := hid (owhole_any HR5.out)
  cases hwh : wholeR r
  ·rw [hwh] at HWH HD5
   clear HN5
   obtain ⟨wz, hwz⟩ : ∃ wz, W.setRow g (obCs zero (.slice none 0 0) (.slice none 0 0)) = wz := ⟨_, rfl⟩
   have HBZ : Hid (Blk wz g 98 (obCs zero (.slice none 0 0) (.slice none 0 0))) := by rw [← hwz]; exact setRow_heap _ _ _ _ _ _ HZ5.out
   have HLZ : Hid (Below g w wz) := by rw [← hwz]; exact below_setRow HB5.out (Nat.le_refl _) _
   have HWZ := hid hwz
   clear hwz
   go_wp2_with fail
   refine HWH.out.mono ?_; rintro e w' ⟨rfl, rfl⟩
   go_wp2_with (first
    | (refine wpList_store_row rfl _ (.tmp 2) (.tmp 53) rfl g (obCs zero (.slice none 0 0) (.slice none 0 0)) rfl rfl 98 (obCs zero (.slice none 0 0) (.slice none 0 0)) HZ5.out (Tryz.infoObj _ _ _) rfl (obcs_one _ _ _ _ _ _ _) ?_; rw [HWZ.out]))
   go_wp2_with fail
   refine bodyPost_ret (v := .tuple #[.agg (obCs zero (.slice none 0 0) (.slice none 0 0)), .int .i64 4]) ?hr1 rfl ⟨zero, .slice none 0 0, .slice none 0 0, 4, ?_, rfl, zero_at _, ?_, fun k hk => by simp [Value.ownBlock] at hk⟩
   case hr1 => exact dec_results _ g 4 zero _ _ wz rfl rfl HBZ.out
   ·rw [HDL.out, HD5.out]; simp
   ·rw [HG.out]; exact HLZ.out
  ·rw [hwh] at HWH HD5 HN5
   have HGD := hid (obgood_any x _ _ W HO5.out (HN5.out rfl))
   clear HN5
   have k0 : W.cell? ⟨g + 1, 0, none⟩ = some (.int .i64 x.kind) := Blk.cell HX5.out 0
   have k1 : W.cell? ⟨g + 1, 1, none⟩ = some (.string x.data) := Blk.cell HX5.out 1
   have k2 : W.cell? ⟨g + 1, 2, none⟩ = some (.slice ea en ec) := Blk.cell HX5.out 2
   have k3 : W.cell? ⟨g + 1, 3, none⟩ = some (.string x.tree) := Blk.cell HX5.out 3
   have k4 : W.cell? ⟨g + 1, 4, none⟩ = some (.slice pa pn pc) := Blk.cell HX5.out 4
   have k5 : W.cell? ⟨g + 1, 5, none⟩ = some (.int .i64 x.height) := Blk.cell HX5.out 5
   have k6 : W.cell? ⟨g + 1, 6, none⟩ = some (.string x.note) := Blk.cell HX5.out 6
   go_wp2_with fail
   refine HWH.out.mono ?_; rintro e w' ⟨rfl, rfl⟩
   go_wp2_with fail
   refine HGD.out.mono ?_; rintro e w7 ⟨rfl, hb⟩
   clear k0 k1 k2 k3 k4 k5 k6
   have HX7 : Hid (Blk w7 (g + 1) 98 (obCs x (.slice ea en ec) (.slice pa pn pc))) := (hb.block (g + 1) (Blk.lt HX5.out)).trans HX5.out
   have HZ7 : Hid (Blk w7 g 98 (obCs zero (.slice none 0 0) (.slice none 0 0))) := (hb.block g (Blk.lt HZ5.out)).trans HZ5.out
   have HO7 : Hid (ObAt w7 (.slice ea en ec) (.slice pa pn pc) x) := HO5.out.later hb
   have HB7 : Hid (Below g w w7) := HB5.out.trans (hb.mono (Nat.le_of_lt (Blk.lt HZ5.out)))
   have hg7 := Blk.lt HZ7.out
   clear hb HX5 HZ5 HO5 HB5
   cases hgx : good x
   ·rw [hgx] at HD5
    obtain ⟨wz, hwz⟩ : ∃ wz, w7.setRow g (obCs zero (.slice none 0 0) (.slice none 0 0)) = wz := ⟨_, rfl⟩
    have HBZ : Hid (Blk wz g 98 (obCs zero (.slice none 0 0) (.slice none 0 0))) := by rw [← hwz]; exact setRow_heap _ _ _ _ _ _ HZ7.out
    have HLZ : Hid (Below g w wz) := by rw [← hwz]; exact below_setRow HB7.out (Nat.le_refl _) _
    have HWZ := hid hwz
    clear hwz
    go_wp2_with (first
     | (refine wpList_store_row rfl _ (.tmp 2) (.tmp 53) rfl g (obCs zero (.slice none 0 0) (.slice none 0 0)) rfl rfl 98 (obCs zero (.slice none 0 0) (.slice none 0 0)) HZ7.out (Tryz.infoObj _ _ _) rfl (obcs_one _ _ _ _ _ _ _) ?_; rw [HWZ.out]))
    go_wp2_with fail
    refine bodyPost_ret (v := .tuple #[.agg (obCs zero (.slice none 0 0) (.slice none 0 0)), .int .i64 4]) ?hr2 rfl ⟨zero, .slice none 0 0, .slice none 0 0, 4, ?_, rfl, zero_at _, ?_, fun k hk => by simp [Value.ownBlock] at hk⟩
    case hr2 => exact dec_results _ g 4 zero _ _ wz rfl rfl HBZ.out
    ·rw [HDL.out, HD5.out]; simp
    ·rw [HG.out]; exact HLZ.out
   ·rw [hgx] at HD5
    obtain ⟨wz, hwz⟩ : ∃ wz, w7.setRow g (obCs x (.slice ea en ec) (.slice pa pn pc)) = wz := ⟨_, rfl⟩
    have HBZ : Hid (Blk wz g 98 (obCs x (.slice ea en ec) (.slice pa pn pc))) := by rw [← hwz]; exact setRow_heap _ _ _ _ _ _ HZ7.out
    have hlz : Below w7.heap.size w7 wz ∨ True := .inr trivial
    have HLZ : Hid (Below g w wz) := by rw [← hwz]; exact below_setRow HB7.out (Nat.le_refl _) _
    have HOZ : Hid (ObAt wz (.slice ea en ec) (.slice pa pn pc) x) := by rw [← hwz]; exact HO7.out.far (fun k hk => by have := HNE.out k hk; omega) (fun k hk => by have := HNP.out k hk; omega) _
    have HWZ := hid hwz
    clear hwz hlz
    have k0 : w7.cell? ⟨g + 1, 0, none⟩ = some (.int .i64 x.kind) := Blk.cell HX7.out 0
    have k1 : w7.cell? ⟨g + 1, 1, none⟩ = some (.string x.data) := Blk.cell HX7.out 1
    have k2 : w7.cell? ⟨g + 1, 2, none⟩ = some (.slice ea en ec) := Blk.cell HX7.out 2
    have k3 : w7.cell? ⟨g + 1, 3, none⟩ = some (.string x.tree) := Blk.cell HX7.out 3
    have k4 : w7.cell? ⟨g + 1, 4, none⟩ = some (.slice pa pn pc) := Blk.cell HX7.out 4
    have k5 : w7.cell? ⟨g + 1, 5, none⟩ = some (.int .i64 x.height) := Blk.cell HX7.out 5
    have k6 : w7.cell? ⟨g + 1, 6, none⟩ = some (.string x.note) := Blk.cell HX7.out 6
    go_wp2_with (first
     | (refine wpList_store_row rfl _ (.tmp 2) (.tmp 54) rfl g (obCs x (.slice ea en ec) (.slice pa pn pc)) rfl rfl 98 (obCs zero (.slice none 0 0) (.slice none 0 0)) HZ7.out (Tryz.infoObj _ _ _) rfl (obcs_one _ _ _ _ _ _ _) ?_; rw [HWZ.out]))
    go_wp2_with fail
    refine bodyPost_ret (v := .tuple #[.agg (obCs x (.slice ea en ec) (.slice pa pn pc)), .int .i64 0]) ?hr3 rfl ⟨x, .slice ea en ec, .slice pa pn pc, 0, ?_, rfl, HOZ.out, ?_, fun k hk => by rw [HG.out]; exact Nat.le_of_lt (hk.elim (HNE.out k) (HNP.out k))⟩
    case hr3 => exact dec_results _ g 0 x _ _ wz rfl rfl HBZ.out
    ·rw [HDL.out, HD5.out]; simp
    ·rw [HG.out]; exact HLZ.out
 ·by_cases e2 : k = 2
  ·subst e2
   have HEN := hid (entries_any (g + 2) (newR t) w2 HR2.out (by show t.length ≤ _; exact hrt))
   have hzl := Blk.lt HZ2.out
   have k0' : w2.cell? ⟨g + 1, 0, none⟩ = some (.int .i64 2) := k0
   clear k0
   go_wp2_with fail
   refine HEN.out.mono ?_; rintro e w3 ⟨ea, en, ec, l, rfl, he, hl, hs, ho, hog⟩
   have hx3 := HX2.out.only ho (by omega)
   have hgx := Blk.lt HX2.out
   have q2 := Blk.cell hx3 2
   have f2 := Blk.frozen hx3 2
   simp at q2
   clear k0'
   have HE := hid he; have HL := hid hl; have HOG := hid hog; have HSR := hid hs; have HOO := hid ho; have HX3 := hid hx3
   clear he hl hog hs ho hx3
   go_upto_region 15 with fail
   clear q2 f2
   have HX5 : Hid (Blk (w3.setCell ⟨g + 1, 2, none⟩ (.slice ea en ec)) (g + 1) 98 (obCs { zero with kind := 2, ents := l } (.slice ea en ec) (.slice none 0 0))) := Blk.set HX3.out 2 (.slice ea en ec)
   have HZ5 : Hid (Blk (w3.setCell ⟨g + 1, 2, none⟩ (.slice ea en ec)) g 98 (obCs zero (.slice none 0 0) (.slice none 0 0))) := Blk.far (HZ2.out.only HOO.out (by omega)) (p := ⟨g + 1, 2, none⟩) (by show g ≠ g + 1; omega) _
   have HR5 : Hid (RdAt (w3.setCell ⟨g + 1, 2, none⟩ (.slice ea en ec)) (g + 2) (treeR (newR t)).2) := Blk.far HSR.out (p := ⟨g + 1, 2, none⟩) (by show g + 2 ≠ g + 1; omega) _
   have HO5 : Hid (ObAt (w3.setCell ⟨g + 1, 2, none⟩ (.slice ea en ec)) (.slice ea en ec) (.slice none 0 0) { zero with kind := 2, ents := l }) := ⟨ea, en, ec, none, 0, 0, rfl, HE.out.kept (c := ec) (fun b hb => Below.heap_setCell w3 ⟨g + 1, 2, none⟩ _ b (by show b ≠ g + 1; have := HOG.out b hb; omega)), rfl, ⟨rfl, by omega, .inl rfl⟩⟩
   have HB5 : Hid (Below g w (w3.setCell ⟨g + 1, 2, none⟩ (.slice ea en ec))) := (HB2.out.trans (HOO.out.below (fun i e => by omega) (by omega))).setCell (p := ⟨g + 1, 2, none⟩) (by show g ≤ g + 1; omega) _
   have HD5 := hid (decR_tree t l HL.out)
   have HN5 : Hid (wholeR (treeR (newR t)).2 = true → ObN { zero with kind := 2, ents := l }) := fun hw => ⟨⟨by show (-9223372036854775808 : Int) ≤ 2; omega, by show (2 : Int) ≤ 9223372036854775807; omega⟩, ⟨by show (-9223372036854775808 : Int) ≤ 0; omega, by show (0 : Int) ≤ 9223372036854775807; omega⟩, by
    have h1 := HL.out (whole_bad hw)
    have h2 := treeR_len (newR t)
    show l.length ≤ 1000000
    rw [h1]; omega⟩
   generalize w3.setCell ⟨g + 1, 2, none⟩ (.slice ea en ec) = W at HX5 HZ5 HR5 HO5 HB5 ⊢
   generalize (treeR (newR t)).2 = r at HR5 HD5 HN5
   generalize ({ zero with kind := 2, ents := l } : Ob) = x at HX5 HO5 HD5 HN5
   clear HEN HX2 HZ2 HR2 HB2 HX3 HSR HOO HE HL
   obtain ⟨pa, pn, pc, hx5, ho5, hne, hnp⟩ : ∃ pa pn pc, Blk W (g + 1) 98 (obCs x (.slice ea en ec) (.slice pa pn pc)) ∧ ObAt W (.slice ea en ec) (.slice pa pn pc) x ∧ (∀ k, (Value.slice ea en ec).ownBlock = some k → g < k) ∧ (∀ k, (Value.slice pa pn pc).ownBlock = some k → g < k) := ⟨_, _, _, HX5.out, HO5.out, (fun k hk => by have := HOG.out k hk; omega), (fun k hk => by simp [Value.ownBlock] at hk)⟩
   clear HOG hzl hgx
   clear HX5 HO5
   have HX5 := hid hx5
   have HO5 := hid ho5
   have HNE := hid hne
   have HNP := hid hnp
   clear hx5 ho5 hne hnp
   have HWH := hid (owhole_any HR5.out)
   cases hwh : wholeR r
   ·rw [hwh] at HWH HD5
    clear HN5
    obtain ⟨wz, hwz⟩ : ∃ wz, W.setRow g (obCs zero (.slice none 0 0) (.slice none 0 0)) = wz := ⟨_, rfl⟩
    have HBZ : Hid (Blk wz g 98 (obCs zero (.slice none 0 0) (.slice none 0 0))) := by rw [← hwz]; exact setRow_heap _ _ _ _ _ _ HZ5.out
    have HLZ : Hid (Below g w wz) := by rw [← hwz]; exact below_setRow HB5.out (Nat.le_refl _) _
    have HWZ := hid hwz
    clear hwz
    go_wp2_with fail
    refine HWH.out.mono ?_; rintro e w' ⟨rfl, rfl⟩
    go_wp2_with (first
     | (refine wpList_store_row rfl _ (.tmp 2) (.tmp 53) rfl g (obCs zero (.slice none 0 0) (.slice none 0 0)) rfl rfl 98 (obCs zero (.slice none 0 0) (.slice none 0 0)) HZ5.out (Tryz.infoObj _ _ _) rfl (obcs_one _ _ _ _ _ _ _) ?_; rw [HWZ.out]))
    go_wp2_with fail
    refine bodyPost_ret (v := .tuple #[.agg (obCs zero (.slice none 0 0) (.slice none 0 0)), .int .i64 4]) ?hr1 rfl ⟨zero, .slice none 0 0, .slice none 0 0, 4, ?_, rfl, zero_at _, ?_, fun k hk => by simp [Value.ownBlock] at hk⟩
    case hr1 => exact dec_results _ g 4 zero _ _ wz rfl rfl HBZ.out
    ·rw [HDL.out, HD5.out]; simp
    ·rw [HG.out]; exact HLZ.out
   ·rw [hwh] at HWH HD5 HN5
    have HGD := hid (obgood_any x _ _ W HO5.out (HN5.out rfl))
    clear HN5
    have k0 : W.cell? ⟨g + 1, 0, none⟩ = some (.int .i64 x.kind) := Blk.cell HX5.out 0
    have k1 : W.cell? ⟨g + 1, 1, none⟩ = some (.string x.data) := Blk.cell HX5.out 1
    have k2 : W.cell? ⟨g + 1, 2, none⟩ = some (.slice ea en ec) := Blk.cell HX5.out 2
    have k3 : W.cell? ⟨g + 1, 3, none⟩ = some (.string x.tree) := Blk.cell HX5.out 3
    have k4 : W.cell? ⟨g + 1, 4, none⟩ = some (.slice pa pn pc) := Blk.cell HX5.out 4
    have k5 : W.cell? ⟨g + 1, 5, none⟩ = some (.int .i64 x.height) := Blk.cell HX5.out 5
    have k6 : W.cell? ⟨g + 1, 6, none⟩ = some (.string x.note) := Blk.cell HX5.out 6
    go_wp2_with fail
    refine HWH.out.mono ?_; rintro e w' ⟨rfl, rfl⟩
    go_wp2_with fail
    refine HGD.out.mono ?_; rintro e w7 ⟨rfl, hb⟩
    clear k0 k1 k2 k3 k4 k5 k6
    have HX7 : Hid (Blk w7 (g + 1) 98 (obCs x (.slice ea en ec) (.slice pa pn pc))) := (hb.block (g + 1) (Blk.lt HX5.out)).trans HX5.out
    have HZ7 : Hid (Blk w7 g 98 (obCs zero (.slice none 0 0) (.slice none 0 0))) := (hb.block g (Blk.lt HZ5.out)).trans HZ5.out
    have HO7 : Hid (ObAt w7 (.slice ea en ec) (.slice pa pn pc) x) := HO5.out.later hb
    have HB7 : Hid (Below g w w7) := HB5.out.trans (hb.mono (Nat.le_of_lt (Blk.lt HZ5.out)))
    have hg7 := Blk.lt HZ7.out
    clear hb HX5 HZ5 HO5 HB5
    cases hgx : good x
    ·rw [hgx] at HD5
     obtain ⟨wz, hwz⟩ : ∃ wz, w7.setRow g (obCs zero (.slice none 0 0) (.slice none 0 0)) = wz := ⟨_, rfl⟩
     have HBZ : Hid (Blk wz g 98 (obCs zero (.slice none 0 0) (.slice none 0 0))) := by rw [← hwz]; exact setRow_heap _ _ _ _ _ _ HZ7.out
     have HLZ : Hid (Below g w wz) := by rw [← hwz]; exact below_setRow HB7.out (Nat.le_refl _) _
     have HWZ := hid hwz
     clear hwz
     go_wp2_with (first
      | (refine wpList_store_row rfl _ (.tmp 2) (.tmp 53) rfl g (obCs zero (.slice none 0 0) (.slice none 0 0)) rfl rfl 98 (obCs zero (.slice none 0 0) (.slice none 0 0)) HZ7.out (Tryz.infoObj _ _ _) rfl (obcs_one _ _ _ _ _ _ _) ?_; rw [HWZ.out]))
     go_wp2_with fail
     refine bodyPost_ret (v := .tuple #[.agg (obCs zero (.slice none 0 0) (.slice none 0 0)), .int .i64 4]) ?hr2 rfl ⟨zero, .slice none 0 0, .slice none 0 0, 4, ?_, rfl, zero_at _, ?_, fun k hk => by simp [Value.ownBlock] at hk⟩
     case hr2 => exact dec_results _ g 4 zero _ _ wz rfl rfl HBZ.out
     ·rw [HDL.out, HD5.out]; simp
     ·rw [HG.out]; exact HLZ.out
    ·rw [hgx] at HD5
     obtain ⟨wz, hwz⟩ : ∃ wz, w7.setRow g (obCs x (.slice ea en ec) (.slice pa pn pc)) = wz := ⟨_, rfl⟩
     have HBZ : Hid (Blk wz g 98 (obCs x (.slice ea en ec) (.slice pa pn pc))) := by rw [← hwz]; exact setRow_heap _ _ _ _ _ _ HZ7.out
     have hlz : Below w7.heap.size w7 wz ∨ True := .inr trivial
     have HLZ : Hid (Below g w wz) := by rw [← hwz]; exact below_setRow HB7.out (Nat.le_refl _) _
     have HOZ : Hid (ObAt wz (.slice ea en ec) (.slice pa pn pc) x) := by rw [← hwz]; exact HO7.out.far (fun k hk => by have := HNE.out k hk; omega) (fun k hk => by have := HNP.out k hk; omega) _
     have HWZ := hid hwz
     clear hwz hlz
     have k0 : w7.cell? ⟨g + 1, 0, none⟩ = some (.int .i64 x.kind) := Blk.cell HX7.out 0
     have k1 : w7.cell? ⟨g + 1, 1, none⟩ = some (.string x.data) := Blk.cell HX7.out 1
     have k2 : w7.cell? ⟨g + 1, 2, none⟩ = some (.slice ea en ec) := Blk.cell HX7.out 2
     have k3 : w7.cell? ⟨g + 1, 3, none⟩ = some (.string x.tree) := Blk.cell HX7.out 3
     have k4 : w7.cell? ⟨g + 1, 4, none⟩ = some (.slice pa pn pc) := Blk.cell HX7.out 4
     have k5 : w7.cell? ⟨g + 1, 5, none⟩ = some (.int .i64 x.height) := Blk.cell HX7.out 5
     have k6 : w7.cell? ⟨g + 1, 6, none⟩ = some (.string x.note) := Blk.cell HX7.out 6
     go_wp2_with (first
      | (refine wpList_store_row rfl _ (.tmp 2) (.tmp 54) rfl g (obCs x (.slice ea en ec) (.slice pa pn pc)) rfl rfl 98 (obCs zero (.slice none 0 0) (.slice none 0 0)) HZ7.out (Tryz.infoObj _ _ _) rfl (obcs_one _ _ _ _ _ _ _) ?_; rw [HWZ.out]))
     go_wp2_with fail
     refine bodyPost_ret (v := .tuple #[.agg (obCs x (.slice ea en ec) (.slice pa pn pc)), .int .i64 0]) ?hr3 rfl ⟨x, .slice ea en ec, .slice pa pn pc, 0, ?_, rfl, HOZ.out, ?_, fun k hk => by rw [HG.out]; exact Nat.le_of_lt (hk.elim (HNE.out k) (HNP.out k))⟩
     case hr3 => exact dec_results _ g 0 x _ _ wz rfl rfl HBZ.out
     ·rw [HDL.out, HD5.out]; simp
     ·rw [HG.out]; exact HLZ.out
  ·by_cases e3 : k = 3
   ·subst e3
    have hzl := Blk.lt HZ2.out
    have hgx := Blk.lt HX2.out
    have k0' : w2.cell? ⟨g + 1, 0, none⟩ = some (.int .i64 3) := k0
    clear k0
    have hr0 : (newR t).rest.length ≤ 1000000000 := hrt
    obtain ⟨r0, hr0'⟩ : ∃ r, newR t = r := ⟨_, rfl⟩
    have HR0E := hid hr0'
    rw [hr0'] at hr0 HR2
    clear hr0'
    have HTK := hid (otake_any 32 HR2.out (by omega) (by omega))
    obtain ⟨tr, htr⟩ : ∃ x, bx (takeR r0 32).1 = x := ⟨_, rfl⟩
    obtain ⟨r1, hr1⟩ : ∃ x, (takeR r0 32).2 = x := ⟨_, rfl⟩
    have hl1 : r1.rest.length ≤ 1000000000 := by rw [← hr1]; exact Nat.le_trans (takeR_rest _ _) hr0
    rw [htr, hr1] at HTK
    have HTR := hid htr; have HR1E := hid hr1
    clear htr hr1
    go_wp2_with fail
    refine HTK.out.mono ?_; rintro e w3 ⟨rfl, hs, ho⟩
    have hx3 := HX2.out.only ho (by omega)
    have q3 := Blk.cell hx3 3
    have f3 := Blk.frozen hx3 3
    simp at q3
    have HX3 : Hid (Blk (w3.setCell ⟨g + 1, 3, none⟩ (.string tr)) (g + 1) 98 (obCs { zero with kind := 3, tree := tr } (.slice none 0 0) (.slice none 0 0))) := Blk.set hx3 3 (.string tr)
    have HZ3 : Hid (Blk (w3.setCell ⟨g + 1, 3, none⟩ (.string tr)) g 98 (obCs zero (.slice none 0 0) (.slice none 0 0))) := Blk.far (HZ2.out.only ho (by omega)) (p := ⟨g + 1, 3, none⟩) (by show g ≠ g + 1; omega) _
    have HR3 : Hid (RdAt (w3.setCell ⟨g + 1, 3, none⟩ (.string tr)) (g + 2) r1) := Blk.far hs (p := ⟨g + 1, 3, none⟩) (by show g + 2 ≠ g + 1; omega) _
    have HB3 : Hid (Below g w (w3.setCell ⟨g + 1, 3, none⟩ (.string tr))) := (HB2.out.trans (ho.below (fun i e => by omega) (by omega))).setCell (p := ⟨g + 1, 3, none⟩) (by show g ≤ g + 1; omega) _
    clear hx3 hs ho HX2 HZ2 HR2 HB2 HTK k0'
    go_wp2_with fail
    clear q3 f3
    generalize w3.setCell ⟨g + 1, 3, none⟩ (.string tr) = u3 at HX3 HZ3 HR3 HB3 ⊢
    have hzl3 := Blk.lt HX3.out
    refine (parents_any (g + 2) r1 u3 HR3.out hl1).mono ?_; rintro e w4 ⟨pa, pn, pc, pl, rfl, hp, hpl, hs, ho, hog⟩
    obtain ⟨r2, hr2⟩ : ∃ x, (parsR r1).2 = x := ⟨_, rfl⟩
    have hl2 : r2.rest.length ≤ 1000000000 := by rw [← hr2]; exact Nat.le_trans (parsR_rest _) hl1
    rw [hr2] at hs hpl
    have HR2E := hid hr2
    clear hr2
    have hx4 := HX3.out.only ho (by omega)
    have q4 : w4.cell? ⟨g + 1, 4, none⟩ = some (.slice none 0 0) := Blk.cell hx4 4
    have f4 := Blk.frozen hx4 4
    have HX4 : Hid (Blk (w4.setCell ⟨g + 1, 4, none⟩ (.slice pa pn pc)) (g + 1) 98 (obCs { zero with kind := 3, tree := tr, pars := pl } (.slice none 0 0) (.slice pa pn pc))) := Blk.set hx4 4 (.slice pa pn pc)
    have HZ4 : Hid (Blk (w4.setCell ⟨g + 1, 4, none⟩ (.slice pa pn pc)) g 98 (obCs zero (.slice none 0 0) (.slice none 0 0))) := Blk.far (HZ3.out.only ho (by omega)) (p := ⟨g + 1, 4, none⟩) (by show g ≠ g + 1; omega) _
    have HR4 : Hid (RdAt (w4.setCell ⟨g + 1, 4, none⟩ (.slice pa pn pc)) (g + 2) r2) := Blk.far hs (p := ⟨g + 1, 4, none⟩) (by show g + 2 ≠ g + 1; omega) _
    have HB4 : Hid (Below g w (w4.setCell ⟨g + 1, 4, none⟩ (.slice pa pn pc))) := (HB3.out.trans (ho.below (fun i e => by omega) (by omega))).setCell (p := ⟨g + 1, 4, none⟩) (by show g ≤ g + 1; omega) _
    have HP4 : Hid (StrsAt (w4.setCell ⟨g + 1, 4, none⟩ (.slice pa pn pc)) pa pn pl) := StrsAt.kept (c := pc) hp (fun b hb _ => Below.heap_setCell w4 ⟨g + 1, 4, none⟩ _ b (by show b ≠ g + 1; have := hog b hb; omega))
    have HOG : Hid (∀ k, (Value.slice pa pn pc).ownBlock = some k → g + 2 < k) := fun k hk => by have := hog k hk; have := Blk.lt HR3.out; omega
    have HPL := hid hpl
    have hzz := ho.size
    clear hx4 hs ho HX3 HZ3 HR3 HB3 hp hpl hog
    go_wp2_with fail
    clear q4 f4
    generalize w4.setCell ⟨g + 1, 4, none⟩ (.slice pa pn pc) = u4 at HX4 HZ4 HR4 HB4 HP4 ⊢
    have hzl4 := Blk.lt HX4.out
    refine (onum_any HR4.out (by omega)).mono ?_; rintro e w5 ⟨rfl, hs, ho⟩
    have hn32 : (numR r2).1 < 4294967296 := numV_lt _
    obtain ⟨ht, hht⟩ : ∃ x, (numR r2).1 = x := ⟨_, rfl⟩
    obtain ⟨r3, hr3⟩ : ∃ x, (numR r2).2 = x := ⟨_, rfl⟩
    have hl3 : r3.rest.length ≤ 1000000000 := by rw [← hr3]; exact Nat.le_trans (takeR_rest r2 4) hl2
    rw [hr3] at hs
    rw [hht] at hn32 ⊢
    have HHT := hid hht; have HR3E := hid hr3
    clear hht hr3
    have hx5 := HX4.out.only ho (by omega)
    have q5 : w5.cell? ⟨g + 1, 5, none⟩ = some (.int .i64 0) := Blk.cell hx5 5
    have f5 := Blk.frozen hx5 5
    have hw32 : IntKind.i64.wrap (ht : Int) = (ht : Int) := by rw [IntKind.wrap_i64]; omega
    have HX5 : Hid (Blk (w5.setCell ⟨g + 1, 5, none⟩ (.int .i64 ht)) (g + 1) 98 (obCs { zero with kind := 3, tree := tr, pars := pl, height := ht } (.slice none 0 0) (.slice pa pn pc))) := Blk.set hx5 5 (.int .i64 ht)
    have HZ5 : Hid (Blk (w5.setCell ⟨g + 1, 5, none⟩ (.int .i64 ht)) g 98 (obCs zero (.slice none 0 0) (.slice none 0 0))) := Blk.far (HZ4.out.only ho (by omega)) (p := ⟨g + 1, 5, none⟩) (by show g ≠ g + 1; omega) _
    have HR5 : Hid (RdAt (w5.setCell ⟨g + 1, 5, none⟩ (.int .i64 ht)) (g + 2) r3) := Blk.far hs (p := ⟨g + 1, 5, none⟩) (by show g + 2 ≠ g + 1; omega) _
    have HB5 : Hid (Below g w (w5.setCell ⟨g + 1, 5, none⟩ (.int .i64 ht))) := (HB4.out.trans (ho.below (fun i e => by omega) (by omega))).setCell (p := ⟨g + 1, 5, none⟩) (by show g ≤ g + 1; omega) _
    have HP5 : Hid (StrsAt (w5.setCell ⟨g + 1, 5, none⟩ (.int .i64 ht)) pa pn pl) := StrsAt.kept (c := pc) (StrsAt.kept (c := pc) HP4.out (fun b hb hl => ho.block b hl (by have := HOG.out b hb; omega))) (fun b hb _ => Below.heap_setCell w5 ⟨g + 1, 5, none⟩ _ b (by show b ≠ g + 1; have := HOG.out b hb; omega))
    clear hx5 hs ho HX4 HZ4 HR4 HB4 HP4
    go_wp2_with fail
    clear q5 f5
    generalize w5.setCell ⟨g + 1, 5, none⟩ (.int .i64 ht) = u5 at HX5 HZ5 HR5 HB5 HP5 ⊢
    have hzl5 := Blk.lt HX5.out
    refine (otext_any 1000 (by omega) HR5.out (by omega)).mono ?_; rintro e w6 ⟨rfl, hs, ho⟩
    obtain ⟨nt, hnt⟩ : ∃ x, bx (textR r3 1000).1 = x := ⟨_, rfl⟩
    obtain ⟨r4, hr4⟩ : ∃ x, (textR r3 1000).2 = x := ⟨_, rfl⟩
    rw [hr4] at hs
    rw [hnt]
    have HNT := hid hnt; have HR4E := hid hr4
    clear hnt hr4
    have hx6 := HX5.out.only ho (by omega)
    have q6 : w6.cell? ⟨g + 1, 6, none⟩ = some (.string ⟨#[]⟩) := Blk.cell hx6 6
    have f6 := Blk.frozen hx6 6
    have HX6 : Hid (Blk (w6.setCell ⟨g + 1, 6, none⟩ (.string nt)) (g + 1) 98 (obCs { zero with kind := 3, tree := tr, pars := pl, height := ht, note := nt } (.slice none 0 0) (.slice pa pn pc))) := Blk.set hx6 6 (.string nt)
    have HZ6 : Hid (Blk (w6.setCell ⟨g + 1, 6, none⟩ (.string nt)) g 98 (obCs zero (.slice none 0 0) (.slice none 0 0))) := Blk.far (HZ5.out.only ho (by omega)) (p := ⟨g + 1, 6, none⟩) (by show g ≠ g + 1; omega) _
    have HR6 : Hid (RdAt (w6.setCell ⟨g + 1, 6, none⟩ (.string nt)) (g + 2) r4) := Blk.far hs (p := ⟨g + 1, 6, none⟩) (by show g + 2 ≠ g + 1; omega) _
    have HB6 : Hid (Below g w (w6.setCell ⟨g + 1, 6, none⟩ (.string nt))) := (HB5.out.trans (ho.below (fun i e => by omega) (by omega))).setCell (p := ⟨g + 1, 6, none⟩) (by show g ≤ g + 1; omega) _
    have HP6 : Hid (StrsAt (w6.setCell ⟨g + 1, 6, none⟩ (.string nt)) pa pn pl) := StrsAt.kept (c := pc) (StrsAt.kept (c := pc) HP5.out (fun b hb hl => ho.block b hl (by have := HOG.out b hb; omega))) (fun b hb _ => Below.heap_setCell w6 ⟨g + 1, 6, none⟩ _ b (by show b ≠ g + 1; have := HOG.out b hb; omega))
    clear hx6 hs ho HX5 HZ5 HR5 HB5 HP5
    go_upto_region 15 with fail
    clear q6 f6
    generalize w6.setCell ⟨g + 1, 6, none⟩ (.string nt) = W at HX6 HZ6 HR6 HB6 HP6 ⊢
    have HX5 := hid HX6.out; have HZ5 := hid HZ6.out; have HR5 := hid HR6.out; have HB5 := hid HB6.out
    have HO5 : Hid (ObAt W (.slice none 0 0) (.slice pa pn pc) { zero with kind := 3, tree := tr, pars := pl, height := ht, note := nt }) := ⟨none, 0, 0, pa, pn, pc, rfl, ⟨rfl, by omega, .inl rfl⟩, rfl, HP6.out⟩
    have HD5 : Hid (decR (3 :: t) = if wholeR r4 = true ∧ good { zero with kind := 3, tree := tr, pars := pl, height := ht, note := nt } = true then ({ zero with kind := 3, tree := tr, pars := pl, height := ht, note := nt }, 0) else (zero, 4)) := by
     have h := decR_commit t pl (by rw [HR0E.out, HR1E.out, HR2E.out]; exact HPL.out) (fun hb => commit_keep (r := (parsR (takeR (newR t) 32).2).2) hb)
     have e4 : commitR t = r4 := by
      have : commitR t = (textR (numR (parsR (takeR (newR t) 32).2).2).2 1000).2 := rfl
      rw [this, HR0E.out, HR1E.out, HR2E.out, HR3E.out, HR4E.out]
     rw [e4, HR0E.out, HR1E.out, HR2E.out, HR3E.out, HTR.out, HHT.out, HNT.out] at h
     exact h
    have HN5 : Hid (wholeR r4 = true → ObN { zero with kind := 3, tree := tr, pars := pl, height := ht, note := nt }) := fun hw => ⟨⟨by show (-9223372036854775808 : Int) ≤ 3; omega, by show (3 : Int) ≤ 9223372036854775807; omega⟩, ⟨by show (-9223372036854775808 : Int) ≤ (ht : Int); omega, by show (ht : Int) ≤ 9223372036854775807; omega⟩, by show 0 ≤ 1000000; omega⟩
    clear HX6 HZ6 HR6 HB6 HP6 HR0E HR1E HR2E HR3E HR4E HTR HHT HNT HPL hw32
    generalize ({ zero with kind := 3, tree := tr, pars := pl, height := (ht : Int), note := nt } : Ob) = x at HX5 HO5 HD5 HN5
    generalize r4 = r at HR5 HD5 HN5
    obtain ⟨ea, en, ec, hx5, ho5, hne, hnp⟩ : ∃ ea en ec, Blk W (g + 1) 98 (obCs x (.slice ea en ec) (.slice pa pn pc)) ∧ ObAt W (.slice ea en ec) (.slice pa pn pc) x ∧ (∀ k, (Value.slice ea en ec).ownBlock = some k → g < k) ∧ (∀ k, (Value.slice pa pn pc).ownBlock = some k → g < k) := ⟨_, _, _, HX5.out, HO5.out, (fun k hk => by simp [Value.ownBlock] at hk), (fun k hk => by have := HOG.out k hk; omega)⟩
    clear HOG
    clear HX5 HO5
    have HX5 := hid hx5
    have HO5 := hid ho5
    have HNE := hid hne
    have HNP := hid hnp
    clear hx5 ho5 hne hnp
    have HWH := hid (owhole_any HR5.out)
    cases hwh : wholeR r
    ·rw [hwh] at HWH HD5
     clear HN5
     obtain ⟨wz, hwz⟩ : ∃ wz, W.setRow g (obCs zero (.slice none 0 0) (.slice none 0 0)) = wz := ⟨_, rfl⟩
     have HBZ : Hid (Blk wz g 98 (obCs zero (.slice none 0 0) (.slice none 0 0))) := by rw [← hwz]; exact setRow_heap _ _ _ _ _ _ HZ5.out
     have HLZ : Hid (Below g w wz) := by rw [← hwz]; exact below_setRow HB5.out (Nat.le_refl _) _
     have HWZ := hid hwz
     clear hwz
     go_wp2_with fail
     refine HWH.out.mono ?_; rintro e w' ⟨rfl, rfl⟩
     go_wp2_with (first
      | (refine wpList_store_row rfl _ (.tmp 2) (.tmp 53) rfl g (obCs zero (.slice none 0 0) (.slice none 0 0)) rfl rfl 98 (obCs zero (.slice none 0 0) (.slice none 0 0)) HZ5.out (Tryz.infoObj _ _ _) rfl (obcs_one _ _ _ _ _ _ _) ?_; rw [HWZ.out]))
     go_wp2_with fail
     refine bodyPost_ret (v := .tuple #[.agg (obCs zero (.slice none 0 0) (.slice none 0 0)), .int .i64 4]) ?hr1 rfl ⟨zero, .slice none 0 0, .slice none 0 0, 4, ?_, rfl, zero_at _, ?_, fun k hk => by simp [Value.ownBlock] at hk⟩
     case hr1 => exact dec_results _ g 4 zero _ _ wz rfl rfl HBZ.out
     ·rw [HDL.out, HD5.out]; simp
     ·rw [HG.out]; exact HLZ.out
    ·rw [hwh] at HWH HD5 HN5
     have HGD := hid (obgood_any x _ _ W HO5.out (HN5.out rfl))
     clear HN5
     have k0 : W.cell? ⟨g + 1, 0, none⟩ = some (.int .i64 x.kind) := Blk.cell HX5.out 0
     have k1 : W.cell? ⟨g + 1, 1, none⟩ = some (.string x.data) := Blk.cell HX5.out 1
     have k2 : W.cell? ⟨g + 1, 2, none⟩ = some (.slice ea en ec) := Blk.cell HX5.out 2
     have k3 : W.cell? ⟨g + 1, 3, none⟩ = some (.string x.tree) := Blk.cell HX5.out 3
     have k4 : W.cell? ⟨g + 1, 4, none⟩ = some (.slice pa pn pc) := Blk.cell HX5.out 4
     have k5 : W.cell? ⟨g + 1, 5, none⟩ = some (.int .i64 x.height) := Blk.cell HX5.out 5
     have k6 : W.cell? ⟨g + 1, 6, none⟩ = some (.string x.note) := Blk.cell HX5.out 6
     go_wp2_with fail
     refine HWH.out.mono ?_; rintro e w' ⟨rfl, rfl⟩
     go_wp2_with fail
     refine HGD.out.mono ?_; rintro e w7 ⟨rfl, hb⟩
     clear k0 k1 k2 k3 k4 k5 k6
     have HX7 : Hid (Blk w7 (g + 1) 98 (obCs x (.slice ea en ec) (.slice pa pn pc))) := (hb.block (g + 1) (Blk.lt HX5.out)).trans HX5.out
     have HZ7 : Hid (Blk w7 g 98 (obCs zero (.slice none 0 0) (.slice none 0 0))) := (hb.block g (Blk.lt HZ5.out)).trans HZ5.out
     have HO7 : Hid (ObAt w7 (.slice ea en ec) (.slice pa pn pc) x) := HO5.out.later hb
     have HB7 : Hid (Below g w w7) := HB5.out.trans (hb.mono (Nat.le_of_lt (Blk.lt HZ5.out)))
     have hg7 := Blk.lt HZ7.out
     clear hb HX5 HZ5 HO5 HB5
     cases hgx : good x
     ·rw [hgx] at HD5
      obtain ⟨wz, hwz⟩ : ∃ wz, w7.setRow g (obCs zero (.slice none 0 0) (.slice none 0 0)) = wz := ⟨_, rfl⟩
      have HBZ : Hid (Blk wz g 98 (obCs zero (.slice none 0 0) (.slice none 0 0))) := by rw [← hwz]; exact setRow_heap _ _ _ _ _ _ HZ7.out
      have HLZ : Hid (Below g w wz) := by rw [← hwz]; exact below_setRow HB7.out (Nat.le_refl _) _
      have HWZ := hid hwz
      clear hwz
      go_wp2_with (first
       | (refine wpList_store_row rfl _ (.tmp 2) (.tmp 53) rfl g (obCs zero (.slice none 0 0) (.slice none 0 0)) rfl rfl 98 (obCs zero (.slice none 0 0) (.slice none 0 0)) HZ7.out (Tryz.infoObj _ _ _) rfl (obcs_one _ _ _ _ _ _ _) ?_; rw [HWZ.out]))
      go_wp2_with fail
      refine bodyPost_ret (v := .tuple #[.agg (obCs zero (.slice none 0 0) (.slice none 0 0)), .int .i64 4]) ?hr2 rfl ⟨zero, .slice none 0 0, .slice none 0 0, 4, ?_, rfl, zero_at _, ?_, fun k hk => by simp [Value.ownBlock] at hk⟩
      case hr2 => exact dec_results _ g 4 zero _ _ wz rfl rfl HBZ.out
      ·rw [HDL.out, HD5.out]; simp
      ·rw [HG.out]; exact HLZ.out
     ·rw [hgx] at HD5
      obtain ⟨wz, hwz⟩ : ∃ wz, w7.setRow g (obCs x (.slice ea en ec) (.slice pa pn pc)) = wz := ⟨_, rfl⟩
      have HBZ : Hid (Blk wz g 98 (obCs x (.slice ea en ec) (.slice pa pn pc))) := by rw [← hwz]; exact setRow_heap _ _ _ _ _ _ HZ7.out
      have hlz : Below w7.heap.size w7 wz ∨ True := .inr trivial
      have HLZ : Hid (Below g w wz) := by rw [← hwz]; exact below_setRow HB7.out (Nat.le_refl _) _
      have HOZ : Hid (ObAt wz (.slice ea en ec) (.slice pa pn pc) x) := by rw [← hwz]; exact HO7.out.far (fun k hk => by have := HNE.out k hk; omega) (fun k hk => by have := HNP.out k hk; omega) _
      have HWZ := hid hwz
      clear hwz hlz
      have k0 : w7.cell? ⟨g + 1, 0, none⟩ = some (.int .i64 x.kind) := Blk.cell HX7.out 0
      have k1 : w7.cell? ⟨g + 1, 1, none⟩ = some (.string x.data) := Blk.cell HX7.out 1
      have k2 : w7.cell? ⟨g + 1, 2, none⟩ = some (.slice ea en ec) := Blk.cell HX7.out 2
      have k3 : w7.cell? ⟨g + 1, 3, none⟩ = some (.string x.tree) := Blk.cell HX7.out 3
      have k4 : w7.cell? ⟨g + 1, 4, none⟩ = some (.slice pa pn pc) := Blk.cell HX7.out 4
      have k5 : w7.cell? ⟨g + 1, 5, none⟩ = some (.int .i64 x.height) := Blk.cell HX7.out 5
      have k6 : w7.cell? ⟨g + 1, 6, none⟩ = some (.string x.note) := Blk.cell HX7.out 6
      go_wp2_with (first
       | (refine wpList_store_row rfl _ (.tmp 2) (.tmp 54) rfl g (obCs x (.slice ea en ec) (.slice pa pn pc)) rfl rfl 98 (obCs zero (.slice none 0 0) (.slice none 0 0)) HZ7.out (Tryz.infoObj _ _ _) rfl (obcs_one _ _ _ _ _ _ _) ?_; rw [HWZ.out]))
      go_wp2_with fail
      refine bodyPost_ret (v := .tuple #[.agg (obCs x (.slice ea en ec) (.slice pa pn pc)), .int .i64 0]) ?hr3 rfl ⟨x, .slice ea en ec, .slice pa pn pc, 0, ?_, rfl, HOZ.out, ?_, fun k hk => by rw [HG.out]; exact Nat.le_of_lt (hk.elim (HNE.out k) (HNP.out k))⟩
      case hr3 => exact dec_results _ g 0 x _ _ wz rfl rfl HBZ.out
      ·rw [HDL.out, HD5.out]; simp
      ·rw [HG.out]; exact HLZ.out
   ·have n1 : (k.toNat : Int) ≠ 1 := fun e => e1 (UInt8.toNat_inj.1 (by show k.toNat = 1; omega))
    have n2 : (k.toNat : Int) ≠ 2 := fun e => e2 (UInt8.toNat_inj.1 (by show k.toNat = 2; omega))
    have n3 : (k.toNat : Int) ≠ 3 := fun e => e3 (UInt8.toNat_inj.1 (by show k.toNat = 3; omega))
    have HD5 := hid (decR_other k t e1 e2 e3 (newR t))
    clear e1 e2 e3
    go_upto_region 15 with fail
    clear n1 n2 n3 k0
    have HX5 : Hid (Blk w2 (g + 1) 98 (obCs { zero with kind := (k.toNat : Int) } (.slice none 0 0) (.slice none 0 0))) := HX2.out
    have HZ5 : Hid (Blk w2 g 98 (obCs zero (.slice none 0 0) (.slice none 0 0))) := HZ2.out
    have HR5 := hid HR2.out
    have HO5 : Hid (ObAt w2 (.slice none 0 0) (.slice none 0 0) { zero with kind := (k.toNat : Int) }) := ⟨none, 0, 0, none, 0, 0, rfl, ⟨rfl, by omega, .inl rfl⟩, rfl, ⟨rfl, by omega, .inl rfl⟩⟩
    have HB5 := hid HB2.out
    have HN5 : Hid (wholeR (newR t) = true → ObN { zero with kind := (k.toNat : Int) }) := fun _ => ⟨⟨by show (-9223372036854775808 : Int) ≤ (k.toNat : Int); omega, by show (k.toNat : Int) ≤ 9223372036854775807; omega⟩, ⟨by show (-9223372036854775808 : Int) ≤ 0; omega, by show (0 : Int) ≤ 9223372036854775807; omega⟩, by show 0 ≤ 1000000; omega⟩
    clear HX2 HZ2 HR2 HB2
    generalize newR t = r at HR5 HD5 HN5
    generalize ({ zero with kind := (k.toNat : Int) } : Ob) = x at HX5 HO5 HD5 HN5
    obtain ⟨ea, en, ec, pa, pn, pc, hx5, ho5, hne, hnp⟩ : ∃ ea en ec pa pn pc, Blk w2 (g + 1) 98 (obCs x (.slice ea en ec) (.slice pa pn pc)) ∧ ObAt w2 (.slice ea en ec) (.slice pa pn pc) x ∧ (∀ k, (Value.slice ea en ec).ownBlock = some k → g < k) ∧ (∀ k, (Value.slice pa pn pc).ownBlock = some k → g < k) := ⟨_, _, _, _, _, _, HX5.out, HO5.out, (fun k hk => by simp [Value.ownBlock] at hk), (fun k hk => by simp [Value.ownBlock] at hk)⟩
    clear HX5 HO5
    have HX5 := hid hx5
    have HO5 := hid ho5
    have HNE := hid hne
    have HNP := hid hnp
    clear hx5 ho5 hne hnp
    have HWH := hid (owhole_any HR5.out)
    cases hwh : wholeR r
    ·rw [hwh] at HWH HD5
     clear HN5
     obtain ⟨wz, hwz⟩ : ∃ wz, w2.setRow g (obCs zero (.slice none 0 0) (.slice none 0 0)) = wz := ⟨_, rfl⟩
     have HBZ : Hid (Blk wz g 98 (obCs zero (.slice none 0 0) (.slice none 0 0))) := by rw [← hwz]; exact setRow_heap _ _ _ _ _ _ HZ5.out
     have HLZ : Hid (Below g w wz) := by rw [← hwz]; exact below_setRow HB5.out (Nat.le_refl _) _
     have HWZ := hid hwz
     clear hwz
     go_wp2_with fail
     refine HWH.out.mono ?_; rintro e w' ⟨rfl, rfl⟩
     go_wp2_with (first
      | (refine wpList_store_row rfl _ (.tmp 2) (.tmp 53) rfl g (obCs zero (.slice none 0 0) (.slice none 0 0)) rfl rfl 98 (obCs zero (.slice none 0 0) (.slice none 0 0)) HZ5.out (Tryz.infoObj _ _ _) rfl (obcs_one _ _ _ _ _ _ _) ?_; rw [HWZ.out]))
     go_wp2_with fail
     refine bodyPost_ret (v := .tuple #[.agg (obCs zero (.slice none 0 0) (.slice none 0 0)), .int .i64 4]) ?hr1 rfl ⟨zero, .slice none 0 0, .slice none 0 0, 4, ?_, rfl, zero_at _, ?_, fun k hk => by simp [Value.ownBlock] at hk⟩
     case hr1 => exact dec_results _ g 4 zero _ _ wz rfl rfl HBZ.out
     ·rw [HDL.out, HD5.out]; simp
     ·rw [HG.out]; exact HLZ.out
    ·rw [hwh] at HWH HD5 HN5
     have HGD := hid (obgood_any x _ _ w2 HO5.out (HN5.out rfl))
     clear HN5
     have k0 : w2.cell? ⟨g + 1, 0, none⟩ = some (.int .i64 x.kind) := Blk.cell HX5.out 0
     have k1 : w2.cell? ⟨g + 1, 1, none⟩ = some (.string x.data) := Blk.cell HX5.out 1
     have k2 : w2.cell? ⟨g + 1, 2, none⟩ = some (.slice ea en ec) := Blk.cell HX5.out 2
     have k3 : w2.cell? ⟨g + 1, 3, none⟩ = some (.string x.tree) := Blk.cell HX5.out 3
     have k4 : w2.cell? ⟨g + 1, 4, none⟩ = some (.slice pa pn pc) := Blk.cell HX5.out 4
     have k5 : w2.cell? ⟨g + 1, 5, none⟩ = some (.int .i64 x.height) := Blk.cell HX5.out 5
     have k6 : w2.cell? ⟨g + 1, 6, none⟩ = some (.string x.note) := Blk.cell HX5.out 6
     go_wp2_with fail
     refine HWH.out.mono ?_; rintro e w' ⟨rfl, rfl⟩
     go_wp2_with fail
     refine HGD.out.mono ?_; rintro e w7 ⟨rfl, hb⟩
     clear k0 k1 k2 k3 k4 k5 k6
     have HX7 : Hid (Blk w7 (g + 1) 98 (obCs x (.slice ea en ec) (.slice pa pn pc))) := (hb.block (g + 1) (Blk.lt HX5.out)).trans HX5.out
     have HZ7 : Hid (Blk w7 g 98 (obCs zero (.slice none 0 0) (.slice none 0 0))) := (hb.block g (Blk.lt HZ5.out)).trans HZ5.out
     have HO7 : Hid (ObAt w7 (.slice ea en ec) (.slice pa pn pc) x) := HO5.out.later hb
     have HB7 : Hid (Below g w w7) := HB5.out.trans (hb.mono (Nat.le_of_lt (Blk.lt HZ5.out)))
     have hg7 := Blk.lt HZ7.out
     clear hb HX5 HZ5 HO5 HB5
     cases hgx : good x
     ·rw [hgx] at HD5
      obtain ⟨wz, hwz⟩ : ∃ wz, w7.setRow g (obCs zero (.slice none 0 0) (.slice none 0 0)) = wz := ⟨_, rfl⟩
      have HBZ : Hid (Blk wz g 98 (obCs zero (.slice none 0 0) (.slice none 0 0))) := by rw [← hwz]; exact setRow_heap _ _ _ _ _ _ HZ7.out
      have HLZ : Hid (Below g w wz) := by rw [← hwz]; exact below_setRow HB7.out (Nat.le_refl _) _
      have HWZ := hid hwz
      clear hwz
      go_wp2_with (first
       | (refine wpList_store_row rfl _ (.tmp 2) (.tmp 53) rfl g (obCs zero (.slice none 0 0) (.slice none 0 0)) rfl rfl 98 (obCs zero (.slice none 0 0) (.slice none 0 0)) HZ7.out (Tryz.infoObj _ _ _) rfl (obcs_one _ _ _ _ _ _ _) ?_; rw [HWZ.out]))
      go_wp2_with fail
      refine bodyPost_ret (v := .tuple #[.agg (obCs zero (.slice none 0 0) (.slice none 0 0)), .int .i64 4]) ?hr2 rfl ⟨zero, .slice none 0 0, .slice none 0 0, 4, ?_, rfl, zero_at _, ?_, fun k hk => by simp [Value.ownBlock] at hk⟩
      case hr2 => exact dec_results _ g 4 zero _ _ wz rfl rfl HBZ.out
      ·rw [HDL.out, HD5.out]; simp
      ·rw [HG.out]; exact HLZ.out
     ·rw [hgx] at HD5
      obtain ⟨wz, hwz⟩ : ∃ wz, w7.setRow g (obCs x (.slice ea en ec) (.slice pa pn pc)) = wz := ⟨_, rfl⟩
      have HBZ : Hid (Blk wz g 98 (obCs x (.slice ea en ec) (.slice pa pn pc))) := by rw [← hwz]; exact setRow_heap _ _ _ _ _ _ HZ7.out
      have hlz : Below w7.heap.size w7 wz ∨ True := .inr trivial
      have HLZ : Hid (Below g w wz) := by rw [← hwz]; exact below_setRow HB7.out (Nat.le_refl _) _
      have HOZ : Hid (ObAt wz (.slice ea en ec) (.slice pa pn pc) x) := by rw [← hwz]; exact HO7.out.far (fun k hk => by have := HNE.out k hk; omega) (fun k hk => by have := HNP.out k hk; omega) _
      have HWZ := hid hwz
      clear hwz hlz
      have k0 : w7.cell? ⟨g + 1, 0, none⟩ = some (.int .i64 x.kind) := Blk.cell HX7.out 0
      have k1 : w7.cell? ⟨g + 1, 1, none⟩ = some (.string x.data) := Blk.cell HX7.out 1
      have k2 : w7.cell? ⟨g + 1, 2, none⟩ = some (.slice ea en ec) := Blk.cell HX7.out 2
      have k3 : w7.cell? ⟨g + 1, 3, none⟩ = some (.string x.tree) := Blk.cell HX7.out 3
      have k4 : w7.cell? ⟨g + 1, 4, none⟩ = some (.slice pa pn pc) := Blk.cell HX7.out 4
      have k5 : w7.cell? ⟨g + 1, 5, none⟩ = some (.int .i64 x.height) := Blk.cell HX7.out 5
      have k6 : w7.cell? ⟨g + 1, 6, none⟩ = some (.string x.note) := Blk.cell HX7.out 6
      go_wp2_with (first
       | (refine wpList_store_row rfl _ (.tmp 2) (.tmp 54) rfl g (obCs x (.slice ea en ec) (.slice pa pn pc)) rfl rfl 98 (obCs zero (.slice none 0 0) (.slice none 0 0)) HZ7.out (Tryz.infoObj _ _ _) rfl (obcs_one _ _ _ _ _ _ _) ?_; rw [HWZ.out]))
      go_wp2_with fail
      refine bodyPost_ret (v := .tuple #[.agg (obCs x (.slice ea en ec) (.slice pa pn pc)), .int .i64 0]) ?hr3 rfl ⟨x, .slice ea en ec, .slice pa pn pc, 0, ?_, rfl, HOZ.out, ?_, fun k hk => by rw [HG.out]; exact Nat.le_of_lt (hk.elim (HNE.out k) (HNP.out k))⟩
      case hr3 => exact dec_results _ g 0 x _ _ wz rfl rfl HBZ.out
      ·rw [HDL.out, HD5.out]; simp
      ·rw [HG.out]; exact HLZ.out
end Go.Proofs.YtmpjdoiogbbcoaaGreatDoor
/- The digest of bytes (layer 2): plain Lean. -/
namespace Go.Proofs.YtmpjdoiogbbcoaaGreatDoor.Sha
open Go.RowKit
set_option linter.unusedVariables false

def m32 : Nat := 4294967296
def rotr (n x : Nat) : Nat := x * 2 ^ (32 - n) % m32 ||| x / 2 ^ n
def ch (e f g : Nat) : Nat := (e &&& f) ^^^ ((4294967295 ^^^ e) &&& g)
def maj (a b c : Nat) : Nat := (a &&& b) ^^^ (a &&& c) ^^^ (b &&& c)
def turn3 (x i j k : Nat) : Nat := rotr i x ^^^ rotr j x ^^^ rotr k x
def ss0 (x : Nat) : Nat := rotr 7 x ^^^ rotr 18 x ^^^ x / 8
def ss1 (y : Nat) : Nat := rotr 17 y ^^^ rotr 19 y ^^^ y / 1024
def kt : List Nat := [0x428a2f98, 0x71374491, 0xb5c0fbcf, 0xe9b5dba5, 0x3956c25b, 0x59f111f1, 0x923f82a4, 0xab1c5ed5,
 0xd807aa98, 0x12835b01, 0x243185be, 0x550c7dc3, 0x72be5d74, 0x80deb1fe, 0x9bdc06a7, 0xc19bf174,
 0xe49b69c1, 0xefbe4786, 0x0fc19dc6, 0x240ca1cc, 0x2de92c6f, 0x4a7484aa, 0x5cb0a9dc, 0x76f988da,
 0x983e5152, 0xa831c66d, 0xb00327c8, 0xbf597fc7, 0xc6e00bf3, 0xd5a79147, 0x06ca6351, 0x14292967,
 0x27b70a85, 0x2e1b2138, 0x4d2c6dfc, 0x53380d13, 0x650a7354, 0x766a0abb, 0x81c2c92e, 0x92722c85,
 0xa2bfe8a1, 0xa81a664b, 0xc24b8b70, 0xc76c51a3, 0xd192e819, 0xd6990624, 0xf40e3585, 0x106aa070,
 0x19a4c116, 0x1e376c08, 0x2748774c, 0x34b0bcb5, 0x391c0cb3, 0x4ed8aa4a, 0x5b9cca4f, 0x682e6ff3,
 0x748f82ee, 0x78a5636f, 0x84c87814, 0x8cc70208, 0x90befffa, 0xa4506ceb, 0xbef9a3f7, 0xc67178f2]
/-- eight words -/
structure S8 where
 a : Nat
 b : Nat
 c : Nat
 d : Nat
 e : Nat
 f : Nat
 g : Nat
 h : Nat
def first : S8 := ⟨0x6a09e667, 0xbb67ae85, 0x3c6ef372, 0xa54ff53a, 0x510e527f, 0x9b05688c, 0x1f83d9ab, 0x5be0cd19⟩
def rnd (s : S8) (k w : Nat) : S8 :=
 let p := (s.h + turn3 s.e 6 11 25 + ch s.e s.f s.g + k + w) % m32
 let q := (turn3 s.a 2 13 22 + maj s.a s.b s.c) % m32
 ⟨(p + q) % m32, s.a, s.b, s.c, (s.d + p) % m32, s.e, s.f, s.g⟩
/-- a word of a block -/
def word (b : List UInt8) (i : Nat) : Nat := 16777216 * (b.getD (4 * i) 0).toNat + 65536 * (b.getD (4 * i + 1) 0).toNat + 256 * (b.getD (4 * i + 2) 0).toNat + (b.getD (4 * i + 3) 0).toNat
def w16 (b : List UInt8) : List Nat := (List.range 16).map (word b)
def nextW (l : List Nat) : Nat := (l.getD (l.length - 16) 0 + ss0 (l.getD (l.length - 15) 0) + l.getD (l.length - 7) 0 + ss1 (l.getD (l.length - 2) 0)) % m32
def wext : Nat → List Nat → List Nat
 | 0, l => l
 | n + 1, l => wext n (l ++ [nextW l])
def spreadL (b : List UInt8) : List Nat := wext 48 (w16 b)
/-- so many rounds -/
def rounds (W : List Nat) : Nat → S8 → S8
 | 0, s => s
 | n + 1, s => let r := rounds W n s; rnd r (kt.getD n 0) (W.getD n 0)
def addS (x y : S8) : S8 := ⟨(x.a + y.a) % m32, (x.b + y.b) % m32, (x.c + y.c) % m32, (x.d + y.d) % m32, (x.e + y.e) % m32, (x.f + y.f) % m32, (x.g + y.g) % m32, (x.h + y.h) % m32⟩
def mixL (h : S8) (b : List UInt8) : S8 := addS h (rounds (spreadL b) 64 h)
/-- bytes taken in, block by block -/
def absorb : Nat → S8 → List UInt8 → S8 × List UInt8
 | 0, h, l => (h, l)
 | f + 1, h, l => if l.length < 64 then (h, l) else absorb f (mixL h (l.take 64)) (l.drop 64)
def zerosN (n : Nat) : Nat := (119 - n % 64) % 64
def tailL (n : Nat) : List UInt8 := 0x80 :: List.replicate (zerosN n) 0 ++ (List.range 8).map (fun i => UInt8.ofNat (n * 8 / 256 ^ (7 - i)))
def word4 (x : Nat) : List UInt8 := [UInt8.ofNat (x / 16777216), UInt8.ofNat (x / 65536), UInt8.ofNat (x / 256), UInt8.ofNat x]
def outL (s : S8) : List UInt8 := word4 s.a ++ word4 s.b ++ word4 s.c ++ word4 s.d ++ word4 s.e ++ word4 s.f ++ word4 s.g ++ word4 s.h
def endL (h : S8) (rest : List UInt8) (n : Nat) : List UInt8 := outL (absorb (rest ++ tailL n).length h (rest ++ tailL n)).1
def shaL (s : List UInt8) : List UInt8 := endL (absorb s.length first s).1 (absorb s.length first s).2 s.length
end Go.Proofs.YtmpjdoiogbbcoaaGreatDoor.Sha
/- Which objects may come, and which must stay (layer 14): plain Lean. -/
namespace Go.Proofs.YtmpjdoiogbbcoaaGreatDoor.Sw
open Go.RowKit Book Ojt
set_option linter.unusedVariables false

/-- a source as a law sees it -/
abbrev Src := ByteArray → Option ByteArray
def idOf (t : ByteArray) : ByteArray := bz (Sha.shaL t.data.toList)
def decO (t : ByteArray) : Option Ob := dec t.data.toList
theorem rising_ext : ∀ {a b : List ByteArray}, Rising a → Rising b → (∀ x, x ∈ a ↔ x ∈ b) → a = b
 | [], [], _, _, _ => rfl
 | [], y :: b, _, _, h => absurd ((h y).2 (List.mem_cons_self ..)) (List.not_mem_nil)
 | x :: a, [], _, _, h => absurd ((h x).1 (List.mem_cons_self ..)) (List.not_mem_nil)
 | x :: a, y :: b, ha, hb, h => by
  obtain ⟨a1, a2⟩ := List.pairwise_cons.1 ha
  obtain ⟨b1, b2⟩ := List.pairwise_cons.1 hb
  have hxy : x = y := by
   rcases List.mem_cons.1 ((h x).1 (List.mem_cons_self ..)) with e | hx
   ·exact e
   ·rcases List.mem_cons.1 ((h y).2 (List.mem_cons_self ..)) with e | hy
    ·exact e.symm
    ·have := lt_trans (a1 y hy) (b1 x hx)
     rw [lt_irr] at this; cases this
  subst hxy
  rw [rising_ext a2 b2 (fun z => ?_)]
  constructor
  ·intro hz
   rcases List.mem_cons.1 ((h z).1 (List.mem_cons_of_mem _ hz)) with e | hz'
   ·have := a1 z hz; rw [e, lt_irr] at this; cases this
   ·exact hz'
  ·intro hz
   rcases List.mem_cons.1 ((h z).2 (List.mem_cons_of_mem _ hz)) with e | hz'
   ·have := b1 z hz; rw [e, lt_irr] at this; cases this
   ·exact hz'
/-! orders from below -/
def setOf (l : List ByteArray) : List ByteArray := l.foldl putN []
end Go.Proofs.YtmpjdoiogbbcoaaGreatDoor.Sw
/- Folders of files as objects, and back (layer 15): plain Lean. -/
namespace Go.Proofs.YtmpjdoiogbbcoaaGreatDoor.Sn
open Go.RowKit Book Pap Ojt Sw
set_option linter.unusedVariables false

/-- a file below a folder: its names and its bytes -/
abbrev Fl := List ByteArray × ByteArray
def subOf (n : ByteArray) (f : Fl) : Option Fl := match f.1 with
 | a :: b :: r => if a = n then some (b :: r, f.2) else none
 | _ => none
/-- what lies in a folder's folder -/
def sub (n : ByteArray) (fs : List Fl) : List Fl := fs.filterMap (subOf n)
/-- what stands in a folder as a file -/
def leafs (fs : List Fl) (n : ByteArray) : Option ByteArray := fs.foldl (fun g f => if f.1 = [n] then some f.2 else g) none
theorem sub_snoc (n : ByteArray) (fs : List Fl) (f : Fl) : sub n (fs ++ [f]) = sub n fs ++ (subOf n f).toList := by
 unfold sub; rw [List.filterMap_append]; cases h : subOf n f <;> simp [h]
theorem leafs_snoc (fs : List Fl) (f : Fl) (n : ByteArray) : leafs (fs ++ [f]) n = if f.1 = [n] then some f.2 else leafs fs n := by
 unfold leafs; rw [List.foldl_append]; rfl
def headOf (f : Fl) : Option ByteArray := f.1.head?
/-- all names that stand directly in a folder -/
def namesF (fs : List Fl) : List ByteArray := setOf (fs.filterMap headOf)
def encP (x : Ob) : ByteArray := if good x = true then bz (encL x) else ByteArray.empty
/-- an object laid down: the list, its id -/
def layS (L : List ByteArray) (x : Ob) : List ByteArray × ByteArray := (if hasN L (encP x) = true then L else L ++ [encP x], idOf (encP x))
def blobOf (s : ByteArray) : Ob := { zero with kind := 1, data := s }
def treeOf (l : List Ent) : Ob := { zero with kind := 2, ents := l }
/-- one name of a folder: the list, the entry -/
def nameS (rec : List Fl → List ByteArray → List ByteArray × ByteArray) (fs : List Fl) (L : List ByteArray) (n : ByteArray) : List ByteArray × Ent :=
 if sub n fs = [] then ((layS L (blobOf ((leafs fs n).getD ByteArray.empty))).1, ⟨n, 1, (layS L (blobOf ((leafs fs n).getD ByteArray.empty))).2⟩)
 else ((rec (sub n fs) L).1, ⟨n, 2, (rec (sub n fs) L).2⟩)
def entsS (rec : List Fl → List ByteArray → List ByteArray × ByteArray) (fs : List Fl) : List ByteArray → List ByteArray → List Ent → List ByteArray × List Ent
 | [], L, E => (L, E)
 | n :: r, L, E => entsS rec fs r (nameS rec fs L n).1 (E ++ [(nameS rec fs L n).2])
/-- a folder laid down -/
def treeS : Nat → List Fl → List ByteArray → List ByteArray × ByteArray
 | 0, fs, L => (L, ByteArray.empty)
 | d + 1, fs, L => layS (entsS (treeS d) fs (namesF fs) L []).1 (treeOf (entsS (treeS d) fs (namesF fs) L []).2)
/-! a source looked into -/
def lookK (G : Sw.Src) (id : ByteArray) (kind lacks : Int) : Ob × Int := match G id with
 | none => (zero, lacks)
 | some t => match decO t with
  | none => (zero, 4)
  | some x => if x.kind ≠ kind then (zero, 22) else (x, 0)
def heightsS (G : Sw.Src) : List ByteArray → List Int → List Int × Int
 | [], H => (H, 0)
 | p :: r, H => if (lookK G p 3 12).2 ≠ 0 then ([], (lookK G p 3 12).2) else heightsS G r (H ++ [(lookK G p 3 12).1.height])
structure Wk where
 met : Nat
 blobs : List Ent
/-- names as a path -/
def pathOf (l : List ByteArray) : ByteArray := bz (joinL (l.map fun s => s.data.toList))
def overE (rec : ByteArray → List ByteArray → Wk → Wk × Int) (above : List ByteArray) : List Ent → Wk → Wk × Int
 | [], s => (s, 0)
 | y :: r, s =>
  if 4096 < s.met + 1 then ({ s with met := s.met + 1 }, 6)
  else if 64 < above.length + 1 then ({ s with met := s.met + 1 }, 33)
  else if y.kind = 2 then
   if (rec y.id (above ++ [y.name]) { s with met := s.met + 1 }).2 ≠ 0 then rec y.id (above ++ [y.name]) { s with met := s.met + 1 }
   else overE rec above r (rec y.id (above ++ [y.name]) { s with met := s.met + 1 }).1
  else overE rec above r ⟨s.met + 1, s.blobs ++ [⟨pathOf (above ++ [y.name]), y.kind, y.id⟩]⟩
def overS (G : Sw.Src) : Nat → ByteArray → List ByteArray → Wk → Wk × Int
 | 0, id, above, s => (s, 0)
 | d + 1, id, above, s => if (lookK G id 2 21).2 ≠ 0 then (s, (lookK G id 2 21).2) else overE (overS G d) above (lookK G id 2 21).1.ents s
def listS (G : Sw.Src) (id : ByteArray) : List Ent × Int :=
 if (lookK G id 3 12).2 ≠ 0 then ([], (lookK G id 3 12).2)
 else if (overS G 66 (lookK G id 3 12).1.tree [] ⟨0, []⟩).2 ≠ 0 then ([], (overS G 66 (lookK G id 3 12).1.tree [] ⟨0, []⟩).2)
 else ((overS G 66 (lookK G id 3 12).1.tree [] ⟨0, []⟩).1.blobs, 0)
/-- a file: its path, its bytes -/
structure Fi where
 path : ByteArray
 data : ByteArray
 deriving DecidableEq
def filesF (G : Sw.Src) : List Ent → List Fi → List Fi × Int
 | [], F => (F, 0)
 | y :: r, F => if (lookK G y.id 1 21).2 ≠ 0 then ([], (lookK G y.id 1 21).2) else filesF G r (F ++ [⟨y.name, (lookK G y.id 1 21).1.data⟩])
def filesS (G : Sw.Src) (id : ByteArray) : List Fi × Int := if (listS G id).2 ≠ 0 then ([], (listS G id).2) else filesF G (listS G id).1 []
def noEnt : Ent := ⟨ByteArray.empty, 0, ByteArray.empty⟩
def findF (G : Sw.Src) : List ByteArray → Ent → Ent × Int
 | [], y => (y, 0)
 | n :: r, y => if y.kind ≠ 2 then (noEnt, 12) else if (lookK G y.id 2 21).2 ≠ 0 then (noEnt, (lookK G y.id 2 21).2)
  else match (lookK G y.id 2 21).1.ents.find? (fun e => decide (e.name = n)) with
   | none => (noEnt, 12)
   | some e => findF G r e
def findS (G : Sw.Src) (id path : ByteArray) : Ent × Int :=
 if path.size ≠ 0 ∧ splitE path.data.toList ≠ 0 then (noEnt, splitE path.data.toList)
 else if (lookK G id 3 12).2 ≠ 0 then (noEnt, (lookK G id 3 12).2)
 else findF G (if path.size = 0 then [] else (pieces path.data.toList).map bz) ⟨ByteArray.empty, 2, (lookK G id 3 12).1.tree⟩
end Go.Proofs.YtmpjdoiogbbcoaaGreatDoor.Sn
/- A source of objects; an object of a kind looked up: look. -/
namespace Go.Proofs.YtmpjdoiogbbcoaaGreatDoor
open Go.RowKit Book Pap Ojt Sn
set_option linter.unusedVariables false

/-- what Get hands back -/
def GetOut (G : Sw.Src) (id : ByteArray) (W : World) (e : Ending) (W' : World) : Prop :=
 e = .returned (.tuple #[.string ((G id).getD ByteArray.empty), .bool (G id).isSome]) ∧ Below W.heap.size W W'
/-- an interface value is a source -/
def SrcAt (w : World) (t : TypeId) (rv : Value) (G : Sw.Src) : Prop :=
 ∃ f r, (∀ W, (method 449 t rv "Get").run Tryz.prog W = .ok (f, r) W) ∧ (∀ args W, (callFunc f args).run Tryz.prog W = .ok (.enter f args) W) ∧ ∀ id W, Below w.heap.size w W → Calls Tryz.prog f #[r, .string id] W (GetOut G id W)
theorem SrcAt.later {w w' : World} {t : TypeId} {rv : Value} {G : Sw.Src} (h : SrcAt w t rv G) (hb : Below w.heap.size w w') : SrcAt w' t rv G := by
 obtain ⟨f, r, h1, h2, h3⟩ := h
 exact ⟨f, r, h1, h2, fun id W hW => h3 id W (below_then hb hW)⟩
/-- the texts of a source are of a size -/
def SrcSz (G : Sw.Src) : Prop := ∀ id t, G id = some t → t.size ≤ 1000000000
/-- what look hands back -/
def LookOut (w : World) (x : Ob) (er : Int) (e : Ending) (w' : World) : Prop :=
 ∃ ev pv, e = .returned (.tuple #[.agg (obCs x ev pv), .int .i64 er]) ∧ ObAt w' ev pv x ∧ Below w.heap.size w w' ∧ ∀ k, (ev.ownBlock = some k ∨ pv.ownBlock = some k) → w.heap.size ≤ k
theorem decode_any (s : ByteArray) (hsz : s.size ≤ 1000000000) (w : World) : Calls Tryz.prog 63 #[.string s] w (DecOut w s.data.toList) := by
 cases hl : s.data.toList with
 | nil =>
  have h0 : s.size = 0 := by have : s.data.toList.length = s.size := Array.length_toList; rw [hl] at this; simpa using this.symm
  rw [← hl]; exact decode_nil s h0 w
 | cons k t => rw [← hl]; exact decode_some s k t ⟨hl⟩ hsz w
theorem decO_R (t : ByteArray) : decR t.data.toList = match Sw.decO t with | some x => (x, 0) | none => (zero, 4) := rfl
theorem look_results (tmps : Array Value) (g : Nat) (er : Int) (x : Ob) (ev pv : Value) (w : World) (h2 : tmps.getD 8 undef = .pointer (some ⟨g, 0, none⟩)) (h3 : tmps.getD 9 undef = .int .i64 er) (H : Blk w g 98 (obCs x ev pv)) : (results Tryz.f38 tmps).run Tryz.prog w = .ok (.tuple #[.agg (obCs x ev pv), .int .i64 er]) w := by
 have c0 : w.cell? ⟨g, 0, none⟩ = some (.int .i64 x.kind) := Blk.cell H 0
 have c1 : w.cell? ⟨g, 1, none⟩ = some (.string x.data) := Blk.cell H 1
 have c2 : w.cell? ⟨g, 2, none⟩ = some ev := Blk.cell H 2
 have c3 : w.cell? ⟨g, 3, none⟩ = some (.string x.tree) := Blk.cell H 3
 have c4 : w.cell? ⟨g, 4, none⟩ = some pv := Blk.cell H 4
 have c5 : w.cell? ⟨g, 5, none⟩ = some (.int .i64 x.height) := Blk.cell H 5
 have c6 : w.cell? ⟨g, 6, none⟩ = some (.string x.note) := Blk.cell H 6
 have h2' : tmps[8]?.getD undef = .pointer (some ⟨g, 0, none⟩) := by simpa using h2
 have h3' : tmps[9]?.getD undef = .int .i64 er := by simpa using h3
 simp [results, Tryz.results38, go_sem, h2', h3', c0, c1, c2, c3, c4, c5, c6, obCs]
set_option maxRecDepth 100000 in
set_option maxHeartbeats 8000000 in
theorem look_any (t : TypeId) (rv : Value) (G : Sw.Src) (id : ByteArray) (kind lacks : Int) (w : World) (hs : SrcAt w t rv G) (hz : SrcSz G) : Calls Tryz.prog 38 #[.iface t rv, .string id, .int .i64 kind, .int .i64 lacks] w (LookOut w (lookK G id kind lacks).1 (lookK G id kind lacks).2) := by
 obtain ⟨f, r, hm, hen, hget⟩ := hs
 have HGT := hid hget
 have HLK : Hid (lookK G id kind lacks = match G id with | none => (zero, lacks) | some t => match Sw.decO t with | none => (zero, 4) | some x => if x.kind ≠ kind then (zero, 22) else (x, 0)) := rfl
 clear hget
 go_enter Tryz.func38, Tryz.ntmps38
 go_upto_region 1 with fail
 obtain ⟨g, hg⟩ : ∃ g, w.heap.size = g := ⟨_, rfl⟩
 have HG := hid hg
 have HZ1 : Hid (Blk (w.alloc (.cells (obCs zero (.slice none 0 0) (.slice none 0 0)) 98)) g 98 (obCs zero (.slice none 0 0) (.slice none 0 0))) := by
  have := Blk.new w 98 (obCs zero (.slice none 0 0) (.slice none 0 0)); rw [hg] at this; exact this
 have HB1 : Hid (Below g w (w.alloc (.cells (obCs zero (.slice none 0 0) (.slice none 0 0)) 98))) := (Below.refl _ _).alloc (Nat.le_of_eq hg.symm) _
 rw [hg]
 rw [zero_cs] at HZ1 HB1
 clear hg
 generalize (w.alloc (.cells #[.int .i64 0, .string ⟨#[]⟩, .slice none 0 0, .string ⟨#[]⟩, .slice none 0 0, .int .i64 0, .string ⟨#[]⟩] 98)) = w1 at HZ1 HB1 ⊢
 have hgl1 := Blk.lt HZ1.out
 go_wp2_with fail
 refine (HGT.out id w1 (by rw [HG.out]; exact HB1.out)).mono ?_; rintro e w2 ⟨rfl, hb2⟩
 have HZ2 : Hid (Blk w2 g 98 #[.int .i64 0, .string ⟨#[]⟩, .slice none 0 0, .string ⟨#[]⟩, .slice none 0 0, .int .i64 0, .string ⟨#[]⟩]) := (hb2.block g hgl1).trans HZ1.out
 have HB2 : Hid (Below g w w2) := HB1.out.trans (hb2.mono (Nat.le_of_lt hgl1))
 clear hb2 HZ1 HB1
 cases hG : G id with
 | none =>
  rw [hG] at HLK
  have HL : Hid (lookK G id kind lacks = (zero, lacks)) := HLK.out
  clear HLK
  obtain ⟨wz, hwz⟩ : ∃ wz, w2.setRow g (obCs zero (.slice none 0 0) (.slice none 0 0)) = wz := ⟨_, rfl⟩
  have HBZ : Hid (Blk wz g 98 (obCs zero (.slice none 0 0) (.slice none 0 0))) := by rw [← hwz]; exact setRow_heap _ _ _ _ _ _ HZ2.out
  have HLZ : Hid (Below g w wz) := by rw [← hwz]; exact below_setRow HB2.out (Nat.le_refl _) _
  have HWZ := hid hwz
  clear hwz
  go_wp2_with (first
   | (refine wpList_store_row rfl _ (.tmp 8) (.tmp 22) rfl g (obCs zero (.slice none 0 0) (.slice none 0 0)) rfl rfl 98 (obCs zero (.slice none 0 0) (.slice none 0 0)) HZ2.out (Tryz.infoObj _ _ _) rfl (obcs_one _ _ _ _ _ _ _) ?_; rw [HWZ.out]))
  go_wp2_with fail
  refine bodyPost_ret (v := .tuple #[.agg (obCs zero (.slice none 0 0) (.slice none 0 0)), .int .i64 lacks]) ?hr1 rfl ⟨.slice none 0 0, .slice none 0 0, ?_, ?_, ?_, fun k hk => by simp [Value.ownBlock] at hk⟩
  case hr1 => exact look_results _ g lacks zero _ _ wz rfl rfl HBZ.out
  ·rw [HL.out]
  ·rw [HL.out]; exact zero_at _
  ·rw [HG.out]; exact HLZ.out
 | some tx =>
  have hzt := hz id tx hG
  rw [hG] at HLK
  clear hz hG
  go_wp2_with fail
  refine (decode_any tx hzt w2).mono ?_; rintro e w3 ⟨x, ev, pv, er, hdr, rfl, hO3, hb3, hf3⟩
  rw [decO_R] at hdr
  have hgl2 := Blk.lt HZ2.out
  have HZ3 : Hid (Blk w3 g 98 #[.int .i64 0, .string ⟨#[]⟩, .slice none 0 0, .string ⟨#[]⟩, .slice none 0 0, .int .i64 0, .string ⟨#[]⟩]) := (hb3.block g hgl2).trans HZ2.out
  have HB3 : Hid (Below g w w3) := HB2.out.trans (hb3.mono (Nat.le_of_lt hgl2))
  have HF3 : Hid (∀ k, (ev.ownBlock = some k ∨ pv.ownBlock = some k) → g < k) := fun k hk => by have := hf3 k hk; omega
  have hgl3 := Blk.lt HZ3.out
  have HO3 := hid hO3
  obtain ⟨ea, en, ec, pa, pn, pc, rfl, -, rfl, -⟩ := hO3
  have HX4 : Hid (Blk (w3.alloc (.cells (obCs x (.slice ea en ec) (.slice pa pn pc)) 98)) w3.heap.size 98 (obCs x (.slice ea en ec) (.slice pa pn pc))) := Blk.new w3 _ _
  have HZ4 : Hid (Blk (w3.alloc (.cells (obCs x (.slice ea en ec) (.slice pa pn pc)) 98)) g 98 #[.int .i64 0, .string ⟨#[]⟩, .slice none 0 0, .string ⟨#[]⟩, .slice none 0 0, .int .i64 0, .string ⟨#[]⟩]) := HZ3.out.alloc _
  have HB4 : Hid (Below g w (w3.alloc (.cells (obCs x (.slice ea en ec) (.slice pa pn pc)) 98))) := HB3.out.alloc (Nat.le_of_lt hgl3) _
  have HO4 : Hid (ObAt (w3.alloc (.cells (obCs x (.slice ea en ec) (.slice pa pn pc)) 98)) (.slice ea en ec) (.slice pa pn pc) x) := HO3.out.later ((Below.refl _ _).alloc (Nat.le_refl _) _)
  unfold obCs at HX4 HZ4 HB4 HO4 ⊢
  clear hb3 hf3 HO3 HZ3 HB3 HZ2 HB2
  go_upto_region 5 with fail
  generalize hw4 : (w3.alloc (.cells #[.int .i64 x.kind, .string x.data, .slice ea en ec, .string x.tree, .slice pa pn pc, .int .i64 x.height, .string x.note] 98)) = w4 at HX4 HZ4 HB4 HO4 ⊢
  generalize hg4 : w3.heap.size = g4 at HX4 ⊢
  have hne4 : g ≠ g4 := by omega
  clear hw4 hg4
  have HZC : Hid (Blk w4 g 98 (obCs zero (.slice none 0 0) (.slice none 0 0))) := by rw [zero_cs]; exact HZ4.out
  have HXC : Hid (Blk w4 g4 98 (obCs x (.slice ea en ec) (.slice pa pn pc))) := HX4.out
  clear HZ4 HX4
  cases hD : Sw.decO tx with
  | none =>
   rw [hD] at hdr HLK
   have HL : Hid (lookK G id kind lacks = (zero, 4)) := HLK.out
   obtain ⟨hdx, hde⟩ := Prod.mk.inj hdr
   subst hde
   clear hdr hdx HLK hD
   obtain ⟨wz, hwz⟩ : ∃ wz, w4.setRow g (obCs zero (.slice none 0 0) (.slice none 0 0)) = wz := ⟨_, rfl⟩
   have HBZ : Hid (Blk wz g 98 (obCs zero (.slice none 0 0) (.slice none 0 0))) := by rw [← hwz]; exact setRow_heap _ _ _ _ _ _ HZC.out
   have HLZ : Hid (Below g w wz) := by rw [← hwz]; exact below_setRow HB4.out (Nat.le_refl _) _
   have HWZ := hid hwz
   clear hwz
   go_wp2_with (first
    | (refine wpList_store_row rfl _ (.tmp 8) (.tmp 32) rfl g (obCs zero (.slice none 0 0) (.slice none 0 0)) rfl rfl 98 (obCs zero (.slice none 0 0) (.slice none 0 0)) HZC.out (Tryz.infoObj _ _ _) rfl (obcs_one _ _ _ _ _ _ _) ?_; rw [HWZ.out]))
   go_wp2_with fail
   refine bodyPost_ret (v := .tuple #[.agg (obCs zero (.slice none 0 0) (.slice none 0 0)), .int .i64 4]) ?hr2 rfl ⟨.slice none 0 0, .slice none 0 0, ?_, ?_, ?_, fun k hk => by simp [Value.ownBlock] at hk⟩
   case hr2 => exact look_results _ g 4 zero _ _ wz rfl rfl HBZ.out
   ·rw [HL.out]
   ·rw [HL.out]; exact zero_at _
   ·rw [HG.out]; exact HLZ.out
  | some y =>
   rw [hD] at hdr HLK
   obtain ⟨hdx, hde⟩ := Prod.mk.inj hdr
   subst hde hdx
   clear hdr hD
   have k0 : w4.cell? ⟨g4, 0, none⟩ = some (.int .i64 x.kind) := Blk.cell HXC.out 0
   by_cases hk : x.kind = kind
   ·have HL : Hid (lookK G id kind lacks = (x, 0)) := by
     show _ = _
     rw [HLK.out]
     show (if x.kind ≠ kind then (zero, (22 : Int)) else (x, 0)) = _
     rw [if_neg (by simp [hk])]
    have q1 : (x.kind != kind) = false := by simp [hk]
    have q2 : (x.kind == kind) = true := by simp [hk]
    have k1 : w4.cell? ⟨g4, 1, none⟩ = some (.string x.data) := Blk.cell HXC.out 1
    have k2 : w4.cell? ⟨g4, 2, none⟩ = some (.slice ea en ec) := Blk.cell HXC.out 2
    have k3 : w4.cell? ⟨g4, 3, none⟩ = some (.string x.tree) := Blk.cell HXC.out 3
    have k4 : w4.cell? ⟨g4, 4, none⟩ = some (.slice pa pn pc) := Blk.cell HXC.out 4
    have k5 : w4.cell? ⟨g4, 5, none⟩ = some (.int .i64 x.height) := Blk.cell HXC.out 5
    have k6 : w4.cell? ⟨g4, 6, none⟩ = some (.string x.note) := Blk.cell HXC.out 6
    obtain ⟨wz, hwz⟩ : ∃ wz, w4.setRow g (obCs x (.slice ea en ec) (.slice pa pn pc)) = wz := ⟨_, rfl⟩
    have HBZ : Hid (Blk wz g 98 (obCs x (.slice ea en ec) (.slice pa pn pc))) := by rw [← hwz]; exact setRow_heap _ _ _ _ _ _ HZC.out
    have HLZ : Hid (Below g w wz) := by rw [← hwz]; exact below_setRow HB4.out (Nat.le_refl _) _
    have HOZ : Hid (ObAt wz (.slice ea en ec) (.slice pa pn pc) x) := by rw [← hwz]; exact HO4.out.far (fun k hk => by have := HF3.out k (.inl hk); omega) (fun k hk => by have := HF3.out k (.inr hk); omega) _
    have HWZ := hid hwz
    clear hwz HLK hk
    go_wp2_with (first
     | (refine wpList_store_row rfl _ (.tmp 8) (.tmp 40) rfl g (obCs x (.slice ea en ec) (.slice pa pn pc)) rfl rfl 98 (obCs zero (.slice none 0 0) (.slice none 0 0)) HZC.out (Tryz.infoObj _ _ _) rfl (obcs_one _ _ _ _ _ _ _) ?_; rw [HWZ.out]))
    go_wp2_with fail
    refine bodyPost_ret (v := .tuple #[.agg (obCs x (.slice ea en ec) (.slice pa pn pc)), .int .i64 0]) ?hr3 rfl ⟨.slice ea en ec, .slice pa pn pc, ?_, ?_, ?_, fun k hk => by rw [HG.out]; exact Nat.le_of_lt (HF3.out k hk)⟩
    case hr3 => exact look_results _ g 0 x _ _ wz rfl rfl HBZ.out
    ·rw [HL.out]
    ·rw [HL.out]; exact HOZ.out
    ·rw [HG.out]; exact HLZ.out
   ·have HL : Hid (lookK G id kind lacks = (zero, 22)) := by
     show _ = _
     rw [HLK.out]
     show (if x.kind ≠ kind then (zero, (22 : Int)) else (x, 0)) = _
     rw [if_pos hk]
    have q1 : (x.kind != kind) = true := by simp [hk]
    have q2 : (x.kind == kind) = false := by simp [hk]
    obtain ⟨wz, hwz⟩ : ∃ wz, w4.setRow g (obCs zero (.slice none 0 0) (.slice none 0 0)) = wz := ⟨_, rfl⟩
    have HBZ : Hid (Blk wz g 98 (obCs zero (.slice none 0 0) (.slice none 0 0))) := by rw [← hwz]; exact setRow_heap _ _ _ _ _ _ HZC.out
    have HLZ : Hid (Below g w wz) := by rw [← hwz]; exact below_setRow HB4.out (Nat.le_refl _) _
    have HWZ := hid hwz
    clear hwz HLK hk
    go_wp2_with (first
     | (refine wpList_store_row rfl _ (.tmp 8) (.tmp 39) rfl g (obCs zero (.slice none 0 0) (.slice none 0 0)) rfl rfl 98 (obCs zero (.slice none 0 0) (.slice none 0 0)) HZC.out (Tryz.infoObj _ _ _) rfl (obcs_one _ _ _ _ _ _ _) ?_; rw [HWZ.out]))
    go_wp2_with fail
    refine bodyPost_ret (v := .tuple #[.agg (obCs zero (.slice none 0 0) (.slice none 0 0)), .int .i64 22]) ?hr4 rfl ⟨.slice none 0 0, .slice none 0 0, ?_, ?_, ?_, fun k hk => by simp [Value.ownBlock] at hk⟩
    case hr4 => exact look_results _ g 22 zero _ _ wz rfl rfl HBZ.out
    ·rw [HL.out]
    ·rw [HL.out]; exact zero_at _
    ·rw [HG.out]; exact HLZ.out
end Go.Proofs.YtmpjdoiogbbcoaaGreatDoor
