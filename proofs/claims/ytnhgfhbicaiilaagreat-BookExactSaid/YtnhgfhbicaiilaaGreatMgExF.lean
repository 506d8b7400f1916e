/- Texts in a row: BkMid, RfA, RfB, RfC, RefA, RefB, RefC, RefD, RefE, RefF, RefG, RefH. -/
import Derived.Test.YtnhgfhbicaiilaaGreatMgExE
import Derived.Maps.AppendAt
import Derived.Deep.DeepCutAuto
import Derived.Deep.CutBlock
import Derived.StillTailTactics
import Derived.Deep.RegionHeld3
import Derived.Deep.DrawnRows
/- Where a law stands between its deeds: a book over a disk, and lists of deeds of its own. -/
namespace Go.Proofs.YtnhgfhbicaiilaaGreat
open Go.RowKit Book Reel
set_option linter.unusedVariables false

def Grew (K : Nat → Prop) (w w' : World) : Nat → Prop := fun k => K k ∨ (w.heap.size ≤ k ∧ k < w'.heap.size)
theorem DK.more2 {K G : Nat → Prop} {w w' : World} {p : Nat} {S : St} (h : DK K w p S) (ho : Only G w w') (hG : ∀ k, G k → K k) : DK (Grew K w w') w' p S := by
  obtain ⟨F, h1, h2, h3⟩ := h
  refine ⟨F, h1.only ho (fun k hk hg => h2 k hk (hG k hg)), fun k hk e => ?_, fun k hk => ?_⟩
  · rcases e with e | e
    · exact h2 k hk e
    · have := h1.1 k hk; omega
  · rcases hk with e | e
    · exact Nat.lt_of_lt_of_le (h3 k e) ho.size
    · exact e.2
structure Mid (B : Nat) (w0 wx : World) (p b : Nat) (K : Nat → Prop) (S : St) (n life : Nat) (dead : Bool) : Prop where
  on : BkOn K wx p b S J life dead
  fits : S.Fits n
  low : ∀ k, k < B → K k
  bb : B ≤ b
  bel : Below B w0 wx
  size : B ≤ wx.heap.size
def Wanted (B : Nat) (w0 wx : World) (K : Nat → Prop) (v : Value) (L : List (List ByteArray)) : Prop := Want w0 wx B v L ∧ ∀ k, v.ownBlock = some k → K k
theorem want_only {F : Nat → Prop} {w0 w w' : World} {B : Nat} {v : Value} {L : List (List ByteArray)} (h : Want w0 w B v L) (ho : Only F w w') (hf : ∀ k, v.ownBlock = some k → ¬ F k) : Want w0 w' B v L := by
  obtain ⟨vs, h1, h2⟩ := h
  exact ⟨vs, own_only h1 ho hf, h2⟩
section
variable {B n m life life' p b b' : Nat} {w0 wx w' : World} {K K' G : Nat → Prop} {S S' : St} {dead dead' : Bool} {v v' : Value} {L : List (List ByteArray)}
theorem Mid.step (h : Mid B w0 wx p b K S n life dead) (ho : Only G wx w') (hG : ∀ k, G k → K k ∧ B ≤ k ∧ k ≠ b) : Mid B w0 w' p b (Grew K wx w') S n life dead :=
  ⟨⟨h.on.disk.more2 ho (fun k hk => (hG k hk).1), Blk.only h.on.book ho (fun e => (hG b e).2.2 rfl), .inl h.on.kb⟩, h.fits, fun k hk => .inl (h.low k hk), h.bb, h.bel.trans (ho.below (fun k hk => (hG k hk).2.1) h.size), Nat.le_trans h.size ho.size⟩
theorem Mid.alloc (h : Mid B w0 wx p b K S n life dead) (o : Obj) : Mid B w0 (wx.alloc o) p b (Grew K wx (wx.alloc o)) S n life dead :=
  h.step (G := NoF) ((Only.refl _ _).alloc o) (fun k e => e.elim)
theorem Mid.deed (h : Mid B w0 wx p b K S n life dead) (he : BkOn K w' p b S' J life' dead') (ho : Only (fun k => ¬ K k ∨ k = b) wx w') (hf : S'.Fits m) : Mid B w0 w' p b K S' m life' dead' :=
  ⟨he, hf, h.low, h.bb, Only.low h.bel h.size ho h.low h.bb, Nat.le_trans h.size ho.size⟩
theorem Mid.opened (h : Mid B w0 wx p b K S n life dead) (hd : DK (fun k => K k ∨ G k) w' p S') (hbk : BookAt w' b' p J life' dead') (hG : ∀ k, G k → wx.heap.size ≤ k ∧ k < w'.heap.size) (hb : G b') (ho : Only (fun k => ¬ K k) wx w') (hf : S'.Fits m) : Mid B w0 w' p b' (fun k => K k ∨ G k) S' m life' dead' :=
  ⟨⟨hd, hbk, .inr hb⟩, hf, fun k hk => .inl (h.low k hk), Nat.le_trans h.size (hG _ hb).1, Only.low1 h.bel h.size ho h.low, Nat.le_trans h.size ho.size⟩
theorem Wanted.only (h : Wanted B w0 wx K v L) (ho : Only G wx w') (hG : ∀ k, v.ownBlock = some k → ¬ G k) (hK : ∀ k, K k → K' k) : Wanted B w0 w' K' v L :=
  ⟨want_only h.1 ho hG, fun k hk => hK k (h.2 k hk)⟩
theorem Wanted.alloc (h : Wanted B w0 wx K v L) (o : Obj) : Wanted B w0 (wx.alloc o) (Grew K wx (wx.alloc o)) v L :=
  h.only (G := NoF) ((Only.refl _ _).alloc o) (fun k _ e => e) (fun k hk => .inl hk)
theorem Wanted.deed (h : Wanted B w0 wx K v L) (hb : BookAt wx b p J life dead) (ho : Only (fun k => ¬ K k ∨ k = b) wx w') : Wanted B w0 w' K v L :=
  h.only ho (fun k hk e => e.elim (fun e => e (h.2 k hk)) (fun e => by
    obtain ⟨vs, h1, h2⟩ := h.1
    exact own_blk_ne h1 hb (by decide) (by rw [hk, e]))) (fun k hk => hk)
theorem Wanted.opened (h : Wanted B w0 wx K v L) (ho : Only (fun k => ¬ K k) wx w') : Wanted B w0 w' (fun k => K k ∨ G k) v L :=
  h.only ho (fun k hk e => e (h.2 k hk)) (fun k hk => .inl hk)
/-- an empty list of its own, made anew -/
theorem Wanted.made (hB : B ≤ wx.heap.size) (u : Value) (hu : u.oneCell' = true) : Wanted B w0 (wx.alloc (.cells #[] 36)) (Grew K wx (wx.alloc (.cells #[] 36))) (.slice (some ⟨wx.heap.size, 0, none⟩) 0 0) [] := by
  refine ⟨⟨[], own_low (World.ownsRow_made _ _ 0 (Nat.le_refl _) (by unfold maxLen; omega) rfl) (fun k e => ?_), fun j h => by cases h⟩, fun k e => ?_⟩
  · simp only [Value.ownBlock, Option.some.injEq] at e
    omega
  · simp only [Value.ownBlock, Option.some.injEq] at e
    exact .inr ⟨by omega, by rw [← e]; simp⟩
/-- one deed more -/
theorem Mid.pushed {o : Obj} {vs : List Value} (h : Mid B w0 wx p b K S n life dead) (hK : ∀ k, v.ownBlock = some k → K k) (hv : wx.ownsRow B 36 1 v L.length vs) (hg : (wx.alloc o).grownBy w' v.ownBlock) : Mid B w0 w' p b (Grew K wx w') S n life dead := by
  have hon : Only (fun k => v.ownBlock = some k) wx w' := ((Only.refl _ wx).alloc o).grown hg (fun k e => .inl e)
  refine h.step hon (fun k hk => ⟨hK k hk, (hv.lt k hk).1, fun e => ?_⟩)
  subst e
  exact own_blk_ne hv h.on.book (by decide) hk
theorem Wanted.pushed {o : Obj} {vs : List Value} {rs : List ByteArray} {a : Option Addr} {c : Nat} (h : Wanted B w0 wx K v L) (h2 : ∀ j (h : j < L.length), ∃ a c, vs[j]? = some (.slice a L[j].length c) ∧ StrsAt w0 a L[j].length L[j]) (hv : wx.ownsRow B 36 1 v L.length vs) (hr : StrsAt w0 a rs.length rs)
    (ho : w'.ownsRow B 36 1 v' (L.length + 1) (vs ++ [.slice a rs.length c])) (hg : (wx.alloc o).grownBy w' v.ownBlock) (hat : v'.ownBlock = v.ownBlock ∨ v'.ownBlock = some (wx.alloc o).heap.size) : Wanted B w0 w' (Grew K wx w') v' (L ++ [rs]) := by
  refine ⟨want_push (by have := hv.1; omega) h2 hr ho, fun k hk => ?_⟩
  rcases hat with e | e
  · exact .inl (h.2 k (by rw [← e]; exact hk))
  · rw [e] at hk
    simp only [Option.some.injEq] at hk
    refine .inr ⟨by rw [← hk]; simp, ?_⟩
    exact own_lt ho (by rw [e, ← hk])
end
theorem deeds_get {w : World} {a : Option Addr} {n : Nat} (h : DeedsAt w a n) {j : Nat} (hj : j < n) : ∃ b off ra rn rc rs rw, a = some ⟨b, off, none⟩ ∧ b < w.heap.size ∧ DeedAt w b (off + j * 2) ra rn rc rs rw := by
  obtain ⟨b, off, ha, hc⟩ := h.2.resolve_left (by omega)
  obtain ⟨ra, rn, rc, rs, rw, hd⟩ := hc j hj
  exact ⟨b, off, ra, rn, rc, rs, rw, ha, World.block_lt_of_cell? w _ hd.1, hd⟩
theorem wanted_slice {B : Nat} {w0 wx : World} {K : Nat → Prop} {v : Value} {L : List (List ByteArray)} (h : Wanted B w0 wx K v L) : ∃ a c, v = .slice a L.length c := by
  obtain ⟨vs, h1, -⟩ := h.1
  obtain ⟨a, c, e, -⟩ := own_slice h1
  exact ⟨a, c, e⟩
theorem same_self {G G' : Nat → Prop} {a a' : Option Addr} {c c' : Nat} (L : List (List ByteArray)) (w : World) (h : GridIn G w a L.length L) (h' : GridIn G' w a' L.length L) :
    Calls Tryz.prog 14 #[.slice a L.length c, .slice a' L.length c'] w fun e w' => e = .returned (.bool true) ∧ Below w.heap.size w w' :=
  (same_any _ _ _ _ _ _ L L w h h').mono fun e w' ⟨h1, h2⟩ => ⟨by rw [h1]; simp, h2⟩
end Go.Proofs.YtnhgfhbicaiilaaGreat
/- The reference's numbers, texts, reader and check (layers 1 and 4). -/
namespace Go.Proofs.YtnhgfhbicaiilaaGreat
open Go.RowKit Book
set_option linter.unusedVariables false

/-! the check, bit by bit -/
theorem bit1_xor (a b : Nat) : bit1 (a ^^^ b) = bit1 a ^^^ bit1 b := by
  unfold bit1
  have h := div_xor a b 1
  rw [show 2 ^ 1 = 2 from rfl] at h
  rw [h]
  have hp := Nat.xor_mod_two_pow (a := a) (b := b) (n := 1)
  rw [show 2 ^ 1 = 2 from rfl] at hp
  rw [hp]
  obtain ⟨A, hA⟩ : ∃ A, a / 2 = A := ⟨_, rfl⟩
  obtain ⟨C, hC⟩ : ∃ C, b / 2 = C := ⟨_, rfl⟩
  rw [hA, hC]
  rcases Nat.mod_two_eq_zero_or_one a with ha | ha <;> rcases Nat.mod_two_eq_zero_or_one b with hb | hb <;> rw [ha, hb]
  · show (A ^^^ C) ^^^ 0 = (A ^^^ 0) ^^^ (C ^^^ 0)
    simp
  · show (A ^^^ C) ^^^ poly = (A ^^^ 0) ^^^ (C ^^^ poly)
    rw [Nat.xor_zero, Nat.xor_assoc]
  · show (A ^^^ C) ^^^ poly = (A ^^^ poly) ^^^ (C ^^^ 0)
    rw [Nat.xor_zero, Nat.xor_assoc, Nat.xor_assoc, Nat.xor_comm C]
  · show (A ^^^ C) ^^^ 0 = (A ^^^ poly) ^^^ (C ^^^ poly)
    rw [Nat.xor_zero, Nat.xor_assoc A poly, Nat.xor_comm C, ← Nat.xor_assoc poly, Nat.xor_self, Nat.zero_xor]
theorem bit1_even (y : Nat) : bit1 (2 * y) = y := by
  unfold bit1
  rw [if_neg (by omega), Nat.xor_zero]
  omega
theorem bit4_xor (a b : Nat) : bit4 (a ^^^ b) = bit4 a ^^^ bit4 b := by unfold bit4; rw [bit1_xor, bit1_xor, bit1_xor, bit1_xor]
theorem bit4_even (y : Nat) : bit4 (16 * y) = y := by
  unfold bit4
  rw [show 16 * y = 2 * (2 * (2 * (2 * y))) by omega, bit1_even, bit1_even, bit1_even, bit1_even]
theorem bit4_half (x : Nat) : bit4 x = half x := by
  have hx : x = 16 * (x / 16) ^^^ x % 16 := by
    obtain ⟨y, hy⟩ : ∃ y, 16 * (x / 16) ^^^ x % 16 = y := ⟨_, rfl⟩
    have h1 : y / 16 = x / 16 := by
      have := div_xor (16 * (x / 16)) (x % 16) 4
      rw [show 2 ^ 4 = 16 from rfl, hy, show 16 * (x / 16) / 16 = x / 16 by omega, show x % 16 / 16 = 0 by omega, Nat.xor_zero] at this
      exact this
    have h2 : y % 16 = x % 16 := by
      have := Nat.xor_mod_two_pow (a := 16 * (x / 16)) (b := x % 16) (n := 4)
      rw [show 2 ^ 4 = 16 from rfl, hy, show 16 * (x / 16) % 16 = 0 by omega, show x % 16 % 16 = x % 16 by omega, Nat.zero_xor] at this
      exact this
    omega
  unfold half tab
  rw [and15]
  conv => lhs; rw [hx, bit4_xor, bit4_even]
theorem bit8_step (c : Nat) (b : UInt8) : bit4 (bit4 (c ^^^ b.toNat)) = crcStep c b := by rw [bit4_half, bit4_half]; rfl
theorem rcrc_go (c : Nat) (hc : c < 4294967296) : bits .xor .u32 ((c : Int) / 2) 2197175160 = ((c / 2 ^^^ poly : Nat) : Int) := by
  have e : ((c : Int) / 2) = ((c / 2 : Nat) : Int) := by omega
  rw [e]
  exact u32_xor_nat (c / 2) poly (by omega) (by unfold poly; omega)
def bN : Nat → Nat → Nat
  | 0, x => x
  | n + 1, x => bit1 (bN n x)
theorem bN_lt : ∀ (n x : Nat), x < 4294967296 → bN n x < 4294967296
  | 0, _, h => h
  | n + 1, x, h => bit1_lt (bN_lt n x h)
theorem bN8 (c : Nat) (b : UInt8) : bN 8 (c ^^^ b.toNat) = crcStep c b := bit8_step c b
set_option maxRecDepth 100000 in
set_option maxHeartbeats 4000000 in
theorem rmore_any (sum : Nat) (s : ByteArray) (w : World) (hsum : sum < 4294967296) (hs : s.size ≤ 9223372036854775807) : Calls Tryz.prog 107 #[.int .u32 sum, .string s] w fun e w' => e = .returned (.int .u32 (crcMore sum s.data.toList)) ∧ w = w' := by
  have hn : bits .xor .u32 IntKind.u32.max (sum : Int) = ((not32 sum : Nat) : Int) := u32_xor_nat 4294967295 sum (by omega) hsum
  have hc0 := not32_lt hsum
  have HMORE : Hid (crcMore sum s.data.toList = not32 (s.data.toList.foldl crcStep (not32 sum))) := rfl
  obtain ⟨R, hR⟩ : ∃ R, crcMore sum s.data.toList = R := ⟨_, rfl⟩
  rw [hR] at HMORE ⊢
  obtain ⟨c0, hcc⟩ : ∃ c0, not32 sum = c0 := ⟨_, rfl⟩
  rw [hcc] at hn hc0 HMORE
  clear hcc hR
  go_enter Tryz.func107, Tryz.ntmps107
  go_wp2
  clear hn
  have hlen : s.data.toList.length = s.size := by rw [Array.length_toList]; rfl
  have HLEN := hid hlen
  clear hlen
  go_loop [5, 6] (fun cv kv => ∃ k : Nat, k ≤ s.size ∧ kv = .int .i64 k ∧ cv = .int .u32 (((s.data.toList.take k).foldl crcStep c0 : Nat) : Int)) (fun _ kv => s.size - (intOf kv).toNat)
  case atStart => exact ⟨0, by omega, rfl, rfl⟩
  case round =>
    obtain ⟨k, hk, rfl, rfl⟩ := hrel
    by_cases hlt : k < s.size
    · have ck : (k : Int) < s.size := by omega
      have ck0 : (0 : Int) ≤ (k : Int) := by omega
      obtain ⟨b, hbb⟩ : ∃ b, s[k] = b := ⟨_, rfl⟩
      have HE : Hid ((s.data.toList.take (k + 1)).foldl crcStep c0 = crcStep ((s.data.toList.take k).foldl crcStep c0) b) := by
        show _ = _
        have hkl : k < s.data.toList.length := by rw [HLEN.out]; exact hlt
        rw [List.take_succ_eq_append_getElem hkl, List.foldl_append]
        have : s.data.toList[k] = b := by rw [← hbb]; rfl
        rw [this]; rfl
      have hq := fold_lt (s.data.toList.take k) c0 hc0
      obtain ⟨q, hqq⟩ : ∃ q, (s.data.toList.take k).foldl crcStep c0 = q := ⟨_, rfl⟩
      rw [hqq] at HE hq ⊢
      have hx : bits .xor .u32 (q : Int) (b.toNat : Int) = ((q ^^^ b.toNat : Nat) : Int) := u32_xor_nat q b.toNat hq (by have := b.toNat_lt; omega)
      have hd : q ^^^ b.toNat < 4294967296 := xor_lt 32 hq (by have := b.toNat_lt; omega)
      have H8 := hid (bN8 q b)
      obtain ⟨d, hdd⟩ : ∃ d, q ^^^ b.toNat = d := ⟨_, rfl⟩
      rw [hdd] at hx hd H8
      clear hqq hdd
      have ew : IntKind.u32.wrap (b.toNat : Int) = b.toNat := by have := b.toNat_lt; rw [IntKind.wrap_u32]; omega
      go_wp2
      clear hx
      go_loop [5, 7] (fun cv jv => ∃ j : Nat, j ≤ 8 ∧ jv = .int .i64 j ∧ cv = .int .u32 ((bN j d : Nat) : Int)) (fun _ jv => 8 - (intOf jv).toNat)
      case atStart => exact ⟨0, by omega, rfl, rfl⟩
      case round =>
        obtain ⟨j, hj, rfl, rfl⟩ := hrel
        by_cases hj8 : j < 8
        · have cj : (j : Int) < 8 := by omega
          have hz := bN_lt j d hd
          have HN1 : Hid (bN (j + 1) d = bit1 (bN j d)) := rfl
          obtain ⟨z, hzz⟩ : ∃ z, bN j d = z := ⟨_, rfl⟩
          rw [hzz] at hz HN1 ⊢
          clear hzz
          by_cases ho : z % 2 = 1
          · have h1 : (((z : Int) % 2) == 1) = true := by simp; omega
            have h2 := rcrc_go z hz
            have HB : Hid (bit1 z = z / 2 ^^^ poly) := by show _ = _; unfold bit1; rw [if_pos ho]
            clear ho
            go_wp2
            go_round
            case rel => exact ⟨j + 1, by omega, by go_num, by rw [HN1.out, HB.out]⟩
            case measure => simp [intOf]; omega
          · have h1 : (((z : Int) % 2) == 1) = false := by rw [beq_eq_false_iff_ne]; omega
            have HB : Hid (bit1 z = z / 2) := by show _ = _; unfold bit1; rw [if_neg ho, Nat.xor_zero]
            clear ho
            go_wp2
            go_round
            case rel => exact ⟨j + 1, by omega, by go_num, by rw [HN1.out, HB.out]; simp⟩
            case measure => simp [intOf]; omega
        · obtain rfl : j = 8 := by omega
          have h8 : bN 8 d = crcStep q b := H8.out
          rw [h8]
          clear H8 h8
          go_wp2
          go_round
          case rel => exact ⟨k + 1, by omega, by go_num, by rw [HE.out]⟩
          case measure => simp [intOf]; omega
    · obtain rfl : k = s.size := by omega
      have ck : ¬ (s.size : Int) < s.size := by omega
      have ht : s.data.toList.take s.size = s.data.toList := List.take_of_length_le (by rw [HLEN.out]; exact Nat.le_refl _)
      rw [ht]
      clear ht
      have hq := fold_lt s.data.toList c0 hc0
      have HQ : Hid (R = not32 (s.data.toList.foldl crcStep c0)) := HMORE.out
      obtain ⟨q, hqq⟩ : ∃ q, s.data.toList.foldl crcStep c0 = q := ⟨_, rfl⟩
      rw [hqq] at hq HQ ⊢
      clear hqq HMORE
      have hn : bits .xor .u32 IntKind.u32.max (q : Int) = ((not32 q : Nat) : Int) := u32_xor_nat 4294967295 q (by omega) hq
      go_wp2
      go_ret
      exact ⟨ret_int (by rw [HQ.out]), rfl⟩
theorem rsum_any (s : ByteArray) (w : World) (hs : s.size ≤ 9223372036854775807) : Calls Tryz.prog 88 #[.string s] w fun e w' => e = .returned (.int .u32 (crcP s.data.toList)) ∧ w = w' := by
  have HM := hid (rmore_any 0 s w (by omega) hs)
  obtain ⟨c, hc⟩ : ∃ c, crcMore 0 s.data.toList = c := ⟨_, rfl⟩
  rw [hc] at HM
  have HC : Hid (c = crcP s.data.toList) := hc.symm
  clear hc
  go_enter Tryz.func88, Tryz.ntmps88
  go_wp2_with (go_at_call 107; refine HM.out.mono ?_; rintro e w1 ⟨rfl, rfl⟩)
  go_ret
  exact ⟨ret_int (by rw [HC.out]), rfl⟩
set_option maxRecDepth 100000 in
set_option maxHeartbeats 4000000 in
theorem rnumw_any (n : Nat) (hn : n < 4294967296) (w : World) : Calls Tryz.prog 93 #[.int .u32 n] w fun e w' => e = .returned (.string (bx (numL n))) ∧ Below w.heap.size w w' := by
  have hconv : (convert 77 9 (.slice (some ⟨w.heap.size, 0, none⟩) 4 4)).run Tryz.prog (w.alloc (.cells #[.int .u8 ((n : Int) % 256), .int .u8 ((n : Int) / 256 % 256), .int .u8 ((n : Int) / 65536 % 256), .int .u8 ((n : Int) / 16777216)] 5)) = .ok (.string (bx (numL n))) (w.alloc (.cells #[.int .u8 ((n : Int) % 256), .int .u8 ((n : Int) / 256 % 256), .int .u8 ((n : Int) / 65536 % 256), .int .u8 ((n : Int) / 16777216)] 5)) := by
    have hb := Blk.new w 5 #[.int .u8 ((n : Int) % 256), .int .u8 ((n : Int) / 256 % 256), .int .u8 ((n : Int) / 65536 % 256), .int .u8 ((n : Int) / 16777216)]
    refine run_convert_bytes_back _ _ _ _ _ 4 (numL n) Tryz.underlying77 Tryz.underlying5 Tryz.underlying9 ?_
    intro j hj
    have hj4 : j < 4 := hj
    have ha : (⟨w.heap.size, 0, none⟩ : Addr).add j = ⟨w.heap.size, j, none⟩ := by unfold Addr.add; split <;> simp_all
    rw [ha, hb.cell]
    obtain rfl | rfl | rfl | rfl : j = 0 ∨ j = 1 ∨ j = 2 ∨ j = 3 := by omega
    · show some (Value.int .u8 ((n : Int) % 256)) = some (.int .u8 (((UInt8.ofNat n).toNat : Nat) : Int)); rw [UInt8.toNat_ofNat']; rfl
    · show some (Value.int .u8 ((n : Int) / 256 % 256)) = some (.int .u8 (((UInt8.ofNat (n / 256)).toNat : Nat) : Int)); rw [UInt8.toNat_ofNat']; rfl
    · show some (Value.int .u8 ((n : Int) / 65536 % 256)) = some (.int .u8 (((UInt8.ofNat (n / 65536)).toNat : Nat) : Int)); rw [UInt8.toNat_ofNat']; rfl
    · show some (Value.int .u8 ((n : Int) / 16777216)) = some (.int .u8 (((UInt8.ofNat (n / 16777216)).toNat : Nat) : Int)); rw [UInt8.toNat_ofNat', Nat.mod_eq_of_lt (by omega)]; rfl
  go_enter Tryz.func93, Tryz.ntmps93
  go_wp2
  go_ret
  exact ⟨rfl, (Below.refl _ _).alloc (Nat.le_refl _) _⟩
theorem rtextw_any (s : ByteArray) (hs : s.size ≤ 2147483648) (w : World) : Calls Tryz.prog 115 #[.string s] w fun e w' => e = .returned (.string (bx (textL s.data.toList))) ∧ Below w.heap.size w w' := by
  have HN := hid (rnumw_any s.size (by omega) w)
  have hl : s.data.toList.length = s.size := by rw [Array.length_toList]; rfl
  have HR : Hid (bx (numL s.size) ++ s = bx (textL s.data.toList)) := by
    show bx (numL s.size) ++ s = bx (textL s.data.toList)
    conv => lhs; rw [← bx_back s, bx_append]
    unfold textL; rw [hl, bx_back]
  have ew : IntKind.u32.wrap (s.size : Int) = s.size := by rw [IntKind.wrap_u32]; omega
  obtain ⟨y, hy⟩ : ∃ y, bx (numL s.size) = y := ⟨_, rfl⟩
  have hys : y.size ≤ 4 := by rw [← hy]; exact Nat.le_of_eq (bx_size _)
  rw [hy] at HN HR
  have hcat : ¬ 9223372036854775807 < y.size + s.size := by omega
  rw [← HR.out]
  clear hl hy
  go_enter Tryz.func115, Tryz.ntmps115
  go_wp2_with (go_at_call 93; refine HN.out.mono ?_; rintro e w1 ⟨rfl, hs⟩; have H1 := hid hs; clear hs)
  go_ret
  exact ⟨rfl, H1.out⟩
theorem bx_mid (l : List UInt8) (k n : Nat) (h : k + n ≤ l.length) : (bx l).extract k (k + n) = bx ((l.drop k).take n) := by
  apply ba_ext
  rw [bx_list, ByteArray.data_extract, Array.toList_extract, bx_list, List.extract_eq_take_drop]
  rw [Nat.add_sub_cancel_left]
/-- the reference's reader in memory: what it has read, and what is left -/
def RrAt (w : World) (b : Nat) (S : List UInt8) (r : Rd) : Prop := ∃ k : Nat, Blk w b 111 #[.string (bx S), .int .i64 k, .bool r.bad] ∧ k ≤ S.length ∧ (r.bad = false → r.rest = S.drop k)
section
variable {w w' : World} {b : Nat} {S : List UInt8} {r : Rd} {F : Nat → Prop}
theorem RrAt.only (h : RrAt w b S r) (ho : Only F w w') (hb : ¬ F b) : RrAt w' b S r := by
  obtain ⟨k, h1, h2⟩ := h
  exact ⟨k, Blk.only h1 ho hb, h2⟩
theorem rrnew_any (s : ByteArray) (w : World) : Calls Tryz.prog 85 #[.string s] w fun e w' => e = .returned (.pointer (some ⟨w.heap.size, 0, none⟩)) ∧ RrAt w' w.heap.size s.data.toList (newR s.data.toList) ∧ Below w.heap.size w w' := by
  go_enter Tryz.func85, Tryz.ntmps85
  go_wp2
  go_ret
  refine ⟨rfl, ⟨0, ?_, Nat.zero_le _, fun _ => rfl⟩, (Below.refl _ _).alloc (Nat.le_refl _) _⟩
  have := Blk.new w 111 #[.string s, .int .i64 0, .bool false]
  rw [bx_back]; exact this
theorem rrtake_any (n : Nat) (h : RrAt w b S r) (hr : S.length ≤ 1000000000000) (hn : n ≤ 4294967296) : Calls Tryz.prog 87 #[.pointer (some ⟨b, 0, none⟩), .int .i64 n] w fun e w' => e = .returned (.string (bx (takeR r n).1)) ∧ RrAt w' b S (takeR r n).2 ∧ Only (· = b) w w' := by
  obtain ⟨k, hb, hk, hrest⟩ := h
  obtain ⟨rest, bad⟩ := r
  have f1 := hb.frozen 1
  have f2 := hb.frozen 2
  simp only at hrest
  have hz := bx_size S
  obtain ⟨y, hy⟩ : ∃ y, bx S = y := ⟨_, rfl⟩
  rw [hy] at hz hb
  have c0 : w.cell? ⟨b, 0, none⟩ = some (.string y) := hb.cell 0
  have c1 : w.cell? ⟨b, 1, none⟩ = some (.int .i64 k) := hb.cell 1
  have c2 : w.cell? ⟨b, 2, none⟩ = some (.bool bad) := hb.cell 2
  have hn0 : ¬ ((n : Int) < 0) := by omega
  have SPOIL : Hid (∀ q, RrAt ((w.drewN q).setCell ⟨b, 2, none⟩ (.bool true)) b S ⟨[], true⟩ ∧ Only (· = b) w ((w.drewN q).setCell ⟨b, 2, none⟩ (.bool true))) := fun q => by
    refine ⟨⟨k, ?_, hk, fun e => by cases e⟩, ((Only.refl (· = b) w).drewN q).setCell (p := ⟨b, 2, none⟩) (.inl rfl) _⟩
    rw [hy]
    have := Blk.set (Blk.drewN hb q) 2 (.bool true)
    simpa using this
  have hnb : decide ((n : Int) < 0) = false := by simp
  have HZ := hid hz
  cases bad
  · by_cases hgt : rest.length < n
    · have e : takeR ⟨rest, false⟩ n = ([], ⟨[], true⟩) := by unfold takeR; exact if_pos (.inr hgt)
      rw [e]
      show Calls _ _ _ _ fun e w' => e = .returned (.string ⟨#[]⟩) ∧ _
      have hg : (y.size : Int) - k < n := by
        have := hrest rfl
        rw [this, List.length_drop] at hgt
        omega
      have ew : IntKind.i64.wrap ((y.size : Int) - k) = (y.size : Int) - k := by rw [IntKind.wrap_i64]; omega
      have hgd : decide ((y.size : Int) - k < n) = true := by simpa using hg
      clear hb hrest e hgt hy hz
      go_enter Tryz.func87, Tryz.ntmps87
      go_wp2
      go_quiet (fail)
      go_wp2
      go_ret
      exact ⟨rfl, (SPOIL.out _).1, (SPOIL.out _).2⟩
    · have e : takeR ⟨rest, false⟩ n = (rest.take n, ⟨rest.drop n, false⟩) := by unfold takeR; exact if_neg (by simp; omega)
      rw [e]
      have hre := hrest rfl
      have hln : k + n ≤ S.length := by rw [hre, List.length_drop] at hgt; omega
      have HY : Hid (y.extract k (k + n) = bx (rest.take n)) := by
        show _ = _
        rw [← hy, hre]; exact bx_mid S k n hln
      have hg : ¬ (y.size : Int) - k < n := by omega
      have ew : IntKind.i64.wrap ((y.size : Int) - k) = (y.size : Int) - k := by rw [IntKind.wrap_i64]; omega
      have hgd : decide ((y.size : Int) - k < n) = false := by simp; omega
      have g1 : (0 : Int) ≤ (k : Int) := by omega
      have g2 : (k : Int) ≤ (k : Int) + n := by omega
      have g3 : (k : Int) + n ≤ (y.size : Int) := by omega
      have FIN : Hid (∀ q, RrAt ((w.drewN q).setCell ⟨b, 1, none⟩ (.int .i64 ((k : Int) + n))) b S ⟨rest.drop n, false⟩ ∧ Only (· = b) w ((w.drewN q).setCell ⟨b, 1, none⟩ (.int .i64 ((k : Int) + n)))) := fun q => by
        refine ⟨⟨k + n, ?_, hln, fun _ => ?_⟩, ((Only.refl (· = b) w).drewN q).setCell (p := ⟨b, 1, none⟩) (.inl rfl) _⟩
        · rw [hy]
          have := Blk.set (Blk.drewN hb q) 1 (.int .i64 ((k : Int) + n))
          simpa using this
        · rw [hre, List.drop_drop]
      rw [← HY.out]
      clear hb hrest e hgt hy hre hln hz
      go_enter Tryz.func87, Tryz.ntmps87
      go_wp2
      go_quiet (fail)
      go_wp2
      go_quiet (fail)
      go_wp2
      go_ret
      exact ⟨rfl, (FIN.out _).1, (FIN.out _).2⟩
  · have e : takeR ⟨rest, true⟩ n = ([], ⟨[], true⟩) := by unfold takeR; exact if_pos (.inl rfl)
    rw [e]
    show Calls _ _ _ _ fun e w' => e = .returned (.string ⟨#[]⟩) ∧ _
    clear hb hrest e hy
    go_enter Tryz.func87, Tryz.ntmps87
    go_wp2
    go_quiet (fail)
    go_wp2
    go_ret
    exact ⟨rfl, (SPOIL.out _).1, (SPOIL.out _).2⟩
theorem RrAt.bad_cell (h : RrAt w b S r) : w.cell? ⟨b, 2, none⟩ = some (.bool r.bad) := by
  obtain ⟨k, h1, -⟩ := h
  exact h1.cell 2
set_option maxRecDepth 100000 in
theorem rrnum_any (h : RrAt w b S r) (hr : S.length ≤ 1000000000000) : Calls Tryz.prog 86 #[.pointer (some ⟨b, 0, none⟩)] w fun e w' => e = .returned (.int .u32 (numR r).1) ∧ RrAt w' b S (numR r).2 ∧ Only (fun k => k = b) w w' := by
  have HT := hid (rrtake_any 4 h hr (by omega))
  unfold numR
  obtain ⟨r2, hr2⟩ : ∃ r2, (takeR r 4).2 = r2 := ⟨_, rfl⟩
  by_cases hb : (takeR r 4).2.bad = true
  · have e0 : (takeR r 4).1 = [] := by
      unfold takeR at hb ⊢
      split
      · rfl
      · rename_i hc; rw [if_neg hc] at hb; cases hb
    rw [e0, hr2] at HT
    rw [e0, hr2]
    rw [hr2] at hb
    show Calls _ _ _ _ fun e w' => e = .returned (.int .u32 0) ∧ _
    clear h hr hr2 e0
    go_enter Tryz.func86, Tryz.ntmps86
    go_wp2_with fail
    refine HT.out.mono ?_; rintro e w1 ⟨rfl, h1, h2⟩
    have H1 := hid h1; have H2 := hid h2
    have c2 : w1.cell? ⟨b, 2, none⟩ = some (.bool true) := by have := h1.bad_cell; rwa [hb] at this
    clear h1 h2 hb
    go_wp2
    go_ret
    exact ⟨rfl, H1.out, H2.out⟩
  · have hl := takeR_len r 4 (by cases h : (takeR r 4).2.bad; rfl; exact absurd h hb)
    obtain ⟨x0, x1, x2, x3, e⟩ : ∃ x0 x1 x2 x3, (takeR r 4).1 = [x0, x1, x2, x3] := by
      match hq : (takeR r 4).1, hl.1 with
      | [a, b, c, d], _ => exact ⟨a, b, c, d, rfl⟩
    rw [e, hr2] at HT
    rw [e, hr2]
    rw [hr2] at hb
    have hb : r2.bad = false := by cases h : r2.bad; rfl; exact absurd h hb
    obtain ⟨y, hy⟩ : ∃ y, bx [x0, x1, x2, x3] = y := ⟨_, rfl⟩
    have hys : y.size = 4 := by rw [← hy]; rfl
    have y0 : ∀ h, y[0]'h = x0 := by subst hy; exact fun h => rfl
    have y1 : ∀ h, y[1]'h = x1 := by subst hy; exact fun h => rfl
    have y2 : ∀ h, y[2]'h = x2 := by subst hy; exact fun h => rfl
    have y3 : ∀ h, y[3]'h = x3 := by subst hy; exact fun h => rfl
    rw [hy] at HT
    have t0 := x0.toNat_lt; have t1 := x1.toNat_lt; have t2 := x2.toNat_lt; have t3 := x3.toNat_lt
    have hs0 : (0 : Nat) < y.size := by omega
    have hs1 : (1 : Nat) < y.size := by omega
    have hs2 : (2 : Nat) < y.size := by omega
    have hs3 : (3 : Nat) < y.size := by omega
    have g0 : (0 : Int) < y.size := by omega
    have g1 : (1 : Int) < y.size := by omega
    have g2 : (2 : Int) < y.size := by omega
    have g3 : (3 : Int) < y.size := by omega
    clear h hr hr2 e hy hl hys
    go_enter Tryz.func86, Tryz.ntmps86
    go_wp2_with fail
    refine HT.out.mono ?_; rintro e w1 ⟨rfl, h1, h2⟩
    have H1 := hid h1; have H2 := hid h2
    have c2 : w1.cell? ⟨b, 2, none⟩ = some (.bool false) := by have := h1.bad_cell; rwa [hb] at this
    clear h1 h2 hb
    go_wp2
    go_quiet (fail)
    go_wp2
    go_ret
    refine ⟨ret_int ?_, H1.out.only ((Only.refl NoF _).drewN _) (fun e => e), H2.out.drewN _⟩
    show (x0.toNat : Int) + x1.toNat * 256 + x2.toNat * 65536 + x3.toNat * 16777216 = ((x0.toNat + 256 * x1.toNat + 65536 * x2.toNat + 16777216 * x3.toNat : Nat) : Int)
    omega
theorem rrspoil (h : RrAt w b S r) (q : Nat) : RrAt ((w.drewN q).setCell ⟨b, 2, none⟩ (.bool true)) b S ⟨[], true⟩ ∧ Only (· = b) w ((w.drewN q).setCell ⟨b, 2, none⟩ (.bool true)) := by
  obtain ⟨k, hb, hk, -⟩ := h
  refine ⟨⟨k, ?_, hk, fun e => by cases e⟩, ((Only.refl (· = b) w).drewN q).setCell (p := ⟨b, 2, none⟩) (.inl rfl) _⟩
  have := Blk.set (Blk.drewN hb q) 2 (.bool true)
  simpa using this
theorem rrtext_any (most : Nat) (hm : most ≤ 1000000) (h : RrAt w b S r) (hr : S.length ≤ 1000000000000) : Calls Tryz.prog 108 #[.pointer (some ⟨b, 0, none⟩), .int .i64 most] w fun e w' => e = .returned (.string (bx (textR r most).1)) ∧ RrAt w' b S (textR r most).2 ∧ Only (fun k => k = b) w w' := by
  have HN := hid (rrnum_any h hr)
  have hn32 : (numR r).1 < 4294967296 := numV_lt _
  unfold textR
  obtain ⟨n, hn⟩ : ∃ n, (numR r).1 = n := ⟨_, rfl⟩
  obtain ⟨r2, hr2⟩ : ∃ r2, (numR r).2 = r2 := ⟨_, rfl⟩
  rw [hn, hr2] at HN
  rw [hn, hr2]
  rw [hn] at hn32
  have ew : IntKind.i64.wrap (n : Int) = n := by rw [IntKind.wrap_i64]; omega
  by_cases hgt : most < n
  · rw [if_pos hgt]
    have g : (most : Int) < n := by omega
    have HT : Hid (∀ w', RrAt w' b S ⟨[], true⟩ → Calls Tryz.prog 87 #[.pointer (some ⟨b, 0, none⟩), .int .i64 n] w' fun e w'' => e = .returned (.string (bx (takeR ⟨[], true⟩ n).1)) ∧ RrAt w'' b S (takeR ⟨[], true⟩ n).2 ∧ Only (· = b) w' w'') := fun w' h' => rrtake_any n h' hr (by omega)
    clear h hr hn hr2 hgt
    go_enter Tryz.func108, Tryz.ntmps108
    go_wp2_with fail
    refine HN.out.mono ?_; rintro e w1 ⟨rfl, h1, h2⟩
    have H1 := hid (fun q => rrspoil h1 q)
    have H2 := hid h2
    have c2 : w1.cell? ⟨b, 2, none⟩ = some (.bool r2.bad) := h1.bad_cell
    have f2 : w1.frozen? ⟨b, 2, none⟩ = false := by obtain ⟨k, hb, -⟩ := h1; exact hb.frozen 2
    clear h1 h2
    go_wp2_with fail
    obtain ⟨w2, hw2⟩ : ∃ w2, w1.setCell ⟨b, 2, none⟩ (.bool true) = w2 := ⟨_, rfl⟩
    have H3 : Hid (RrAt w2 b S ⟨[], true⟩ ∧ Only (· = b) w1 w2) := by rw [← hw2]; exact H1.out 0
    rw [hw2]
    refine (HT.out _ H3.out.1).mono ?_; rintro e w3 ⟨rfl, h1, h2⟩
    have H4 := hid h1; have H5 := hid h2
    clear h1 h2 hw2
    go_wp2
    go_ret
    exact ⟨rfl, H4.out, H2.out.then (H3.out.2.then H5.out)⟩
  · rw [if_neg hgt]
    have g : ¬ (most : Int) < n := by omega
    have HT : Hid (∀ w', RrAt w' b S r2 → Calls Tryz.prog 87 #[.pointer (some ⟨b, 0, none⟩), .int .i64 n] w' fun e w'' => e = .returned (.string (bx (takeR r2 n).1)) ∧ RrAt w'' b S (takeR r2 n).2 ∧ Only (· = b) w' w'') := fun w' h' => rrtake_any n h' hr (by omega)
    clear h hr hn hr2 hgt
    go_enter Tryz.func108, Tryz.ntmps108
    go_wp2_with fail
    refine HN.out.mono ?_; rintro e w1 ⟨rfl, h1, h2⟩
    have H1 := hid h1
    have H2 := hid h2
    clear h1 h2
    go_wp2_with fail
    refine (HT.out _ H1.out).mono ?_; rintro e w3 ⟨rfl, h1, h2⟩
    have H4 := hid h1; have H5 := hid h2
    clear h1 h2
    go_wp2
    go_ret
    exact ⟨rfl, H4.out, H2.out.then H5.out⟩
theorem rrwhole_any (h : RrAt w b S r) : Calls Tryz.prog 109 #[.pointer (some ⟨b, 0, none⟩)] w fun e w' => e = .returned (.bool (wholeR r)) ∧ Below w.heap.size w w' := by
  obtain ⟨k, hb, hk, hrest⟩ := h
  obtain ⟨rest, bad⟩ := r
  simp only at hrest hb
  have hz := bx_size S
  obtain ⟨y, hy⟩ : ∃ y, bx S = y := ⟨_, rfl⟩
  rw [hy] at hz hb
  have c0 : w.cell? ⟨b, 0, none⟩ = some (.string y) := hb.cell 0
  have c1 : w.cell? ⟨b, 1, none⟩ = some (.int .i64 k) := hb.cell 1
  have c2 : w.cell? ⟨b, 2, none⟩ = some (.bool bad) := hb.cell 2
  cases bad
  · have hre := hrest rfl
    by_cases hkk : k = y.size
    · have e : wholeR ⟨rest, false⟩ = true := by
        unfold wholeR
        rw [hre, hkk, hz]; simp
      rw [e]
      have hq : ((k : Int) == (y.size : Int)) = true := by simp; omega
      clear hb hrest hre hz hy e hkk
      go_enter Tryz.func109, Tryz.ntmps109
      go_wp2
      go_quiet (fail)
      go_wp2
      go_ret
      exact ⟨by simp_all, below_drewN (Below.refl _ _) _⟩
    · have e : wholeR ⟨rest, false⟩ = false := by
        unfold wholeR
        rw [hre]
        cases hd : S.drop k
        · have := congrArg List.length hd
          rw [List.length_drop] at this
          simp at this
          omega
        · rfl
      rw [e]
      have hq : ((k : Int) == (y.size : Int)) = false := by rw [beq_eq_false_iff_ne]; omega
      clear hb hrest hre hz hy e hkk
      go_enter Tryz.func109, Tryz.ntmps109
      go_wp2
      go_quiet (fail)
      go_wp2
      go_ret
      exact ⟨by simp_all, below_drewN (Below.refl _ _) _⟩
  · show Calls _ _ _ _ fun e w' => e = .returned (.bool false) ∧ _
    clear hb hrest hz hy
    go_enter Tryz.func109, Tryz.ntmps109
    go_wp2
    go_quiet (fail)
    go_wp2
    go_ret
    exact ⟨by simp_all, below_drewN (Below.refl _ _) _⟩
end
end Go.Proofs.YtnhgfhbicaiilaaGreat
/- The reference's transactions read (layer 17). -/
namespace Go.Proofs.YtnhgfhbicaiilaaGreat
open Go.RowKit Book
set_option linter.unusedVariables false

theorem textR_bad (r : Rd) (most : Nat) (h : r.bad = true) : (textR r most).2.bad = true := by
  unfold textR numR
  rw [takeR_bad r 4 h]
  split
  · rw [takeR_bad _ _ rfl]
  · rw [takeR_bad _ _ rfl]
theorem textsR_bad : ∀ (n k : Nat) (r : Rd), k ≤ n → (textsR k r).2.bad = true → (textsR n r).2.bad = true
  | 0, k, r, hk, h => by obtain rfl : k = 0 := by omega
                         exact h
  | n + 1, k, r, hk, h => by
    by_cases e : k = n + 1
    · subst e; exact h
    · have := textsR_bad n k r (by omega) h
      rw [textsR_snoc]
      exact textR_bad _ _ this
theorem rrbad (b : Nat) {w : World} {S : List UInt8} {r : Rd} (h : RrAt w b S r) : w.cell? ⟨b, 2, none⟩ = some (.bool r.bad) := h.bad_cell
set_option maxRecDepth 100000 in
set_option maxHeartbeats 4000000 in
theorem rrecords_any (l : List UInt8) (w : World) (hl : l.length ≤ 1000000000000) : Calls Tryz.prog 89 #[.string (bx l)] w fun e w' =>
    (∃ a n c, e = .returned (.tuple #[.slice a n c, .bool (recordsR l).isSome]) ∧ (∀ rs, recordsR l = some rs → n = rs.length ∧ w'.ownsRow w.heap.size 9 1 (.slice a n c) n (svals (rs.map bx)))) ∧ Below w.heap.size w w' := by
  have HNEW := hid (rrnew_any (bx l) w)
  rw [bx_list] at HNEW
  obtain ⟨B, hB⟩ : ∃ B, w.heap.size = B := ⟨_, rfl⟩
  rw [hB] at HNEW
  have HNUM : Hid (∀ w', RrAt w' B l (newR l) → Calls Tryz.prog 86 #[.pointer (some ⟨B, 0, none⟩)] w' fun e w'' => e = .returned (.int .u32 (numR (newR l)).1) ∧ RrAt w'' B l (numR (newR l)).2 ∧ Only (· = B) w' w'') := fun w' h => rrnum_any h (by omega)
  have hn32 : (numR (newR l)).1 < 4294967296 := numV_lt _
  have HDEF : Hid (recordsR l = if 1048576 < l.length ∨ (numR (newR l)).1 < 1 ∨ 64 < (numR (newR l)).1 then none else if wholeR (textsR (numR (newR l)).1 (numR (newR l)).2).2 = true then some (textsR (numR (newR l)).1 (numR (newR l)).2).1 else none) := rfl
  obtain ⟨n, hn⟩ : ∃ n, (numR (newR l)).1 = n := ⟨_, rfl⟩
  obtain ⟨r, hr⟩ : ∃ r, (numR (newR l)).2 = r := ⟨_, rfl⟩
  rw [hn, hr] at HNUM HDEF
  rw [hn] at hn32
  obtain ⟨R, hR⟩ : ∃ R, recordsR l = R := ⟨_, rfl⟩
  rw [hR] at HDEF
  rw [hR, hB]
  obtain ⟨y, hy⟩ : ∃ y, bx l = y := ⟨_, rfl⟩
  have hys : y.size = l.length := by rw [← hy, bx_size]
  rw [hy] at HNEW ⊢
  have ew : IntKind.i64.wrap (n : Int) = n := by rw [IntKind.wrap_i64]; omega
  have HBW := hid hB
  have HLOW : Hid (∀ w1, Below B w w1 → B ≤ w1.heap.size) := fun w1 h => by have := h.size; rw [HBW.out] at this; exact this
  clear hn hr hR hy hB
  by_cases hbad : 1048576 < l.length ∨ n < 1 ∨ 64 < n
  · have hd : R = none := by have := HDEF.out; rw [if_pos hbad] at this; exact this
    subst hd
    have g : (1048576 : Int) < y.size ∨ ¬ (1048576 : Int) < y.size ∧ (n : Int) < 1 ∨ ¬ (1048576 : Int) < y.size ∧ ¬ (n : Int) < 1 ∧ (64 : Int) < n := by omega
    clear hbad hys hl HDEF
    rcases g with g | ⟨g1, g⟩ | ⟨g1, g2, g⟩ <;> (
      go_enter Tryz.func89, Tryz.ntmps89
      go_wp2_with (first
        | (go_at_call 85; refine HNEW.out.mono ?_; rintro e w1 ⟨rfl, hs1, hs2⟩; have H1 := hid hs1; have L1 := hid hs2; clear hs1 hs2)
        | (go_at_call 86; refine (HNUM.out _ H1.out).mono ?_; rintro e w2 ⟨rfl, hs⟩; have H2 := hid hs; clear hs))
      go_ret2
      exact ⟨⟨none, 0, 0, rfl, fun rs h => by cases h⟩, L1.out.trans (H2.out.2.below (fun i e => Nat.le_of_eq e.symm) (HLOW.out _ L1.out))⟩)
  have hd : R = if wholeR (textsR n r).2 = true then some (textsR n r).1 else none := by have := HDEF.out; rw [if_neg hbad] at this; exact this
  have g1 : ¬ (1048576 : Int) < y.size := by omega
  have g2 : ¬ (n : Int) < 1 := by omega
  have g3 : ¬ (64 : Int) < n := by omega
  have HD := hid hd
  have HTX : Hid (∀ k w', RrAt w' B l (textsR k r).2 → Calls Tryz.prog 108 #[.pointer (some ⟨B, 0, none⟩), .int .i64 262144] w' fun e w'' => e = .returned (.string (bx (textR (textsR k r).2 262144).1)) ∧ RrAt w'' B l (textR (textsR k r).2 262144).2 ∧ Only (· = B) w' w'') := fun k w' h => rrtext_any 262144 (by omega) h hl
  clear hd hbad hys hl HDEF
  go_enter Tryz.func89, Tryz.ntmps89
  go_wp2_with (first
    | (go_at_call 85; refine HNEW.out.mono ?_; rintro e w1 ⟨rfl, hs1, hs2⟩; have H1 := hid hs1; have L1 := hid hs2; clear hs1 hs2)
    | (go_at_call 86; refine (HNUM.out _ H1.out).mono ?_; rintro e w2 ⟨rfl, hs⟩; have H2 : Hid (RrAt w2 B l (textsR 0 r).2) := hs.1; have L2 : Hid (Below B w w2) := L1.out.trans (hs.2.below (fun i e => Nat.le_of_eq e.symm) (HLOW.out _ L1.out)); clear hs))
  obtain ⟨i0, hi0, hz0, hz1, hz2⟩ := info_parts Tryz.infoS
  have hB2 : B ≤ w2.heap.size := HLOW.out _ L2.out
  go_loopw [6, 7, 8] (fun ov iv _ wr => ∃ (k : Nat), k ≤ n ∧ iv = .int .i64 k ∧ Hid (wr.ownsRow B 9 1 ov k (svals ((textsR k r).1.map bx))) ∧ Hid (RrAt wr B l (textsR k r).2) ∧ Hid (Below B w wr)) (fun _ iv _ _ => n - (intOf iv).toNat)
  case atStart => exact ⟨0, by omega, rfl, World.ownsRow_made _ _ 0 hB2 (by unfold maxLen; omega) rfl, H2.out.only ((Only.refl NoF _).alloc _) (fun e => e), L2.out.alloc hB2 _⟩
  case round =>
    clear H1 L1 H2 L2 hB2
    obtain ⟨k, hk, rfl, HO, HR, LX⟩ := hrel
    have hBr : B ≤ wr.heap.size := HLOW.out _ LX.out
    have c2 : wr.cell? ⟨B, 2, none⟩ = some (.bool (textsR k r).2.bad) := HR.out.bad_cell
    obtain ⟨bad, hbd⟩ : ∃ bad, (textsR k r).2.bad = bad := ⟨_, rfl⟩
    have HBD := hid hbd
    rw [hbd] at c2
    clear hbd
    by_cases hlt : k < n ∧ bad = false
    · obtain ⟨hlt, rfl⟩ := hlt
      have ck : (k : Int) < n := by omega
      obtain ⟨t, ht⟩ : ∃ t, (textR (textsR k r).2 262144).1 = t := ⟨_, rfl⟩
      obtain ⟨r', hr'⟩ : ∃ r', (textR (textsR k r).2 262144).2 = r' := ⟨_, rfl⟩
      have HSN : Hid (textsR (k + 1) r = ((textsR k r).1 ++ [t], r')) := by show _ = _; rw [textsR_snoc, ht, hr']
      have HT := hid (HTX.out k wr HR.out)
      rw [ht, hr'] at HT
      clear ht hr'
      obtain ⟨oa, oc, rfl, -⟩ := own_slice HO.out
      go_wp2_with (first
        | (go_at_call 108; refine HT.out.mono ?_; rintro e w3 ⟨rfl, hs⟩
           have hown : w3.ownsRow B 9 1 (.slice oa k oc) k (svals ((textsR k r).1.map bx)) := own_only HO.out hs.2 (fun j hj e => by obtain ⟨q, hb, -⟩ := HR.out; exact own_blk_ne HO.out hb (by decide) (e ▸ hj))
           have H3 := hid hs.1
           have L3 : Hid (Below B w w3) := LX.out.trans (hs.2.below (fun i e => Nat.le_of_eq e.symm) hBr)
           have hB3 : B ≤ w3.heap.size := HLOW.out _ L3.out
           clear hs)
        | (at_builtin; refine wpList_append_own _ rfl (.tmp 40) (.tmp 42) 36 rfl B 9 i0 (.string ⟨#[]⟩) 1 16 Tryz.underlying36 hi0 hz0 hz1 hz2 rfl (by decide) (.slice oa k oc) _ _ rfl (hown.alloc _) _ 1 1 [.string (bx t)] rfl rfl (cellNew1 _ _ _) (one_bytes rfl) (by unfold maxLen; omega) (by omega) (by simp; omega) ?_; intro v' w4 hown' hgrow _))
      go_roundw
      case rel =>
        refine ⟨k + 1, by omega, by go_num, ?_, ?_, below_grown1 L3.out hown _ hB3 hgrow⟩
        · show World.ownsRow _ _ _ _ _ _ _
          rw [HSN.out]
          have e : svals (((textsR k r).1 ++ [t]).map bx) = svals ((textsR k r).1.map bx) ++ [.string (bx t)] := by simp [svals]
          rw [e]; exact hown'
        · show RrAt _ _ _ _
          rw [HSN.out]
          obtain ⟨q, hb, hq⟩ := H3.out
          exact ⟨q, (hb.alloc _).grown hgrow (fun e => own_blk_ne hown hb (by decide) e.symm), hq⟩
      case measure => simp [intOf]; omega
    · have hend : (k < n ∧ bad = true) ∨ k = n := by
        by_cases h : k < n
        · left; refine ⟨h, ?_⟩; cases bad; exact absurd ⟨h, rfl⟩ hlt; rfl
        · right; omega
      clear hlt
      have HW := hid (rrwhole_any HR.out)
      have HQ : Hid (R = if wholeR (textsR k r).2 = true then some (textsR k r).1 else none) := by
        show R = _
        rcases hend with ⟨h1, h2⟩ | rfl
        · have h3 : (textsR k r).2.bad = true := by rw [HBD.out]; exact h2
          have h4 := textsR_bad n k r (by omega) h3
          rw [HD.out]
          unfold wholeR
          rw [h3, h4]; rfl
        · exact HD.out
      have HKN : Hid (∀ rs, R = some rs → k = n) := fun rs h => by
        rcases hend with ⟨h1, h2⟩ | rfl
        · have h3 : (textsR k r).2.bad = true := by rw [HBD.out]; exact h2
          rw [HQ.out] at h
          unfold wholeR at h
          rw [h3] at h
          cases h
        · rfl
      obtain ⟨q, hq⟩ : ∃ q, wholeR (textsR k r).2 = q := ⟨_, rfl⟩
      rw [hq] at HW HQ
      obtain ⟨a, c, rfl, -⟩ := own_slice HO.out
      clear hq
      have gn : ((k : Int) < n ∧ bad = true) ∨ ¬ (k : Int) < n := by
        rcases hend with ⟨h1, h2⟩ | rfl
        · exact .inl ⟨by omega, h2⟩
        · exact .inr (by omega)
      clear hend
      rcases gn with ⟨gn, rfl⟩ | gn
      all_goals
        go_wp2_with (go_at_call 109; refine HW.out.mono ?_; rintro e w3 ⟨rfl, b3⟩)
        go_ret2
        refine ⟨⟨a, k, c, ?_, fun rs h => ?_⟩, LX.out.trans (b3.mono hBr)⟩
        · rw [HQ.out]; cases q <;> rfl
        · have hkn := HKN.out rs h
          rw [HQ.out] at h
          cases q
          · cases h
          · injection h with h
            subst h
            exact ⟨(textsR_len _ _).symm, own_below HO.out b3⟩
end Go.Proofs.YtnhgfhbicaiilaaGreat
/- The reference's transactions that count (layer 17). -/
namespace Go.Proofs.YtnhgfhbicaiilaaGreat
open Go.RowKit Book
set_option linter.unusedVariables false

set_option maxRecDepth 100000 in
set_option maxHeartbeats 8000000 in
theorem rcounts_any (l : List UInt8) (w : World) (hl : l.length ≤ 1000000000000) : Calls Tryz.prog 42 #[.string (bx l)] w fun e w' =>
    (∃ a c, e = .returned (.tuple #[.slice a (readR crcP l).1.length c, .int .i64 (readR crcP l).2]) ∧ DeedRow w' w.heap.size (.slice a (readR crcP l).1.length c) (readR crcP l).1) ∧ Below w.heap.size w w' := by
  obtain ⟨i0, hi0, hz0, hz1, hz2⟩ := info_parts Tryz.infoSl
  obtain ⟨Z, hZ⟩ : ∃ Z, readR crcP l = Z := ⟨_, rfl⟩
  have HZ : Hid (readF crcP l.length l = Z) := hZ
  rw [hZ]
  obtain ⟨B, hB⟩ : ∃ B, w.heap.size = B := ⟨_, rfl⟩
  have HBW := hid hB
  have HLOW : Hid (∀ w1, Below B w w1 → B ≤ w1.heap.size) := fun w1 h => by have := h.size; rw [HBW.out] at this; exact this
  rw [hB]
  obtain ⟨y, hy⟩ : ∃ y, bx l = y := ⟨_, rfl⟩
  have hys : y.size = l.length := by rw [← hy, bx_size]
  have HDR : Hid (∀ k, y.extract k y.size = bx (l.drop k)) := fun k => by rw [← hy, bx_drop]
  rw [hy]
  have HYS := hid hys
  have hyb : y.size ≤ 1000000000000 := by omega
  clear hZ hB hy hys hl
  go_enter Tryz.func42, Tryz.ntmps42
  go_wp2
  go_loopw [4, 5, 6, 7, 8, 9, 10, 11] (fun ov iv _ _ _ _ _ _ wr => ∃ (k : Nat) (L : List (List (List UInt8))), k ≤ y.size ∧ iv = .int .i64 k ∧ Hid (8 * L.length ≤ k) ∧ Hid (Z = (L ++ (readF crcP (l.length - L.length) (l.drop k)).1, k + (readF crcP (l.length - L.length) (l.drop k)).2)) ∧ Hid (DeedRow wr B ov L) ∧ Hid (Below B w wr)) (fun _ iv _ _ _ _ _ _ _ => y.size - (intOf iv).toNat)
  case atStart =>
    refine ⟨0, [], Nat.zero_le _, rfl, Nat.le_refl _, ?_, ⟨[], World.ownsRow_made _ _ 0 (Nat.le_of_eq HBW.out.symm) (by unfold maxLen; omega) rfl, fun j h => by cases h⟩, (Below.refl _ _).alloc (Nat.le_of_eq HBW.out.symm) _⟩
    show Z = _
    rw [← HZ.out]; simp
  case round =>
    obtain ⟨k, L, hk, rfl, H8, HINV, HO, LX⟩ := hrel
    have hBr : B ≤ wr.heap.size := HLOW.out _ LX.out
    obtain ⟨G, hG⟩ : ∃ G, l.drop k = G := ⟨_, rfl⟩
    have hGl : G.length ≤ 1000000000000 := by rw [← hG, List.length_drop]; have := HYS.out; omega
    have HGL : Hid (k + G.length = y.size) := by show _ = _; rw [← hG, List.length_drop]; have := HYS.out; omega
    have HNX : Hid (∀ n, l.drop (k + n) = G.drop n) := fun n => by rw [← hG, List.drop_drop]
    obtain ⟨g, hg⟩ : ∃ g, wr.heap.size = g := ⟨_, rfl⟩
    have HG := hid hg
    have HNEW := hid (rrnew_any (y.extract k y.size) wr)
    have hdr := HDR.out k
    rw [hG] at hdr HINV
    rw [hdr, bx_list, ← hdr, hg] at HNEW
    obtain ⟨r1, hr1⟩ : ∃ r1, (numR (newR G)).2 = r1 := ⟨_, rfl⟩
    obtain ⟨N, hN⟩ : ∃ N, (numR (newR G)).1 = N := ⟨_, rfl⟩
    obtain ⟨r2, hr2⟩ : ∃ r2, (numR r1).2 = r2 := ⟨_, rfl⟩
    obtain ⟨C, hC⟩ : ∃ C, (numR r1).1 = C := ⟨_, rfl⟩
    obtain ⟨r3, hr3⟩ : ∃ r3, (takeR r2 N).2 = r3 := ⟨_, rfl⟩
    obtain ⟨b, hb⟩ : ∃ b, (takeR r2 N).1 = b := ⟨_, rfl⟩
    have HST : Hid (stepR crcP G = if r3.bad = true ∨ crcP b ≠ C then none else (recordsR b).map (fun l => (l, N))) := by
      show stepR crcP G = _
      unfold stepR
      simp only [hr1, hN, hr2, hC, hr3, hb]
    have hN32 : N < 4294967296 := by rw [← hN]; exact numV_lt _
    have hC32 : C < 4294967296 := by rw [← hC]; exact numV_lt _
    have hrl1 : r1.rest.length ≤ 1000000000000 := by rw [← hr1]; exact Nat.le_trans (takeR_rest _ 4) hGl
    have hrl2 : r2.rest.length ≤ 1000000000000 := by rw [← hr2]; exact Nat.le_trans (takeR_rest _ 4) hrl1
    have hbl : b.length ≤ 1000000000000 := by
      rw [← hb]; unfold takeR; split
      · simp
      · simp; omega
    have HN1 : Hid (∀ w', RrAt w' g G (newR G) → Calls Tryz.prog 86 #[.pointer (some ⟨g, 0, none⟩)] w' fun e w'' => e = .returned (.int .u32 N) ∧ RrAt w'' g G r1 ∧ Only (· = g) w' w'') := fun w' h => by
      have := rrnum_any h hGl; rwa [hN, hr1] at this
    have HN2 : Hid (∀ w', RrAt w' g G r1 → Calls Tryz.prog 86 #[.pointer (some ⟨g, 0, none⟩)] w' fun e w'' => e = .returned (.int .u32 C) ∧ RrAt w'' g G r2 ∧ Only (· = g) w' w'') := fun w' h => by
      have := rrnum_any h hGl; rwa [hC, hr2] at this
    have HTK : Hid (∀ w', RrAt w' g G r2 → Calls Tryz.prog 87 #[.pointer (some ⟨g, 0, none⟩), .int .i64 N] w' fun e w'' => e = .returned (.string (bx b)) ∧ RrAt w'' g G r3 ∧ Only (· = g) w' w'') := fun w' h => by
      have := rrtake_any N h hGl (by omega); rwa [hb, hr3] at this
    obtain ⟨R, hR⟩ : ∃ R, recordsR b = R := ⟨_, rfl⟩
    have HRC : Hid (∀ w', Calls Tryz.prog 89 #[.string (bx b)] w' fun e w'' => (∃ a n c, e = .returned (.tuple #[.slice a n c, .bool R.isSome]) ∧ (∀ rs, R = some rs → n = rs.length ∧ w''.ownsRow w'.heap.size 9 1 (.slice a n c) n (svals (rs.map bx)))) ∧ Below w'.heap.size w' w'') := fun w' => by
      have := rrecords_any b w' hbl; rwa [hR] at this
    obtain ⟨q, hq⟩ : ∃ q, crcP b = q := ⟨_, rfl⟩
    have HSM : Hid (∀ w', Calls Tryz.prog 88 #[.string (bx b)] w' fun e w'' => e = .returned (.int .u32 q) ∧ w' = w'') := fun w' => by
      have := rsum_any (bx b) w' (by rw [bx_size]; omega); rwa [bx_list, hq] at this
    rw [hR, hq] at HST
    obtain ⟨bad, hbad⟩ : ∃ bad, r3.bad = bad := ⟨_, rfl⟩
    have HBQ := hid hbad
    rw [hbad] at HST
    obtain ⟨z, hz⟩ : ∃ z, bx b = z := ⟨_, rfl⟩
    rw [hz] at HTK HRC HSM
    have ew : IntKind.i64.wrap (N : Int) = N := by rw [IntKind.wrap_i64]; omega
    have ck1 : (0 : Int) ≤ (k : Int) := by omega
    have ck2 : (k : Int) ≤ (y.size : Int) := by omega
    clear hr1 hN hr2 hC hr3 hb hR hq hz hdr hbad hG hg hrl1 hrl2 hbl hGl
    by_cases hok : bad = false ∧ q = C ∧ R.isSome = true
    · obtain ⟨rfl, rfl, hsome⟩ := hok
      obtain ⟨rs, rfl⟩ := Option.isSome_iff_exists.1 hsome
      have hstep : stepR crcP G = some (rs, N) := by rw [HST.out]; simp
      have hfits := stepR_fits hstep
      have hfb : k + (8 + N) ≤ y.size := by have := HGL.out; omega
      have HF : Hid (l.length - L.length = (l.length - (L.length + 1)) + 1) := by show _ = _; have := HGL.out; have := HYS.out; have := H8.out; omega
      have HNEXT : Hid (Z = ((L ++ [rs]) ++ (readF crcP (l.length - (L.length + 1)) (l.drop (k + (8 + N)))).1, (k + (8 + N)) + (readF crcP (l.length - (L.length + 1)) (l.drop (k + (8 + N)))).2)) := by
        show Z = _
        rw [HINV.out, HF.out, HNX.out]
        rw [readF_some _ hstep]
        simp only [List.append_assoc, List.singleton_append, Prod.mk.injEq, true_and]
        omega
      clear hstep hfits hsome HST HINV
      obtain ⟨vs, ho1, ho2⟩ := HO.out
      have HO1 := hid ho1; have HO2 := hid ho2
      have hLk : L.length ≤ 1000000000000 := by have := H8.out; omega
      clear ho1 ho2 HO
      obtain ⟨oa, oc, rfl, -⟩ := own_slice HO1.out
      go_wp2_with (first
        | (go_at_call 85; refine HNEW.out.mono ?_; rintro e w1 ⟨rfl, hs1, hs2⟩; have H1 := hid hs1; have L1 : Hid (Below g wr w1) := hs2; clear hs1 hs2)
        | (go_at_call 86; refine (HN1.out _ H1.out).mono ?_; rintro e w2 ⟨rfl, hs⟩; have H2 := hid hs.1; have L2 : Hid (Below g wr w2) := L1.out.trans (hs.2.below (fun i e => Nat.le_of_eq e.symm) (by have := L1.out.size; have := HG.out; omega)); clear hs)
        | (go_at_call 86; refine (HN2.out _ H2.out).mono ?_; rintro e w3 ⟨rfl, hs⟩; have H3 := hid hs.1; have L3 : Hid (Below g wr w3) := L2.out.trans (hs.2.below (fun i e => Nat.le_of_eq e.symm) (by have := L2.out.size; have := HG.out; omega)); clear hs)
        | (go_at_call 87; refine (HTK.out _ H3.out).mono ?_; rintro e w4 ⟨rfl, hs⟩; have H4 := hid hs.1; have L4 : Hid (Below g wr w4) := L3.out.trans (hs.2.below (fun i e => Nat.le_of_eq e.symm) (by have := L3.out.size; have := HG.out; omega)); have cB := H4.out.bad_cell; rw [HBQ.out] at cB; clear hs)
        | (go_at_call 88; refine (HSM.out _).mono ?_; rintro e w' ⟨rfl, rfl⟩)
        | (go_at_call 89; refine (HRC.out _).mono ?_; rintro e w5 ⟨⟨a5, n5, c5, rfl, hs0⟩, hs⟩; obtain ⟨rfl, hown5⟩ := hs0 rs rfl; have hgw4 : g ≤ w4.heap.size := (by have := L4.out.size; have := HG.out; omega)
           have hlow : Below wr.heap.size wr w5 := (by rw [HG.out]; exact L4.out.trans (hs.mono hgw4))
           have L6 : Hid (Below B w w5) := below_mono2 LX.out hBr hlow
           have hown : w5.ownsRow B 36 1 (.slice oa L.length oc) L.length vs := own_below HO1.out hlow
           have HO6 : Hid (∀ j (h : j < L.length), ∃ a c, vs[j]? = some (.slice a L[j].length c) ∧ w5.ownsRow B 9 1 (.slice a L[j].length c) L[j].length (svals (L[j].map bx))) := fun j hj => (by obtain ⟨a, c, e, h⟩ := HO2.out j hj; exact ⟨a, c, e, own_below h hlow⟩)
           have HR6 : Hid (w5.ownsRow B 9 1 (.slice a5 rs.length c5) rs.length (svals (rs.map bx))) := own_base0 hown5 (Nat.le_trans hBr (by rw [HG.out]; exact hgw4))
           have hB6 : B ≤ w5.heap.size := HLOW.out _ L6.out
           clear hs hlow hs0 hown5)
        | (at_builtin; refine wpList_append_own _ rfl (.tmp 46) (.tmp 48) 29 rfl B 36 i0 (.slice none 0 0) 1 24 Tryz.underlying29 hi0 hz0 hz1 hz2 rfl (by decide) (.slice oa L.length oc) _ _ rfl (hown.alloc _) _ 1 1 [.slice a5 rs.length c5] rfl rfl (cellNew1 _ _ _) (one_bytes rfl) (by unfold maxLen; omega) (by omega) (by simp; omega) ?_; intro v' w7 hown' hgrow _))
      go_roundw
      case rel =>
        exact ⟨k + (8 + N), L ++ [rs], hfb, by go_num, by show _ ≤ _; rw [List.length_append]; have := H8.out; simp; omega, by show Z = _; rw [List.length_append]; exact HNEXT.out, deedRow_push hown HO6.out HR6.out hown' hgrow, below_grown1 L6.out hown _ hB6 hgrow⟩
      case measure => simp [intOf]; omega
    · have hstep : stepR crcP G = none := by
        rw [HST.out]
        cases bad
        · by_cases hqc : q = C
          · cases R
            · simp
            · exact absurd ⟨rfl, hqc, rfl⟩ hok
          · simp [hqc]
        · simp
      have HRES : Hid (Z = (L, k)) := by
        show Z = _
        rw [HINV.out, readF_none _ _ hstep]; simp
      clear hstep HST HINV
      obtain ⟨a, c, rfl, -⟩ := own_slice HO.out.choose_spec.1
      have hgo : bad = true ∨ bad = false ∧ ((q : Int) == (C : Int)) = false ∧ ¬ (q : Int) = C ∨ bad = false ∧ q = C ∧ R.isSome = false := by
        cases bad
        · by_cases hqc : q = C
          · right; right; refine ⟨rfl, hqc, ?_⟩
            cases h : R.isSome
            · rfl
            · exact absurd ⟨rfl, hqc, h⟩ hok
          · right; left; refine ⟨rfl, ?_, by omega⟩; rw [beq_eq_false_iff_ne]; omega
        · exact .inl rfl
      clear hok
      obtain ⟨s, hs⟩ : ∃ s, R.isSome = s := ⟨_, rfl⟩
      rw [hs] at hgo HRC
      clear hs
      rcases hgo with rfl | ⟨rfl, hq1, hq2⟩ | ⟨rfl, rfl, rfl⟩ <;> (
        go_wp2_with (first
        | (go_at_call 85; refine HNEW.out.mono ?_; rintro e w1 ⟨rfl, hs1, hs2⟩; have H1 := hid hs1; have L1 : Hid (Below g wr w1) := hs2; clear hs1 hs2)
        | (go_at_call 86; refine (HN1.out _ H1.out).mono ?_; rintro e w2 ⟨rfl, hs⟩; have H2 := hid hs.1; have L2 : Hid (Below g wr w2) := L1.out.trans (hs.2.below (fun i e => Nat.le_of_eq e.symm) (by have := L1.out.size; have := HG.out; omega)); clear hs)
        | (go_at_call 86; refine (HN2.out _ H2.out).mono ?_; rintro e w3 ⟨rfl, hs⟩; have H3 := hid hs.1; have L3 : Hid (Below g wr w3) := L2.out.trans (hs.2.below (fun i e => Nat.le_of_eq e.symm) (by have := L2.out.size; have := HG.out; omega)); clear hs)
        | (go_at_call 87; refine (HTK.out _ H3.out).mono ?_; rintro e w4 ⟨rfl, hs⟩; have H4 := hid hs.1; have L4 : Hid (Below g wr w4) := L3.out.trans (hs.2.below (fun i e => Nat.le_of_eq e.symm) (by have := L3.out.size; have := HG.out; omega)); have cB := H4.out.bad_cell; rw [HBQ.out] at cB; clear hs)
        | (go_at_call 88; refine (HSM.out _).mono ?_; rintro e w' ⟨rfl, rfl⟩)
        | (go_at_call 89; refine (HRC.out _).mono ?_; rintro e w5 ⟨⟨a5, n5, c5, rfl, hs0⟩, hs⟩; have hgw4 : g ≤ w4.heap.size := (by have := L4.out.size; have := HG.out; omega); have L5 : Hid (Below wr.heap.size wr w5) := (by show Below _ _ _; rw [HG.out]; exact L4.out.trans (hs.mono hgw4)); clear hs hs0))
        go_ret2
        refine ⟨⟨a, c, by rw [HRES.out]; rfl, ?_⟩, ?_⟩
        · rw [HRES.out]; exact deedRow_below HO.out (by first | exact L5.out | (rw [HG.out]; exact L4.out))
        · exact below_mono2 LX.out hBr (by first | exact L5.out | (rw [HG.out]; exact L4.out)))
end Go.Proofs.YtnhgfhbicaiilaaGreat
/- The reference's disk in memory; the calls that only read. -/
namespace Go.Proofs.YtnhgfhbicaiilaaGreat
open Go.RowKit Reel
set_option linter.unusedVariables false

abbrev Ent := ByteArray × Spool
def bt (l : List UInt8) : ByteArray := ⟨l.toArray⟩
theorem bt_size (l : List UInt8) : (bt l).size = l.length := by unfold bt; simp [ByteArray.size]
theorem bt_list (l : List UInt8) : (bt l).data.toList = l := by unfold bt; simp
def rcell (e : Ent) : List Value := [.string e.1, .string (bt e.2.bytes), .int .i64 e.2.safe]
def rvals (L : List Ent) : List Value := L.flatMap rcell
theorem rvals_len (L : List Ent) : (rvals L).length = L.length * 3 := by
  unfold rvals
  induction L with
  | nil => rfl
  | cons e r ih => rw [List.flatMap_cons, List.length_append, ih, List.length_cons]; show 3 + _ = _; omega
theorem rvals_append (a b : List Ent) : rvals (a ++ b) = rvals a ++ rvals b := by unfold rvals; rw [List.flatMap_append]
theorem rvals_get : ∀ (L : List Ent) (k q : Nat) (h : k < L.length), q < 3 → (rvals L)[k * 3 + q]? = (rcell L[k])[q]?
  | e :: r, 0, q, h, hq => by
    show (rcell e ++ rvals r)[0 * 3 + q]? = _
    rw [Nat.zero_mul, Nat.zero_add, List.getElem?_append_left (by show q < 3; exact hq)]; rfl
  | e :: r, k + 1, q, h, hq => by
    show (rcell e ++ rvals r)[(k + 1) * 3 + q]? = _
    rw [List.getElem?_append_right (by show 3 ≤ _; omega)]
    have := rvals_get r k q (by simpa using h) hq
    rw [show (k + 1) * 3 + q - (rcell e).length = k * 3 + q by show (k + 1) * 3 + q - 3 = _; omega, this]
    rfl
theorem Tryz.infoRl : (Tryz.prog.info? 84).map (fun i => (i.zero, i.size, i.bytes)) = some (some (.agg #[.string ⟨#[]⟩, .string ⟨#[]⟩, .int .i64 0]), 3, 40) := by kernel_rfl

/-- reels that lie in a slice -/
def ReelsAt (w : World) (a : Option Addr) (n : Nat) (L : List Ent) : Prop :=
  L.length = n ∧ (n = 0 ∨ ∃ g, a = some ⟨g, 0, none⟩ ∧ ∀ k (h : k < L.length), w.cell? ⟨g, k * 3, none⟩ = some (.string L[k].1) ∧ w.cell? ⟨g, k * 3 + 1, none⟩ = some (.string (bt L[k].2.bytes)) ∧ w.cell? ⟨g, k * 3 + 2, none⟩ = some (.int .i64 L[k].2.safe))
theorem own_reels {w : World} {B : Nat} {v : Value} {L : List Ent} (h : w.ownsRow B 84 3 v L.length (rvals L)) : ∃ a c, v = .slice a L.length c ∧ L.length ≤ c ∧ ReelsAt w a L.length L := by
  have h' := h
  rcases h.2 with ⟨rfl, h0⟩ | ⟨g, cap, cur, rfl, hb, hg, hn, r⟩
  · exact ⟨none, 0, by rw [h0], by omega, rfl, .inl h0⟩
  · refine ⟨_, _, rfl, hn, rfl, .inr ⟨g, rfl, fun k hk => ?_⟩⟩
    have hc : ∀ q, q < 3 → w.cell? ⟨g, k * 3 + q, none⟩ = (rcell L[k])[q]? := fun q hq => by
      rw [h'.cellAt _ (by omega), rvals_get L k q hk hq]
    exact ⟨(hc 0 (by omega)).trans rfl, (hc 1 (by omega)).trans rfl, (hc 2 (by omega)).trans rfl⟩
theorem ReelsAt.get {w : World} {a : Option Addr} {n : Nat} {L : List Ent} (h : ReelsAt w a n L) {k : Nat} (hk : k < L.length) : ∃ g, a = some ⟨g, 0, none⟩ ∧ w.cell? ⟨g, k * 3, none⟩ = some (.string L[k].1) ∧ w.cell? ⟨g, k * 3 + 1, none⟩ = some (.string (bt L[k].2.bytes)) ∧ w.cell? ⟨g, k * 3 + 2, none⟩ = some (.int .i64 L[k].2.safe) := by
  obtain ⟨h1, h2⟩ := h
  rcases h2 with h2 | ⟨g, ha, hc⟩
  · omega
  · exact ⟨g, ha, hc k hk⟩

/-- the reference's disk -/
structure RefAt (w : World) (u : Nat) (v : Value) (S : St) : Prop where
  blk : Blk w u 59 #[v, .int .i64 S.room, .bool S.down, .int .i64 S.acts, .int .i64 S.life, .int .i64 S.armed]
  row : w.ownsRow 0 84 3 v S.ents.length (rvals S.ents)
  ok : S.Ok
section
variable {w : World} {u : Nat} {v : Value} {S : St} {x : ByteArray}
theorem RefAt.cells (h : RefAt w u v S) : w.cell? ⟨u, 0, none⟩ = some v ∧ w.cell? ⟨u, 1, none⟩ = some (.int .i64 S.room) ∧ w.cell? ⟨u, 2, none⟩ = some (.bool S.down) ∧ w.cell? ⟨u, 3, none⟩ = some (.int .i64 S.acts) ∧ w.cell? ⟨u, 4, none⟩ = some (.int .i64 S.life) ∧ w.cell? ⟨u, 5, none⟩ = some (.int .i64 S.armed) :=
  ⟨(Blk.cell h.blk 0).trans rfl, (Blk.cell h.blk 1).trans rfl, (Blk.cell h.blk 2).trans rfl, (Blk.cell h.blk 3).trans rfl, (Blk.cell h.blk 4).trans rfl, (Blk.cell h.blk 5).trans rfl⟩
theorem ents_few (h : S.Ok) : S.ents.length ≤ 64 := by rw [ents_len h]; exact h.few
theorem ents_name (h : S.Ok) {k : Nat} (hk : k < S.ents.length) : ∃ hl : k < S.l.length, S.ents[k].1 = S.l[k] := by
  obtain ⟨h1, h2, e⟩ := ents_get (S := S) k hk
  exact ⟨h1, by rw [e]⟩
/-- where a name stands: what 'place' answers -/
def placeI (S : St) (x : ByteArray) : Int := if hasN S.l x = true then (posOf S.l x : Int) else -1
theorem place_found (h : S.Ok) {k : Nat} (hk : k < S.ents.length) (hx : S.ents[k].1 = x) : placeI S x = k := by
  obtain ⟨hl, e⟩ := ents_name h hk
  have hh : hasN S.l x = true := by rw [hasN_iff, ← hx, e]; exact List.getElem_mem _
  obtain ⟨h3, h4⟩ := pos_get h.rising hh
  unfold placeI; rw [if_pos hh, rising_inj h.rising h3 hl (by rw [h4, ← hx, e])]
theorem place_none (h : S.Ok) (hx : ∀ k (hk : k < S.ents.length), S.ents[k].1 ≠ x) : placeI S x = -1 := by
  unfold placeI
  rw [if_neg]
  intro hh
  obtain ⟨h3, h4⟩ := pos_get h.rising hh
  have hk : posOf S.l x < S.ents.length := by rw [ents_len h]; exact h3
  obtain ⟨hl, e⟩ := ents_name h hk
  exact hx _ hk (e.trans h4)
set_option maxHeartbeats 1000000 in
theorem rplace_any (x : ByteArray) (h : RefAt w u v S) : Calls Tryz.prog 70 #[.pointer (some ⟨u, 0, none⟩), .string x] w fun e w' => e = .returned (.int .i64 (placeI S x)) ∧ w = w' := by
  obtain ⟨c0, -, -, -, -, -⟩ := h.cells
  have hf := ents_few h.ok
  obtain ⟨a, c, rfl, hc, hR⟩ := own_reels h.row
  have HPF : Hid (∀ k (hk : k < S.ents.length), S.ents[k].1 = x → placeI S x = k) := fun k hk e => place_found h.ok hk e
  have HPN : Hid ((∀ k (hk : k < S.ents.length), S.ents[k].1 ≠ x) → placeI S x = -1) := fun e => place_none h.ok e
  obtain ⟨P, hP⟩ : ∃ P, placeI S x = P := ⟨_, rfl⟩
  rw [hP] at HPF HPN ⊢
  have HR := hid hR
  clear h hP hR hc
  generalize hL : S.ents = L at HPF HPN HR c0 hf
  clear hL
  go_enter Tryz.func70, Tryz.ntmps70
  go_wp2
  go_loop [5] (fun iv => ∃ k : Nat, k ≤ L.length ∧ iv = .int .i64 k ∧ Hid (∀ i (hi : i < L.length), i < k → L[i].1 ≠ x)) (fun iv => L.length - (intOf iv).toNat)
  case atStart => exact ⟨0, by omega, rfl, fun i _ hi => absurd hi (by omega)⟩
  case round =>
    obtain ⟨k, hk, rfl, HN⟩ := hrel
    by_cases hlt : k < L.length
    · have ck : (k : Int) < L.length := by omega
      obtain ⟨g, rfl, hc0, hc1, hc2⟩ := HR.out.get hlt
      obtain ⟨y, hy⟩ : ∃ y, L[k].1 = y := ⟨_, rfl⟩
      rw [hy] at hc0
      have HY := hid hy
      clear hc1 hc2 hy
      by_cases hxy : y = x
      · subst hxy
        have e := HPF.out k hlt HY.out
        have HE := hid e; clear e
        go_wp2_with fail
        go_ret
        exact ⟨ret_int HE.out.symm, rfl⟩
      · have hne := bstr_ne hxy
        have HXY := hid hxy
        clear hxy
        go_wp2_with fail
        go_round
        case rel =>
          refine ⟨k + 1, by omega, by go_num, fun i hi hlt' => ?_⟩
          by_cases e : i = k
          · subst e; rw [HY.out]; exact HXY.out
          · exact HN.out i hi (by omega)
        case measure => simp [intOf]; omega
    · have ck : ¬ (k : Int) < L.length := by omega
      have e := HPN.out (fun i hi => HN.out i hi (by omega))
      have HE := hid e; clear e
      go_wp2_with fail
      go_ret
      exact ⟨ret_int HE.out.symm, rfl⟩
theorem size_ents (S : St) (h : S.Ok) : size (S.ents.map (·.2)) = S.used := by rw [ents_snd h, h.used]
theorem esize_take (L : List Ent) (k : Nat) (hk : k < L.length) : size ((L.take (k + 1)).map (·.2)) = size ((L.take k).map (·.2)) + L[k].2.bytes.length := by
  rw [List.take_succ_eq_append_getElem hk, List.map_append, size_append]; simp [size]
theorem esize_le (L : List Ent) (k : Nat) : size ((L.take k).map (·.2)) ≤ size (L.map (·.2)) := by
  conv => rhs; rw [← List.take_append_drop k L, List.map_append, size_append]
  omega
set_option maxHeartbeats 1000000 in
theorem rall_any (h : RefAt w u v S) : Calls Tryz.prog 71 #[.pointer (some ⟨u, 0, none⟩)] w fun e w' => e = .returned (.int .i64 S.used) ∧ w = w' := by
  obtain ⟨c0, -, -, -, -, -⟩ := h.cells
  have hf := ents_few h.ok
  obtain ⟨a, c, rfl, hc, hR⟩ := own_reels h.row
  have hsz := size_ents S h.ok
  have hmost := h.ok.most
  have HR := hid hR
  obtain ⟨L, hL⟩ : ∃ L, S.ents = L := ⟨_, rfl⟩
  obtain ⟨U, hU⟩ : ∃ U, S.used = U := ⟨_, rfl⟩
  simp only [hL, hU] at HR c0 hf hsz hmost ⊢
  have HSZ := hid hsz
  clear h hR hL hc hU hsz
  go_enter Tryz.func71, Tryz.ntmps71
  go_wp2
  go_loop [3, 4] (fun nv iv => ∃ k : Nat, k ≤ L.length ∧ iv = .int .i64 k ∧ nv = .int .i64 (size ((L.take k).map (·.2)))) (fun _ iv => L.length - (intOf iv).toNat)
  case atStart => exact ⟨0, by omega, rfl, rfl⟩
  case round =>
    obtain ⟨k, hk, rfl, rfl⟩ := hrel
    by_cases hlt : k < L.length
    · have ck : (k : Int) < L.length := by omega
      obtain ⟨g, rfl, hc0, hc1, hc2⟩ := HR.out.get hlt
      have z1 := esize_take L k hlt
      have z2 := esize_le L (k + 1)
      rw [HSZ.out, z1] at z2
      obtain ⟨y, hy⟩ : ∃ y, bt L[k].2.bytes = y := ⟨_, rfl⟩
      have hys : L[k].2.bytes.length = y.size := by rw [← hy, bt_size]
      rw [hy] at hc1
      rw [hys] at z1 z2
      have Z1 := hid z1
      obtain ⟨q, hq⟩ : ∃ q, size ((L.take k).map (·.2)) = q := ⟨_, rfl⟩
      rw [hq] at z2 Z1 ⊢
      clear hc0 hc2 hy z1 hys hq
      go_wp2_with fail
      go_round
      case rel => exact ⟨k + 1, by omega, by go_num, by rw [Z1.out]; go_num⟩
      case measure => simp [intOf]; omega
    · have ck : ¬ (k : Int) < L.length := by omega
      have e : size ((L.take k).map (·.2)) = U := by rw [List.take_of_length_le (by omega)]; exact HSZ.out
      have HE := hid e; clear e
      go_wp2_with fail
      go_ret
      exact ⟨ret_int (by rw [← HE.out, List.map_take]), rfl⟩
end
end Go.Proofs.YtnhgfhbicaiilaaGreat
/- The reference's disk: small calls. -/
namespace Go.Proofs.YtnhgfhbicaiilaaGreat
open Go.RowKit Reel
set_option linter.unusedVariables false
attribute [local go_sem ↓] Go.wp_at_zero Go.wp_at_succ

/-- what a call of the reference's disk leaves -/
def RStep (w w' : World) (u : Nat) (v : Value) (S' : St) : Prop := ∃ v', RefAt w' u v' S' ∧ Only (· = u) w w' ∧ (v' = v ∨ ∀ k, v'.ownBlock = some k → w.heap.size ≤ k)
section
variable {w : World} {u : Nat} {v : Value} {S : St} {x : ByteArray}
theorem RefAt.lt (h : RefAt w u v S) : u < w.heap.size := Blk.lt h.blk
theorem RefAt.ne (h : RefAt w u v S) : v.ownBlock ≠ some u := own_blk_ne h.row h.blk (by decide)
theorem RefAt.later (h : RefAt w u v S) {w' : World} (hb : Below w.heap.size w w') : RefAt w' u v S :=
  ⟨(hb.block u h.lt).trans h.blk, own_below h.row hb, h.ok⟩
theorem RefAt.drewN (h : RefAt w u v S) (n : Nat) : RefAt (w.drewN n) u v S := ⟨h.blk, h.row, h.ok⟩
theorem calls_same {P : Program} {f : FuncId} {args : Array Value} {w : World} {v : Value} (h : Calls P f args w fun e w' => e = .returned v ∧ w = w') : Calls P f args w fun e w' => e = .returned v ∧ w' = w := h.mono fun _ _ h => ⟨h.1, h.2.symm⟩
theorem RefAt.drew (h : RefAt w u v S) : RefAt w.drew u v S := ⟨h.blk, h.row, h.ok⟩
/-- cells of the disk's own block are written -/
theorem RefAt.put (h : RefAt w u v S) {w' : World} {S' : St} (ho : Only (· = u) w w') (hb : Blk w' u 59 #[v, .int .i64 S'.room, .bool S'.down, .int .i64 S'.acts, .int .i64 S'.life, .int .i64 S'.armed]) (he : S'.ents = S.ents) (hok : S'.Ok) : RStep w w' u v S' :=
  ⟨v, ⟨hb, by rw [he]; exact own_only h.row ho (fun k hk e => h.ne (by rw [hk, e])), hok⟩, ho, .inl rfl⟩

theorem rready_any (h : RefAt w u v S) : Calls Tryz.prog 69 #[.pointer (some ⟨u, 0, none⟩)] w fun e w' => e = .returned (.int .i64 (if S.down = true then 10 else 0)) ∧ w = w' := by
  obtain ⟨-, -, c2, -, -, -⟩ := h.cells
  cases hd : S.down
  all_goals
    rw [hd] at c2
    clear h hd
    go_enter Tryz.func69, Tryz.ntmps69
    go_wp2
    go_ret
    exact ⟨rfl, rfl⟩
theorem rdown_any (h : RefAt w u v S) : Calls Tryz.prog 40 #[.pointer (some ⟨u, 0, none⟩)] w fun e w' => e = .returned (.bool S.down) ∧ w = w' := by
  obtain ⟨-, -, c2, -, -, -⟩ := h.cells
  obtain ⟨d, hd⟩ : ∃ d, S.down = d := ⟨_, rfl⟩
  rw [hd] at c2 ⊢
  clear h hd
  go_enter Tryz.func40, Tryz.ntmps40
  go_wp2
  go_ret
  exact ⟨rfl, rfl⟩
theorem racts_any (h : RefAt w u v S) : Calls Tryz.prog 26 #[.pointer (some ⟨u, 0, none⟩)] w fun e w' => e = .returned (.int .i64 S.acts) ∧ w = w' := by
  obtain ⟨-, -, -, c3, -, -⟩ := h.cells
  clear h
  go_enter Tryz.func26, Tryz.ntmps26
  go_wp2
  go_ret
  exact ⟨rfl, rfl⟩
theorem rlife_any (h : RefAt w u v S) : Calls Tryz.prog 44 #[.pointer (some ⟨u, 0, none⟩)] w fun e w' => e = .returned (.int .i64 S.life) ∧ w = w' := by
  obtain ⟨-, -, -, -, c4, -⟩ := h.cells
  clear h
  go_enter Tryz.func44, Tryz.ntmps44
  go_wp2
  go_ret
  exact ⟨rfl, rfl⟩
/-- what stands under a name, and where -/
theorem at_place (h : S.Ok) {t : Spool} (ht : at_ S x = some t) : ∃ hk : posOf S.l x < S.ents.length, placeI S x = (posOf S.l x : Int) ∧ S.ents[posOf S.l x] = (x, t) := by
  obtain ⟨h1, h2⟩ := at_some ht
  obtain ⟨h3, h4⟩ := pos_get h.rising h1
  have hk : posOf S.l x < S.ents.length := by rw [ents_len h]; exact h3
  refine ⟨hk, by unfold placeI; rw [if_pos h1], ?_⟩
  obtain ⟨_, h6, e⟩ := ents_get (S := S) _ hk
  rw [e, h4]
  rw [List.getElem?_eq_getElem h6] at h2
  injection h2 with h2; rw [h2]
theorem at_place_none (h : S.Ok) (ht : at_ S x = none) : placeI S x = -1 := by unfold placeI; rw [if_neg (by rw [at_none h ht]; simp)]
def foundI (S : St) (x : ByteArray) : Int × Int := if S.down = true then (0, 10) else match at_ S x with | none => (0, 12) | some _ => ((posOf S.l x : Int), 0)
theorem rfound_any (x : ByteArray) (h : RefAt w u v S) : Calls Tryz.prog 75 #[.pointer (some ⟨u, 0, none⟩), .string x] w fun e w' => e = .returned (.tuple #[.int .i64 (foundI S x).1, .int .i64 (foundI S x).2]) ∧ w = w' := by
  have HRD := hid (rready_any h)
  have HPL := hid (rplace_any x h)
  cases hd : S.down
  · cases ht : at_ S x with
    | none =>
      have e1 := at_place_none h.ok ht
      have e2 : foundI S x = (0, 12) := by unfold foundI; rw [if_neg (by rw [hd]; simp), ht]
      rw [hd] at HRD; rw [e1] at HPL; rw [e2]
      clear h hd ht e1 e2
      go_enter Tryz.func75, Tryz.ntmps75
      go_wp2_with (first
        | (go_at_call 69; refine HRD.out.mono ?_; rintro e w' ⟨rfl, rfl⟩)
        | (go_at_call 70; refine HPL.out.mono ?_; rintro e w' ⟨rfl, rfl⟩))
      go_ret2
      exact ⟨rfl, rfl⟩
    | some t =>
      obtain ⟨hk, e1, -⟩ := at_place h.ok ht
      have hfew := ents_few h.ok
      have e2 : foundI S x = ((posOf S.l x : Int), 0) := by unfold foundI; rw [if_neg (by rw [hd]; simp), ht]
      rw [hd] at HRD; rw [e1] at HPL; rw [e2]
      obtain ⟨q, hq⟩ : ∃ q, posOf S.l x = q := ⟨_, rfl⟩
      rw [hq] at HPL ⊢
      have hq64 : q < 64 := by omega
      clear h hd ht e1 e2 hk hfew hq
      go_enter Tryz.func75, Tryz.ntmps75
      go_wp2_with (first
        | (go_at_call 69; refine HRD.out.mono ?_; rintro e w' ⟨rfl, rfl⟩)
        | (go_at_call 70; refine HPL.out.mono ?_; rintro e w' ⟨rfl, rfl⟩))
      go_ret2
      exact ⟨rfl, rfl⟩
  · have e2 : foundI S x = (0, 10) := by unfold foundI; rw [if_pos hd]
    rw [hd] at HRD; rw [e2]
    clear h hd e2
    go_enter Tryz.func75, Tryz.ntmps75
    go_wp2_with (first
      | (go_at_call 69; refine HRD.out.mono ?_; rintro e w' ⟨rfl, rfl⟩))
    go_ret2
    exact ⟨rfl, rfl⟩
set_option maxHeartbeats 1000000 in
theorem rsize_any (x : ByteArray) (h : RefAt w u v S) : Calls Tryz.prog 27 #[.pointer (some ⟨u, 0, none⟩), .string x] w fun e w' => e = .returned (.int .i64 (sizeS S x)) ∧ ∃ n, w' = w.drewN n := by
  have HPL := hid (rplace_any x h)
  have HPD := hid fun n => calls_same (rplace_any x (h.drewN n))
  cases ht : at_ S x with
  | none =>
    have e1 := at_place_none h.ok ht
    have e2 : sizeS S x = -1 := by unfold sizeS; rw [ht]
    rw [e1] at HPL; rw [e2]
    clear h ht e1 e2
    go_enter Tryz.func27, Tryz.ntmps27
    go_wp2_with (go_at_call 70; refine HPL.out.mono ?_; rintro e w' ⟨rfl, rfl⟩)
    go_ret
    exact ⟨rfl, 0, rfl⟩
  | some t =>
    obtain ⟨c0, -, -, -, -, -⟩ := h.cells
    obtain ⟨hk, e1, he⟩ := at_place h.ok ht
    have hfew := ents_few h.ok
    have e2 : sizeS S x = (t.bytes.length : Int) := by unfold sizeS; rw [ht]
    rw [e1] at HPL HPD; rw [e2]
    obtain ⟨a, c, rfl, hc, hR⟩ := own_reels h.row
    obtain ⟨g, rfl, hc0, hc1, hc2⟩ := hR.get hk
    obtain ⟨q, hq⟩ : ∃ q, posOf S.l x = q := ⟨_, rfl⟩
    simp only [hq] at HPL HPD hk he hc0 hc1 hc2
    rw [he] at hc1
    obtain ⟨y, hy⟩ : ∃ y, bt t.bytes = y := ⟨_, rfl⟩
    simp only [hy] at hc1
    have e3 : t.bytes.length = y.size := by rw [← hy, bt_size]
    rw [e3]
    obtain ⟨N, hN⟩ : ∃ N, S.ents.length = N := ⟨_, rfl⟩
    rw [hN] at c0 hk hfew hc
    have b0 : (0 : Int) ≤ (q : Int) := by omega
    have b1 : (q : Int) < N := by omega
    clear h ht e1 e2 he hc0 hc2 hR hq hy e3 hN
    go_enter Tryz.func27, Tryz.ntmps27
    go_wp2_with (go_at_call 70; refine HPL.out.mono ?_; rintro e w' ⟨rfl, rfl⟩)
    go_quiet ((go_at_call 70; exact Calls.quiet_of_same (HPD.out _)))
    go_wp2
    go_ret
    exact ⟨rfl, _, rfl⟩
end
end Go.Proofs.YtnhgfhbicaiilaaGreat
/- The reference's disk: New, Read, Names, Off, act, Arm, Room. -/
namespace Go.Proofs.YtnhgfhbicaiilaaGreat
open Go.RowKit Reel
set_option linter.unusedVariables false

section
variable {w : World} {u : Nat} {v : Value} {S : St} {x : ByteArray}
theorem rread_any (x : ByteArray) (h : RefAt w u v S) : Calls Tryz.prog 30 #[.pointer (some ⟨u, 0, none⟩), .string x] w fun e w' => e = .returned (.tuple #[.string ⟨(readS S x).1.toArray⟩, .int .i64 (readS S x).2]) ∧ w = w' := by
  have HFD := hid (rfound_any x h)
  by_cases hd : S.down = true
  · have e1 : readS S x = ([], 10) := by unfold readS; rw [if_pos hd]
    have e2 : foundI S x = (0, 10) := by unfold foundI; rw [if_pos hd]
    rw [e2] at HFD; rw [e1]
    clear h hd e1 e2
    go_enter Tryz.func30, Tryz.ntmps30
    go_wp2_with (go_at_call 75; refine HFD.out.mono ?_; rintro e w' ⟨rfl, rfl⟩)
    go_ret2
    exact ⟨rfl, rfl⟩
  cases ht : at_ S x with
  | none =>
    have e1 : readS S x = ([], 12) := by unfold readS; rw [if_neg hd, ht]
    have e2 : foundI S x = (0, 12) := by unfold foundI; rw [if_neg hd, ht]
    rw [e2] at HFD; rw [e1]
    clear h hd ht e1 e2
    go_enter Tryz.func30, Tryz.ntmps30
    go_wp2_with (go_at_call 75; refine HFD.out.mono ?_; rintro e w' ⟨rfl, rfl⟩)
    go_ret2
    exact ⟨rfl, rfl⟩
  | some t =>
    obtain ⟨c0, -, -, -, -, -⟩ := h.cells
    obtain ⟨hk, -, he⟩ := at_place h.ok ht
    have hfew := ents_few h.ok
    have e1 : readS S x = (t.bytes, 0) := by unfold readS; rw [if_neg hd, ht]
    have e2 : foundI S x = ((posOf S.l x : Int), 0) := by unfold foundI; rw [if_neg hd, ht]
    rw [e2] at HFD; rw [e1]
    obtain ⟨a, c, rfl, hc, hR⟩ := own_reels h.row
    obtain ⟨g, rfl, hc0, hc1, hc2⟩ := hR.get hk
    obtain ⟨q, hq⟩ : ∃ q, posOf S.l x = q := ⟨_, rfl⟩
    simp only [hq] at HFD hk he hc0 hc1 hc2
    rw [he] at hc1
    obtain ⟨y, hy⟩ : ∃ y, bt t.bytes = y := ⟨_, rfl⟩
    show Calls _ _ _ _ fun e w' => e = .returned (.tuple #[.string (bt t.bytes), .int .i64 0]) ∧ _
    rw [hy] at hc1 ⊢
    obtain ⟨N, hN⟩ : ∃ N, S.ents.length = N := ⟨_, rfl⟩
    rw [hN] at c0 hk hfew hc
    have b0 : (0 : Int) ≤ (q : Int) := by omega
    have b1 : (q : Int) < N := by omega
    clear h hd ht e1 e2 he hc0 hc2 hR hq hy hN
    go_enter Tryz.func30, Tryz.ntmps30
    go_wp2_with (go_at_call 75; refine HFD.out.mono ?_; rintro e w' ⟨rfl, rfl⟩)
    go_ret2
    exact ⟨rfl, rfl⟩
theorem rroom_any (n : Int) (w : World) : Calls Tryz.prog 32 #[.int .i64 n] w fun e w' => e = .returned (.int .i64 (roomOf n : Int)) ∧ w = w' := by
  by_cases h1 : n < 0
  · have e : roomOf n = 0 := by unfold roomOf; rw [if_pos h1]
    rw [e]; clear e
    go_enter Tryz.func32, Tryz.ntmps32
    go_wp2
    go_ret
    exact ⟨rfl, rfl⟩
  · by_cases h2 : 67108864 < n
    · have e : roomOf n = 67108864 := by unfold roomOf; rw [if_neg h1, if_pos h2]
      rw [e]; clear e
      go_enter Tryz.func32, Tryz.ntmps32
      go_wp2
      go_ret
      exact ⟨rfl, rfl⟩
    · have e : ((roomOf n : Nat) : Int) = n := by unfold roomOf; rw [if_neg h1, if_neg h2]; omega
      rw [e]; clear e
      go_enter Tryz.func32, Tryz.ntmps32
      go_wp2
      go_ret
      exact ⟨rfl, rfl⟩
theorem rnew_any (n : Int) (w : World) : Calls Tryz.prog 6 #[.int .i64 n] w fun e w' => e = .returned (.pointer (some ⟨w.heap.size, 0, none⟩)) ∧ RefAt w' w.heap.size (.slice none 0 0) (Reel.new n) ∧ Below w.heap.size w w' := by
  go_enter Tryz.func6, Tryz.ntmps6
  go_wp2_with (go_at_call 32; refine (rroom_any _ _).mono ?_; rintro e w' ⟨rfl, rfl⟩)
  go_ret
  exact ⟨rfl, ⟨Blk.new _ _ _, World.ownsRow_nil _ _ _ _, new_ok n⟩, (Below.refl _ _).alloc (Nat.le_refl _) _⟩
set_option maxHeartbeats 1000000 in
theorem roff_any (h : RefAt w u v S) (n : Nat) (hf : S.Fits n) (hn : n ≤ big) : Calls Tryz.prog 18 #[.pointer (some ⟨u, 0, none⟩)] w fun e w' => e = .returned (.tuple #[]) ∧ RStep w w' u v (offS S) := by
  obtain ⟨c0, c1, c2, c3, c4, c5⟩ := h.cells
  cases hd : S.down
  · rw [hd] at c2
    have f2 := Blk.frozen h.blk 2
    have f4 := Blk.frozen h.blk 4
    have f5 := Blk.frozen h.blk 5
    have hl := hf.2.1
    unfold big at hn
    have HFIN : Hid (RStep w (((w.setCell ⟨u, 2, none⟩ (.bool true)).setCell ⟨u, 4, none⟩ (.int .i64 ((S.life : Int) + 1))).setCell ⟨u, 5, none⟩ (.int .i64 0)) u v (offS S)) := by
      have e : offS S = { S with down := true, armed := 0, life := S.life + 1 } := by unfold offS; rw [if_neg (by simp [hd])]
      have hok := off_ok h.ok
      rw [e] at hok ⊢
      refine h.put ((((Only.refl (· = u) w).setCell (p := ⟨u, 2, none⟩) (.inl rfl) _).setCell (p := ⟨u, 4, none⟩) (.inl rfl) _).setCell (p := ⟨u, 5, none⟩) (.inl rfl) _) ?_ rfl hok
      have := ((Blk.set h.blk 2 (.bool true)).set 4 (.int .i64 ((S.life : Int) + 1))).set 5 (.int .i64 0)
      simpa using this
    clear h hd c0 c1 c3
    go_enter Tryz.func18, Tryz.ntmps18
    go_wp2
    go_end0
    exact ⟨rfl, HFIN.out⟩
  · rw [hd] at c2
    have e : offS S = S := by unfold offS; rw [if_pos hd]
    rw [e]
    have HS : Hid (RStep w w u v S) := ⟨v, h, Only.refl _ _, .inl rfl⟩
    clear h hd e c0 c1 c3 c4 c5
    go_enter Tryz.func18, Tryz.ntmps18
    go_wp2
    go_end0
    exact ⟨rfl, HS.out⟩
set_option maxHeartbeats 2000000 in
theorem ract_any (h : RefAt w u v S) (hd : S.down = false) (n : Nat) (hf : S.Fits n) (hn : n < big) : Calls Tryz.prog 74 #[.pointer (some ⟨u, 0, none⟩)] w fun e w' => e = .returned (.bool (decide ((actS S).2 = 10))) ∧ RStep w w' u v (actS S).1 := by
  obtain ⟨c0, c1, c2, c3, c4, c5⟩ := h.cells
  have f3 := Blk.frozen h.blk 3
  have f5 := Blk.frozen h.blk 5
  obtain ⟨hf1, hf2, hf3⟩ := hf
  have hn' := hn
  unfold big at hn
  have hok := act_ok h.ok
  by_cases h0 : S.armed = 0
  · have e : actS S = ({ S with acts := S.acts + 1 }, 0) := by unfold actS; rw [if_pos h0]
    rw [e] at hok ⊢
    have HFIN : Hid (RStep w (w.setCell ⟨u, 3, none⟩ (.int .i64 ((S.acts : Int) + 1))) u v { S with acts := S.acts + 1 }) := by
      refine h.put ((Only.refl (· = u) w).setCell (p := ⟨u, 3, none⟩) (.inl rfl) _) ?_ rfl hok
      have := Blk.set h.blk 3 (.int .i64 ((S.acts : Int) + 1))
      simpa using this
    rw [h0] at c5
    clear h hd c0 c1 c2 c4 hok e hn'
    go_enter Tryz.func74, Tryz.ntmps74
    go_wp2
    go_ret
    exact ⟨rfl, HFIN.out⟩
  · have HST : Hid (RStep w ((w.setCell ⟨u, 3, none⟩ (.int .i64 ((S.acts : Int) + 1))).setCell ⟨u, 5, none⟩ (.int .i64 ((S.armed : Int) - 1))) u v { S with acts := S.acts + 1, armed := S.armed - 1 }) := by
      refine h.put (((Only.refl (· = u) w).setCell (p := ⟨u, 3, none⟩) (.inl rfl) _).setCell (p := ⟨u, 5, none⟩) (.inl rfl) _) ?_ rfl (h.ok.with_ rfl rfl rfl h.ok.room)
      have := (Blk.set h.blk 3 (.int .i64 ((S.acts : Int) + 1))).set 5 (.int .i64 ((S.armed : Int) - 1))
      rw [show ((S.armed - 1 : Nat) : Int) = (S.armed : Int) - 1 by omega]
      simpa using this
    by_cases h1 : S.armed = 1
    · have e : actS S = ({ S with acts := S.acts + 1, down := true, armed := 0, life := S.life + 1 }, 10) := by unfold actS; rw [if_neg h0, if_pos h1]
      rw [e] at hok ⊢
      have HEQ : Hid (offS { S with acts := S.acts + 1, armed := S.armed - 1 } = { S with acts := S.acts + 1, down := true, armed := 0, life := S.life + 1 }) := by
        show offS { S with acts := S.acts + 1, armed := S.armed - 1 } = _
        unfold offS; rw [if_neg (by simp [hd])]
      rw [h1] at c5 HST HEQ
      have HOF : Hid (∀ w', RStep w w' u v { S with acts := S.acts + 1, armed := 1 - 1 } → Calls Tryz.prog 18 #[.pointer (some ⟨u, 0, none⟩)] w' fun e w'' => e = .returned (.tuple #[]) ∧ RStep w w'' u v { S with acts := S.acts + 1, down := true, armed := 0, life := S.life + 1 }) := fun w' ⟨v', r1, r2, r3⟩ => by
        refine (roff_any r1 (n + 1) ⟨by show S.acts + 1 ≤ _; omega, by show S.life ≤ _; omega, by show 1 - 1 ≤ _; omega⟩ (by unfold big; omega)).mono ?_
        rintro e w'' ⟨rfl, v'', q1, q2, q3⟩
        rw [HEQ.out] at q1
        refine ⟨rfl, v'', q1, r2.then q2, ?_⟩
        rcases q3 with rfl | q3
        · exact r3
        · exact .inr (fun k hk => Nat.le_trans r2.size (q3 k hk))
      have HST' := hid (HOF.out _ HST.out)
      clear h hd c0 c1 c2 c4 hok e hn' HEQ h0 h1 HST
      go_enter Tryz.func74, Tryz.ntmps74
      go_wp2_with (go_at_call 18; refine HST'.out.mono ?_; rintro e w' ⟨rfl, hst⟩; have HF := hid hst; clear hst)
      go_ret
      exact ⟨rfl, HF.out⟩
    · have e : actS S = ({ S with acts := S.acts + 1, armed := S.armed - 1 }, 0) := by unfold actS; rw [if_neg h0, if_neg h1]
      rw [e]
      obtain ⟨m, hm⟩ : ∃ m, S.armed = m := ⟨_, rfl⟩
      rw [hm] at c5 h0 h1 hf3
      have b1 : ((m : Int) == 0) = false := by rw [beq_eq_false_iff_ne]; omega
      have b2 : ((m : Int) - 1 == 0) = false := by rw [beq_eq_false_iff_ne]; omega
      have b3 : (0 : Int) ≤ (m : Int) - 1 := by omega
      simp only [hm] at HST ⊢
      clear h hd c0 c1 c2 c4 hok e hn' h0 h1 hm
      go_enter Tryz.func74, Tryz.ntmps74
      go_wp2
      go_ret
      exact ⟨rfl, HST.out⟩
set_option maxHeartbeats 1000000 in
theorem rarm_any (h : RefAt w u v S) (n : Int) (hn : n ≤ 9223372036854775807) : Calls Tryz.prog 16 #[.pointer (some ⟨u, 0, none⟩), .int .i64 n] w fun e w' => e = .returned (.tuple #[]) ∧ RStep w w' u v (armS S n) := by
  obtain ⟨c0, c1, c2, c3, c4, c5⟩ := h.cells
  have f5 := Blk.frozen h.blk 5
  have HST : ∀ m : Int, (n.toNat : Int) = m → RStep w (w.setCell ⟨u, 5, none⟩ (.int .i64 m)) u v (armS S n) := fun m hm => by
    refine h.put ((Only.refl (· = u) w).setCell (p := ⟨u, 5, none⟩) (.inl rfl) _) ?_ rfl (arm_ok h.ok n)
    have := Blk.set h.blk 5 (.int .i64 m)
    unfold armS
    simp only [hm]
    simpa using this
  by_cases h0 : n < 0
  · have HF := hid (HST 0 (by omega))
    clear h c0 c1 c2 c3 c4 HST
    go_enter Tryz.func16, Tryz.ntmps16
    go_wp2
    go_end0
    exact ⟨rfl, HF.out⟩
  · have HF := hid (HST n (by omega))
    clear h c0 c1 c2 c3 c4 HST
    go_enter Tryz.func16, Tryz.ntmps16
    go_wp2
    go_end0
    exact ⟨rfl, HF.out⟩
theorem rroomc_any (h : RefAt w u v S) (n : Int) : Calls Tryz.prog 22 #[.pointer (some ⟨u, 0, none⟩), .int .i64 n] w fun e w' => e = .returned (.tuple #[]) ∧ RStep w w' u v (roomS S n) := by
  obtain ⟨c0, c1, c2, c3, c4, c5⟩ := h.cells
  have f1 := Blk.frozen h.blk 1
  have HST : Hid (RStep w (w.setCell ⟨u, 1, none⟩ (.int .i64 (roomOf n : Int))) u v (roomS S n)) := by
    refine h.put ((Only.refl (· = u) w).setCell (p := ⟨u, 1, none⟩) (.inl rfl) _) ?_ rfl (room_ok h.ok n)
    have := Blk.set h.blk 1 (.int .i64 (roomOf n : Int))
    unfold roomS
    simpa using this
  clear h c0 c2 c3 c4 c5
  go_enter Tryz.func22, Tryz.ntmps22
  go_wp2_with (go_at_call 32; refine (rroom_any _ _).mono ?_; rintro e w' ⟨rfl, rfl⟩)
  go_end0
  exact ⟨rfl, HST.out⟩
end
end Go.Proofs.YtnhgfhbicaiilaaGreat
/- The reference's rows of reels: with, without, set. -/
namespace Go.Proofs.YtnhgfhbicaiilaaGreat
open Go.RowKit Reel
set_option linter.unusedVariables false

def insStep (e : Ent) (s : List Ent × Bool) (y : Ent) : List Ent × Bool := if s.2 = false ∧ lt' e.1 y.1 = true then (s.1 ++ [e, y], true) else (s.1 ++ [y], s.2)
def insF (e : Ent) (L : List Ent) : List Ent × Bool := L.foldl (insStep e) ([], false)
def insE (e : Ent) (L : List Ent) : List Ent := if (insF e L).2 = true then (insF e L).1 else (insF e L).1 ++ [e]
theorem insF_snoc (e : Ent) (L : List Ent) (y : Ent) : insF e (L ++ [y]) = insStep e (insF e L) y := by unfold insF; rw [List.foldl_append]; rfl
theorem insF_len (e : Ent) (L : List Ent) : (insF e L).1.length ≤ L.length + 1 ∧ ((insF e L).2 = false → (insF e L).1.length = L.length) := by
  suffices h : ∀ (L : List Ent) (s : List Ent × Bool), (L.foldl (insStep e) s).1.length ≤ s.1.length + L.length + (if s.2 = true then 0 else 1) ∧ ((L.foldl (insStep e) s).2 = false → s.2 = false ∧ (L.foldl (insStep e) s).1.length = s.1.length + L.length) by
    obtain ⟨h1, h2⟩ := h L ([], false)
    refine ⟨by simp at h1; unfold insF; omega, fun hf => ?_⟩
    have := (h2 hf).2; simpa [insF] using this
  intro L
  induction L with
  | nil => intro s; exact ⟨by simp, fun h => ⟨h, by simp⟩⟩
  | cons y r ih =>
    intro s
    rw [List.foldl_cons]
    obtain ⟨h1, h2⟩ := ih (insStep e s y)
    unfold insStep at h1 h2 ⊢
    split at h1
    · rename_i hc
      rw [if_pos hc] at h2 ⊢
      refine ⟨?_, fun h => absurd (h2 h).1 (by simp)⟩
      simp only [List.length_append, List.length_cons, List.length_nil, if_true] at h1 ⊢
      rw [hc.1]; simp only [Bool.false_eq_true, if_false]; omega
    · rename_i hc
      rw [if_neg hc] at h2 ⊢
      refine ⟨?_, fun h => ⟨(h2 h).1, ?_⟩⟩
      · simp only [List.length_append, List.length_cons, List.length_nil] at h1 ⊢; omega
      · have := (h2 h).2; simp only [List.length_append, List.length_cons, List.length_nil] at this ⊢; omega
theorem rvals_snoc (L : List Ent) (e : Ent) : rvals (L ++ [e]) = rvals L ++ rcell e := by rw [rvals_append]; simp [rvals]
theorem cellNew3 (w : World) (e : Ent) (t : TypeId) : ∀ j u, (rcell e)[j]? = some u → (w.alloc (.cells #[.string e.1, .string (bt e.2.bytes), .int .i64 e.2.safe] t)).cell? ((⟨w.heap.size, 0, none⟩ : Addr).add j) = some u := by
  intro j u h
  have hb : Blk (w.alloc (.cells #[.string e.1, .string (bt e.2.bytes), .int .i64 e.2.safe] t)) w.heap.size t #[.string e.1, .string (bt e.2.bytes), .int .i64 e.2.safe] := Blk.new _ _ _
  have hj : (⟨w.heap.size, 0, none⟩ : Addr).add j = ⟨w.heap.size, j, none⟩ := by unfold Addr.add; split <;> simp_all
  rw [hj, hb.cell]
  match j with
  | 0 => exact h
  | 1 => exact h
  | 2 => exact h
  | _ + 3 => exact absurd h (by simp [rcell])
theorem rcell_one (e : Ent) : ∀ u ∈ rcell e, u.oneCell' = true := by
  intro u hu
  simp only [rcell, List.mem_cons, List.not_mem_nil, or_false] at hu
  rcases hu with rfl | rfl | rfl <;> rfl
theorem own_reel_snoc {w : World} {B : Nat} {v : Value} {L : List Ent} {e : Ent} {t : TypeId} (h : w.ownsRow B t 3 v (L.length + 1) (rvals L ++ rcell e)) : w.ownsRow B t 3 v (L ++ [e]).length (rvals (L ++ [e])) := by
  rw [rvals_snoc, List.length_append]; exact h
theorem ReelsAt.later {w w' : World} {a : Option Addr} {n : Nat} {L : List Ent} (h : ReelsAt w a n L) {B : Nat} (hB : w.heap.size ≤ B) (hb : Below B w w') : ReelsAt w' a n L := by
  obtain ⟨h1, h2⟩ := h
  refine ⟨h1, h2.imp id ?_⟩
  rintro ⟨g, ha, hcs⟩
  refine ⟨g, ha, fun j hj => ?_⟩
  obtain ⟨q0, q1, q2⟩ := hcs j hj
  have up : ∀ {p : Addr} {z : Value}, w.cell? p = some z → w'.cell? p = some z := fun hz => (World.cell?_of_block (hb.block _ (Nat.lt_of_lt_of_le (World.block_lt_of_cell? _ _ hz) hB))).trans hz
  exact ⟨up q0, up q1, up q2⟩
theorem own_base {w : World} {B B' : Nat} {e : TypeId} {s n : Nat} {v : Value} {xs : List Value} (h : w.ownsRow B e s v n xs) (hB : B' ≤ B) : w.ownsRow B' e s v n xs := by
  refine ⟨h.1, h.2.imp id ?_⟩
  rintro ⟨g, cap, cur, rfl, hb, r⟩
  exact ⟨g, cap, cur, rfl, by omega, r⟩

set_option maxRecDepth 100000 in
set_option maxHeartbeats 4000000 in
theorem rwithout_any (L : List Ent) (at_ : Nat) (a : Option Addr) (c : Nat) (w : World) (hR : ReelsAt w a L.length L) (hL : L.length ≤ 64) (hat : at_ ≤ 64) :
    Calls Tryz.prog 84 #[.slice a L.length c, .int .i64 at_] w fun en w' => ∃ v', en = .returned v' ∧ w'.ownsRow w.heap.size 84 3 v' (L.eraseIdx at_).length (rvals (L.eraseIdx at_)) ∧ Below w.heap.size w w' := by
  obtain ⟨i0, hi0, hz0, hz1, hz2⟩ := info_parts Tryz.infoRl
  have HR := hid hR
  clear hR
  go_enter Tryz.func84, Tryz.ntmps84
  go_wp2
  go_loopw [5, 6] (fun ov iv wr => ∃ (k : Nat), k ≤ L.length ∧ iv = .int .i64 k ∧ Hid (wr.ownsRow w.heap.size 84 3 ov ((L.take k).eraseIdx at_).length (rvals ((L.take k).eraseIdx at_))) ∧ Hid (Below w.heap.size w wr)) (fun _ iv _ => L.length - (intOf iv).toNat)
  case atStart => exact ⟨0, by omega, rfl, World.ownsRow_made _ _ 0 (Nat.le_refl _) (by unfold maxLen; omega) rfl, (Below.refl _ _).alloc (Nat.le_refl _) _⟩
  case round =>
    obtain ⟨k, hk, rfl, HO, bel⟩ := hrel
    have hsz : w.heap.size ≤ wr.heap.size := bel.out.size
    by_cases hlt : k < L.length
    · have ck : (k : Int) < L.length := by omega
      obtain ⟨g, rfl, hc0, hc1, hc2⟩ := (HR.out.later (Nat.le_refl _) bel.out).get hlt
      have HT : Hid (L.take (k + 1) = L.take k ++ [L[k]]) := List.take_succ_eq_append_getElem hlt
      obtain ⟨y, hy⟩ : ∃ y, L[k] = y := ⟨_, rfl⟩
      rw [hy] at hc0 hc1 hc2 HT
      have hlk : (L.take k).length = k := by rw [List.length_take]; omega
      by_cases hka : k = at_
      · subst hka
        have HE : Hid ((L.take (k + 1)).eraseIdx k = (L.take k).eraseIdx k) := by
          show (L.take (k + 1)).eraseIdx k = (L.take k).eraseIdx k
          rw [HT.out, List.eraseIdx_append_of_length_le (by omega), hlk, Nat.sub_self, List.eraseIdx_of_length_le (by omega : (L.take k).length ≤ k)]
          simp
        clear hc0 hc1 hc2 hy hlk HT
        go_wp2_with fail
        go_roundw
        case rel => exact ⟨k + 1, by omega, by go_num, by rw [HE.out]; exact HO, bel⟩
        case measure => simp [intOf]; omega
      · have kb : ((k : Int) != (at_ : Int)) = true := by rw [bne_iff_ne]; omega
        have HE : Hid ((L.take (k + 1)).eraseIdx at_ = (L.take k).eraseIdx at_ ++ [y]) := by
          show (L.take (k + 1)).eraseIdx at_ = (L.take k).eraseIdx at_ ++ [y]
          rw [HT.out]
          rcases Nat.lt_or_ge at_ k with hlt2 | hge2
          · rw [List.eraseIdx_append_of_lt_length (by omega)]
          · rw [List.eraseIdx_of_length_le (by simp; omega), List.eraseIdx_of_length_le (by omega : (L.take k).length ≤ at_)]
        have hle : ((L.take k).eraseIdx at_).length ≤ 64 := by
          have := List.length_eraseIdx_le (L.take k) at_; omega
        have hown := HO.out
        clear HO hy hlk HT hka
        go_wp2_with (at_builtin; refine wpList_append_own _ rfl (.tmp 17) (.tmp 22) 57 rfl w.heap.size 84 i0 (.agg #[.string ⟨#[]⟩, .string ⟨#[]⟩, .int .i64 0]) 3 40 Tryz.underlying57 hi0 hz0 hz1 hz2 rfl (by decide) _ _ _ rfl (hown.alloc _) _ 1 1 (rcell y) rfl rfl (cellNew3 _ _ _) (rcell_one y) (by unfold maxLen; omega) (by omega) (by simp; omega) ?_; intro v' w3 hown' hgrow _)
        go_roundw
        case rel => exact ⟨k + 1, by omega, by go_num, by rw [HE.out]; exact own_reel_snoc hown', below_grown1 bel.out hown _ hsz hgrow⟩
        case measure => simp [intOf]; omega
    · have ck : ¬ (k : Int) < L.length := by omega
      have HF : Hid (wr.ownsRow w.heap.size 84 3 u5 (L.eraseIdx at_).length (rvals (L.eraseIdx at_))) := by have := HO.out; rw [List.take_of_length_le (by omega)] at this; exact this
      go_wp2_with fail
      go_ret
      exact ⟨_, rfl, HF.out, bel.out⟩

theorem insStep_no (e : Ent) (s : List Ent × Bool) (y : Ent) (h : s.2 = true ∨ lt' e.1 y.1 = false) : insStep e s y = (s.1 ++ [y], s.2) := by
  unfold insStep; rw [if_neg]; rintro ⟨h1, h2⟩; rcases h with h | h
  · rw [h1] at h; cases h
  · rw [h2] at h; cases h
theorem insStep_yes (e : Ent) (s : List Ent × Bool) (y : Ent) (h1 : s.2 = false) (h2 : lt' e.1 y.1 = true) : insStep e s y = (s.1 ++ [e] ++ [y], true) := by
  unfold insStep; rw [if_pos ⟨h1, h2⟩]; simp
set_option maxRecDepth 100000 in
set_option maxHeartbeats 8000000 in
theorem rwith_any (L : List Ent) (e : Ent) (a : Option Addr) (c : Nat) (w : World) (hR : ReelsAt w a L.length L) (hL : L.length ≤ 64) :
    Calls Tryz.prog 72 #[.slice a L.length c, .agg #[.string e.1, .string (bt e.2.bytes), .int .i64 e.2.safe]] w fun en w' => ∃ v', en = .returned v' ∧ w'.ownsRow w.heap.size 84 3 v' (insE e L).length (rvals (insE e L)) ∧ Below w.heap.size w w' := by
  obtain ⟨i0, hi0, hz0, hz1, hz2⟩ := info_parts Tryz.infoRl
  obtain ⟨W, hW⟩ : ∃ W, w.alloc (.cells #[.string e.1, .string (bt e.2.bytes), .int .i64 e.2.safe] 84) = W := ⟨_, rfl⟩
  obtain ⟨gx, hgx⟩ : ∃ gx, w.heap.size = gx := ⟨_, rfl⟩
  have BX : Hid (Blk W gx 84 #[.string e.1, .string (bt e.2.bytes), .int .i64 e.2.safe]) := by rw [← hW, ← hgx]; exact Blk.new _ _ _
  have HWS : Hid (W.heap.size = gx + 1) := by rw [← hW, ← hgx]; show (w.alloc _).heap.size = _; simp
  have HBW : Hid (Below gx w W) := by rw [← hW]; exact (Below.refl _ _).alloc (by omega) _
  have HR : Hid (ReelsAt W a L.length L) := hR.later (Nat.le_of_eq hgx) HBW.out
  have HW := hid hW
  clear hR hW
  rw [hgx]
  have HGX := hid hgx
  clear hgx
  go_enter Tryz.func72, Tryz.ntmps72
  go_wp2
  rw [HW.out, HGX.out]
  go_loopw [5, 6, 7] (fun ov pv iv wr => ∃ (k : Nat) (b : Bool), k ≤ L.length ∧ iv = .int .i64 k ∧ pv = .bool b ∧ Hid ((insF e (L.take k)).2 = b) ∧ Hid (wr.ownsRow (gx + 1) 84 3 ov (insF e (L.take k)).1.length (rvals (insF e (L.take k)).1)) ∧ Hid (Below (gx + 1) W wr)) (fun _ _ iv _ => L.length - (intOf iv).toNat)
  case atStart =>
    refine ⟨0, false, by omega, rfl, rfl, rfl, ?_, (Below.refl _ _).alloc (Nat.le_of_eq HWS.out.symm) _⟩
    have := World.ownsRow_made (e := 84) (size := 3) (base := gx + 1) W #[] 0 (Nat.le_of_eq HWS.out.symm) (by unfold maxLen; omega) rfl
    rw [HWS.out] at this
    exact this
  case round =>
    obtain ⟨k, b, hk, rfl, rfl, HB, HO, bel⟩ := hrel
    have hsz : gx + 1 ≤ wr.heap.size := by have := bel.out.size; rw [HWS.out] at this; exact this
    have BXR : Hid (Blk wr gx 84 #[.string e.1, .string (bt e.2.bytes), .int .i64 e.2.safe]) := (bel.out.block gx (by omega)).trans BX.out
    have x0 : wr.cell? ⟨gx, 0, none⟩ = some (.string e.1) := Blk.cell BXR.out 0
    have x1 : wr.cell? ⟨gx, 1, none⟩ = some (.string (bt e.2.bytes)) := Blk.cell BXR.out 1
    have x2 : wr.cell? ⟨gx, 2, none⟩ = some (.int .i64 e.2.safe) := Blk.cell BXR.out 2
    have hlen : (insF e (L.take k)).1.length ≤ 65 := by have := (insF_len e (L.take k)).1; rw [List.length_take] at this; omega
    by_cases hlt : k < L.length
    · have ck : (k : Int) < L.length := by omega
      obtain ⟨g, rfl, hc0, hc1, hc2⟩ := (HR.out.later (B := gx + 1) (Nat.le_of_eq HWS.out) bel.out).get hlt
      have HT : Hid (insF e (L.take (k + 1)) = insStep e (insF e (L.take k)) L[k]) := by
        show insF e (L.take (k + 1)) = insStep e (insF e (L.take k)) L[k]
        rw [List.take_succ_eq_append_getElem hlt, insF_snoc]
      obtain ⟨y, hy⟩ : ∃ y, L[k] = y := ⟨_, rfl⟩
      have HUP : Hid (∀ w3, Below (gx + 1) W w3 → w3.cell? ⟨g, k * 3, none⟩ = some (.string y.1) ∧ w3.cell? ⟨g, k * 3 + 1, none⟩ = some (.string (bt y.2.bytes)) ∧ w3.cell? ⟨g, k * 3 + 2, none⟩ = some (.int .i64 y.2.safe)) := fun w3 hb => by
        obtain ⟨g', ha, q⟩ := (HR.out.later (B := gx + 1) (Nat.le_of_eq HWS.out) hb).get hlt
        injection ha with ha; injection ha with ha; subst ha
        rw [hy] at q; exact q
      rw [hy] at hc0 hc1 hc2 HT
      have hown := HO.out
      clear hy
      by_cases hins : b = false ∧ lt' e.1 y.1 = true
      · obtain ⟨rfl, hlt'⟩ := hins
        have HE : Hid (insF e (L.take (k + 1)) = ((insF e (L.take k)).1 ++ [e] ++ [y], true)) := by
          show insF e (L.take (k + 1)) = _
          rw [HT.out]; exact insStep_yes e _ y HB.out hlt'
        have hl2 : Op.bytesLess e.1.toList y.1.toList = true := hlt'
        clear HT hlt' HO
        go_wp2
        go_quiet (fail)
        have hownq := own_drewN hown nq
        have belq := below_drewN bel.out nq
        have hszq : gx + 1 ≤ (wr.drewN nq).heap.size := hsz
        have BELQ := hid belq
        clear belq
        go_wp2_with (first
          | (at_builtin; refine wpList_append_own _ rfl (.tmp 27) (.tmp 29) 57 rfl (gx + 1) 84 i0 (.agg #[.string ⟨#[]⟩, .string ⟨#[]⟩, .int .i64 0]) 3 40 Tryz.underlying57 hi0 hz0 hz1 hz2 rfl (by decide) _ _ _ rfl (hownq.alloc _) _ 1 1 (rcell e) rfl rfl (cellNew3 _ _ _) (rcell_one e) (by unfold maxLen; omega) (by omega) (by simp; omega) ?_; intro v' w3 hown3 hgrow3 _; have bel3 := below_grown1 BELQ.out hownq _ hszq hgrow3; have HO3 := hid (own_reel_snoc hown3); have hsz3 : gx + 1 ≤ w3.heap.size := (by have := bel3.size; rw [HWS.out] at this; exact this); obtain ⟨r0, r1, r2⟩ := HUP.out w3 bel3; have BEL3 := hid bel3; clear hown3 hgrow3 bel3)
          | (at_builtin; have hown4 := HO3.out; refine wpList_append_own _ rfl (.tmp 31) (.tmp 36) 57 rfl (gx + 1) 84 i0 (.agg #[.string ⟨#[]⟩, .string ⟨#[]⟩, .int .i64 0]) 3 40 Tryz.underlying57 hi0 hz0 hz1 hz2 rfl (by decide) _ _ _ rfl (hown4.alloc _) _ 1 1 (rcell y) rfl rfl (cellNew3 _ _ _) (rcell_one y) (by simp; unfold maxLen; omega) (by simp; omega) (by simp; omega) ?_; intro v'' w5 hown5 hgrow5 _; have bel5 := below_grown1 BEL3.out HO3.out _ hsz3 hgrow5; have HO5 := hid (own_reel_snoc hown5); have BEL5 := hid bel5; clear hown5 hgrow5 bel5 hown4))
        go_roundw
        case rel => exact ⟨k + 1, true, by omega, by go_num, rfl, by rw [HE.out]; rfl, by rw [HE.out]; exact HO5, BEL5⟩
        case measure => simp [intOf]; omega
      · have HE : Hid (insF e (L.take (k + 1)) = ((insF e (L.take k)).1 ++ [y], b)) := by
          show insF e (L.take (k + 1)) = _
          rw [HT.out, insStep_no e _ y (by rw [HB.out]; cases b; exact .inr (by cases hh : lt' e.1 y.1; rfl; exact absurd ⟨rfl, hh⟩ hins); exact .inl rfl), HB.out]
        have hno : b = true ∨ Op.bytesLess e.1.toList y.1.toList = false := by
          cases b
          · right; cases hh : Op.bytesLess e.1.toList y.1.toList
            · rfl
            · exact absurd ⟨rfl, hh⟩ hins
          · exact .inl rfl
        clear HT HO hins
        rcases hno with rfl | hno
        · go_wp2
          go_quiet (fail)
          have hownq := own_drewN hown nq
          have belq := below_drewN bel.out nq
          have hszq : gx + 1 ≤ (wr.drewN nq).heap.size := hsz
          have BELQ := hid belq
          clear belq
          go_wp2_with (at_builtin; refine wpList_append_own _ rfl (.tmp 31) (.tmp 36) 57 rfl (gx + 1) 84 i0 (.agg #[.string ⟨#[]⟩, .string ⟨#[]⟩, .int .i64 0]) 3 40 Tryz.underlying57 hi0 hz0 hz1 hz2 rfl (by decide) _ _ _ rfl (hownq.alloc _) _ 1 1 (rcell y) rfl rfl (cellNew3 _ _ _) (rcell_one y) (by unfold maxLen; omega) (by omega) (by simp; omega) ?_; intro v'' w5 hown5 hgrow5 _; have bel5 := below_grown1 BELQ.out hownq _ hszq hgrow5; have HO5 := hid (own_reel_snoc hown5); have BEL5 := hid bel5; clear hown5 hgrow5 bel5)
          go_roundw
          case rel => exact ⟨k + 1, true, by omega, by go_num, rfl, by rw [HE.out]; rfl, by rw [HE.out]; exact HO5, BEL5⟩
          case measure => simp [intOf]; omega
        · cases b
          all_goals
            go_wp2
            go_quiet (fail)
            have hownq := own_drewN hown nq
            have belq := below_drewN bel.out nq
            have hszq : gx + 1 ≤ (wr.drewN nq).heap.size := hsz
            have BELQ := hid belq
            clear belq
            go_wp2_with (at_builtin; refine wpList_append_own _ rfl (.tmp 31) (.tmp 36) 57 rfl (gx + 1) 84 i0 (.agg #[.string ⟨#[]⟩, .string ⟨#[]⟩, .int .i64 0]) 3 40 Tryz.underlying57 hi0 hz0 hz1 hz2 rfl (by decide) _ _ _ rfl (hownq.alloc _) _ 1 1 (rcell y) rfl rfl (cellNew3 _ _ _) (rcell_one y) (by unfold maxLen; omega) (by omega) (by simp; omega) ?_; intro v'' w5 hown5 hgrow5 _; have bel5 := below_grown1 BELQ.out hownq _ hszq hgrow5; have HO5 := hid (own_reel_snoc hown5); have BEL5 := hid bel5; clear hown5 hgrow5 bel5)
            go_roundw
            case rel => exact ⟨k + 1, _, by omega, by go_num, rfl, by rw [HE.out]; rfl, by rw [HE.out]; exact HO5, BEL5⟩
            case measure => simp [intOf]; omega
    · have ck : ¬ (k : Int) < L.length := by omega
      have hall : L.take k = L := List.take_of_length_le (by omega)
      rw [hall] at HB HO hlen
      have HFB : Hid (∀ w5, Below (gx + 1) W w5 → Below gx w w5) := fun w5 hb => HBW.out.trans (hb.mono (by omega))
      cases b
      · have HE : Hid (insE e L = (insF e L).1 ++ [e]) := by
          show insE e L = _
          unfold insE; rw [if_neg (by rw [HB.out]; simp)]
        have hown := HO.out
        clear hall HO
        go_wp2_with (at_builtin; refine wpList_append_own _ rfl (.tmp 40) (.tmp 42) 57 rfl (gx + 1) 84 i0 (.agg #[.string ⟨#[]⟩, .string ⟨#[]⟩, .int .i64 0]) 3 40 Tryz.underlying57 hi0 hz0 hz1 hz2 rfl (by decide) _ _ _ rfl (hown.alloc _) _ 1 1 (rcell e) rfl rfl (cellNew3 _ _ _) (rcell_one e) (by unfold maxLen; omega) (by omega) (by simp; omega) ?_; intro v'' w5 hown5 hgrow5 _; have bel5 := below_grown1 bel.out hown _ hsz hgrow5; have HO5 := hid (own_reel_snoc hown5); have BEL5 := hid bel5; clear hown5 hgrow5 bel5)
        go_ret
        exact ⟨_, rfl, by rw [HE.out]; exact own_base HO5.out (by omega), HFB.out _ BEL5.out⟩
      · have HE : Hid (insE e L = (insF e L).1) := by
          show insE e L = _
          unfold insE; rw [if_pos HB.out]
        clear hall
        go_wp2_with fail
        go_ret
        exact ⟨_, rfl, by rw [HE.out]; exact own_base HO.out (by omega), HFB.out _ bel.out⟩
theorem rvals_set : ∀ (L : List Ent) (k : Nat) (e : Ent), k < L.length → (((rvals L).set (k * 3) (.string e.1)).set (k * 3 + 1) (.string (bt e.2.bytes))).set (k * 3 + 2) (.int .i64 e.2.safe) = rvals (L.set k e)
  | _ :: _, 0, _, _ => rfl
  | y :: r, k + 1, e, h => by
    have := rvals_set r k e (by simpa using h)
    show (((rcell y ++ rvals r).set ((k + 1) * 3) _).set ((k + 1) * 3 + 1) _).set ((k + 1) * 3 + 2) _ = rcell y ++ rvals (r.set k e)
    have hl : (rcell y).length = 3 := rfl
    rw [List.set_append_right _ _ (by omega), List.set_append_right _ _ (by omega), List.set_append_right _ _ (by omega), hl, show (k + 1) * 3 - 3 = k * 3 by omega, show (k + 1) * 3 + 1 - 3 = k * 3 + 1 by omega, show (k + 1) * 3 + 2 - 3 = k * 3 + 2 by omega, this]
end Go.Proofs.YtnhgfhbicaiilaaGreat
/- The reference's rows of reels: set; what insertion and removal come to. -/
namespace Go.Proofs.YtnhgfhbicaiilaaGreat
open Go.RowKit Reel
set_option linter.unusedVariables false

theorem own_some {w : World} {B : Nat} {e : TypeId} {s n : Nat} {v : Value} {xs : List Value} (h : w.ownsRow B e s v n xs) (hn : 0 < n) : ∃ g c, v = .slice (some ⟨g, 0, none⟩) n c ∧ B ≤ g ∧ n ≤ c := by
  rcases h.2 with ⟨rfl, h0⟩ | ⟨g, cap, cur, rfl, hb, hg, hn', r⟩
  · omega
  · exact ⟨g, cap, rfl, hb, hn'⟩
set_option maxRecDepth 100000 in
set_option maxHeartbeats 8000000 in
theorem rset_any (L : List Ent) (k : Nat) (e : Ent) (v : Value) (w : World) (hrow : w.ownsRow 0 84 3 v L.length (rvals L)) (hL : L.length ≤ 64) (hk : k < L.length) :
    Calls Tryz.prog 73 #[v, .int .i64 k, .agg #[.string e.1, .string (bt e.2.bytes), .int .i64 e.2.safe]] w fun en w' => ∃ v', en = .returned v' ∧ w'.ownsRow w.heap.size 84 3 v' (L.set k e).length (rvals (L.set k e)) ∧ Below w.heap.size w w' := by
  obtain ⟨i0, hi0, hz0, hz1, hz2⟩ := info_parts Tryz.infoRl
  obtain ⟨g, c, rfl, -, hnc⟩ := own_some hrow (by omega)
  obtain ⟨W, hW⟩ : ∃ W, w.alloc (.cells #[.string e.1, .string (bt e.2.bytes), .int .i64 e.2.safe] 84) = W := ⟨_, rfl⟩
  obtain ⟨gx, hgx⟩ : ∃ gx, w.heap.size = gx := ⟨_, rfl⟩
  have BX : Hid (Blk W gx 84 #[.string e.1, .string (bt e.2.bytes), .int .i64 e.2.safe]) := by rw [← hW, ← hgx]; exact Blk.new _ _ _
  have HWS : Hid (W.heap.size = gx + 1) := by rw [← hW, ← hgx]; show (w.alloc _).heap.size = _; simp
  have HBW : Hid (Below gx w W) := by rw [← hW]; exact (Below.refl _ _).alloc (by omega) _
  have HR : Hid (W.ownsRow 0 84 3 (.slice (some ⟨g, 0, none⟩) L.length c) L.length (rvals L)) := own_below hrow (HBW.out.mono (by omega))
  have HNEWS : Hid (∀ o, ∀ j u, (rvals L)[j]? = some u → (W.alloc o).cell? ((⟨g, 0, none⟩ : Addr).add j) = some u) := fun o j u h => by
    have hb : Below W.heap.size W (W.alloc o) := (Below.refl _ _).alloc (Nat.le_refl _) _
    have h2 := own_below HR.out hb
    have hjl : j < L.length * 3 := by rw [← rvals_len]; exact (List.getElem?_eq_some_iff.1 h).1
    have hj : (⟨g, 0, none⟩ : Addr).add j = ⟨g, j, none⟩ := by unfold Addr.add; split <;> simp_all
    rw [hj, h2.cellAt j hjl, h]
  have HMADE : Hid ((W.alloc (.cells #[] 84)).ownsRow (gx + 1) 84 3 (.slice (some ⟨gx + 1, 0, none⟩) 0 0) 0 []) := by
    have := World.ownsRow_made (e := 84) (size := 3) (base := gx + 1) W #[] 0 (Nat.le_of_eq HWS.out.symm) (by unfold maxLen; omega) rfl
    rw [HWS.out] at this
    exact this
  have HW := hid hW
  have HONE : Hid (∀ u ∈ rvals L, u.oneCell' = true) := fun u hu => by
    unfold rvals at hu
    obtain ⟨y, _, hy⟩ := List.mem_flatMap.1 hu
    exact rcell_one y u hy
  have hlen := rvals_len L
  have HLEN := hid hlen
  clear hrow hW hlen
  subst hgx
  have HMADE' : Hid (((w.alloc (.cells #[.string e.1, .string (bt e.2.bytes), .int .i64 e.2.safe] 84)).alloc (.cells #[] 84)).ownsRow (w.heap.size + 1) 84 3 (.slice (some ⟨w.heap.size + 1, 0, none⟩) 0 0) 0 []) := by rw [HW.out]; exact HMADE.out
  have HNEWS' : Hid (∀ o, ∀ j u, (rvals L)[j]? = some u → ((w.alloc (.cells #[.string e.1, .string (bt e.2.bytes), .int .i64 e.2.safe] 84)).alloc o).cell? ((⟨g, 0, none⟩ : Addr).add j) = some u) := by rw [HW.out]; exact HNEWS.out
  have HDONE : Hid (∀ (v' : Value) (w3 : World), ((w.alloc (.cells #[.string e.1, .string (bt e.2.bytes), .int .i64 e.2.safe] 84)).alloc (.cells #[] 84)).grownBy w3 (some (w.heap.size + 1)) → Below (w.heap.size + 1) W w3) := fun v' w3 hg => by
    rw [HW.out] at hg
    exact ((Below.refl (w.heap.size + 1) W).alloc (Nat.le_of_eq HWS.out.symm) (.cells #[] 84)).grown hg (by simp; have := HWS.out; omega) (fun q hq => by simp at hq; omega)
  have HCELLS : Hid (∀ g3 c3 w3, Hid (w3.ownsRow (w.heap.size + 1) 84 3 (.slice (some ⟨g3, 0, none⟩) (0 + L.length) c3) (0 + L.length) ([] ++ rvals L)) → Hid (Below (w.heap.size + 1) W w3) →
      w3.cell? ⟨w.heap.size, 0, none⟩ = some (.string e.1) ∧ w3.cell? ⟨w.heap.size, 1, none⟩ = some (.string (bt e.2.bytes)) ∧ w3.cell? ⟨w.heap.size, 2, none⟩ = some (.int .i64 e.2.safe) ∧
      w3.cell? ⟨g3, k * 3, none⟩ = some (.string L[k].1) ∧ w3.cell? ⟨g3, k * 3 + 1, none⟩ = some (.string (bt L[k].2.bytes)) ∧ w3.cell? ⟨g3, k * 3 + 2, none⟩ = some (.int .i64 L[k].2.safe) ∧
      w3.frozen? ⟨g3, k * 3, none⟩ = false ∧ w3.frozen? ⟨g3, k * 3 + 1, none⟩ = false ∧ w3.frozen? ⟨g3, k * 3 + 2, none⟩ = false) := fun g3 c3 w3 ho hb => by
    have hbx : Blk w3 w.heap.size 84 #[.string e.1, .string (bt e.2.bytes), .int .i64 e.2.safe] := (hb.out.block _ (by omega)).trans BX.out
    have ho' : w3.ownsRow (w.heap.size + 1) 84 3 (.slice (some ⟨g3, 0, none⟩) (0 + L.length) c3) (0 + L.length) (rvals L) := ho.out
    have hc : ∀ q, q < 3 → w3.cell? ⟨g3, k * 3 + q, none⟩ = (rcell L[k])[q]? := fun q hq => by
      rw [ho'.cellAt _ (by omega), rvals_get L k q hk hq]
    exact ⟨hbx.cell 0, hbx.cell 1, hbx.cell 2, (hc 0 (by omega)).trans rfl, (hc 1 (by omega)).trans rfl, (hc 2 (by omega)).trans rfl, ho'.frozenAt _, ho'.frozenAt _, ho'.frozenAt _⟩
  have ck0 : (0 : Int) ≤ (k : Int) := by omega
  have ck1 : (k : Int) < L.length := by omega
  go_enter Tryz.func73, Tryz.ntmps73
  go_wp2_with (at_builtin; have hmade := HMADE'.out; refine wpList_append_own _ rfl (.tmp 8) (.tmp 9) 57 rfl (w.heap.size + 1) 84 i0 (.agg #[.string ⟨#[]⟩, .string ⟨#[]⟩, .int .i64 0]) 3 40 Tryz.underlying57 hi0 hz0 hz1 hz2 rfl (by decide) _ _ _ rfl hmade _ L.length c (rvals L) rfl HLEN.out (HNEWS'.out _) HONE.out (by unfold maxLen; omega) (by omega) (by simp) ?_; intro v' w3 hown3 hgrow3 _; have bel3 := HDONE.out v' w3 hgrow3; have HO3 := hid hown3; have BEL3 := hid bel3; clear hown3 hgrow3 bel3 hmade; obtain ⟨g3, c3, rfl, hg3, hc3⟩ := own_some HO3.out (by omega); obtain ⟨r0, r1, r2, r3, r4, r5, f0, f1, f2⟩ := HCELLS.out g3 c3 w3 HO3 BEL3)
  go_ret
  refine ⟨_, rfl, ?_⟩
  have h1 := HO3.out.stored (k * 3) (.string e.1)
  have h2 := h1.1.stored (k * 3 + 1) (.string (bt e.2.bytes))
  have h3 := h2.1.stored (k * 3 + 2) (.int .i64 e.2.safe)
  have hr := h3.1
  rw [Nat.zero_add, List.nil_append, rvals_set L k e hk] at hr
  rw [List.length_set]
  refine ⟨own_base hr (by omega), ?_⟩
  have hb1 : Below (w.heap.size + 1) W _ := BEL3.out.setCell (p := ⟨g3, k * 3, none⟩) hg3 (.string e.1)
  exact HBW.out.trans ((((BEL3.out.setCell (p := ⟨g3, k * 3, none⟩) hg3 _).setCell (p := ⟨g3, k * 3 + 1, none⟩) hg3 _).setCell (p := ⟨g3, k * 3 + 2, none⟩) hg3 _).mono (by omega))

/-! what insertion and removal come to -/
section
variable {S : St} {x : ByteArray} {t : Spool}
theorem insF_lt (e : Ent) : ∀ (L : List Ent) (s : List Ent × Bool), (∀ y ∈ L, lt' e.1 y.1 = false) → L.foldl (insStep e) s = (s.1 ++ L, s.2)
  | [], s, _ => by simp
  | y :: r, s, h => by
    rw [List.foldl_cons, insStep_no e s y (.inr (h y (List.mem_cons_self ..))), insF_lt e r _ (fun z hz => h z (List.mem_cons_of_mem _ hz))]
    simp
theorem insF_done (e : Ent) : ∀ (L : List Ent) (s : List Ent × Bool), s.2 = true → L.foldl (insStep e) s = (s.1 ++ L, true)
  | [], s, h => by simp [← h]
  | y :: r, s, h => by
    rw [List.foldl_cons, insStep_no e s y (.inl h)]
    have := insF_done e r (s.1 ++ [y], s.2) h
    rw [this]; simp
theorem insE_split (e : Ent) (A B : List Ent) (hA : ∀ y ∈ A, lt' e.1 y.1 = false) (hB : ∀ y ∈ B, lt' e.1 y.1 = true) : insE e (A ++ B) = A ++ e :: B := by
  unfold insE insF
  rw [List.foldl_append, insF_lt e A _ hA]
  cases B with
  | nil => simp
  | cons y r =>
    rw [List.foldl_cons, insStep_yes e _ y rfl (hB y (List.mem_cons_self ..)), insF_done e r _ rfl]
    simp
theorem ents_take_names (h : S.Ok) (i : Nat) : (S.ents.take i).map (·.1) = S.l.take i := by rw [List.map_take, ents_fst h]
theorem ents_drop_names (h : S.Ok) (i : Nat) : (S.ents.drop i).map (·.1) = S.l.drop i := by rw [List.map_drop, ents_fst h]
theorem insE_put (h : S.Ok) (hx : hasN S.l x = false) (t : Spool) : insE (x, t) S.ents = (putT S x t).ents := by
  rw [ents_put_no h hx]
  conv => lhs; rw [← List.take_append_drop (posOf S.l x) S.ents]
  refine insE_split (x, t) _ _ (fun y hy => ?_) (fun y hy => ?_)
  · have : y.1 ∈ S.l.take (posOf S.l x) := by rw [← ents_take_names h]; exact List.mem_map_of_mem hy
    exact lt_asymm (take_lt h.rising x y.1 this)
  · have : y.1 ∈ S.l.drop (posOf S.l x) := by rw [← ents_drop_names h]; exact List.mem_map_of_mem hy
    exact drop_gt h.rising (by rw [← hasN_no]; exact hx) y.1 this
theorem eraseIdx_del (h : S.Ok) (hx : hasN S.l x = true) : S.ents.eraseIdx (posOf S.l x) = (delT S x).ents := by
  rw [ents_del h hx, List.eraseIdx_eq_take_drop_succ]
theorem set_put (h : S.Ok) (hx : hasN S.l x = true) (t : Spool) : S.ents.set (posOf S.l x) (x, t) = (putT S x t).ents := (ents_put_has h hx).symm
end
end Go.Proofs.YtnhgfhbicaiilaaGreat
/- The reference's disk: Sync, Cut, Drop. -/
namespace Go.Proofs.YtnhgfhbicaiilaaGreat
open Go.RowKit Reel
set_option linter.unusedVariables false

/-- the numbers of a state -/
def Alike16 (S S' : St) : Prop := S'.room = S.room ∧ S'.down = S.down ∧ S'.acts = S.acts ∧ S'.life = S.life ∧ S'.armed = S.armed
section
variable {w w1 w2 W : World} {u : Nat} {v v1 : Value} {S S1 : St} {x : ByteArray}
theorem RStep.trans (h1 : RStep w w1 u v S) (h2 : ∀ v1, RefAt w1 u v1 S → RStep w1 w2 u v1 S1) : RStep w w2 u v S1 := by
  obtain ⟨v1, a1, a2, a3⟩ := h1
  obtain ⟨v2, b1, b2, b3⟩ := h2 v1 a1
  refine ⟨v2, b1, a2.then b2, ?_⟩
  rcases b3 with rfl | b3
  · exact a3
  · exact .inr (fun k hk => Nat.le_trans a2.size (b3 k hk))
theorem RStep.next (h1 : RefAt w1 u v1 S) (ho : Only (· = u) w w1) (hv : v1 = v ∨ ∀ k, v1.ownBlock = some k → w.heap.size ≤ k) (h2 : RStep w1 w2 u v1 S1) : RStep w w2 u v S1 := by
  obtain ⟨v2, b1, b2, b3⟩ := h2
  refine ⟨v2, b1, ho.then b2, ?_⟩
  rcases b3 with rfl | b3
  · exact hv
  · exact .inr (fun k hk => Nat.le_trans ho.size (b3 k hk))
/-- the row is another one -/
theorem RefAt.store (h : RefAt w u v S) {v' : Value} {L : List Ent} {S' : St} (hb : Below w.heap.size w w2) (hr : w2.ownsRow w.heap.size 84 3 v' L.length (rvals L)) (ha : Alike16 S S') (hL : S'.ents = L) (hok : S'.Ok) : RStep w (w2.setCell ⟨u, 0, none⟩ v') u v S' := by
  have hbk : Blk w2 u 59 #[v, .int .i64 S.room, .bool S.down, .int .i64 S.acts, .int .i64 S.life, .int .i64 S.armed] := (hb.block u h.lt).trans h.blk
  obtain ⟨a1, a2, a3, a4, a5⟩ := ha
  refine ⟨v', ⟨?_, ?_, hok⟩, (Only.of_below hb _).then ((Only.refl (· = u) w2).setCell (p := ⟨u, 0, none⟩) (.inl rfl) _), .inr (fun k hk => (hr.lt k hk).1)⟩
  · have := hbk.set 0 v'
    rw [a1, a2, a3, a4, a5]; simpa using this
  · rw [hL]
    have hne : ∀ k, v'.ownBlock = some k → k ≠ u := fun k hk e => by
      have := (hr.lt k hk).1; have := h.lt; omega
    have ho : Only (· = u) w2 (w2.setCell ⟨u, 0, none⟩ v') := (Only.refl (· = u) w2).setCell (p := ⟨u, 0, none⟩) (.inl rfl) _
    exact own_base (own_only hr ho (fun k hk e => hne k hk e)) (Nat.zero_le _)
/-- what set, with, without leave, and the store behind them -/
def RowPost (w W : World) (u : Nat) (v : Value) (S : St) (L : List Ent) (en : Ending) (w' : World) : Prop :=
  ∃ v' a c, v' = .slice a L.length c ∧ en = .returned v' ∧ (∀ p z, W.cell? p = some z → w'.cell? p = some z) ∧ w'.frozen? ⟨u, 0, none⟩ = false ∧ Hid (∀ S', Alike16 S S' → S'.ents = L → S'.Ok → RStep w (w'.setCell ⟨u, 0, none⟩ v') u v S')
theorem RefAt.rowPost (h : RefAt w u v S) (hb : Below w.heap.size w W) {L : List Ent} {en : Ending} {w' : World} (hp : ∃ v', en = .returned v' ∧ w'.ownsRow W.heap.size 84 3 v' L.length (rvals L) ∧ Below W.heap.size W w') : RowPost w W u v S L en w' := by
  obtain ⟨v', rfl, hr, hb2⟩ := hp
  have hb3 : Below w.heap.size w w' := hb.trans (hb2.mono hb.size)
  have hbk : Blk w' u 59 _ := (hb3.block u h.lt).trans h.blk
  obtain ⟨a, c, hv, -⟩ := own_slice hr
  exact ⟨v', a, c, hv, rfl, fun p z hz => (World.cell?_of_block (hb2.block _ (World.block_lt_of_cell? _ _ hz))).trans hz, hbk.frozen 0, fun S' h1 h2 h3 => h.store hb3 (own_base hr hb.size) h1 h2 h3⟩
theorem rset_post (h : RefAt w u v S) (hb : Below w.heap.size w W) (k : Nat) (e : Ent) (hk : k < S.ents.length) :
    Calls Tryz.prog 73 #[v, .int .i64 k, .agg #[.string e.1, .string (bt e.2.bytes), .int .i64 e.2.safe]] W (RowPost w W u v S (S.ents.set k e)) :=
  (rset_any S.ents k e v W (own_below h.row hb) (ents_few h.ok) hk).mono fun en w' hp => h.rowPost hb hp
theorem act_ents (S : St) : (actS S).1.ents = S.ents := by obtain ⟨h1, h2, _⟩ := act_l S; unfold St.ents; rw [h1, h2]
/-- the cells of a reel of the disk -/
theorem RefAt.reel (h : RefAt w u v S) {k : Nat} (hk : k < S.ents.length) : ∃ g c, v = .slice (some ⟨g, 0, none⟩) S.ents.length c ∧ w.cell? ⟨g, k * 3, none⟩ = some (.string S.ents[k].1) ∧ w.cell? ⟨g, k * 3 + 1, none⟩ = some (.string (bt S.ents[k].2.bytes)) ∧ w.cell? ⟨g, k * 3 + 2, none⟩ = some (.int .i64 S.ents[k].2.safe) := by
  obtain ⟨a, c, rfl, hc, hR⟩ := own_reels h.row
  obtain ⟨g, rfl, q⟩ := hR.get hk
  exact ⟨g, c, rfl, q⟩
set_option maxRecDepth 100000 in
set_option maxHeartbeats 4000000 in
theorem rsync_any (x : ByteArray) (h : RefAt w u v S) (n : Nat) (hf : S.Fits n) (hn : n < big) (hok : (syncS S x).1.Ok) : Calls Tryz.prog 53 #[.pointer (some ⟨u, 0, none⟩), .string x] w fun e w' => e = .returned (.int .i64 (syncS S x).2) ∧ RStep w w' u v (syncS S x).1 := by
  have HFD := hid (rfound_any x h)
  have HS0 : Hid (RStep w w u v S) := ⟨v, h, Only.refl _ _, .inl rfl⟩
  by_cases hd : S.down = true
  · have e1 : syncS S x = (S, 10) := by unfold syncS; rw [if_pos hd]
    have e2 : foundI S x = (0, 10) := by unfold foundI; rw [if_pos hd]
    rw [e2] at HFD; rw [e1]
    clear h hd e1 e2 hok hf
    go_enter Tryz.func53, Tryz.ntmps53
    go_wp2_with (go_at_call 75; refine HFD.out.mono ?_; rintro e w' ⟨rfl, rfl⟩)
    go_ret
    exact ⟨rfl, HS0.out⟩
  cases ht : at_ S x with
  | none =>
    have e1 : syncS S x = (S, 12) := by unfold syncS; rw [if_neg hd, ht]
    have e2 : foundI S x = (0, 12) := by unfold foundI; rw [if_neg hd, ht]
    rw [e2] at HFD; rw [e1]
    clear h hd ht e1 e2 hok hf
    go_enter Tryz.func53, Tryz.ntmps53
    go_wp2_with (go_at_call 75; refine HFD.out.mono ?_; rintro e w' ⟨rfl, rfl⟩)
    go_ret
    exact ⟨rfl, HS0.out⟩
  | some t =>
    have hd' : S.down = false := by simpa using hd
    obtain ⟨hk, -, he⟩ := at_place h.ok ht
    have hfew := ents_few h.ok
    have HAC := hid (ract_any h hd' n hf hn)
    have e2 : foundI S x = ((posOf S.l x : Int), 0) := by unfold foundI; rw [if_neg hd, ht]
    rw [e2] at HFD
    by_cases ha : (actS S).2 = 0
    · have e1 : syncS S x = (putT (actS S).1 x ⟨t.bytes, t.bytes.length⟩, 0) := by unfold syncS; rw [if_neg hd, ht]; exact if_pos ha
      rw [e1] at hok ⊢
      have ha10 : decide ((actS S).2 = 10) = false := by rw [ha]; rfl
      rw [ha10] at HAC
      obtain ⟨hx, -⟩ := at_some ht
      have hents : (putT (actS S).1 x ⟨t.bytes, t.bytes.length⟩).ents = S.ents.set (posOf S.l x) (x, ⟨t.bytes, t.bytes.length⟩) := by
        obtain ⟨l1, l2, _⟩ := act_l S
        rw [← set_put (act_ok h.ok) (by rw [l1]; exact hx), act_ents, l1]
      obtain ⟨S2, hS2⟩ : ∃ S2, putT (actS S).1 x ⟨t.bytes, t.bytes.length⟩ = S2 := ⟨_, rfl⟩
      have HAL : Hid (Alike16 (actS S).1 S2) := by rw [← hS2]; exact ⟨rfl, rfl, rfl, rfl, rfl⟩
      rw [hS2] at hok hents ⊢
      obtain ⟨k, hkk⟩ : ∃ k, posOf S.l x = k := ⟨_, rfl⟩
      obtain ⟨y, hy⟩ : ∃ y, bt t.bytes = y := ⟨_, rfl⟩
      have hlen : t.bytes.length = y.size := by rw [← hy, bt_size]
      simp only [hkk] at HFD hk he hents
      have HEN := hid hents; have HOK := hid hok
      have hE1 : (actS S).1.ents = S.ents := act_ents S
      obtain ⟨S1, hS1⟩ : ∃ S1, (actS S).1 = S1 := ⟨_, rfl⟩
      rw [hS1] at HAC HAL hE1
      have hk1 : k < S1.ents.length := by rw [hE1]; exact hk
      have HSET : Hid (∀ w1 v1 W, RefAt w1 u v1 S1 → Below w1.heap.size w1 W → Calls Tryz.prog 73 #[v1, .int .i64 k, .agg #[.string x, .string y, .int .i64 y.size]] W fun en w' => ∃ v' a n c, v' = .slice a n c ∧ en = .returned v' ∧ (∀ p z, W.cell? p = some z → w'.cell? p = some z) ∧ w'.frozen? ⟨u, 0, none⟩ = false ∧ Hid (RStep w1 (w'.setCell ⟨u, 0, none⟩ v') u v1 S2)) := fun w1 v1 W hr hb => by
        have := rset_post hr hb k (x, ⟨t.bytes, t.bytes.length⟩) hk1
        simp only [hy, hlen] at this
        refine this.mono ?_
        rintro en w' ⟨v', a, c, hv, rfl, q1, q2, q3⟩
        exact ⟨v', a, _, c, hv, rfl, q1, q2, q3.out S2 HAL.out (by rw [hE1, ← hlen]; exact HEN.out) HOK.out⟩
      have HREEL : Hid (∀ w1 v1, RefAt w1 u v1 S1 → ∃ g c, v1 = .slice (some ⟨g, 0, none⟩) S1.ents.length c ∧ w1.cell? ⟨g, k * 3, none⟩ = some (.string x) ∧ w1.cell? ⟨g, k * 3 + 1, none⟩ = some (.string y) ∧ w1.cell? ⟨g, k * 3 + 2, none⟩ = some (.int .i64 t.safe)) := fun w1 v1 hr => by
        obtain ⟨g, c, hv, q0, q1, q2⟩ := hr.reel hk1
        have he1 : S1.ents[k] = (x, t) := by simp only [hE1]; exact he
        rw [he1] at q0 q1 q2
        rw [hy] at q1
        exact ⟨g, c, hv, q0, q1, q2⟩
      have ck0 : (0 : Int) ≤ (k : Int) := by omega
      have ck1 : (k : Int) < S1.ents.length := by omega
      have hf64 : S1.ents.length ≤ 64 := by rw [hE1]; exact hfew
      clear h hd hd' ht e1 e2 ha ha10 hx hents hok hS2 hkk hy hlen hE1 hS1 he hk hfew hf
      go_enter Tryz.func53, Tryz.ntmps53
      go_wp2_with (first
        | (go_at_call 75; refine HFD.out.mono ?_; rintro e w' ⟨rfl, rfl⟩)
        | (go_at_call 74; refine HAC.out.mono ?_; rintro e w1 ⟨rfl, v1, r1, r2, r3⟩; obtain ⟨g, c, rfl, q0, q1, q2⟩ := HREEL.out w1 v1 r1; have R1 := hid r1; have R2 := hid r2; have R3 := hid r3; obtain ⟨c0, -, -, -, -, -⟩ := r1.cells; clear r1 r2 r3))
      have GX : Hid (Blk (w1.alloc (.cells #[.string x, .string y, .int .i64 y.size] 84)) w1.heap.size 84 #[.string x, .string y, .int .i64 y.size]) := Blk.new _ _ _
      have hW0 : (w1.alloc (.cells #[.string x, .string y, .int .i64 y.size] 84)).cell? ⟨u, 0, none⟩ = some (.slice (some ⟨g, 0, none⟩) S1.ents.length c) := (World.cell?_of_block (Below.heap_alloc _ _ _ R1.out.lt)).trans c0
      have HW0 := hid hW0

      go_region_with ((first
        | (go_at_call 73; refine (HSET.out w1 _ _ R1.out ?_).mono ?_; (exact ((Below.refl _ _).alloc (Nat.le_refl _) _).drew); rintro e w' ⟨v', va, vn, vc, rfl, rfl, up, fz, hst⟩; have t0 := up ⟨u, 0, none⟩ _ HW0.out; have t1 := up ⟨w1.heap.size, 0, none⟩ _ (Blk.cell GX.out 0); have t2 := up ⟨w1.heap.size, 1, none⟩ _ (Blk.cell GX.out 1); have t3 := up ⟨w1.heap.size, 2, none⟩ _ (Blk.cell GX.out 2); clear up)))
      all_goals
        go_wp2
        go_ret
        exact ⟨rfl, RStep.next R1.out R2.out R3.out hst.out⟩
    · have ha10 : (actS S).2 = 10 := by rcases act_err S with e | e; exact absurd e ha; exact e
      have e1 : syncS S x = actS S := by unfold syncS; rw [if_neg hd, ht]; exact if_neg ha
      rw [e1, ha10]
      rw [show decide ((actS S).2 = 10) = true from decide_eq_true ha10] at HAC
      obtain ⟨k, hkk⟩ : ∃ k, posOf S.l x = k := ⟨_, rfl⟩
      simp only [hkk] at HFD hk
      clear h hd hd' ht e1 e2 ha ha10 hok hkk he hf
      go_enter Tryz.func53, Tryz.ntmps53
      go_wp2_with (first
        | (go_at_call 75; refine HFD.out.mono ?_; rintro e w' ⟨rfl, rfl⟩)
        | (go_at_call 74; refine HAC.out.mono ?_; rintro e w1 ⟨rfl, hst⟩; have HST := hid hst; clear hst))
      go_ret
      exact ⟨rfl, HST.out⟩
end
end Go.Proofs.YtnhgfhbicaiilaaGreat
/- The reference's disk: Drop, Cut. -/
namespace Go.Proofs.YtnhgfhbicaiilaaGreat
open Go.RowKit Reel
set_option linter.unusedVariables false

section
variable {w w1 w2 W : World} {u : Nat} {v v1 : Value} {S S1 : St} {x : ByteArray}
theorem rwithout_post (h : RefAt w u v S) (hb : Below w.heap.size w W) (k : Nat) (hk : k < S.ents.length) :
    Calls Tryz.prog 84 #[v, .int .i64 k] W (RowPost w W u v S (S.ents.eraseIdx k)) := by
  have hf := ents_few h.ok
  obtain ⟨a, c, rfl, hc, hR⟩ := own_reels (own_below h.row hb)
  exact (rwithout_any S.ents k a c W hR hf (by omega)).mono fun en w' hp => h.rowPost hb hp
theorem drop_ents {S : St} (hok : S.Ok) {t : Spool} (ht : at_ S x = some t) (U : Nat) : St.ents { delT (actS S).1 x with used := U } = S.ents.eraseIdx (posOf S.l x) := by
  obtain ⟨l1, l2, _⟩ := act_l S
  have := eraseIdx_del (act_ok hok) (x := x) (by rw [l1]; exact (at_some ht).1)
  rw [act_ents, l1] at this
  exact this.symm
theorem cut_ents {S : St} (hok : S.Ok) {t : Spool} (ht : at_ S x = some t) (t' : Spool) (U : Nat) : St.ents { putT (actS S).1 x t' with used := U } = S.ents.set (posOf S.l x) (x, t') := by
  obtain ⟨l1, l2, _⟩ := act_l S
  have := set_put (act_ok hok) (x := x) (by rw [l1]; exact (at_some ht).1) t'
  rw [act_ents, l1] at this
  exact this.symm
set_option maxRecDepth 100000 in
set_option maxHeartbeats 4000000 in
theorem rdrop_any (x : ByteArray) (h : RefAt w u v S) (n : Nat) (hf : S.Fits n) (hn : n < big) (hok : (dropS S x).1.Ok) : Calls Tryz.prog 41 #[.pointer (some ⟨u, 0, none⟩), .string x] w fun e w' => e = .returned (.int .i64 (dropS S x).2) ∧ RStep w w' u v (dropS S x).1 := by
  have HFD := hid (rfound_any x h)
  have HS0 : Hid (RStep w w u v S) := ⟨v, h, Only.refl _ _, .inl rfl⟩
  by_cases hd : S.down = true
  · have e1 : dropS S x = (S, 10) := by unfold dropS; rw [if_pos hd]
    have e2 : foundI S x = (0, 10) := by unfold foundI; rw [if_pos hd]
    rw [e2] at HFD; rw [e1]
    clear h hd e1 e2 hok hf
    go_enter Tryz.func41, Tryz.ntmps41
    go_wp2_with (go_at_call 75; refine HFD.out.mono ?_; rintro e w' ⟨rfl, rfl⟩)
    go_ret
    exact ⟨rfl, HS0.out⟩
  cases ht : at_ S x with
  | none =>
    have e1 : dropS S x = (S, 12) := by unfold dropS; rw [if_neg hd, ht]
    have e2 : foundI S x = (0, 12) := by unfold foundI; rw [if_neg hd, ht]
    rw [e2] at HFD; rw [e1]
    clear h hd ht e1 e2 hok hf
    go_enter Tryz.func41, Tryz.ntmps41
    go_wp2_with (go_at_call 75; refine HFD.out.mono ?_; rintro e w' ⟨rfl, rfl⟩)
    go_ret
    exact ⟨rfl, HS0.out⟩
  | some t =>
    have hd' : S.down = false := by simpa using hd
    obtain ⟨hk, -, he⟩ := at_place h.ok ht
    have hfew := ents_few h.ok
    have e2 : foundI S x = ((posOf S.l x : Int), 0) := by unfold foundI; rw [if_neg hd, ht]
    rw [e2] at HFD
    have HAC := hid (ract_any h hd' n hf hn)
    by_cases ha : (actS S).2 = 0
    · have e1 : dropS S x = ({ delT (actS S).1 x with used := S.used - t.bytes.length }, 0) := by unfold dropS; rw [if_neg hd, ht]; exact if_pos ha
      rw [e1] at hok ⊢
      rw [show decide ((actS S).2 = 10) = false by rw [ha]; rfl] at HAC
      have hents := drop_ents h.ok ht (S.used - t.bytes.length)
      have HAL : Hid (Alike16 (actS S).1 { delT (actS S).1 x with used := S.used - t.bytes.length }) := ⟨rfl, rfl, rfl, rfl, rfl⟩
      obtain ⟨S2, hS2⟩ : ∃ S2 : St, { delT (actS S).1 x with used := S.used - t.bytes.length } = S2 := ⟨_, rfl⟩
      rw [hS2] at hok hents HAL ⊢
      obtain ⟨k, hkk⟩ : ∃ k, posOf S.l x = k := ⟨_, rfl⟩
      rw [hkk] at HFD hk hents
      have HEN := hid hents; have HOK := hid hok
      have hE1 : (actS S).1.ents = S.ents := act_ents S
      obtain ⟨S1, hS1⟩ : ∃ S1, (actS S).1 = S1 := ⟨_, rfl⟩
      rw [hS1] at HAC HAL hE1
      have HWO : Hid (∀ w1 v1, RefAt w1 u v1 S1 → Calls Tryz.prog 84 #[v1, .int .i64 k] w1 fun en w' => ∃ v' a n c, v' = .slice a n c ∧ en = .returned v' ∧ (∀ p z, w1.cell? p = some z → w'.cell? p = some z) ∧ w'.frozen? ⟨u, 0, none⟩ = false ∧ Hid (RStep w1 (w'.setCell ⟨u, 0, none⟩ v') u v1 S2)) := fun w1 v1 hr => by
        refine (rwithout_post hr (Below.refl _ _) k (by rw [hE1]; exact hk)).mono ?_
        rintro en w' ⟨v', a, c, hv, rfl, q1, q2, q3⟩
        exact ⟨v', a, _, c, hv, rfl, q1, q2, q3.out S2 HAL.out (by rw [hE1]; exact HEN.out) HOK.out⟩
      have HK64 : Hid (k < 64) := by have : k < 64 := by omega
                                     exact this
      clear h hd hd' ht e1 e2 ha hents hok hS2 hkk hE1 hS1 he hk hf
      go_enter Tryz.func41, Tryz.ntmps41
      go_wp2_with (first
        | (go_at_call 75; refine HFD.out.mono ?_; rintro e w' ⟨rfl, rfl⟩)
        | (go_at_call 74; refine HAC.out.mono ?_; rintro e w1 ⟨rfl, v1, r1, r2, r3⟩; have R1 := hid r1; have R2 := hid r2; have R3 := hid r3; obtain ⟨c0, -, -, -, -, -⟩ := r1.cells; obtain ⟨va1, vc1, rfl, -, -⟩ := own_reels r1.row; clear r1 r2 r3)
        | (go_at_call 84; refine (HWO.out _ _ R1.out).mono ?_; rintro e w' ⟨v', va, vn, vc, rfl, rfl, up, fz, hst⟩; have t0 := up ⟨u, 0, none⟩ _ c0; clear up))
      go_ret
      exact ⟨rfl, RStep.next R1.out R2.out R3.out hst.out⟩
    · have ha10 : (actS S).2 = 10 := by rcases act_err S with e | e; exact absurd e ha; exact e
      have e1 : dropS S x = actS S := by unfold dropS; rw [if_neg hd, ht]; exact if_neg ha
      rw [e1, ha10]
      rw [show decide ((actS S).2 = 10) = true from decide_eq_true ha10] at HAC
      obtain ⟨k, hkk⟩ : ∃ k, posOf S.l x = k := ⟨_, rfl⟩
      simp only [hkk] at HFD hk
      clear h hd hd' ht e1 e2 ha ha10 hok hkk he hf
      go_enter Tryz.func41, Tryz.ntmps41
      go_wp2_with (first
        | (go_at_call 75; refine HFD.out.mono ?_; rintro e w' ⟨rfl, rfl⟩)
        | (go_at_call 74; refine HAC.out.mono ?_; rintro e w1 ⟨rfl, hst⟩; have HST := hid hst; clear hst))
      go_ret
      exact ⟨rfl, HST.out⟩
/-- a reel of the disk as the walk copies it out, at a world and all behind it -/
theorem bt_take (l : List UInt8) (n : Nat) (h : n ≤ l.length) : (bt l).extract 0 n = bt (l.take n) := by
  apply ba_ext
  rw [bt_list, ByteArray.data_extract, Array.toList_extract]
  unfold bt; simp
theorem RefAt.apart (h : RefAt w u v S) {gx : Nat} (hg : gx ≠ u) (hv : v.ownBlock ≠ some gx) {w' : World} (ho : Only (· = gx) w w') : RefAt w' u v S :=
  ⟨h.blk.only ho (fun e => hg e.symm), own_only h.row ho (fun k hk e => hv (by rw [hk, e])), h.ok⟩
end
end Go.Proofs.YtnhgfhbicaiilaaGreat
/- The reference's disk: Cut. -/
namespace Go.Proofs.YtnhgfhbicaiilaaGreat
open Go.RowKit Reel
set_option linter.unusedVariables false

section
variable {w w1 w2 W : World} {u : Nat} {v v1 : Value} {S S1 : St} {x : ByteArray}
set_option maxRecDepth 100000 in
set_option maxHeartbeats 8000000 in
theorem rcut_any (x : ByteArray) (n : Int) (h : RefAt w u v S) (N : Nat) (hf : S.Fits N) (hn : N < big) (hok : (cutS S x n).1.Ok) : Calls Tryz.prog 43 #[.pointer (some ⟨u, 0, none⟩), .string x, .int .i64 n] w fun e w' => e = .returned (.int .i64 (cutS S x n).2) ∧ RStep w w' u v (cutS S x n).1 := by
  have HFD := hid (rfound_any x h)
  have HS0 : Hid (RStep w w u v S) := ⟨v, h, Only.refl _ _, .inl rfl⟩
  by_cases hd : S.down = true
  · have e1 : cutS S x n = (S, 10) := by unfold cutS; rw [if_pos hd]
    have e2 : foundI S x = (0, 10) := by unfold foundI; rw [if_pos hd]
    rw [e2] at HFD; rw [e1]
    clear h hd e1 e2 hok hf
    go_enter Tryz.func43, Tryz.ntmps43
    go_wp2_with (go_at_call 75; refine HFD.out.mono ?_; rintro e w' ⟨rfl, rfl⟩)
    go_ret
    exact ⟨rfl, HS0.out⟩
  cases ht : at_ S x with
  | none =>
    have e1 : cutS S x n = (S, 12) := by unfold cutS; rw [if_neg hd, ht]
    have e2 : foundI S x = (0, 12) := by unfold foundI; rw [if_neg hd, ht]
    rw [e2] at HFD; rw [e1]
    clear h hd ht e1 e2 hok hf
    go_enter Tryz.func43, Tryz.ntmps43
    go_wp2_with (go_at_call 75; refine HFD.out.mono ?_; rintro e w' ⟨rfl, rfl⟩)
    go_ret
    exact ⟨rfl, HS0.out⟩
  | some t =>
    have hd' : S.down = false := by simpa using hd
    obtain ⟨hk, -, he⟩ := at_place h.ok ht
    have hfew := ents_few h.ok
    have e2 : foundI S x = ((posOf S.l x : Int), 0) := by unfold foundI; rw [if_neg hd, ht]
    rw [e2] at HFD
    have hsafe := (h.ok.each t (at_mem ht))
    obtain ⟨k, hkk⟩ : ∃ k, posOf S.l x = k := ⟨_, rfl⟩
    obtain ⟨y, hy⟩ : ∃ y, bt t.bytes = y := ⟨_, rfl⟩
    have hlen : t.bytes.length = y.size := by rw [← hy, bt_size]
    obtain ⟨g, c, rfl, q0, q1, q2⟩ := h.reel hk
    simp only [hkk] at HFD hk he q0 q1 q2
    rw [he] at q0 q1 q2
    simp only [hy] at q1
    obtain ⟨c0, -, -, -, -, -⟩ := h.cells
    obtain ⟨W0, hW0⟩ : ∃ W0, w.alloc (.cells #[.string x, .string y, .int .i64 t.safe] 84) = W0 := ⟨_, rfl⟩
    obtain ⟨gx, hgx⟩ : ∃ gx, w.heap.size = gx := ⟨_, rfl⟩
    have BX : Hid (Blk W0 gx 84 #[.string x, .string y, .int .i64 t.safe]) := by rw [← hW0, ← hgx]; exact Blk.new _ _ _
    have HB0 : Hid (Below w.heap.size w W0) := by rw [← hW0]; exact (Below.refl _ _).alloc (Nat.le_refl _) _
    have R0 : Hid (RefAt W0 u (.slice (some ⟨g, 0, none⟩) S.ents.length c) S) := h.later HB0.out
    have HUX : Hid (gx ≠ u ∧ u < W0.heap.size) := ⟨by have := h.lt; omega, R0.out.lt⟩
    have HVX : Hid (g ≠ gx) := by have := own_lt h.row (k := g) rfl; show g ≠ gx; omega
    have ck0 : (0 : Int) ≤ (k : Int) := by omega
    have ck1 : (k : Int) < S.ents.length := by omega
    have HW0 := hid hW0; have HGX := hid hgx
    by_cases hb : n < 0 ∨ (t.bytes.length : Int) < n
    · have e1 : cutS S x n = (S, 1) := by unfold cutS; rw [if_neg hd, ht]; exact if_pos hb
      rw [e1]
      have HF : Hid (RStep w W0 u (.slice (some ⟨g, 0, none⟩) S.ents.length c) S) := ⟨_, R0.out, Only.of_below HB0.out _, .inl rfl⟩
      rw [hlen] at hb
      clear h hd hd' ht e1 e2 hok hkk hy hlen he hf hsafe hW0 hgx HS0
      rcases hb with hb | hb
      · go_enter Tryz.func43, Tryz.ntmps43
        go_wp2_with (go_at_call 75; refine HFD.out.mono ?_; rintro e w' ⟨rfl, rfl⟩)
        go_ret
        exact ⟨rfl, by rw [HW0.out]; exact HF.out⟩
      · have hb0 : ¬ n < 0 := by omega
        go_enter Tryz.func43, Tryz.ntmps43
        go_wp2_with (go_at_call 75; refine HFD.out.mono ?_; rintro e w' ⟨rfl, rfl⟩)
        go_ret
        exact ⟨rfl, by rw [HW0.out]; exact HF.out⟩
    obtain ⟨m, rfl⟩ : ∃ m : Nat, n = m := ⟨n.toNat, by omega⟩
    have hm1 : m ≤ t.bytes.length := by omega
    have hb0 : ¬ ((m : Int) < 0) := by omega
    have hb1 : ¬ ((y.size : Int) < m) := by omega
    have hb2 : (m : Int) ≤ y.size := by omega
    have hb3 : (0 : Int) ≤ m := by omega
    have HAC := hid (ract_any R0.out hd' N hf hn)
    by_cases ha : (actS S).2 = 0
    · have e1 : cutS S x m = ({ putT (actS S).1 x (cutT t m) with used := S.used - (t.bytes.length - m) }, 0) := by unfold cutS; rw [if_neg hd, ht]; exact (if_neg hb).trans (if_pos ha)
      rw [e1] at hok ⊢
      rw [show decide ((actS S).2 = 10) = false by rw [ha]; rfl] at HAC
      have hents := cut_ents h.ok ht (cutT t m) (S.used - (t.bytes.length - m))
      have HAL : Hid (Alike16 (actS S).1 { putT (actS S).1 x (cutT t m) with used := S.used - (t.bytes.length - m) }) := ⟨rfl, rfl, rfl, rfl, rfl⟩
      obtain ⟨S2, hS2⟩ : ∃ S2 : St, { putT (actS S).1 x (cutT t m) with used := S.used - (t.bytes.length - m) } = S2 := ⟨_, rfl⟩
      rw [hS2] at hok hents HAL ⊢
      rw [hkk] at hents
      have HEN := hid hents; have HOK := hid hok
      have hE1 : (actS S).1.ents = S.ents := act_ents S
      obtain ⟨S1, hS1⟩ : ∃ S1, (actS S).1 = S1 := ⟨_, rfl⟩
      rw [hS1] at HAC HAL hE1
      have hyx : y.extract 0 m = bt (t.bytes.take m) := by rw [← hy]; exact bt_take _ _ hm1
      have HSET : Hid (∀ w1 v1, RefAt w1 u v1 S1 → Calls Tryz.prog 73 #[v1, .int .i64 k, .agg #[.string x, .string (y.extract 0 m), .int .i64 (min t.safe m : Nat)]] w1 fun en w' => ∃ v' a n c, v' = .slice a n c ∧ en = .returned v' ∧ (∀ p z, w1.cell? p = some z → w'.cell? p = some z) ∧ w'.frozen? ⟨u, 0, none⟩ = false ∧ Hid (RStep w1 (w'.setCell ⟨u, 0, none⟩ v') u v1 S2)) := fun w1 v1 hr => by
        have := rset_post hr (Below.refl _ _) k (x, cutT t m) (by rw [hE1]; exact hk)
        rw [hyx]
        refine this.mono ?_
        rintro en w' ⟨v', a, c, hv, rfl, q1, q2, q3⟩
        exact ⟨v', a, _, c, hv, rfl, q1, q2, q3.out S2 HAL.out (by rw [hE1]; exact HEN.out) HOK.out⟩
      have hf64 : S1.ents.length ≤ 64 := by rw [hE1]; exact hfew
      obtain ⟨sf, hsf⟩ : ∃ sf, t.safe = sf := ⟨_, rfl⟩
      rw [hsf] at BX HW0 HSET q2 hsafe
      have HYE := hid hyx
      clear h hd hd' ht e1 e2 ha hents hok hS2 hkk hE1 hS1 he hk hf hy hlen hyx hsf hgx hW0
      by_cases hsm : m < sf
      · have hmin : (min sf m : Nat) = m := by omega
        rw [hmin] at HSET
        have g1 : (m : Int) < sf := by omega
        clear hmin
        go_enter Tryz.func43, Tryz.ntmps43
        go_wp2_with (first
          | (go_at_call 75; refine HFD.out.mono ?_; rintro e w' ⟨rfl, rfl⟩)
          | (go_at_call 74; rw [HW0.out]; refine HAC.out.mono ?_; rintro e w1 ⟨rfl, v1, r1, r2, r3⟩; rw [HGX.out]; have BX1 : Hid (Blk w1 gx 84 #[.string x, .string y, .int .i64 sf]) := (BX.out.only r2 HUX.out.1); have R1 := hid r1; have R2 := hid r2; have R3 := hid r3; obtain ⟨va1, vc1, rfl, -, -⟩ := own_reels r1.row; have x0 : w1.cell? ⟨gx, 0, none⟩ = some (.string x) := Blk.cell BX1.out 0; have x1 : w1.cell? ⟨gx, 1, none⟩ = some (.string y) := Blk.cell BX1.out 1; have x2 : w1.cell? ⟨gx, 2, none⟩ = some (.int .i64 sf) := Blk.cell BX1.out 2; have z1 : w1.frozen? ⟨gx, 1, none⟩ = false := Blk.frozen BX1.out 1; have z2 : w1.frozen? ⟨gx, 2, none⟩ = false := Blk.frozen BX1.out 2; clear r1 r2 r3))
        generalize hW2 : ((w1.setCell ⟨gx, 1, none⟩ (.string (y.extract 0 m))).setCell ⟨gx, 2, none⟩ (.int .i64 m)) = W2
        have O2 : Only (· = gx) w1 W2 := by rw [← hW2]; exact ((Only.refl (· = gx) w1).setCell (p := ⟨gx, 1, none⟩) (.inl rfl) _).setCell (p := ⟨gx, 2, none⟩) (.inl rfl) _
        have hvne : (Value.slice va1 S1.ents.length vc1).ownBlock ≠ some gx := by
          have hgl := Blk.lt BX.out
          rcases R3.out with e | e
          · rw [e]; intro e2; simp [Value.ownBlock] at e2; exact HVX.out e2
          · intro e2; have := e gx e2; omega
        have R4 : Hid (RefAt W2 u (.slice va1 S1.ents.length vc1) S1) := R1.out.apart HUX.out.1 hvne O2
        have BX4 : Hid (Blk W2 gx 84 #[.string x, .string (y.extract 0 m), .int .i64 m]) := by
          have := (Blk.set BX1.out 1 (.string (y.extract 0 m))).set 2 (.int .i64 m)
          rw [← hW2]; unfold Hid; simpa using this
        have O4 : Hid (Only (· = u) w W2) := by
          have h1 : Only (· = u) w w1 := (Only.of_below HB0.out _).then R2.out
          exact h1.trans O2 (fun i e => .inr (by rw [e]; exact Nat.le_of_eq HGX.out))
        obtain ⟨d0, -, -, -, -, -⟩ := R4.out.cells
        have y0 : W2.cell? ⟨gx, 0, none⟩ = some (.string x) := Blk.cell BX4.out 0
        have y1 : W2.cell? ⟨gx, 1, none⟩ = some (.string (y.extract 0 m)) := Blk.cell BX4.out 1
        have y2 : W2.cell? ⟨gx, 2, none⟩ = some (.int .i64 m) := Blk.cell BX4.out 2
        have RV : Hid ((Value.slice va1 S1.ents.length vc1) = .slice (some ⟨g, 0, none⟩) S.ents.length c ∨ ∀ k, (Value.slice va1 S1.ents.length vc1).ownBlock = some k → w.heap.size ≤ k) := by
          rcases R3.out with e | e
          · exact .inl e
          · exact .inr (fun k hk => Nat.le_trans HB0.out.size (e k hk))
        clear O2 hvne hW2 x0 x1 x2 z1 z2
        go_region_with ((first
          | (go_at_call 73; refine (HSET.out _ _ R4.out.drew).mono ?_; rintro e w' ⟨v', va, vn, vc, rfl, rfl, up, fz, hst⟩; have t0 := up ⟨u, 0, none⟩ _ d0; have t1 := up ⟨gx, 0, none⟩ _ y0; have t2 := up ⟨gx, 1, none⟩ _ y1; have t3 := up ⟨gx, 2, none⟩ _ y2; clear up)))
        all_goals
          go_wp2
          go_ret
          exact ⟨rfl, RStep.next R4.out.drew O4.out.drew RV.out hst.out⟩
      · have hmin : (min sf m : Nat) = sf := by omega
        rw [hmin] at HSET
        have g1 : ¬ (m : Int) < sf := by omega
        clear hmin
        go_enter Tryz.func43, Tryz.ntmps43
        go_wp2_with (first
          | (go_at_call 75; refine HFD.out.mono ?_; rintro e w' ⟨rfl, rfl⟩)
          | (go_at_call 74; rw [HW0.out]; refine HAC.out.mono ?_; rintro e w1 ⟨rfl, v1, r1, r2, r3⟩; rw [HGX.out]; have BX1 : Hid (Blk w1 gx 84 #[.string x, .string y, .int .i64 sf]) := (BX.out.only r2 HUX.out.1); have R1 := hid r1; have R2 := hid r2; have R3 := hid r3; obtain ⟨va1, vc1, rfl, -, -⟩ := own_reels r1.row; have x0 : w1.cell? ⟨gx, 0, none⟩ = some (.string x) := Blk.cell BX1.out 0; have x1 : w1.cell? ⟨gx, 1, none⟩ = some (.string y) := Blk.cell BX1.out 1; have x2 : w1.cell? ⟨gx, 2, none⟩ = some (.int .i64 sf) := Blk.cell BX1.out 2; have z1 : w1.frozen? ⟨gx, 1, none⟩ = false := Blk.frozen BX1.out 1; have z2 : w1.frozen? ⟨gx, 2, none⟩ = false := Blk.frozen BX1.out 2; clear r1 r2 r3))
        generalize hW2 : (w1.setCell ⟨gx, 1, none⟩ (.string (y.extract 0 m))) = W2
        have O2 : Only (· = gx) w1 W2 := by rw [← hW2]; exact (Only.refl (· = gx) w1).setCell (p := ⟨gx, 1, none⟩) (.inl rfl) _
        have hvne : (Value.slice va1 S1.ents.length vc1).ownBlock ≠ some gx := by
          have hgl := Blk.lt BX.out
          rcases R3.out with e | e
          · rw [e]; intro e2; simp [Value.ownBlock] at e2; exact HVX.out e2
          · intro e2; have := e gx e2; omega
        have R4 : Hid (RefAt W2 u (.slice va1 S1.ents.length vc1) S1) := R1.out.apart HUX.out.1 hvne O2
        have BX4 : Hid (Blk W2 gx 84 #[.string x, .string (y.extract 0 m), .int .i64 sf]) := by
          have := Blk.set BX1.out 1 (.string (y.extract 0 m))
          rw [← hW2]; unfold Hid; simpa using this
        have O4 : Hid (Only (· = u) w W2) := by
          have h1 : Only (· = u) w w1 := (Only.of_below HB0.out _).then R2.out
          exact h1.trans O2 (fun i e => .inr (by rw [e]; exact Nat.le_of_eq HGX.out))
        obtain ⟨d0, -, -, -, -, -⟩ := R4.out.cells
        have y0 : W2.cell? ⟨gx, 0, none⟩ = some (.string x) := Blk.cell BX4.out 0
        have y1 : W2.cell? ⟨gx, 1, none⟩ = some (.string (y.extract 0 m)) := Blk.cell BX4.out 1
        have y2 : W2.cell? ⟨gx, 2, none⟩ = some (.int .i64 sf) := Blk.cell BX4.out 2
        have RV : Hid ((Value.slice va1 S1.ents.length vc1) = .slice (some ⟨g, 0, none⟩) S.ents.length c ∨ ∀ k, (Value.slice va1 S1.ents.length vc1).ownBlock = some k → w.heap.size ≤ k) := by
          rcases R3.out with e | e
          · exact .inl e
          · exact .inr (fun k hk => Nat.le_trans HB0.out.size (e k hk))
        clear O2 hvne hW2 x0 x1 x2 z1 z2
        go_region_with ((first
          | (go_at_call 73; refine (HSET.out _ _ R4.out.drew).mono ?_; rintro e w' ⟨v', va, vn, vc, rfl, rfl, up, fz, hst⟩; have t0 := up ⟨u, 0, none⟩ _ d0; have t1 := up ⟨gx, 0, none⟩ _ y0; have t2 := up ⟨gx, 1, none⟩ _ y1; have t3 := up ⟨gx, 2, none⟩ _ y2; clear up)))
        all_goals
          go_wp2
          go_ret
          exact ⟨rfl, RStep.next R4.out.drew O4.out.drew RV.out hst.out⟩
    · have ha10 : (actS S).2 = 10 := by rcases act_err S with e | e; exact absurd e ha; exact e
      have e1 : cutS S x m = actS S := by unfold cutS; rw [if_neg hd, ht]; exact (if_neg hb).trans (if_neg ha)
      rw [e1, ha10]
      rw [show decide ((actS S).2 = 10) = true from decide_eq_true ha10] at HAC
      have HF : Hid (∀ w1, RStep W0 w1 u (.slice (some ⟨g, 0, none⟩) S.ents.length c) (actS S).1 → RStep w w1 u (.slice (some ⟨g, 0, none⟩) S.ents.length c) (actS S).1) := fun w1 hs => RStep.next R0.out (Only.of_below HB0.out _) (.inl rfl) hs
      clear h hd hd' ht e1 e2 ha ha10 hok hkk he hf hb hy hlen hsafe hgx hW0
      go_enter Tryz.func43, Tryz.ntmps43
      go_wp2_with (first
        | (go_at_call 75; refine HFD.out.mono ?_; rintro e w' ⟨rfl, rfl⟩)
        | (go_at_call 74; rw [HW0.out]; refine HAC.out.mono ?_; rintro e w1 ⟨rfl, hst⟩; have HST := hid (HF.out _ hst); clear hst))
      go_ret
      exact ⟨rfl, HST.out⟩
end
end Go.Proofs.YtnhgfhbicaiilaaGreat
