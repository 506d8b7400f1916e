/- Texts in a row: BkRead, BkCrc, Oct, OctB, ObD, ObE, ObF. -/
import Derived.Test.YtlenfiiocmchdaaGreatDoorMaC
import Derived.Laws.BitsAllLaws
/- What is read of a book's bytes: plain Lean. -/
namespace Go.Proofs.YtlenfiiocmchdaaGreatDoor.Book
open Go.RowKit
set_option linter.unusedVariables false

def Valid (rs : List (List UInt8)) : Prop := 1 ≤ rs.length ∧ rs.length ≤ 64 ∧ (∀ x ∈ rs, x.length ≤ 262144) ∧ (bodyL rs).length ≤ 1048576
/-- what is asked of the check -/
structure CrcOk (crc : List UInt8 → Nat) : Prop where
  lt : ∀ s, crc s < 4294967296
  one : ∀ A x y B, x ≠ y → crc (A ++ x :: B) ≠ crc (A ++ y :: B)
theorem textsR_app : ∀ (rs : List (List UInt8)) (b : List UInt8), (∀ x ∈ rs, x.length ≤ 262144) → textsR rs.length ⟨rs.flatMap textL ++ b, false⟩ = (rs, ⟨b, false⟩)
  | [], b, _ => rfl
  | x :: r, b, h => by
    have hx := h x (List.mem_cons_self ..)
    have e : textR ⟨(x :: r).flatMap textL ++ b, false⟩ 262144 = (x, ⟨r.flatMap textL ++ b, false⟩) := by
      rw [List.flatMap_cons, List.append_assoc]
      exact textR_app x _ 262144 hx (by omega)
    show ((textR _ 262144).1 :: (textsR r.length (textR _ 262144).2).1, (textsR r.length (textR _ 262144).2).2) = _
    rw [e]
    simp only
    rw [textsR_app r b (fun y hy => h y (List.mem_cons_of_mem _ hy))]
theorem recordsR_body (rs : List (List UInt8)) (h : Valid rs) : recordsR (bodyL rs) = some rs := by
  obtain ⟨h1, h2, h3, h4⟩ := h
  have e : numR (newR (bodyL rs)) = (rs.length, ⟨rs.flatMap textL, false⟩) := numR_app rs.length (by omega) _
  have e2 := textsR_app rs [] h3
  rw [List.append_nil] at e2
  unfold recordsR
  rw [if_neg (by rw [e]; simp only; omega), e]
  simp only
  rw [e2]
  rfl
section
variable {crc : List UInt8 → Nat} (hc : CrcOk crc)
theorem frame_len (b : List UInt8) : (frameL crc b).length = 8 + b.length := by unfold frameL; simp [numL]; omega
include hc in
theorem stepR_frame (b rest : List UInt8) (hb : b.length < 4294967296) : stepR crc (frameL crc b ++ rest) = (recordsR b).map (fun l => (l, b.length)) := by
  have e1 : numR (newR (frameL crc b ++ rest)) = (b.length, ⟨numL (crc b) ++ (b ++ rest), false⟩) := by
    unfold frameL newR
    rw [List.append_assoc, List.append_assoc]
    exact numR_app b.length hb _
  have e2 : numR ⟨numL (crc b) ++ (b ++ rest), false⟩ = (crc b, ⟨b ++ rest, false⟩) := numR_app _ (hc.lt b) _
  unfold stepR
  simp only [e1, e2, takeR_app]
  rw [if_neg (by simp)]
include hc in
theorem stepR_deed (rs : List (List UInt8)) (h : Valid rs) (rest : List UInt8) : stepR crc (deedL crc rs ++ rest) = some (rs, (bodyL rs).length) := by
  unfold deedL
  rw [stepR_frame hc _ _ (by have := h.2.2.2; omega), recordsR_body rs h]; rfl
theorem deed_len (rs : List (List UInt8)) : (deedL crc rs).length = 8 + (bodyL rs).length := frame_len _
include hc in
theorem readF_deeds : ∀ (l : List (List (List UInt8))) (G : List UInt8) (f : Nat), (∀ rs ∈ l, Valid rs) → stepR crc G = none → l.length < f → readF crc f (deedsL crc l ++ G) = (l, (deedsL crc l).length)
  | [], G, f, _, hG, hf => by
    obtain ⟨f, rfl⟩ : ∃ g, f = g + 1 := ⟨f - 1, by simp at hf; omega⟩
    show readF crc (f + 1) G = _
    unfold readF; rw [hG]; rfl
  | rs :: l, G, f, hv, hG, hf => by
    obtain ⟨f, rfl⟩ : ∃ g, f = g + 1 := ⟨f - 1, by simp at hf; omega⟩
    have hrs := hv rs (List.mem_cons_self ..)
    have e : deedsL crc (rs :: l) ++ G = deedL crc rs ++ (deedsL crc l ++ G) := by unfold deedsL; rw [List.flatMap_cons, List.append_assoc]
    have hd : (deedL crc rs ++ (deedsL crc l ++ G)).drop (8 + (bodyL rs).length) = deedsL crc l ++ G := by
      rw [← deed_len (crc := crc) rs, List.drop_left]
    have ih := readF_deeds l G f (fun r hr => hv r (List.mem_cons_of_mem _ hr)) hG (by simp at hf; omega)
    rw [e]
    unfold readF
    rw [stepR_deed hc rs hrs]
    simp only
    rw [hd, ih]
    simp only [Prod.mk.injEq, true_and]
    have : (deedsL crc (rs :: l)).length = (deedL crc rs).length + (deedsL crc l).length := by unfold deedsL; rw [List.flatMap_cons, List.length_append]
    rw [this, deed_len]
theorem deeds_long : ∀ (l : List (List (List UInt8))), l.length ≤ (deedsL crc l).length
  | [] => Nat.zero_le _
  | rs :: l => by
    have := deeds_long l
    have e : (deedsL crc (rs :: l)).length = (deedL crc rs).length + (deedsL crc l).length := by unfold deedsL; rw [List.flatMap_cons, List.length_append]
    rw [e, deed_len, List.length_cons]; omega
theorem stepR_short (G : List UInt8) (h : G.length < 8) : stepR crc G = none := by
  unfold stepR
  have hb : (takeR (numR (numR (newR G)).2).2 (numR (newR G)).1).2.bad = true := by
    by_cases h4 : G.length < 4
    · have e : takeR (newR G) 4 = ([], ⟨[], true⟩) := takeR_short _ _ h4
      have e1 : (numR (newR G)).2 = ⟨[], true⟩ := by unfold numR; rw [e]
      have e2 : (numR ⟨[], true⟩).2 = ⟨[], true⟩ := by unfold numR; rw [takeR_bad _ _ rfl]
      rw [e1, e2, takeR_bad _ _ rfl]
    · have e : takeR (newR G) 4 = (G.take 4, ⟨G.drop 4, false⟩) := by unfold takeR newR; rw [if_neg (by simp; omega)]
      have e1 : (numR (newR G)).2 = ⟨G.drop 4, false⟩ := by unfold numR; rw [e]
      have e2 : (numR ⟨G.drop 4, false⟩).2 = ⟨[], true⟩ := by unfold numR; rw [takeR_short _ _ (by simp; omega)]
      rw [e1, e2, takeR_bad _ _ rfl]
  simp only
  rw [if_pos (.inl hb)]
theorem readF_none (f : Nat) (G : List UInt8) (h : stepR crc G = none) : readF crc f G = ([], 0) := by
  cases f with
  | zero => rfl
  | succ f => unfold readF; rw [h]
include hc in
theorem readR_deeds (l : List (List (List UInt8))) (G : List UInt8) (hv : ∀ rs ∈ l, Valid rs) (hG : stepR crc G = none) : readR crc (deedsL crc l ++ G) = (l, (deedsL crc l).length) := by
  unfold readR
  by_cases h0 : (deedsL crc l ++ G).length = 0
  · have hl := deeds_long (crc := crc) l
    rw [List.length_append] at h0
    have : l = [] := List.length_eq_zero_iff.1 (by omega)
    subst this
    have hg : G = [] := List.length_eq_zero_iff.1 (by omega)
    subst hg
    rfl
  · cases l with
    | nil => exact readF_none _ _ hG
    | cons rs r =>
      refine readF_deeds hc _ G _ hv hG ?_
      have := deeds_long (crc := crc) r
      have e : (deedsL crc (rs :: r)).length = (deedL crc rs).length + (deedsL crc r).length := by unfold deedsL; rw [List.flatMap_cons, List.length_append]
      rw [List.length_append, e, deed_len, List.length_cons]; omega
/-- the head of bytes that begin as a frame -/
theorem numR_head (G : List UInt8) (h : 8 ≤ G.length) : numR (newR G) = (numV (G.take 4), ⟨G.drop 4, false⟩) ∧ numR ⟨G.drop 4, false⟩ = (numV ((G.drop 4).take 4), ⟨G.drop 8, false⟩) := by
  constructor
  · unfold numR takeR newR; rw [if_neg (by simp; omega)]
  · unfold numR takeR; rw [if_neg (by simp; omega)]; simp
/-- a beginning of a frame, the last byte of which may be another one -/
theorem stepR_torn (hc : CrcOk crc) (b G : List UInt8) (hb1 : 1 ≤ b.length) (hb : b.length < 4294967296) (hle : G.length ≤ (frameL crc b).length) (ht : G.take (G.length - 1) = (frameL crc b).take (G.length - 1)) (hne : G ≠ frameL crc b) : stepR crc G = none := by
  have hfl := frame_len (crc := crc) b
  by_cases h8 : G.length < 8
  · exact stepR_short G h8
  obtain ⟨e1, e2⟩ := numR_head G (by omega)
  have h4 : ∀ j, j ≤ 7 → G.take j = (frameL crc b).take j := fun j hj => by
    have := congrArg (List.take j) ht
    rwa [List.take_take, List.take_take, Nat.min_eq_left (by omega)] at this
  have hn : numV (G.take 4) = b.length := by
    rw [h4 4 (by omega)]
    unfold frameL
    rw [List.append_assoc, List.take_left' (numL_len _)]
    have := numV_numL b.length hb []
    rwa [List.append_nil] at this
  by_cases hfull : G.length = (frameL crc b).length
  · -- the last byte is another one
    have hGs : G = G.take (G.length - 1) ++ [G[G.length - 1]'(by omega)] := by
      conv => lhs; rw [← List.take_append_drop (G.length - 1) G]
      rw [List.drop_eq_getElem_cons (by omega), List.drop_of_length_le (by omega)]
    have hbs : b = b.take (b.length - 1) ++ [b[b.length - 1]'(by omega)] := by
      conv => lhs; rw [← List.take_append_drop (b.length - 1) b]
      rw [List.drop_eq_getElem_cons (by omega), List.drop_of_length_le (by omega)]
    have hfs : frameL crc b = numL b.length ++ numL (crc b) ++ b.take (b.length - 1) ++ [b[b.length - 1]'(by omega)] := by
      have : frameL crc b = numL b.length ++ numL (crc b) ++ b := rfl
      rw [this, List.append_assoc _ _ [_], ← hbs]
    have htk : (frameL crc b).take (G.length - 1) = numL b.length ++ numL (crc b) ++ b.take (b.length - 1) := by
      have hl : (numL b.length ++ numL (crc b) ++ b.take (b.length - 1)).length = G.length - 1 := by simp [numL]; omega
      rw [hfs, ← hl, List.take_left]
    rw [ht, htk] at hGs
    obtain ⟨x, hx⟩ : ∃ x, G[G.length - 1]'(by omega) = x := ⟨_, rfl⟩
    rw [hx] at hGs
    have hxne : x ≠ b[b.length - 1]'(by omega) := fun e => hne (by rw [hGs, hfs, e])
    have e3 : takeR ⟨G.drop 8, false⟩ b.length = (b.take (b.length - 1) ++ [x], ⟨[], false⟩) := by
      have hd : G.drop 8 = (b.take (b.length - 1) ++ [x]) ++ [] := by
        rw [hGs, List.append_nil, List.append_assoc]
        have : (numL b.length ++ numL (crc b)).length = 8 := rfl
        rw [← this, List.drop_left]
      have hlen : (b.take (b.length - 1) ++ [x]).length = b.length := by simp; omega
      rw [hd]
      have := takeR_app (b.take (b.length - 1) ++ [x]) []
      rw [hlen] at this; exact this
    have e4 : numV ((G.drop 4).take 4) = crc b := by
      have hd : (G.drop 4).take 4 = numL (crc b) := by
        rw [hGs, List.append_assoc, List.append_assoc]
        have : (numL b.length).length = 4 := rfl
        rw [← this, List.drop_left, this]
        exact List.take_left' (numL_len _)
      rw [hd]
      have := numV_numL (crc b) (hc.lt b) []
      rwa [List.append_nil] at this
    unfold stepR
    simp only [e1, e2, hn, e3, e4]
    rw [if_pos]
    right
    conv => rhs; rw [hbs]
    exact hc.one _ _ _ _ hxne
  · -- bytes are missing
    have e3 : takeR ⟨G.drop 8, false⟩ b.length = ([], ⟨[], true⟩) := takeR_short _ _ (by simp; omega)
    unfold stepR
    simp only [e1, e2, hn, e3]
    rw [if_pos (.inl trivial)]
/-- a byte of the check or of the body is another one -/
theorem stepR_spoilt (hc : CrcOk crc) (b G : List UInt8) (hb : b.length < 4294967296) (k : Nat) (x : UInt8) (hk4 : 4 ≤ k) (hk : k < (frameL crc b).length) (hx : x ≠ (frameL crc b)[k]) (hG : G = (frameL crc b).set k x) : stepR crc G = none := by
  have hfl := frame_len (crc := crc) b
  have hGl : G.length = 8 + b.length := by rw [hG, List.length_set, hfl]
  obtain ⟨e1, e2⟩ := numR_head G (by omega)
  have hn : numV (G.take 4) = b.length := by
    rw [hG, List.take_set, List.set_eq_of_length_le (by simp; omega)]
    unfold frameL
    rw [List.append_assoc, List.take_left' (numL_len _)]
    have := numV_numL b.length hb []
    rwa [List.append_nil] at this
  by_cases hk8 : k < 8
  · -- the check
    have hd8 : G.drop 8 = b := by
      rw [hG, List.drop_set_of_lt hk8]
      have : (numL b.length ++ numL (crc b)).length = 8 := rfl
      show (numL b.length ++ numL (crc b) ++ b).drop 8 = b
      rw [← this, List.drop_left]
    have hd4 : (G.drop 4).take 4 = (numL (crc b)).set (k - 4) x := by
      rw [hG, List.drop_set, if_neg (by omega)]
      have h1 : (frameL crc b).drop 4 = numL (crc b) ++ b := by
        show (numL b.length ++ numL (crc b) ++ b).drop 4 = _
        rw [List.append_assoc]
        have : (numL b.length).length = 4 := rfl
        rw [← this, List.drop_left]
      rw [h1, List.set_append_left _ _ (by rw [numL_len]; omega), List.take_left' (by rw [List.length_set, numL_len])]
    have hne : numV ((numL (crc b)).set (k - 4) x) ≠ crc b := by
      intro e
      have h2 := numL_numV (l := (numL (crc b)).set (k - 4) x) (by rw [List.length_set, numL_len])
      rw [e] at h2
      have h3 : (numL (crc b))[k - 4]'(by rw [numL_len]; omega) = ((numL (crc b)).set (k - 4) x)[k - 4]'(by rw [List.length_set, numL_len]; omega) := by simp only [← h2]
      rw [List.getElem_set_self] at h3
      apply hx
      have hq : (frameL crc b)[k]? = some ((numL (crc b))[k - 4]'(by rw [numL_len]; omega)) := by
        unfold frameL
        rw [List.getElem?_append_left (by simp [numL]; omega), List.getElem?_append_right (by rw [numL_len]; omega), numL_len, List.getElem?_eq_getElem]
      rw [List.getElem?_eq_getElem hk] at hq
      injection hq with hq
      rw [hq, h3]
    have e3 : takeR ⟨b, false⟩ b.length = (b, ⟨[], false⟩) := by
      have := takeR_app b []; rwa [List.append_nil] at this
    unfold stepR
    simp only [e1, e2, hn, hd8, e3, hd4]
    rw [if_pos]
    right
    exact fun e => hne e.symm
  · -- the body
    have hd8 : G.drop 8 = b.set (k - 8) x := by
      rw [hG, List.drop_set, if_neg (by omega)]
      have : (numL b.length ++ numL (crc b)).length = 8 := rfl
      show ((numL b.length ++ numL (crc b) ++ b).drop 8).set (k - 8) x = _
      rw [← this, List.drop_left]
    have hd4 : (G.drop 4).take 4 = numL (crc b) := by
      rw [hG, List.drop_set, if_neg (by omega)]
      have h1 : (frameL crc b).drop 4 = numL (crc b) ++ b := by
        show (numL b.length ++ numL (crc b) ++ b).drop 4 = _
        rw [List.append_assoc]
        have : (numL b.length).length = 4 := rfl
        rw [← this, List.drop_left]
      rw [h1, List.set_append_right _ _ (by rw [numL_len]; omega)]
      exact List.take_left' (numL_len _)
    have e3 : takeR ⟨b.set (k - 8) x, false⟩ b.length = (b.set (k - 8) x, ⟨[], false⟩) := by
      have := takeR_app (b.set (k - 8) x) []
      rwa [List.append_nil, List.length_set] at this
    have e4 : numV (numL (crc b)) = crc b := by
      have := numV_numL (crc b) (hc.lt b) []
      rwa [List.append_nil] at this
    have hkb : k - 8 < b.length := by omega
    have hxb : x ≠ b[k - 8] := by
      intro e
      apply hx
      have hq : (frameL crc b)[k]? = some b[k - 8] := by
        unfold frameL
        have : (numL b.length ++ numL (crc b)).length = 8 := rfl
        rw [List.getElem?_append_right (by rw [this]; omega), this, List.getElem?_eq_getElem]
      rw [List.getElem?_eq_getElem hk] at hq
      injection hq with hq
      rw [hq, e]
    unfold stepR
    simp only [e1, e2, hn, hd8, e3, hd4, e4]
    rw [if_pos]
    right
    have h1 : b.set (k - 8) x = b.take (k - 8) ++ x :: b.drop (k - 8 + 1) := by rw [List.set_eq_take_append_cons_drop, if_pos hkb]
    have h2 : b = b.take (k - 8) ++ b[k - 8] :: b.drop (k - 8 + 1) := by
      conv => lhs; rw [← List.take_append_drop (k - 8) b, List.drop_eq_getElem_cons hkb]
    rw [h1]
    conv => rhs; rw [h2]
    exact hc.one _ _ _ _ hxb
end
end Go.Proofs.YtlenfiiocmchdaaGreatDoor.Book
/- The check of bytes: plain Lean. -/
namespace Go.Proofs.YtlenfiiocmchdaaGreatDoor.Book
open Go.RowKit
set_option linter.unusedVariables false

def poly : Nat := 2197175160
/-- one bit -/
def bit1 (x : Nat) : Nat := x / 2 ^^^ (if x % 2 = 1 then poly else 0)
def bit4 (x : Nat) : Nat := bit1 (bit1 (bit1 (bit1 x)))
/-- the table's entries -/
def tab (i : Nat) : Nat := bit4 i
/-- half a byte -/
def half (x : Nat) : Nat := x / 16 ^^^ tab (x &&& 15)
def crcStep (c : Nat) (b : UInt8) : Nat := half (half (c ^^^ b.toNat))
def not32 (x : Nat) : Nat := 4294967295 ^^^ x
def crcMore (sum : Nat) (l : List UInt8) : Nat := not32 (l.foldl crcStep (not32 sum))
def crcP (l : List UInt8) : Nat := crcMore 0 l
theorem xor_lt {a b : Nat} (n : Nat) (ha : a < 2 ^ n) (hb : b < 2 ^ n) : a ^^^ b < 2 ^ n := Nat.xor_lt_two_pow ha hb
theorem bit1_lt {x : Nat} (h : x < 4294967296) : bit1 x < 4294967296 := by
  unfold bit1
  have h1 : x / 2 < 2 ^ 32 := by omega
  split
  · exact xor_lt 32 h1 (by unfold poly; decide)
  · exact xor_lt 32 h1 (by decide)
theorem bit4_lt {x : Nat} (h : x < 4294967296) : bit4 x < 4294967296 := bit1_lt (bit1_lt (bit1_lt (bit1_lt h)))
theorem and15 (x : Nat) : x &&& 15 = x % 16 := Nat.and_two_pow_sub_one_eq_mod x 4
theorem half_lt {x : Nat} (h : x < 4294967296) : half x < 4294967296 := by
  unfold half tab
  have h1 : x / 16 < 2 ^ 32 := by omega
  exact xor_lt 32 h1 (bit4_lt (by rw [and15]; omega))
theorem crcStep_lt {c : Nat} (b : UInt8) (h : c < 4294967296) : crcStep c b < 4294967296 := by
  have := b.toNat_lt
  exact half_lt (half_lt (xor_lt 32 h (by omega)))
theorem fold_lt : ∀ (l : List UInt8) (c : Nat), c < 4294967296 → l.foldl crcStep c < 4294967296
  | [], _, h => h
  | b :: l, c, h => by rw [List.foldl_cons]; exact fold_lt l _ (crcStep_lt b h)
theorem not32_lt {x : Nat} (h : x < 4294967296) : not32 x < 4294967296 := xor_lt 32 (by decide) h
/-! a step can be gone back -/
theorem xor_cancel {a b c : Nat} (h : a ^^^ c = b ^^^ c) : a = b := by
  have := congrArg (· ^^^ c) h
  simpa [Nat.xor_assoc] using this
theorem div_xor (a b n : Nat) : (a ^^^ b) / 2 ^ n = a / 2 ^ n ^^^ b / 2 ^ n := by
  rw [← Nat.shiftRight_eq_div_pow, ← Nat.shiftRight_eq_div_pow, ← Nat.shiftRight_eq_div_pow, Nat.shiftRight_xor_distrib]
theorem tab_top : ∀ i, i < 16 → ∀ j, j < 16 → tab i / 2 ^ 28 = tab j / 2 ^ 28 → i = j := by decide +kernel
theorem half_inj {x y : Nat} (hx : x < 4294967296) (hy : y < 4294967296) (h : half x = half y) : x = y := by
  have h1 := congrArg (· / 2 ^ 28) h
  simp only [half] at h1
  rw [div_xor, div_xor] at h1
  have hx0 : x / 16 / 2 ^ 28 = 0 := by omega
  have hy0 : y / 16 / 2 ^ 28 = 0 := by omega
  rw [hx0, hy0, Nat.zero_xor, Nat.zero_xor] at h1
  have hm := tab_top _ (by rw [and15]; omega) _ (by rw [and15]; omega) h1
  unfold half at h
  rw [hm] at h
  have hq := xor_cancel h
  rw [and15, and15] at hm
  omega
theorem step_injc {c d : Nat} {b : UInt8} (hc : c < 4294967296) (hd : d < 4294967296) (h : crcStep c b = crcStep d b) : c = d := by
  have hb := b.toNat_lt
  have h1 : ∀ z, z < 4294967296 → z ^^^ b.toNat < 4294967296 := fun z hz => xor_lt 32 hz (by omega)
  exact xor_cancel (half_inj (h1 c hc) (h1 d hd) (half_inj (half_lt (h1 c hc)) (half_lt (h1 d hd)) h))
theorem step_injb {c : Nat} {a b : UInt8} (hc : c < 4294967296) (h : crcStep c a = crcStep c b) : a = b := by
  have ha := a.toNat_lt; have hb := b.toNat_lt
  have h1 : ∀ z, z < 256 → c ^^^ z < 4294967296 := fun z hz => xor_lt 32 hc (by omega)
  have h2 := half_inj (h1 _ (by omega)) (h1 _ (by omega)) (half_inj (half_lt (h1 _ (by omega))) (half_lt (h1 _ (by omega))) h)
  rw [Nat.xor_comm c, Nat.xor_comm c] at h2
  exact UInt8.toNat_inj.1 (xor_cancel h2)
theorem fold_inj : ∀ (l : List UInt8) {c d : Nat}, c < 4294967296 → d < 4294967296 → l.foldl crcStep c = l.foldl crcStep d → c = d
  | [], _, _, _, _, h => h
  | b :: l, c, d, hc, hd, h => step_injc hc hd (fold_inj l (crcStep_lt b hc) (crcStep_lt b hd) h)
theorem not32_inj {x y : Nat} (h : not32 x = not32 y) : x = y := by
  unfold not32 at h
  rw [Nat.xor_comm _ x, Nat.xor_comm _ y] at h
  exact xor_cancel h
theorem crcMore_lt (sum : Nat) (l : List UInt8) (h : sum < 4294967296) : crcMore sum l < 4294967296 := not32_lt (fold_lt l _ (not32_lt h))
theorem crcP_ok : CrcOk crcP := by
  refine ⟨fun s => crcMore_lt 0 s (by omega), fun A x y B hne h => hne ?_⟩
  have h0 : not32 0 < 4294967296 := not32_lt (by omega)
  have hA := fold_lt A (not32 0) h0
  have h1 : ∀ z, (A ++ z :: B).foldl crcStep (not32 0) = B.foldl crcStep (crcStep (A.foldl crcStep (not32 0)) z) := fun z => by rw [List.foldl_append, List.foldl_cons]
  have h2 := not32_inj h
  rw [h1, h1] at h2
  exact step_injb hA (fold_inj B (crcStep_lt x hA) (crcStep_lt y hA) h2)
/-! bit by bit is the same -/
theorem bit1_xor (x y : Nat) : bit1 (x ^^^ y) = bit1 x ^^^ bit1 y := by
  unfold bit1
  have hd : (x ^^^ y) / 2 = x / 2 ^^^ y / 2 := by have := div_xor x y 1; simpa using this
  have hm : (x ^^^ y) % 2 = (x % 2 + y % 2) % 2 := by
    have key : ∀ a : Nat, a % 2 = if Nat.testBit a 0 = true then 1 else 0 := fun a => by
      rw [Nat.testBit_zero]
      rcases Nat.mod_two_eq_zero_or_one a with h | h <;> rw [h] <;> rfl
    rw [key (x ^^^ y), key x, key y, Nat.testBit_xor]
    cases Nat.testBit x 0 <;> cases Nat.testBit y 0 <;> rfl
  rw [hd]
  rcases Nat.mod_two_eq_zero_or_one x with hx | hx <;> rcases Nat.mod_two_eq_zero_or_one y with hy | hy <;> rw [hm, hx, hy]
  · simp
  · simp [Nat.xor_assoc]
  · simp; rw [Nat.xor_assoc, Nat.xor_comm (y / 2), ← Nat.xor_assoc]
  · simp
    have e : x / 2 ^^^ poly ^^^ (y / 2 ^^^ poly) = x / 2 ^^^ y / 2 ^^^ (poly ^^^ poly) := by
      rw [Nat.xor_assoc, Nat.xor_assoc, ← Nat.xor_assoc poly, Nat.xor_comm poly (y / 2), Nat.xor_assoc (y / 2)]
    rw [e, Nat.xor_self, Nat.xor_zero]
theorem bit4_xor (x y : Nat) : bit4 (x ^^^ y) = bit4 x ^^^ bit4 y := by unfold bit4; rw [bit1_xor, bit1_xor, bit1_xor, bit1_xor]
theorem bit1_even (q : Nat) : bit1 (2 * q) = q := by
  unfold bit1
  rw [if_neg (by omega), Nat.xor_zero]; omega
theorem bit4_high (q : Nat) : bit4 (16 * q) = q := by
  unfold bit4
  rw [show 16 * q = 2 * (2 * (2 * (2 * q))) by omega, bit1_even, bit1_even, bit1_even, bit1_even]
theorem half_bit4 (x : Nat) : half x = bit4 x := by
  have hx : x = 16 * (x / 16) ^^^ (x &&& 15) := by
    rw [and15]
    have h1 : 16 * (x / 16) ^^^ x % 16 = 16 * (x / 16) + x % 16 := by
      have := Nat.two_pow_add_eq_or_of_lt (i := 4) (b := x % 16) (by omega) (x / 16)
      have h2 : (2 ^ 4 * (x / 16)) &&& (x % 16) = 0 := by
        apply Nat.eq_of_testBit_eq
        intro j
        rw [Nat.testBit_and, Nat.zero_testBit, Nat.testBit_two_pow_mul]
        by_cases hj : 4 ≤ j
        · have h16 : x % 16 < 2 ^ j := Nat.lt_of_lt_of_le (by omega : x % 16 < 2 ^ 4) (Nat.pow_le_pow_right (by omega) hj)
          rw [Nat.testBit_lt_two_pow h16]; simp
        · simp [hj]
      apply Nat.eq_of_testBit_eq
      intro j
      have e16 : (16 : Nat) = 2 ^ 4 := rfl
      rw [e16] at *
      rw [this, Nat.testBit_xor, Nat.testBit_or]
      have h3 := congrArg (fun z => Nat.testBit z j) h2
      simp only [Nat.testBit_and, Nat.zero_testBit] at h3
      cases ha : Nat.testBit (2 ^ 4 * (x / 2 ^ 4)) j <;> cases hb : Nat.testBit (x % 2 ^ 4) j <;> simp_all
    omega
  have : bit4 x = bit4 (16 * (x / 16) ^^^ (x &&& 15)) := congrArg bit4 hx
  rw [this, bit4_xor, bit4_high]
  rfl
end Go.Proofs.YtlenfiiocmchdaaGreatDoor.Book
/- The reader of bytes (layer 1), and numbers and texts as bytes. -/
namespace Go.Proofs.YtlenfiiocmchdaaGreatDoor
open Go.RowKit Book
set_option linter.unusedVariables false

def bx (l : List UInt8) : ByteArray := ⟨l.toArray⟩
theorem bx_size (l : List UInt8) : (bx l).size = l.length := by unfold bx; simp [ByteArray.size]
theorem bx_list (l : List UInt8) : (bx l).data.toList = l := by unfold bx; simp
theorem bx_back (s : ByteArray) : bx s.data.toList = s := ba_ext (bx_list _)
theorem bx_take (l : List UInt8) (n : Nat) (h : n ≤ l.length) : (bx l).extract 0 n = bx (l.take n) := by
  apply ba_ext
  rw [bx_list, ByteArray.data_extract, Array.toList_extract]
  unfold bx; simp
theorem bx_drop (l : List UInt8) (n : Nat) : (bx l).extract n (bx l).size = bx (l.drop n) := by
  apply ba_ext
  rw [bx_list, ByteArray.data_extract, Array.toList_extract, bx_size]
  unfold bx; simp [List.extract]
  exact List.take_of_length_le (by simp)
theorem bx_append (a b : List UInt8) : bx a ++ bx b = bx (a ++ b) := by
  apply ba_ext
  rw [bx_list, ByteArray.data_append, Array.toList_append]; unfold bx; simp
/-- a reader in memory -/
def RdAt (w : World) (b : Nat) (r : Rd) : Prop := Blk w b 259 #[.string (bx r.rest), .bool r.bad]
section
variable {w : World} {b : Nat} {r : Rd}
theorem RdAt.cells (h : RdAt w b r) : w.cell? ⟨b, 0, none⟩ = some (.string (bx r.rest)) ∧ w.cell? ⟨b, 1, none⟩ = some (.bool r.bad) := ⟨Blk.cell h 0, Blk.cell h 1⟩
theorem onew_any (s : ByteArray) (w : World) : Calls Tryz.prog 130 #[.string s] w fun e w' => e = .returned (.pointer (some ⟨w.heap.size, 0, none⟩)) ∧ RdAt w' w.heap.size (newR s.data.toList) ∧ Below w.heap.size w w' := by
  go_enter Tryz.func130, Tryz.ntmps130
  go_wp2
  go_ret
  refine ⟨rfl, ?_, (Below.refl _ _).alloc (Nat.le_refl _) _⟩
  have := Blk.new w 259 #[.string s, .bool false]
  unfold RdAt newR; rw [bx_back]; exact this
theorem obad_any (h : RdAt w b r) : Calls Tryz.prog 188 #[.pointer (some ⟨b, 0, none⟩)] w fun e w' => e = .returned (.bool r.bad) ∧ w = w' := by
  obtain ⟨-, c1⟩ := h.cells
  clear h
  go_enter Tryz.func188, Tryz.ntmps188
  go_wp2
  go_ret
  exact ⟨rfl, rfl⟩
theorem ospoil_any (h : RdAt w b r) : Calls Tryz.prog 189 #[.pointer (some ⟨b, 0, none⟩)] w fun e w' => e = .returned (.tuple #[]) ∧ RdAt w' b ⟨[], true⟩ ∧ Only (· = b) w w' := by
  obtain ⟨c0, c1⟩ := h.cells
  have f0 := Blk.frozen h 0
  have f1 := Blk.frozen h 1
  have HFIN : Hid (RdAt ((w.setCell ⟨b, 1, none⟩ (.bool true)).setCell ⟨b, 0, none⟩ (.string ⟨#[]⟩)) b ⟨[], true⟩ ∧ Only (· = b) w ((w.setCell ⟨b, 1, none⟩ (.bool true)).setCell ⟨b, 0, none⟩ (.string ⟨#[]⟩))) := by
    refine ⟨?_, ((Only.refl (· = b) w).setCell (p := ⟨b, 1, none⟩) (.inl rfl) _).setCell (p := ⟨b, 0, none⟩) (.inl rfl) _⟩
    have := (Blk.set h 1 (.bool true)).set 0 (.string ⟨#[]⟩)
    show Blk _ _ _ #[.string ⟨#[]⟩, .bool true]; simpa using this
  clear h
  go_enter Tryz.func189, Tryz.ntmps189
  go_wp2
  go_end0
  exact ⟨rfl, HFIN.out⟩
theorem oleft_any (h : RdAt w b r) : Calls Tryz.prog 132 #[.pointer (some ⟨b, 0, none⟩)] w fun e w' => e = .returned (.int .i64 r.rest.length) ∧ w = w' := by
  obtain ⟨c0, -⟩ := h.cells
  have e : (r.rest.length : Int) = ((bx r.rest).size : Int) := by rw [bx_size]
  rw [e]
  clear h e
  go_enter Tryz.func132, Tryz.ntmps132
  go_wp2
  go_ret
  exact ⟨rfl, rfl⟩
theorem owhole_any (h : RdAt w b r) : Calls Tryz.prog 137 #[.pointer (some ⟨b, 0, none⟩)] w fun e w' => e = .returned (.bool (wholeR r)) ∧ w = w' := by
  have HB := hid (obad_any h)
  have HL := hid (oleft_any h)
  obtain ⟨rest, bad⟩ := r
  cases bad
  · cases rest with
    | nil =>
      clear h
      go_enter Tryz.func137, Tryz.ntmps137
      go_wp2_with (first
        | (go_at_call 188; refine HB.out.mono ?_; rintro e w' ⟨rfl, rfl⟩)
        | (go_at_call 132; refine HL.out.mono ?_; rintro e w' ⟨rfl, rfl⟩))
      go_ret
      exact ⟨rfl, rfl⟩
    | cons x l =>
      have g : (((x :: l).length : Int) == 0) = false := by rw [beq_eq_false_iff_ne]; simp; omega
      obtain ⟨m, hm⟩ : ∃ m : Int, ((x :: l).length : Int) = m := ⟨_, rfl⟩
      simp only at HL
      rw [hm] at HL g
      clear h hm
      go_enter Tryz.func137, Tryz.ntmps137
      go_wp2_with (first
        | (go_at_call 188; refine HB.out.mono ?_; rintro e w' ⟨rfl, rfl⟩)
        | (go_at_call 132; refine HL.out.mono ?_; rintro e w' ⟨rfl, rfl⟩))
      go_ret
      exact ⟨rfl, rfl⟩
  · clear h
    go_enter Tryz.func137, Tryz.ntmps137
    go_wp2_with (go_at_call 188; refine HB.out.mono ?_; rintro e w' ⟨rfl, rfl⟩)
    go_ret
    exact ⟨rfl, rfl⟩
theorem otake_any (n : Nat) (h : RdAt w b r) (hr : r.rest.length ≤ 9223372036854775807) (hn : n ≤ 9223372036854775807) : Calls Tryz.prog 131 #[.pointer (some ⟨b, 0, none⟩), .int .i64 n] w fun e w' => e = .returned (.string (bx (takeR r n).1)) ∧ RdAt w' b (takeR r n).2 ∧ Only (· = b) w w' := by
  have HB := hid (obad_any h)
  have HS := hid (ospoil_any h)
  obtain ⟨c0, -⟩ := h.cells
  obtain ⟨rest, bad⟩ := r
  obtain ⟨y, hy⟩ : ∃ y, bx rest = y := ⟨_, rfl⟩
  have hyl : rest.length = y.size := by rw [← hy, bx_size]
  simp only [hy] at c0 hr
  rw [hyl] at hr
  by_cases hb : bad = true ∨ rest.length < n
  · have e : takeR ⟨rest, bad⟩ n = ([], ⟨[], true⟩) := by unfold takeR; exact if_pos hb
    rw [e]
    show Calls _ _ _ _ fun e w' => e = .returned (.string ⟨#[]⟩) ∧ _
    have hn0 : ¬ ((n : Int) < 0) := by omega
    cases bad
    · have hb' : (y.size : Int) < n := by rcases hb with h | h; cases h; omega
      clear h hb e hy hyl
      go_enter Tryz.func131, Tryz.ntmps131
      go_wp2_with (first
        | (go_at_call 188; refine HB.out.mono ?_; rintro e w' ⟨rfl, rfl⟩)
        | (go_at_call 189; refine HS.out.mono ?_; rintro e w' ⟨rfl, hs⟩; have HF := hid hs; clear hs))
      go_ret
      exact ⟨rfl, HF.out⟩
    · clear h hb e hy hyl
      go_enter Tryz.func131, Tryz.ntmps131
      go_wp2_with (first
        | (go_at_call 188; refine HB.out.mono ?_; rintro e w' ⟨rfl, rfl⟩)
        | (go_at_call 189; refine HS.out.mono ?_; rintro e w' ⟨rfl, hs⟩; have HF := hid hs; clear hs))
      go_ret
      exact ⟨rfl, HF.out⟩
  · have e : takeR ⟨rest, bad⟩ n = (rest.take n, ⟨rest.drop n, false⟩) := by unfold takeR; exact if_neg hb
    rw [e]
    have hb0 : bad = false := by cases bad; rfl; exact absurd (.inl rfl) hb
    subst hb0
    have hnl : n ≤ rest.length := by have : ¬ rest.length < n := fun h => hb (.inr h); omega
    have e1 : bx (rest.take n) = y.extract 0 n := by rw [← hy, bx_take _ _ hnl]
    have e2 : bx (rest.drop n) = y.extract n y.size := by rw [← hy, bx_drop]
    have f0 := Blk.frozen h 0
    have HFIN : Hid (RdAt (w.setCell ⟨b, 0, none⟩ (.string (y.extract n y.size))) b ⟨rest.drop n, false⟩ ∧ Only (· = b) w (w.setCell ⟨b, 0, none⟩ (.string (y.extract n y.size)))) := by
      refine ⟨?_, (Only.refl (· = b) w).setCell (p := ⟨b, 0, none⟩) (.inl rfl) _⟩
      have := Blk.set h 0 (.string (y.extract n y.size))
      unfold RdAt; rw [e2]; simpa using this
    rw [e1]
    have hn0 : ¬ ((n : Int) < 0) := by omega
    have hn1 : ¬ ((y.size : Int) < n) := by omega
    have hn2 : (n : Int) ≤ y.size := by omega
    have hn3 : (0 : Int) ≤ n := by omega
    clear h hb e hy hyl e1 e2 hnl
    go_enter Tryz.func131, Tryz.ntmps131
    go_wp2_with (first
      | (go_at_call 188; refine HB.out.mono ?_; rintro e w' ⟨rfl, rfl⟩))
    go_ret
    exact ⟨rfl, HFIN.out⟩
theorem takeR_four (r : Rd) : (takeR r 4).1 = [] ∨ ∃ a b c d, (takeR r 4).1 = [a, b, c, d] := by
  unfold takeR
  split
  · exact .inl rfl
  · rename_i h
    right
    have hl : (r.rest.take 4).length = 4 := by rw [List.length_take]; simp only [not_or] at h; omega
    match hq : r.rest.take 4, hl with
    | [a, b, c, d], _ => exact ⟨a, b, c, d, rfl⟩
/-- a text turned to bytes, as it lies -/
theorem bytesRow_cell (w : World) (y : ByteArray) (cap : Nat) (e : TypeId) (fz : Nat × Nat) (j : Nat) (hj : j < y.size) : ((w.alloc (.cells (bytesRow y cap) e fz)).drew).cell? ⟨w.heap.size, j, none⟩ = some (.int .u8 ((y.data.toList.getD j 0).toNat : Int)) := by
  have hj' : j < y.data.size := hj
  have h1 : ((w.alloc (.cells (bytesRow y cap) e fz)).drew).heap[w.heap.size]? = some (.cells (bytesRow y cap) e fz) := heap_alloc_new w _
  rw [cell_of_row _ _ j _ e fz h1, bytesRow_at y cap j hj']
  rw [List.getD_eq_getElem?_getD, List.getElem?_eq_getElem (by simpa using hj')]
  simp
theorem or_add (a b i m : Nat) (hm : 2 ^ i = m) (ha : a < m) (ht : a + m * b < 4294967296) : bits .or .u32 (a : Int) ((b : Int) * (m : Int)) = ((a + m * b : Nat) : Int) := by
  subst hm
  have e : ((b : Int) * ((2 ^ i : Nat) : Int)) = ((b * 2 ^ i : Nat) : Int) := (Int.natCast_mul _ _).symm
  rw [e, u32_or_nat a _ (by omega) (by rw [Nat.mul_comm]; omega), Nat.or_comm, Nat.mul_comm b, ← Nat.two_pow_add_eq_or_of_lt ha, Nat.add_comm]
def pre4 (a b c d : UInt8) (k : Nat) : Nat := if k = 0 then 0 else if k = 1 then a.toNat else if k = 2 then a.toNat + 256 * b.toNat else if k = 3 then a.toNat + 256 * b.toNat + 65536 * c.toNat else a.toNat + 256 * b.toNat + 65536 * c.toNat + 16777216 * d.toNat
set_option maxRecDepth 100000 in
set_option maxHeartbeats 4000000 in
theorem onum_any (h : RdAt w b r) (hr : r.rest.length ≤ 9223372036854775807) : Calls Tryz.prog 135 #[.pointer (some ⟨b, 0, none⟩)] w fun e w' => e = .returned (.int .u32 (numR r).1) ∧ RdAt w' b (numR r).2 ∧ Only (fun k => k = b) w w' := by
  have HT := hid (otake_any 4 h hr (by omega))
  unfold numR
  obtain ⟨r2, hr2⟩ : ∃ r2, (takeR r 4).2 = r2 := ⟨_, rfl⟩
  have hcv := fun w s => run_bytes_of_string (P := Tryz.prog) w 9 91 5 s Tryz.underlying9 Tryz.underlying91 Tryz.underlying5
  rcases takeR_four r with e | ⟨x0, x1, x2, x3, e⟩
  · rw [e, hr2] at HT
    rw [e, hr2]
    show Calls _ _ _ _ fun e w' => e = .returned (.int .u32 0) ∧ _
    obtain ⟨y, hy⟩ : ∃ y, bx [] = y := ⟨_, rfl⟩
    have hys : y.size = 0 := by rw [← hy]; rfl
    rw [hy] at HT
    clear h hr hr2 e hy
    go_enter Tryz.func135, Tryz.ntmps135
    go_wp2_with (go_at_call 131; refine HT.out.mono ?_; rintro e w' ⟨rfl, hs⟩; have HF := hid hs; clear hs)
    generalize grownCap w' 0 0 5 = cap
    have HW : Hid (RdAt ((w'.alloc (.cells (bytesRow y cap) 5 ((bytesRow y cap).size, (bytesRow y cap).size + 1))).drew) b r2 ∧ Only (fun k => k = b) w ((w'.alloc (.cells (bytesRow y cap) 5 ((bytesRow y cap).size, (bytesRow y cap).size + 1))).drew)) := ⟨Blk.drew (Blk.alloc HF.out.1 _), (HF.out.2.alloc _).drew⟩
    generalize ((w'.alloc (.cells (bytesRow y cap) 5 ((bytesRow y cap).size, (bytesRow y cap).size + 1))).drew) = w2 at HW ⊢
    go_loop [10, 3] (fun kv nv => kv = .int .i64 0 ∧ nv = .int .u32 0) (fun _ _ => 0)
    case atStart => exact ⟨rfl, rfl⟩
    case round =>
      obtain ⟨rfl, rfl⟩ := hrel
      go_wp2
      go_ret
      exact ⟨rfl, HW.out⟩
  · rw [e, hr2] at HT
    rw [e, hr2]
    obtain ⟨y, hy⟩ : ∃ y, bx [x0, x1, x2, x3] = y := ⟨_, rfl⟩
    have hys : y.size = 4 := by rw [← hy]; rfl
    have hyl : y.data.toList = [x0, x1, x2, x3] := by rw [← hy, bx_list]
    have HYL := hid hyl
    rw [hy] at HT
    clear h hr hr2 e hy hyl
    go_enter Tryz.func135, Tryz.ntmps135
    go_wp2_with (go_at_call 131; refine HT.out.mono ?_; rintro e w' ⟨rfl, hs⟩; have HF := hid hs; clear hs)
    generalize grownCap w' 4 0 5 = cap
    have hb : ∀ j, j < 4 → ((w'.alloc (.cells (bytesRow y cap) 5 ((bytesRow y cap).size, (bytesRow y cap).size + 1))).drew).cell? ⟨w'.heap.size, j, none⟩ = some (.int .u8 ((y.data.toList.getD j 0).toNat : Int)) := fun j hj => bytesRow_cell w' y cap _ _ j (by rw [hys]; exact hj)
    rw [HYL.out] at hb
    have c0 := hb 0 (by omega)
    have c1 := hb 1 (by omega)
    have c2 := hb 2 (by omega)
    have c3 := hb 3 (by omega)
    simp only [List.getD_cons_zero, List.getD_cons_succ] at c0 c1 c2 c3
    have HW : Hid (RdAt ((w'.alloc (.cells (bytesRow y cap) 5 ((bytesRow y cap).size, (bytesRow y cap).size + 1))).drew) b r2 ∧ Only (fun k => k = b) w ((w'.alloc (.cells (bytesRow y cap) 5 ((bytesRow y cap).size, (bytesRow y cap).size + 1))).drew)) := ⟨Blk.drew (Blk.alloc HF.out.1 _), (HF.out.2.alloc _).drew⟩
    clear hb
    generalize ((w'.alloc (.cells (bytesRow y cap) 5 ((bytesRow y cap).size, (bytesRow y cap).size + 1))).drew) = w2 at c0 c1 c2 c3 HW ⊢
    have t0 := x0.toNat_lt; have t1 := x1.toNat_lt; have t2 := x2.toNat_lt; have t3 := x3.toNat_lt
    go_loop [10, 3] (fun kv nv => ∃ k : Nat, k ≤ 4 ∧ kv = .int .i64 k ∧ nv = .int .u32 (pre4 x0 x1 x2 x3 k)) (fun kv _ => 4 - (intOf kv).toNat)
    case atStart => exact ⟨0, by omega, rfl, rfl⟩
    case round =>
      obtain ⟨k, hk, rfl, rfl⟩ := hrel
      obtain rfl | rfl | rfl | rfl | rfl : k = 0 ∨ k = 1 ∨ k = 2 ∨ k = 3 ∨ k = 4 := by omega
      · go_wp2
        go_roundw
        case rel => exact ⟨1, by omega, rfl, congrArg (Value.int .u32) ((u32_or_nat 0 x0.toNat (by omega) (by omega)).trans (congrArg Nat.cast (Nat.zero_or _)))⟩
        case measure => simp [intOf]
      · go_wp2
        go_roundw
        case rel => exact ⟨2, by omega, rfl, congrArg (Value.int .u32) (or_add x0.toNat x1.toNat 8 256 rfl (by omega) (by omega))⟩
        case measure => simp [intOf]
      · go_wp2
        go_roundw
        case rel => exact ⟨3, by omega, rfl, congrArg (Value.int .u32) (or_add (x0.toNat + 256 * x1.toNat) x2.toNat 16 65536 rfl (by omega) (by omega))⟩
        case measure => simp [intOf]
      · go_wp2
        go_roundw
        case rel => exact ⟨4, by omega, rfl, congrArg (Value.int .u32) (or_add (x0.toNat + 256 * x1.toNat + 65536 * x2.toNat) x3.toNat 24 16777216 rfl (by omega) (by omega))⟩
        case measure => simp [intOf]
      · go_wp2
        go_ret
        exact ⟨rfl, HW.out⟩
end
end Go.Proofs.YtlenfiiocmchdaaGreatDoor
/- Texts read; numbers and texts as bytes. -/
namespace Go.Proofs.YtlenfiiocmchdaaGreatDoor
open Go.RowKit Book
set_option linter.unusedVariables false

section
variable {w : World} {b : Nat} {r : Rd}
theorem takeR_rest (r : Rd) (n : Nat) : (takeR r n).2.rest.length ≤ r.rest.length := by unfold takeR; split <;> simp
theorem otext_any (most : Nat) (hm : most ≤ 1000000) (h : RdAt w b r) (hr : r.rest.length ≤ 9223372036854775807) : Calls Tryz.prog 136 #[.pointer (some ⟨b, 0, none⟩), .int .i64 most] w fun e w' => e = .returned (.string (bx (textR r most).1)) ∧ RdAt w' b (textR r most).2 ∧ Only (fun k => k = b) w w' := by
  have HN := hid (onum_any h hr)
  have hn32 : (numR r).1 < 4294967296 := numV_lt _
  have hrl : (numR r).2.rest.length ≤ 9223372036854775807 := Nat.le_trans (takeR_rest r 4) hr
  unfold textR
  obtain ⟨n, hn⟩ : ∃ n, (numR r).1 = n := ⟨_, rfl⟩
  obtain ⟨r2, hr2⟩ : ∃ r2, (numR r).2 = r2 := ⟨_, rfl⟩
  rw [hn, hr2] at HN
  rw [hn, hr2]
  rw [hn] at hn32; rw [hr2] at hrl
  have ew : IntKind.i64.wrap (n : Int) = n := by rw [IntKind.wrap_i64]; omega
  by_cases hgt : most < n
  · rw [if_pos hgt]
    have g : (most : Int) < n := by omega
    have HT : Hid (∀ w', RdAt w' b ⟨[], true⟩ → Calls Tryz.prog 131 #[.pointer (some ⟨b, 0, none⟩), .int .i64 n] w' fun e w'' => e = .returned (.string (bx (takeR ⟨[], true⟩ n).1)) ∧ RdAt w'' b (takeR ⟨[], true⟩ n).2 ∧ Only (· = b) w' w'') := fun w' h' => otake_any n h' (by simp) (by omega)
    clear h hr hn hr2 hgt
    go_enter Tryz.func136, Tryz.ntmps136
    go_wp2_with (first
      | (go_at_call 135; refine HN.out.mono ?_; rintro e w1 ⟨rfl, hs⟩; have H1 := hid hs; clear hs)
      | (go_at_call 189; refine (ospoil_any H1.out.1).mono ?_; rintro e w2 ⟨rfl, hs⟩; have H2 := hid hs; clear hs)
      | (go_at_call 131; refine (HT.out _ H2.out.1).mono ?_; rintro e w3 ⟨rfl, hs⟩; have H3 := hid hs; clear hs))
    go_ret
    exact ⟨rfl, H3.out.1, H1.out.2.then (H2.out.2.then H3.out.2)⟩
  · rw [if_neg hgt]
    have g : ¬ (most : Int) < n := by omega
    have HT : Hid (∀ w', RdAt w' b r2 → Calls Tryz.prog 131 #[.pointer (some ⟨b, 0, none⟩), .int .i64 n] w' fun e w'' => e = .returned (.string (bx (takeR r2 n).1)) ∧ RdAt w'' b (takeR r2 n).2 ∧ Only (· = b) w' w'') := fun w' h' => otake_any n h' hrl (by omega)
    clear h hr hn hr2 hgt hrl
    go_enter Tryz.func136, Tryz.ntmps136
    go_wp2_with (first
      | (go_at_call 135; refine HN.out.mono ?_; rintro e w1 ⟨rfl, hs⟩; have H1 := hid hs; clear hs)
      | (go_at_call 131; refine (HT.out _ H1.out.1).mono ?_; rintro e w3 ⟨rfl, hs⟩; have H3 := hid hs; clear hs))
    go_ret
    exact ⟨rfl, H3.out.1, H1.out.2.then H3.out.2⟩
def arr4 (n k : Nat) : Array Value := #[.int .u8 (if 0 < k then (n : Int) % 256 else 0), .int .u8 (if 1 < k then (n : Int) / 256 % 256 else 0), .int .u8 (if 2 < k then (n : Int) / 65536 % 256 else 0), .int .u8 (if 3 < k then (n : Int) / 16777216 else 0)]
set_option maxRecDepth 100000 in
set_option maxHeartbeats 4000000 in
theorem onumw_any (n : Nat) (hn : n < 4294967296) (w : World) : Calls Tryz.prog 182 #[.int .u32 n] w fun e w' => e = .returned (.string (bx (numL n))) ∧ Below w.heap.size w w' := by
  go_enter Tryz.func182, Tryz.ntmps182
  go_wp2
  go_loopw [5] (fun kv wr => ∃ k : Nat, k ≤ 4 ∧ kv = .int .i64 k ∧ wr = w.alloc (.cells (arr4 n k) 292)) (fun kv _ => 4 - (intOf kv).toNat)
  case atStart => exact ⟨0, by omega, rfl, rfl⟩
  case round =>
    obtain ⟨k, hk, rfl, rfl⟩ := hrel
    obtain rfl | rfl | rfl | rfl | rfl : k = 0 ∨ k = 1 ∨ k = 2 ∨ k = 3 ∨ k = 4 := by omega
    · simp only [arr4]
      go_wp2
      go_roundw
      case rel => exact ⟨1, by omega, rfl, rfl⟩
      case measure => simp [intOf]
    · simp only [arr4]
      go_wp2
      go_roundw
      case rel => exact ⟨2, by omega, rfl, rfl⟩
      case measure => simp [intOf]
    · simp only [arr4]
      go_wp2
      go_roundw
      case rel => exact ⟨3, by omega, rfl, rfl⟩
      case measure => simp [intOf]
    · simp only [arr4]
      go_wp2
      go_roundw
      case rel => exact ⟨4, by omega, rfl, rfl⟩
      case measure => simp [intOf]
    · have hconv : (convert 91 9 (.slice (some ⟨w.heap.size, 0, none⟩) 4 4)).run Tryz.prog (w.alloc (.cells #[.int .u8 ((n : Int) % 256), .int .u8 ((n : Int) / 256 % 256), .int .u8 ((n : Int) / 65536 % 256), .int .u8 ((n : Int) / 16777216)] 292)) = .ok (.string (bx (numL n))) (w.alloc (.cells #[.int .u8 ((n : Int) % 256), .int .u8 ((n : Int) / 256 % 256), .int .u8 ((n : Int) / 65536 % 256), .int .u8 ((n : Int) / 16777216)] 292)) := by
        have hb := Blk.new w 292 #[.int .u8 ((n : Int) % 256), .int .u8 ((n : Int) / 256 % 256), .int .u8 ((n : Int) / 65536 % 256), .int .u8 ((n : Int) / 16777216)]
        refine run_convert_bytes_back _ _ _ _ _ 4 (numL n) Tryz.underlying91 Tryz.underlying5 Tryz.underlying9 ?_
        intro j hj
        have hj4 : j < 4 := hj
        have ha : (⟨w.heap.size, 0, none⟩ : Addr).add j = ⟨w.heap.size, j, none⟩ := by unfold Addr.add; split <;> simp_all
        rw [ha, hb.cell]
        obtain rfl | rfl | rfl | rfl : j = 0 ∨ j = 1 ∨ j = 2 ∨ j = 3 := by omega
        · show some (Value.int .u8 ((n : Int) % 256)) = some (.int .u8 (((UInt8.ofNat n).toNat : Nat) : Int)); rw [UInt8.toNat_ofNat']; rfl
        · show some (Value.int .u8 ((n : Int) / 256 % 256)) = some (.int .u8 (((UInt8.ofNat (n / 256)).toNat : Nat) : Int)); rw [UInt8.toNat_ofNat']; rfl
        · show some (Value.int .u8 ((n : Int) / 65536 % 256)) = some (.int .u8 (((UInt8.ofNat (n / 65536)).toNat : Nat) : Int)); rw [UInt8.toNat_ofNat']; rfl
        · show some (Value.int .u8 ((n : Int) / 16777216)) = some (.int .u8 (((UInt8.ofNat (n / 16777216)).toNat : Nat) : Int)); rw [UInt8.toNat_ofNat', Nat.mod_eq_of_lt (by omega)]; rfl
      simp only [arr4]
      go_wp2
      go_ret
      exact ⟨rfl, (Below.refl _ _).alloc (Nat.le_refl _) _⟩
theorem otextw_any (s : ByteArray) (hs : s.size ≤ 2147483648) (w : World) : Calls Tryz.prog 183 #[.string s] w fun e w' => e = .returned (.string (bx (textL s.data.toList))) ∧ Below w.heap.size w w' := by
  have HN := hid (onumw_any s.size (by omega) w)
  have hl : s.data.toList.length = s.size := by rw [Array.length_toList]; rfl
  have HR : Hid (bx (numL s.size) ++ s = bx (textL s.data.toList)) := by
    show bx (numL s.size) ++ s = bx (textL s.data.toList)
    conv => lhs; rw [← bx_back s, bx_append]
    unfold textL; rw [hl, bx_back]
  have ew : IntKind.u32.wrap (s.size : Int) = s.size := by rw [IntKind.wrap_u32]; omega
  obtain ⟨y, hy⟩ : ∃ y, bx (numL s.size) = y := ⟨_, rfl⟩
  have hys : y.size ≤ 4 := by rw [← hy]; exact Nat.le_of_eq (bx_size _)
  rw [hy] at HN HR
  have hcat : ¬ 9223372036854775807 < y.size + s.size := by omega
  rw [← HR.out]
  clear hl hy
  go_enter Tryz.func183, Tryz.ntmps183
  go_wp2_with (go_at_call 182; refine HN.out.mono ?_; rintro e w1 ⟨rfl, hs⟩; have H1 := hid hs; clear hs)
  go_ret
  exact ⟨rfl, H1.out⟩
end
end Go.Proofs.YtlenfiiocmchdaaGreatDoor
/- Objects: read from bytes: entries, parents. -/
namespace Go.Proofs.YtlenfiiocmchdaaGreatDoor
open Go.RowKit Book Pap Ojt
set_option linter.unusedVariables false

def ecells (e : Ent) : List Value := [.string e.name, .int .i64 e.kind, .string e.id]
def evals (l : List Ent) : List Value := l.flatMap ecells
theorem evals_append (a b : List Ent) : evals (a ++ b) = evals a ++ evals b := by simp [evals]
theorem evals_length : ∀ (l : List Ent), (evals l).length = l.length * 3
  | [] => rfl
  | a :: r => by
    have := evals_length r
    show (ecells a ++ evals r).length = _
    rw [List.length_append, this]; simp [ecells]; omega
theorem evals_get : ∀ (l : List Ent) (j : Nat), j < l.length → (evals l)[j * 3]? = some (.string (l.getD j ⟨ByteArray.empty, 0, ByteArray.empty⟩).name) ∧ (evals l)[j * 3 + 1]? = some (.int .i64 (l.getD j ⟨ByteArray.empty, 0, ByteArray.empty⟩).kind) ∧ (evals l)[j * 3 + 2]? = some (.string (l.getD j ⟨ByteArray.empty, 0, ByteArray.empty⟩).id)
  | [], j, h => by simp at h
  | a :: r, 0, h => ⟨rfl, rfl, rfl⟩
  | a :: r, j + 1, h => by
    obtain ⟨h1, h2, h3⟩ := evals_get r j (by simpa using h)
    have e : evals (a :: r) = ecells a ++ evals r := rfl
    have hl : (ecells a).length = 3 := rfl
    rw [e]
    refine ⟨?_, ?_, ?_⟩
    · rw [List.getElem?_append_right (by rw [hl]; omega), hl, show (j + 1) * 3 - 3 = j * 3 by omega]; exact h1
    · rw [List.getElem?_append_right (by rw [hl]; omega), hl, show (j + 1) * 3 + 1 - 3 = j * 3 + 1 by omega]; exact h2
    · rw [List.getElem?_append_right (by rw [hl]; omega), hl, show (j + 1) * 3 + 2 - 3 = j * 3 + 2 by omega]; exact h3
theorem own_ents {w : World} {B : Nat} {v : Value} {l : List Ent} (h : w.ownsRow B 40 3 v l.length (evals l)) (hm : l.length ≤ 9223372036854775807) : ∃ a c, v = .slice a l.length c ∧ EntsAt w a l.length l := by
  have h' := h
  rcases h.2 with ⟨rfl, h0⟩ | ⟨g, cap, cur, rfl, hb, hg, hn, hc, hsz, htk⟩
  · exact ⟨none, 0, by rw [h0], rfl, hm, .inl h0⟩
  · refine ⟨_, _, rfl, rfl, hm, .inr ⟨g, 0, rfl, fun j hj => ?_⟩⟩
    obtain ⟨h1, h2, h3⟩ := evals_get l j hj
    have c0 := h'.cellAt (j * 3) (by omega)
    have c1 := h'.cellAt (j * 3 + 1) (by omega)
    have c2 := h'.cellAt (j * 3 + 2) (by omega)
    rw [Nat.zero_add]
    exact ⟨c0.trans h1, c1.trans h2, c2.trans h3⟩
theorem Tryz.infoEnt : (Tryz.prog.info? 40).map (fun i => (i.zero, i.size, i.bytes)) = some (some (.agg #[.string ⟨#[]⟩, .int .i64 0, .string ⟨#[]⟩]), 3, 40) := by kernel_rfl
theorem cellNew3 (w : World) (x0 x1 x2 : Value) (t : TypeId) : ∀ j u, [x0, x1, x2][j]? = some u → (w.alloc (.cells #[x0, x1, x2] t)).cell? ((⟨w.heap.size, 0, none⟩ : Addr).add j) = some u := by
  intro j u h
  rw [Addr.add_lit, Nat.zero_add, (Blk.new w t #[x0, x1, x2]).cell]
  rw [← h]; simp
theorem one3 {P : Value → Prop} {a b c : Value} (ha : P a) (hb : P b) (hc : P c) : ∀ u ∈ [a, b, c], P u := by
  intro u hu; simp at hu; rcases hu with rfl | rfl | rfl <;> assumption
theorem entsR_step {n : Nat} {r : Rd} (h : r.bad = false) : entsR (n + 1) r = ((entR r).1 :: (entsR n (entR r).2).1, (entsR n (entR r).2).2) := by
  show (if r.bad = true then ([], r) else _) = _
  rw [if_neg (by rw [h]; simp)]
theorem entsR_bad {n : Nat} {r : Rd} (h : r.bad = true) : entsR n r = ([], r) := by
  cases n with
  | zero => rfl
  | succ n => show (if r.bad = true then ([], r) else _) = _; rw [if_pos h]
theorem textR_rest (r : Rd) (m : Nat) : (textR r m).2.rest.length ≤ r.rest.length := by
  unfold textR
  refine Nat.le_trans (takeR_rest _ _) ?_
  split
  · exact Nat.zero_le _
  · exact takeR_rest r 4
theorem entR_rest (r : Rd) : (entR r).2.rest.length ≤ r.rest.length := by
  unfold entR kindR
  exact Nat.le_trans (takeR_rest _ _) (Nat.le_trans (textR_rest _ _) (takeR_rest _ _))
end Go.Proofs.YtlenfiiocmchdaaGreatDoor
/- Objects: read from bytes: entries. -/
namespace Go.Proofs.YtlenfiiocmchdaaGreatDoor
open Go.RowKit Book Pap Ojt
set_option linter.unusedVariables false

theorem takeR_one (r : Rd) : (takeR r 1).1 = [] ∨ ∃ x, (takeR r 1).1 = [x] := by
  unfold takeR
  split
  · exact .inl rfl
  · rename_i h
    right
    have hl : (r.rest.take 1).length = 1 := by rw [List.length_take]; simp only [not_or] at h; omega
    match hq : r.rest.take 1, hl with
    | [x], _ => exact ⟨x, rfl⟩
/-- what entries hand back -/
def EntsOut (w : World) (b : Nat) (r : Rd) (e : Ending) (w' : World) : Prop :=
  ∃ a n c l, e = .returned (.slice a n c) ∧ EntsAt w' a n l ∧ ((treeR r).2.bad = false → l = (treeR r).1) ∧ RdAt w' b (treeR r).2 ∧ Only (· = b) w w' ∧ ∀ k, (Value.slice a n c).ownBlock = some k → w.heap.size ≤ k
set_option maxRecDepth 100000 in
set_option maxHeartbeats 4000000 in
theorem entries_any (b : Nat) (r : Rd) (w : World) (h : RdAt w b r) (hr : r.rest.length ≤ 1000000000) : Calls Tryz.prog 133 #[.pointer (some ⟨b, 0, none⟩)] w (EntsOut w b r) := by
  obtain ⟨i0, hi0, hz0, hz1, hz2⟩ := info_parts Tryz.infoEnt
  have HN := hid (onum_any h (by omega))
  have hn32 : (numR r).1 < 4294967296 := numV_lt _
  have hrl : (numR r).2.rest.length ≤ 1000000000 := Nat.le_trans (takeR_rest r 4) hr
  have HT : Hid (treeR r = entsR (numR r).1 (spoil (numR r).2 (numR r).1 256)) := rfl
  have hbw : b < w.heap.size := Blk.lt h
  obtain ⟨n, hn⟩ : ∃ n, (numR r).1 = n := ⟨_, rfl⟩
  obtain ⟨r2, hr2⟩ : ∃ x, (numR r).2 = x := ⟨_, rfl⟩
  rw [hn, hr2] at HN HT
  rw [hn] at hn32
  rw [hr2] at hrl
  clear h hr hn hr2
  by_cases h256 : 256 < n
  · have g1 : (256 : Int) < n := by omega
    have HT2 : Hid (treeR r = ([], ⟨[], true⟩)) := by
      show _ = _
      rw [HT.out]
      unfold spoil
      rw [if_pos h256]
      exact entsR_bad rfl
    clear HT
    go_enter Tryz.func133, Tryz.ntmps133
    go_wp2_with fail
    refine HN.out.mono ?_; rintro e w1 ⟨rfl, hs, ho⟩
    have H1 := hid hs; have O1 := hid ho
    clear hs ho
    go_wp2_with fail
    refine (ospoil_any H1.out).mono ?_; rintro e w2 ⟨rfl, hs, ho⟩
    have H2 := hid hs; have O2 := hid (O1.out.then ho)
    clear hs ho
    have g0 : (0 : Int) < n := by omega
    go_wp2_with fail
    refine wp_loop_rounds 1 ?_
    rw [rounds_succ]
    go_wp2_with fail
    refine (obad_any H2.out).mono ?_; rintro e w' ⟨rfl, rfl⟩
    go_wp2_with fail
    go_ret
    exact ⟨none, 0, 0, [], rfl, ⟨rfl, by omega, .inl rfl⟩, (fun hb => by rw [HT2.out] at hb; cases hb), by rw [HT2.out]; exact H2.out, O2.out, fun k hk => by simp [Value.ownBlock] at hk⟩
  · have g1 : ¬ (256 : Int) < n := by omega
    have HT2 : Hid (treeR r = entsR n r2) := by
      show _ = _
      rw [HT.out]
      unfold spoil
      rw [if_neg h256]
    clear HT
    go_enter Tryz.func133, Tryz.ntmps133
    go_wp2_with fail
    refine HN.out.mono ?_; rintro e w1 ⟨rfl, hs, ho⟩
    have H1 := hid hs; have O1 := hid ho
    clear hs ho
    go_wp2_with fail
    go_loopw [14, 4] (fun iv v wr => ∃ (i : Nat) (l : List Ent) (ri : Rd), i ≤ n ∧ iv = .int .u32 i ∧ Hid (l.length = i) ∧ Hid (wr.ownsRow w.heap.size 40 3 v i (evals l)) ∧ Hid (RdAt wr b ri) ∧ Hid (ri.rest.length ≤ 1000000000) ∧ Hid (Only (· = b) w wr) ∧ Hid (entsR n r2 = (l ++ (entsR (n - i) ri).1, (entsR (n - i) ri).2))) (fun iv _ _ => n - (intOf iv).toNat)
    case atStart => exact ⟨0, [], r2, Nat.zero_le _, rfl, rfl, World.ownsRow_nil _ _ _ _, H1, hrl, O1, rfl⟩
    case round =>
      obtain ⟨i, l, ri, hi, rfl, HL, HO, HRd, HRl, HOn, HE⟩ := hrel
      obtain ⟨va, vc, rfl, hvc⟩ := own_slice' HO.out
      have hszw : w.heap.size ≤ wr.heap.size := HOn.out.size
      clear H1 O1
      by_cases hlt : i < n
      · have ci : (i : Int) < n := by omega
        have ew : IntKind.u32.wrap ((i : Int) + 1) = (i : Int) + 1 := by rw [IntKind.wrap_u32]; omega
        have HB := hid (obad_any HRd.out)
        obtain ⟨bad, hbad⟩ : ∃ q, ri.bad = q := ⟨_, rfl⟩
        rw [hbad] at HB
        cases bad
        · have HST : Hid (entsR (n - i) ri = ((entR ri).1 :: (entsR (n - (i + 1)) (entR ri).2).1, (entsR (n - (i + 1)) (entR ri).2).2)) := by
            show _ = _
            rw [show n - i = (n - (i + 1)) + 1 by omega]
            exact entsR_step hbad
          have HBAD := hid hbad
          clear hbad
          go_wp2_with fail
          refine HB.out.mono ?_; rintro e w' ⟨rfl, rfl⟩
          go_upto_region 10 with fail
          have HX1 : Hid (Blk (wr.alloc (.cells #[.string ⟨#[]⟩, .int .i64 0, .string ⟨#[]⟩] 40)) wr.heap.size 40 #[.string ⟨#[]⟩, .int .i64 0, .string ⟨#[]⟩]) := Blk.new wr _ _
          have HR1 : Hid (RdAt (wr.alloc (.cells #[.string ⟨#[]⟩, .int .i64 0, .string ⟨#[]⟩] 40)) b ri) := Blk.alloc HRd.out _
          have HO1 : Hid ((wr.alloc (.cells #[.string ⟨#[]⟩, .int .i64 0, .string ⟨#[]⟩] 40)).ownsRow w.heap.size 40 3 (.slice va i vc) i (evals l)) := HO.out.alloc _
          have HOn1 : Hid (Only (· = b) w (wr.alloc (.cells #[.string ⟨#[]⟩, .int .i64 0, .string ⟨#[]⟩] 40))) := HOn.out.alloc _
          have hbg : b < wr.heap.size := by omega
          have hog : w.heap.size ≤ wr.heap.size := hszw
          have HNO : Hid (∀ k, (Value.slice va i vc).ownBlock = some k → w.heap.size ≤ k ∧ k < wr.heap.size) := fun k hk => HO.out.lt k hk
          clear HRd HO HOn HB
          generalize (wr.alloc (.cells #[.string ⟨#[]⟩, .int .i64 0, .string ⟨#[]⟩] 40)) = w3 at HX1 HR1 HO1 HOn1 ⊢
          generalize wr.heap.size = g1 at HX1 hbg hog HNO ⊢
          have HEN : Hid ((entR ri).1 = ⟨bz (textR (kindR ri).2 255).1, (kindR ri).1, bz (takeR (textR (kindR ri).2 255).2 32).1⟩ ∧ (entR ri).2 = (takeR (textR (kindR ri).2 255).2 32).2) := ⟨rfl, rfl⟩
          have HK : Hid ((kindR ri).1 = (((takeR ri 1).1.headD 0).toNat : Int) ∧ (kindR ri).2 = (takeR ri 1).2) := ⟨rfl, rfl⟩
          obtain ⟨rk, hrk⟩ : ∃ x, (takeR ri 1).2 = x := ⟨_, rfl⟩
          have HRK := hid hrk
          have hrkl : rk.rest.length ≤ 1000000000 := by rw [← hrk]; exact Nat.le_trans (takeR_rest ri 1) HRl.out
          obtain ⟨kd, hkd⟩ : ∃ x, (kindR ri).1 = x := ⟨_, rfl⟩
          rw [hkd] at HEN HK
          have hrl1 := HRl.out
          have CT := hid (otake_any 1 HR1.out (by omega) (by omega))
          rw [hrk] at CT
          clear hrk hkd
          rcases takeR_one ri with e | ⟨x, e⟩
          all_goals first
            | (have hk0 : kd = 0 := by rw [HK.out.1, e]; rfl
               rw [e] at CT
               have CT2 : Hid (Calls Tryz.prog 131 #[.pointer (some ⟨b, 0, none⟩), .int .i64 1] w3 fun e w' => e = .returned (.string ⟨#[]⟩) ∧ RdAt w' b rk ∧ Only (· = b) w3 w') := CT
               clear CT e
               go_wp2_with fail
               refine CT2.out.mono ?_; rintro e w4 ⟨rfl, hs, ho⟩
               have H5 := hid hs
               have HX5 : Hid (Blk w4 g1 40 #[.string ⟨#[]⟩, .int .i64 kd, .string ⟨#[]⟩]) := by rw [hk0]; exact HX1.out.only ho (by omega)
               clear hk0
               have HO5 := hid (own_only HO1.out ho (fun k hk e => by have := (HNO.out k hk).1; have e : k = b := e; omega))
               have HOn5 := hid (HOn1.out.then ho)
               clear hs ho CT2
               go_upto_region 13 with fail
               obtain ⟨wc, rfl⟩ : ∃ wc : World, wc = w4 := ⟨_, rfl⟩)
            | (have hk0 : kd = (x.toNat : Int) := by rw [HK.out.1, e]; rfl
               rw [e] at CT
               obtain ⟨y, hy⟩ : ∃ y, bx [x] = y := ⟨_, rfl⟩
               have hys : y.size = 1 := by rw [← hy]; rfl
               have hxl : x.toNat < 256 := x.toNat_lt
               have hxi : (x.toNat : Int) ≤ 255 := by omega
               have hxi0 : (0 : Int) ≤ (x.toNat : Int) := by omega
               have hy1 : y.toList.isEmpty = false := bstr_isEmpty (by omega)
               have hy2 : ¬ y.toList = [] := bstr_some (by omega)
               have hy3 : (y.toList == []) = false := by rw [beq_eq_false_iff_ne]; exact hy2
               have hy4 : y[0]? = some x := by rw [← hy]; rfl
               have hy0 : ∀ h : 0 < y.size, y[0]'h = x := fun h => by subst hy; rfl
               rw [hy] at CT
               clear hy e
               go_wp2_with fail
               refine CT.out.mono ?_; rintro e w4 ⟨rfl, hs, ho⟩
               have H4 := hid hs
               have hx4 := HX1.out.only ho (by omega)
               have HX4 := hid hx4
               have HO4 := hid (own_only HO1.out ho (fun k hk e => by have := (HNO.out k hk).1; have e : k = b := e; omega))
               have HOn4 := hid (HOn1.out.then ho)
               have k1 := Blk.cell hx4 1
               have f1 := Blk.frozen hx4 1
               simp at k1
               clear hs ho CT hx4
               go_upto_region 13 with fail
               have hob : Only (· = g1) w4 (w4.setCell ⟨g1, 1, none⟩ (.int .i64 (x.toNat : Int))) := (Only.refl (· = g1) w4).setCell (p := ⟨g1, 1, none⟩) (.inl rfl) _
               have HX5 : Hid (Blk (w4.setCell ⟨g1, 1, none⟩ (.int .i64 (x.toNat : Int))) g1 40 #[.string ⟨#[]⟩, .int .i64 kd, .string ⟨#[]⟩]) := by
                 have := Blk.set HX4.out 1 (.int .i64 (x.toNat : Int))
                 rw [hk0]
                 show Blk _ _ _ _
                 simpa using this
               have H5 : Hid (RdAt (w4.setCell ⟨g1, 1, none⟩ (.int .i64 (x.toNat : Int))) b rk) := Blk.far H4.out (p := ⟨g1, 1, none⟩) (by show b ≠ g1; omega) _
               have HO5 := hid (own_only HO4.out hob (fun k hk e => by have := (HNO.out k hk).2; have e : k = g1 := e; omega))
               have HOn5 : Hid (Only (· = b) w (w4.setCell ⟨g1, 1, none⟩ (.int .i64 (x.toNat : Int)))) := HOn4.out.setCell (p := ⟨g1, 1, none⟩) (.inr hog) _
               clear hob k1 f1 HX4 H4 HO4 HOn4 hy0 hy1 hy2 hy3 hy4 hys
               generalize w4.setCell ⟨g1, 1, none⟩ (.int .i64 (x.toNat : Int)) = wc at HX5 H5 HO5 HOn5 ⊢
               clear hk0)
          all_goals
            clear HX1 HR1 HO1 HOn1
            rw [HK.out.2, HRK.out] at HEN
            obtain ⟨nm, hnm⟩ : ∃ x, bz (textR rk 255).1 = x := ⟨_, rfl⟩
            have HTX := hid (otext_any 255 (by omega) H5.out (by omega))
            have hrt : (textR rk 255).2.rest.length ≤ 1000000000 := Nat.le_trans (textR_rest _ _) hrkl
            obtain ⟨rt, hrt2⟩ : ∃ x, (textR rk 255).2 = x := ⟨_, rfl⟩
            have hnm2 : bx (textR rk 255).1 = nm := hnm
            rw [hnm, hrt2] at HEN
            rw [hnm2, hrt2] at HTX
            rw [hrt2] at hrt
            clear hnm hnm2 hrt2 HK HRK
            go_wp2_with fail
            refine HTX.out.mono ?_; rintro e w6 ⟨rfl, hs, ho⟩
            have hx6 := HX5.out.only ho (by omega)
            have k0 := Blk.cell hx6 0
            have f0 := Blk.frozen hx6 0
            simp at k0
            have HX6 : Hid (Blk (w6.setCell ⟨g1, 0, none⟩ (.string nm)) g1 40 #[.string nm, .int .i64 kd, .string ⟨#[]⟩]) := by
              have := Blk.set hx6 0 (.string nm)
              show Blk _ _ _ _
              simpa using this
            have hob : Only (· = g1) w6 (w6.setCell ⟨g1, 0, none⟩ (.string nm)) := (Only.refl (· = g1) w6).setCell (p := ⟨g1, 0, none⟩) (.inl rfl) _
            have H6 : Hid (RdAt (w6.setCell ⟨g1, 0, none⟩ (.string nm)) b rt) := Blk.far hs (p := ⟨g1, 0, none⟩) (by show b ≠ g1; omega) _
            have HO6 := hid (own_only (own_only HO5.out ho (fun k hk e => by have := (HNO.out k hk).1; have e : k = b := e; omega)) hob (fun k hk e => by have := (HNO.out k hk).2; have e : k = g1 := e; omega))
            have HOn6 : Hid (Only (· = b) w (w6.setCell ⟨g1, 0, none⟩ (.string nm))) := (HOn5.out.then ho).setCell (p := ⟨g1, 0, none⟩) (.inr hog) _
            have HTK := hid (otake_any 32 H6.out (by omega) (by omega))
            obtain ⟨id, hid1⟩ : ∃ x, bz (takeR rt 32).1 = x := ⟨_, rfl⟩
            have hid2 : bx (takeR rt 32).1 = id := hid1
            have hre : (takeR rt 32).2.rest.length ≤ 1000000000 := Nat.le_trans (takeR_rest _ _) hrt
            obtain ⟨re, hre2⟩ : ∃ x, (takeR rt 32).2 = x := ⟨_, rfl⟩
            rw [hid1, hre2] at HEN
            rw [hid2, hre2] at HTK
            rw [hre2] at hre
            clear hid1 hid2 hre2 hs ho hx6 hob HX5 H5 HO5 HOn5 HTX
            go_wp2_with fail
            refine HTK.out.mono ?_; rintro e w7 ⟨rfl, hs, ho⟩
            have hx7 := HX6.out.only ho (by omega)
            clear k0 f0
            have k2 := Blk.cell hx7 2
            have f2 := Blk.frozen hx7 2
            have k0 := Blk.cell hx7 0
            have k1 := Blk.cell hx7 1
            simp at k0 k1 k2
            have HX7 : Hid (Blk (w7.setCell ⟨g1, 2, none⟩ (.string id)) g1 40 #[.string nm, .int .i64 kd, .string id]) := by
              have := Blk.set hx7 2 (.string id)
              show Blk _ _ _ _
              simpa using this
            have hob : Only (· = g1) w7 (w7.setCell ⟨g1, 2, none⟩ (.string id)) := (Only.refl (· = g1) w7).setCell (p := ⟨g1, 2, none⟩) (.inl rfl) _
            have H7 : Hid (RdAt (w7.setCell ⟨g1, 2, none⟩ (.string id)) b re) := Blk.far hs (p := ⟨g1, 2, none⟩) (by show b ≠ g1; omega) _
            have HO7 := hid (own_only (own_only HO6.out ho (fun k hk e => by have := (HNO.out k hk).1; have e : k = b := e; omega)) hob (fun k hk e => by have := (HNO.out k hk).2; have e : k = g1 := e; omega))
            have HOn7 : Hid (Only (· = b) w (w7.setCell ⟨g1, 2, none⟩ (.string id))) := (HOn6.out.then ho).setCell (p := ⟨g1, 2, none⟩) (.inr hog) _
            clear hs ho hx7 hob HX6 H6 HO6 HOn6 HTK
            go_upto_region 15 with fail
            clear k0 k1 k2 f2
            generalize w7.setCell ⟨g1, 2, none⟩ (.string id) = w8 at HX7 H7 HO7 HOn7 ⊢
            have k0 : w8.cell? ⟨g1, 0, none⟩ = some (.string nm) := Blk.cell HX7.out 0
            have k1 : w8.cell? ⟨g1, 1, none⟩ = some (.int .i64 kd) := Blk.cell HX7.out 1
            have k2 : w8.cell? ⟨g1, 2, none⟩ = some (.string id) := Blk.cell HX7.out 2
            have hs8 : w.heap.size ≤ w8.heap.size := HOn7.out.size
            have hvb : i ≤ 4294967296 := by omega
            go_wp2_with (first
              | (at_builtin; refine wpList_append_own _ rfl (.tmp 32) (.tmp 34) 25 rfl w.heap.size 40 i0 (.agg #[.string ⟨#[]⟩, .int .i64 0, .string ⟨#[]⟩]) 3 40 Tryz.underlying25 hi0 hz0 hz1 hz2 rfl (by decide) (.slice va i vc) _ _ rfl (HO7.out.alloc _) ⟨w8.heap.size, 0, none⟩ 1 1 [.string nm, .int .i64 kd, .string id] rfl rfl (cellNew3 _ _ _ _ _) (one3 rfl rfl rfl) (by unfold maxLen; omega) (by omega) (by simp; omega) ?_; intro v' w9 hown' hgrow _; have HOWN := hid hown'; have HGR := hid hgrow; clear hown' hgrow))
            obtain ⟨va', vc', rfl, hvc'⟩ := own_slice' HOWN.out
            have hogb : ∀ k, (Value.slice va i vc).ownBlock = some k → k ≠ b := fun k hk e => by have := (HNO.out k hk).1; omega
            have HE9 : Hid (entsR n r2 = ((l ++ [⟨nm, kd, id⟩]) ++ (entsR (n - (i + 1)) re).1, (entsR (n - (i + 1)) re).2)) := by
              show _ = _
              rw [HE.out, HST.out, HEN.out.1, HEN.out.2, List.append_assoc]; rfl
            have HL9 : Hid ((l ++ [(⟨nm, kd, id⟩ : Ent)]).length = i + 1) := by show _ = _; rw [List.length_append, HL.out]; rfl
            have HO9 : Hid (w9.ownsRow w.heap.size 40 3 (.slice va' (i + 1) vc') (i + 1) (evals (l ++ [⟨nm, kd, id⟩]))) := by
              have h := HOWN.out
              rw [evals_append]; exact h
            have H9 : Hid (RdAt w9 b re) := (Blk.alloc H7.out _).grown HGR.out (fun e => hogb b e.symm rfl)
            have HOn9 : Hid (Only (· = b) w w9) := (HOn7.out.alloc _).grown HGR.out (fun k hk => .inr (HNO.out k hk).1)
            go_roundw
            case rel => first | exact ⟨i + 1, _, re, by omega, by go_num, HL9, HO9, H9, hre, HOn9, HE9⟩ | ((repeat apply Exists.intro); exact ⟨⟨i + 1, _, re, by omega, by go_num, HL9, HO9, H9, hre, HOn9, HE9⟩, rfl⟩)
            case measure => simp [intOf]; omega
        · have HST : Hid (entsR (n - i) ri = ([], ri)) := entsR_bad hbad
          have HBAD := hid hbad
          clear hbad
          go_wp2_with fail
          refine HB.out.mono ?_; rintro e w' ⟨rfl, rfl⟩
          go_wp2_with fail
          go_ret
          exact ⟨none, 0, 0, [], rfl, ⟨rfl, by omega, .inl rfl⟩, (fun hb => by rw [HT2.out, HE.out, HST.out] at hb; rw [HBAD.out] at hb; cases hb), by rw [HT2.out, HE.out, HST.out]; exact HRd.out, HOn.out, fun k hk => by simp [Value.ownBlock] at hk⟩
      · obtain rfl : i = n := by omega
        have HF : Hid (treeR r = (l, ri)) := by
          show _ = _
          rw [HT2.out, HE.out, Nat.sub_self]
          show (l ++ [], ri) = _
          rw [List.append_nil]
        have HA : Hid (EntsAt wr va i l) := by
          have h := HO.out
          have h' : wr.ownsRow w.heap.size 40 3 (.slice va i vc) l.length (evals l) := by rw [HL.out]; exact h
          obtain ⟨a', c', he, hst⟩ := own_ents h' (by rw [HL.out]; omega)
          injection he with e1 e2 e3
          rw [HL.out, ← e1] at hst
          exact hst
        go_wp2_with fail
        go_ret
        exact ⟨va, i, vc, l, rfl, HA.out, (fun _ => by rw [HF.out]), by rw [HF.out]; exact HRd.out, HOn.out, fun k hk => (HO.out.lt k hk).1⟩
end Go.Proofs.YtlenfiiocmchdaaGreatDoor
/- Objects: read from bytes: parents. -/
namespace Go.Proofs.YtlenfiiocmchdaaGreatDoor
open Go.RowKit Book Pap Ojt
set_option linter.unusedVariables false

theorem idsR_step {n : Nat} {r : Rd} (h : r.bad = false) : idsR (n + 1) r = (bz (takeR r 32).1 :: (idsR n (takeR r 32).2).1, (idsR n (takeR r 32).2).2) := by
  show (if r.bad = true then ([], r) else _) = _
  rw [if_neg (by rw [h]; simp)]
theorem idsR_bad {n : Nat} {r : Rd} (h : r.bad = true) : idsR n r = ([], r) := by
  cases n with
  | zero => rfl
  | succ n => show (if r.bad = true then ([], r) else _) = _; rw [if_pos h]
/-- what parents hand back -/
def ParsOut (w : World) (b : Nat) (r : Rd) (e : Ending) (w' : World) : Prop :=
  ∃ a n c l, e = .returned (.slice a n c) ∧ StrsAt w' a n l ∧ ((parsR r).2.bad = false → l = (parsR r).1) ∧ RdAt w' b (parsR r).2 ∧ Only (· = b) w w' ∧ ∀ k, (Value.slice a n c).ownBlock = some k → w.heap.size ≤ k
set_option maxRecDepth 100000 in
set_option maxHeartbeats 4000000 in
theorem parents_any (b : Nat) (r : Rd) (w : World) (h : RdAt w b r) (hr : r.rest.length ≤ 1000000000) : Calls Tryz.prog 134 #[.pointer (some ⟨b, 0, none⟩)] w (ParsOut w b r) := by
  obtain ⟨i0, hi0, hz0, hz1, hz2⟩ := info_parts Tryz.infoS
  have HN := hid (onum_any h (by omega))
  have hn32 : (numR r).1 < 4294967296 := numV_lt _
  have hrl : (numR r).2.rest.length ≤ 1000000000 := Nat.le_trans (takeR_rest r 4) hr
  have HT : Hid (parsR r = idsR (numR r).1 (spoil (numR r).2 (numR r).1 8)) := rfl
  have hbw : b < w.heap.size := Blk.lt h
  obtain ⟨n, hn⟩ : ∃ n, (numR r).1 = n := ⟨_, rfl⟩
  obtain ⟨r2, hr2⟩ : ∃ x, (numR r).2 = x := ⟨_, rfl⟩
  rw [hn, hr2] at HN HT
  rw [hn] at hn32
  rw [hr2] at hrl
  clear h hr hn hr2
  by_cases h8 : 8 < n
  · have g1 : (8 : Int) < n := by omega
    have HT2 : Hid (parsR r = ([], ⟨[], true⟩)) := by
      show _ = _
      rw [HT.out]
      unfold spoil
      rw [if_pos h8]
      exact idsR_bad rfl
    clear HT
    go_enter Tryz.func134, Tryz.ntmps134
    go_wp2_with fail
    refine HN.out.mono ?_; rintro e w1 ⟨rfl, hs, ho⟩
    have H1 := hid hs; have O1 := hid ho
    clear hs ho
    go_wp2_with fail
    refine (ospoil_any H1.out).mono ?_; rintro e w2 ⟨rfl, hs, ho⟩
    have H2 := hid hs; have O2 := hid (O1.out.then ho)
    clear hs ho
    have g0 : (0 : Int) < n := by omega
    go_wp2_with fail
    refine wp_loop_rounds 1 ?_
    rw [rounds_succ]
    go_wp2_with fail
    refine (obad_any H2.out).mono ?_; rintro e w' ⟨rfl, rfl⟩
    go_wp2_with fail
    go_ret
    exact ⟨none, 0, 0, [], rfl, ⟨rfl, by omega, .inl rfl⟩, (fun hb => by rw [HT2.out] at hb; cases hb), by rw [HT2.out]; exact H2.out, O2.out, fun k hk => by simp [Value.ownBlock] at hk⟩
  · have g1 : ¬ (8 : Int) < n := by omega
    have HT2 : Hid (parsR r = idsR n r2) := by
      show _ = _
      rw [HT.out]
      unfold spoil
      rw [if_neg h8]
    clear HT
    go_enter Tryz.func134, Tryz.ntmps134
    go_wp2_with fail
    refine HN.out.mono ?_; rintro e w1 ⟨rfl, hs, ho⟩
    have H1 := hid hs; have O1 := hid ho
    clear hs ho
    go_wp2_with fail
    go_loopw [12, 4] (fun iv v wr => ∃ (i : Nat) (l : List ByteArray) (ri : Rd), i ≤ n ∧ iv = .int .u32 i ∧ Hid (l.length = i) ∧ Hid (wr.ownsRow w.heap.size 9 1 v i (svals l)) ∧ Hid (RdAt wr b ri) ∧ Hid (ri.rest.length ≤ 1000000000) ∧ Hid (Only (· = b) w wr) ∧ Hid (idsR n r2 = (l ++ (idsR (n - i) ri).1, (idsR (n - i) ri).2))) (fun iv _ _ => n - (intOf iv).toNat)
    case atStart => exact ⟨0, [], r2, Nat.zero_le _, rfl, rfl, World.ownsRow_nil _ _ _ _, H1, hrl, O1, rfl⟩
    case round =>
      obtain ⟨i, l, ri, hi, rfl, HL, HO, HRd, HRl, HOn, HE⟩ := hrel
      obtain ⟨va, vc, rfl, hvc⟩ := own_slice' HO.out
      have hszw : w.heap.size ≤ wr.heap.size := HOn.out.size
      clear H1 O1
      by_cases hlt : i < n
      · have ci : (i : Int) < n := by omega
        have ew : IntKind.u32.wrap ((i : Int) + 1) = (i : Int) + 1 := by rw [IntKind.wrap_u32]; omega
        have HB := hid (obad_any HRd.out)
        obtain ⟨bad, hbad⟩ : ∃ q, ri.bad = q := ⟨_, rfl⟩
        rw [hbad] at HB
        cases bad
        · have HST : Hid (idsR (n - i) ri = (bz (takeR ri 32).1 :: (idsR (n - (i + 1)) (takeR ri 32).2).1, (idsR (n - (i + 1)) (takeR ri 32).2).2)) := by
            show _ = _
            rw [show n - i = (n - (i + 1)) + 1 by omega]
            exact idsR_step hbad
          clear hbad
          have hrl1 := HRl.out
          have HTK := hid (otake_any 32 HRd.out (by omega) (by omega))
          obtain ⟨id, hid1⟩ : ∃ x, bz (takeR ri 32).1 = x := ⟨_, rfl⟩
          have hid2 : bx (takeR ri 32).1 = id := hid1
          have hre : (takeR ri 32).2.rest.length ≤ 1000000000 := Nat.le_trans (takeR_rest _ _) hrl1
          obtain ⟨re, hre2⟩ : ∃ x, (takeR ri 32).2 = x := ⟨_, rfl⟩
          rw [hid1, hre2] at HST
          rw [hid2, hre2] at HTK
          rw [hre2] at hre
          clear hid1 hid2 hre2
          have hogb : ∀ k, (Value.slice va i vc).ownBlock = some k → w.heap.size ≤ k := fun k hk => (HO.out.lt k hk).1
          have HOG := hid hogb
          clear hogb
          go_wp2_with fail
          refine HB.out.mono ?_; rintro e w' ⟨rfl, rfl⟩
          go_wp2_with fail
          refine HTK.out.mono ?_; rintro e w7 ⟨rfl, hs, ho⟩
          have H7 := hid hs
          have HO7 := hid (own_only HO.out ho (fun k hk e => by have := HOG.out k hk; have e : k = b := e; omega))
          have HOn7 := hid (HOn.out.then ho)
          have hs8 : w.heap.size ≤ w7.heap.size := HOn7.out.size
          clear hs ho
          go_wp2_with (first
            | (at_builtin; refine wpList_append_own _ rfl (.tmp 16) (.tmp 19) 56 rfl w.heap.size 9 i0 (.string ⟨#[]⟩) 1 16 Tryz.underlying56 hi0 hz0 hz1 hz2 rfl (by decide) (.slice va i vc) _ _ rfl (HO7.out.alloc _) ⟨w7.heap.size, 0, none⟩ 1 1 [.string id] rfl rfl (cellNew1 _ _ _) (one_bytes rfl) (by unfold maxLen; omega) (by omega) (by simp; omega) ?_; intro v' w9 hown' hgrow _; have HOWN := hid hown'; have HGR := hid hgrow; clear hown' hgrow))
          obtain ⟨va', vc', rfl, hvc'⟩ := own_slice' HOWN.out
          have HE9 : Hid (idsR n r2 = ((l ++ [id]) ++ (idsR (n - (i + 1)) re).1, (idsR (n - (i + 1)) re).2)) := by
            show _ = _
            rw [HE.out, HST.out, List.append_assoc]; rfl
          have HL9 : Hid ((l ++ [id]).length = i + 1) := by show _ = _; rw [List.length_append, HL.out]; rfl
          have HO9 : Hid (w9.ownsRow w.heap.size 9 1 (.slice va' (i + 1) vc') (i + 1) (svals (l ++ [id]))) := by
            have h := HOWN.out
            rw [svals_append]; exact h
          have H9 : Hid (RdAt w9 b re) := (Blk.alloc H7.out _).grown HGR.out (fun e => by have := HOG.out b e.symm; omega)
          have HOn9 : Hid (Only (· = b) w w9) := (HOn7.out.alloc _).grown HGR.out (fun k hk => .inr (HOG.out k hk))
          go_roundw
          case rel => first | exact ⟨i + 1, _, re, by omega, by go_num, HL9, HO9, H9, hre, HOn9, HE9⟩ | ((repeat apply Exists.intro); exact ⟨⟨i + 1, _, re, by omega, by go_num, HL9, HO9, H9, hre, HOn9, HE9⟩, rfl⟩)
          case measure => simp [intOf]; omega
        · have HST : Hid (idsR (n - i) ri = ([], ri)) := idsR_bad hbad
          have HBAD := hid hbad
          clear hbad
          go_wp2_with fail
          refine HB.out.mono ?_; rintro e w' ⟨rfl, rfl⟩
          go_wp2_with fail
          go_ret
          exact ⟨none, 0, 0, [], rfl, ⟨rfl, by omega, .inl rfl⟩, (fun hb => by rw [HT2.out, HE.out, HST.out] at hb; rw [HBAD.out] at hb; cases hb), by rw [HT2.out, HE.out, HST.out]; exact HRd.out, HOn.out, fun k hk => by simp [Value.ownBlock] at hk⟩
      · obtain rfl : i = n := by omega
        have HF : Hid (parsR r = (l, ri)) := by
          show _ = _
          rw [HT2.out, HE.out, Nat.sub_self]
          show (l ++ [], ri) = _
          rw [List.append_nil]
        have HA : Hid (StrsAt wr va i l) := by
          have h := HO.out
          have h' : wr.ownsRow w.heap.size 9 1 (.slice va i vc) l.length (svals l) := by rw [HL.out]; exact h
          obtain ⟨a', c', he, hst⟩ := own_strs h' (by rw [HL.out]; omega)
          injection he with e1 e2 e3
          rw [HL.out, ← e1] at hst
          exact hst
        go_wp2_with fail
        go_ret
        exact ⟨va, i, vc, l, rfl, HA.out, (fun _ => by rw [HF.out]), by rw [HF.out]; exact HRd.out, HOn.out, fun k hk => (HO.out.lt k hk).1⟩
end Go.Proofs.YtlenfiiocmchdaaGreatDoor
