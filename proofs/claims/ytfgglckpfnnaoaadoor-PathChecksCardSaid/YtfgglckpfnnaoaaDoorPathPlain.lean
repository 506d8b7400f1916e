/- Plain functions of layer 5 (names, and paths of them), and what they come to; no program in sight. -/
import Derived.Below
namespace Go.Proofs.YtfgglckpfnnaoaaDoor.Pap

/-- a name -/
def goodL (l : List UInt8) : Bool := decide (1 ≤ l.length ∧ l.length ≤ 255 ∧ l ≠ [46] ∧ l ≠ [46, 46] ∧ 47 ∉ l ∧ 0 ∉ l)
/-- what lies between the slashes -/
def pieces : List UInt8 → List (List UInt8)
  | [] => [[]]
  | c :: r => if c = 47 then [] :: pieces r else match pieces r with
    | [] => [[c]]
    | p :: q => (c :: p) :: q
def joinL : List (List UInt8) → List UInt8
  | [] => []
  | [x] => x
  | x :: y :: r => x ++ 47 :: joinL (y :: r)
def checkE (l : List (List UInt8)) : Int := if l = [] ∨ ∃ x ∈ l, goodL x = false then 30 else if 64 < l.length then 33 else 0
def splitE (s : List UInt8) : Int := checkE (pieces s)
/-- how bytes stand -/
def cmpL : List UInt8 → List UInt8 → Int
  | [], [] => 0
  | [], _ :: _ => -1
  | _ :: _, [] => 1
  | a :: x, b :: y => if a.toNat < b.toNat then -1 else if b.toNat < a.toNat then 1 else cmpL x y
/-- how names stand -/
def cmpP : List (List UInt8) → List (List UInt8) → Int
  | [], [] => 0
  | [], _ :: _ => -1
  | _ :: _, [] => 1
  | a :: x, b :: y => if cmpL a b = 0 then cmpP x y else cmpL a b
def compareR (a b : List UInt8) : Int := if splitE a = 0 ∧ splitE b = 0 then cmpP (pieces a) (pieces b) else 0
def withinR (f p : List UInt8) : Bool := decide (splitE f = 0 ∧ splitE p = 0 ∧ (pieces f).length < (pieces p).length ∧ pieces f = (pieces p).take (pieces f).length)

theorem pieces_ne (s : List UInt8) : pieces s ≠ [] := by
  cases s with
  | nil => simp [pieces]
  | cons c r =>
    unfold pieces
    split
    · simp
    · split <;> simp
theorem pieces_slash (r : List UInt8) : pieces (47 :: r) = [] :: pieces r := by rw [pieces, if_pos rfl]
theorem pieces_other {c : UInt8} {r : List UInt8} (h : c ≠ 47) : ∃ p q, pieces r = p :: q ∧ pieces (c :: r) = (c :: p) :: q := by
  cases hp : pieces r with
  | nil => exact absurd hp (pieces_ne r)
  | cons p q => exact ⟨p, q, rfl, by rw [pieces, if_neg h, hp]⟩
/-- a piece without a slash, and a slash behind it -/
theorem pieces_cut : ∀ (a r : List UInt8), 47 ∉ a → pieces (a ++ 47 :: r) = a :: pieces r
  | [], r, _ => pieces_slash r
  | c :: a, r, h => by
    have hc : c ≠ 47 := fun e => h (by simp [e])
    obtain ⟨p, q, h1, h2⟩ := pieces_other (r := a ++ 47 :: r) hc
    rw [List.cons_append, h2]
    rw [pieces_cut a r (fun e => h (by simp [e]))] at h1
    cases h1; rfl
theorem pieces_last : ∀ (a : List UInt8), 47 ∉ a → pieces a = [a]
  | [], _ => rfl
  | c :: a, h => by
    have hc : c ≠ 47 := fun e => h (by simp [e])
    obtain ⟨p, q, h1, h2⟩ := pieces_other (r := a) hc
    rw [h2]
    rw [pieces_last a (fun e => h (by simp [e]))] at h1
    cases h1; rfl
theorem pieces_free (s : List UInt8) : ∀ x ∈ pieces s, 47 ∉ x := by
  induction s with
  | nil => intro x hx; simp [pieces] at hx; simp [hx]
  | cons c r ih =>
    by_cases hc : c = 47
    · subst hc; rw [pieces_slash]; intro x hx
      rcases List.mem_cons.1 hx with h | h
      · simp [h]
      · exact ih x h
    · obtain ⟨p, q, h1, h2⟩ := pieces_other (r := r) hc
      rw [h2]; intro x hx
      rw [h1] at ih
      rcases List.mem_cons.1 hx with h | h
      · subst h; intro hm
        rcases List.mem_cons.1 hm with h3 | h3
        · exact hc h3.symm
        · exact ih p (by simp) h3
      · exact ih x (by simp [h])
theorem joinL_cons (x : List UInt8) {l : List (List UInt8)} (h : l ≠ []) : joinL (x :: l) = x ++ 47 :: joinL l := by
  cases l with
  | nil => exact absurd rfl h
  | cons y r => rfl
theorem join_pieces (s : List UInt8) : joinL (pieces s) = s := by
  induction s with
  | nil => rfl
  | cons c r ih =>
    by_cases hc : c = 47
    · subst hc; rw [pieces_slash, joinL_cons _ (pieces_ne r), ih]; rfl
    · obtain ⟨p, q, h1, h2⟩ := pieces_other (r := r) hc
      rw [h1] at ih
      rw [h2]
      cases q with
      | nil => simp only [joinL] at ih ⊢; rw [ih]
      | cons y z => simp only [joinL] at ih ⊢; rw [List.cons_append, ih]
theorem pieces_join : ∀ (l : List (List UInt8)), l ≠ [] → (∀ x ∈ l, 47 ∉ x) → pieces (joinL l) = l
  | [], h, _ => absurd rfl h
  | [x], _, h => pieces_last x (h x (by simp))
  | x :: y :: r, _, h => by
    show pieces (x ++ 47 :: joinL (y :: r)) = _
    rw [pieces_cut x _ (h x (by simp)), pieces_join (y :: r) (by simp) (fun z hz => h z (by simp [hz]))]
theorem good_free {x : List UInt8} (h : goodL x = true) : 47 ∉ x := by unfold goodL at h; simp at h; exact h.2.2.2.2.1

/-! check -/
theorem checkE_ok {l : List (List UInt8)} : checkE l = 0 ↔ l ≠ [] ∧ (∀ x ∈ l, goodL x = true) ∧ l.length ≤ 64 := by
  unfold checkE
  by_cases h : l = [] ∨ ∃ x ∈ l, goodL x = false
  · rw [if_pos h]
    constructor
    · intro e; cases e
    · rintro ⟨h1, h2, _⟩
      rcases h with h | ⟨x, hx, hg⟩
      · exact absurd h h1
      · rw [h2 x hx] at hg; cases hg
  · rw [if_neg h]
    have h1 : l ≠ [] := fun e => h (.inl e)
    have h2 : ∀ x ∈ l, goodL x = true := fun x hx => by
      cases hg : goodL x
      · exact absurd ⟨x, hx, hg⟩ (fun e => h (.inr e))
      · rfl
    split
    · rename_i h3
      constructor
      · intro e; cases e
      · rintro ⟨_, _, h4⟩; omega
    · rename_i h3; exact ⟨fun _ => ⟨h1, h2, by omega⟩, fun _ => rfl⟩
theorem pieces_inj {a b : List UInt8} (h : pieces a = pieces b) : a = b := by rw [← join_pieces a, h, join_pieces]

/-! the order -/
theorem cmpL_self : ∀ a : List UInt8, cmpL a a = 0
  | [] => rfl
  | c :: a => by unfold cmpL; rw [if_neg (by omega), if_neg (by omega)]; exact cmpL_self a
theorem cmpL_zero : ∀ a b : List UInt8, cmpL a b = 0 → a = b
  | [], [], _ => rfl
  | [], _ :: _, h => by simp [cmpL] at h
  | _ :: _, [], h => by simp [cmpL] at h
  | a :: x, b :: y, h => by
    unfold cmpL at h
    split at h
    · cases h
    · split at h
      · cases h
      · have : a = b := UInt8.toNat_inj.1 (by omega)
        rw [this, cmpL_zero x y h]
theorem cmpL_neg : ∀ a b : List UInt8, cmpL b a = - cmpL a b
  | [], [] => rfl
  | [], _ :: _ => rfl
  | _ :: _, [] => rfl
  | a :: x, b :: y => by
    unfold cmpL
    rcases Nat.lt_trichotomy a.toNat b.toNat with h | h | h
    · rw [if_neg (by omega), if_pos h, if_pos h]; rfl
    · rw [if_neg (by omega), if_neg (by omega), if_neg (by omega), if_neg (by omega)]; exact cmpL_neg x y
    · rw [if_pos h, if_neg (by omega), if_pos h]
theorem cmpL_range : ∀ a b : List UInt8, cmpL a b = -1 ∨ cmpL a b = 0 ∨ cmpL a b = 1
  | [], [] => .inr (.inl rfl)
  | [], _ :: _ => .inl rfl
  | _ :: _, [] => .inr (.inr rfl)
  | a :: x, b :: y => by
    unfold cmpL
    split
    · exact .inl rfl
    · split
      · exact .inr (.inr rfl)
      · exact cmpL_range x y
theorem cmpL_trans : ∀ a b c : List UInt8, cmpL a b = -1 → cmpL b c = -1 → cmpL a c = -1
  | [], [], _, h, _ => by cases h
  | [], _ :: _, [], _, h => by cases h
  | [], _ :: _, _ :: _, _, _ => rfl
  | _ :: _, [], _, h, _ => by cases h
  | a :: x, b :: y, [], _, h => by cases h
  | a :: x, b :: y, c :: z, h1, h2 => by
    unfold cmpL at h1 h2 ⊢
    split at h1
    · split at h2
      · rw [if_pos (by omega)]
      · split at h2
        · cases h2
        · rw [if_pos (by omega)]
    · split at h1
      · cases h1
      · split at h2
        · rw [if_pos (by omega)]
        · split at h2
          · cases h2
          · rw [if_neg (by omega), if_neg (by omega)]; exact cmpL_trans x y z h1 h2
theorem cmpP_self : ∀ a, cmpP a a = 0
  | [] => rfl
  | x :: a => by unfold cmpP; rw [if_pos (cmpL_self x)]; exact cmpP_self a
theorem cmpP_zero : ∀ a b, cmpP a b = 0 → a = b
  | [], [], _ => rfl
  | [], _ :: _, h => by simp [cmpP] at h
  | _ :: _, [], h => by simp [cmpP] at h
  | a :: x, b :: y, h => by
    unfold cmpP at h
    split at h
    · rename_i h0; rw [cmpL_zero a b h0, cmpP_zero x y h]
    · rename_i h0; exact absurd h h0
theorem cmpP_neg : ∀ a b, cmpP b a = - cmpP a b
  | [], [] => rfl
  | [], _ :: _ => rfl
  | _ :: _, [] => rfl
  | a :: x, b :: y => by
    unfold cmpP
    rw [cmpL_neg a b]
    by_cases h : cmpL a b = 0
    · rw [if_pos (by omega), if_pos h]; exact cmpP_neg x y
    · rw [if_neg (by omega), if_neg h]
theorem cmpP_range : ∀ a b, cmpP a b = -1 ∨ cmpP a b = 0 ∨ cmpP a b = 1
  | [], [] => .inr (.inl rfl)
  | [], _ :: _ => .inl rfl
  | _ :: _, [] => .inr (.inr rfl)
  | a :: x, b :: y => by
    unfold cmpP
    split
    · exact cmpP_range x y
    · exact cmpL_range a b
theorem cmpP_trans : ∀ a b c, cmpP a b = -1 → cmpP b c = -1 → cmpP a c = -1
  | [], [], _, h, _ => by cases h
  | [], _ :: _, [], _, h => by cases h
  | [], _ :: _, _ :: _, _, _ => rfl
  | _ :: _, [], _, h, _ => by cases h
  | a :: x, b :: y, [], _, h => by cases h
  | a :: x, b :: y, c :: z, h1, h2 => by
    unfold cmpP at h1 h2 ⊢
    by_cases e1 : cmpL a b = 0
    · rw [if_pos e1] at h1
      have := cmpL_zero a b e1; subst this
      by_cases e2 : cmpL a c = 0
      · rw [if_pos e2] at h2 ⊢; exact cmpP_trans x y z h1 h2
      · rw [if_neg e2] at h2 ⊢; exact h2
    · rw [if_neg e1] at h1
      by_cases e2 : cmpL b c = 0
      · have := cmpL_zero b c e2; subst this
        rw [if_neg e1]; exact h1
      · rw [if_neg e2] at h2
        have := cmpL_trans a b c h1 h2
        rw [if_neg (by omega)]; exact this
/-- a beginning stands ahead -/
theorem cmpP_prefix : ∀ (a b : List (List UInt8)), a.length < b.length → a = b.take a.length → cmpP a b = -1
  | [], [], h, _ => by simp at h
  | [], _ :: _, _, _ => rfl
  | x :: a, [], h, _ => by simp at h
  | x :: a, y :: b, h, e => by
    simp at e h
    unfold cmpP
    rw [e.1, if_pos (cmpL_self y)]
    exact cmpP_prefix a b h e.2
/-- what stands between a beginning and what it begins, begins so too -/
theorem cmpP_between : ∀ (a b c : List (List UInt8)), a.length < c.length → a = c.take a.length → cmpP a b ≤ 0 → cmpP b c ≤ 0 → a = b.take a.length
  | [], _, _, _, _, _, _ => by simp
  | x :: a, [], _, _, _, h, _ => by simp [cmpP] at h
  | x :: a, y :: b, [], h, _, _, _ => by simp at h
  | x :: a, y :: b, z :: c, h, e, h1, h2 => by
    simp at e h
    obtain ⟨rfl, e2⟩ := e
    unfold cmpP at h1 h2
    by_cases e1 : cmpL x y = 0
    · have := cmpL_zero x y e1; subst this
      rw [if_pos e1] at h1
      rw [if_pos (cmpL_self x)] at h2
      have := cmpP_between a b c h e2 h1 h2
      simp only [List.length_cons, List.take_succ_cons]
      rw [← this]
    · rw [if_neg e1] at h1
      have hn := cmpL_neg x y
      rw [if_neg (by omega)] at h2
      have := cmpL_range x y
      omega
end Go.Proofs.YtfgglckpfnnaoaaDoor.Pap
