/- Texts in a row: PathPlain, Base, PathSplit, Mem. -/
import Derived.Below
import Derived.Laws.Strings
import Derived.Lib.SplitLaws
import Derived.Lib.IndexLaws
import Derived.Lib.IndexBytes
import Derived.Lib.Join
import Derived.Lib.IndexAny
import Derived.Test.YtlenfiiocmchdaaGreatDoorChecked
import Derived.WalkKit
import Derived.BigQuiet
import Derived.Deep.QuietTactic
/- Plain functions of layer 5 (names, and paths of them), and what they come to; no program in sight. -/
namespace Go.Proofs.YtlenfiiocmchdaaGreatDoor.Pap

/-- a name -/
def goodL (l : List UInt8) : Bool := decide (1 ≤ l.length ∧ l.length ≤ 255 ∧ l ≠ [46] ∧ l ≠ [46, 46] ∧ 47 ∉ l ∧ 0 ∉ l)
/-- what lies between the slashes -/
def pieces : List UInt8 → List (List UInt8)
  | [] => [[]]
  | c :: r => if c = 47 then [] :: pieces r else match pieces r with
    | [] => [[c]]
    | p :: q => (c :: p) :: q
def joinL : List (List UInt8) → List UInt8
  | [] => []
  | [x] => x
  | x :: y :: r => x ++ 47 :: joinL (y :: r)
def checkE (l : List (List UInt8)) : Int := if l = [] ∨ ∃ x ∈ l, goodL x = false then 30 else if 64 < l.length then 33 else 0
def splitE (s : List UInt8) : Int := checkE (pieces s)
/-- how bytes stand -/
def cmpL : List UInt8 → List UInt8 → Int
  | [], [] => 0
  | [], _ :: _ => -1
  | _ :: _, [] => 1
  | a :: x, b :: y => if a.toNat < b.toNat then -1 else if b.toNat < a.toNat then 1 else cmpL x y
/-- how names stand -/
def cmpP : List (List UInt8) → List (List UInt8) → Int
  | [], [] => 0
  | [], _ :: _ => -1
  | _ :: _, [] => 1
  | a :: x, b :: y => if cmpL a b = 0 then cmpP x y else cmpL a b
def compareR (a b : List UInt8) : Int := if splitE a = 0 ∧ splitE b = 0 then cmpP (pieces a) (pieces b) else 0
def withinR (f p : List UInt8) : Bool := decide (splitE f = 0 ∧ splitE p = 0 ∧ (pieces f).length < (pieces p).length ∧ pieces f = (pieces p).take (pieces f).length)

theorem pieces_ne (s : List UInt8) : pieces s ≠ [] := by
  cases s with
  | nil => simp [pieces]
  | cons c r =>
    unfold pieces
    split
    · simp
    · split <;> simp
theorem pieces_slash (r : List UInt8) : pieces (47 :: r) = [] :: pieces r := by rw [pieces, if_pos rfl]
theorem pieces_other {c : UInt8} {r : List UInt8} (h : c ≠ 47) : ∃ p q, pieces r = p :: q ∧ pieces (c :: r) = (c :: p) :: q := by
  cases hp : pieces r with
  | nil => exact absurd hp (pieces_ne r)
  | cons p q => exact ⟨p, q, rfl, by rw [pieces, if_neg h, hp]⟩
/-- a piece without a slash, and a slash behind it -/
theorem pieces_cut : ∀ (a r : List UInt8), 47 ∉ a → pieces (a ++ 47 :: r) = a :: pieces r
  | [], r, _ => pieces_slash r
  | c :: a, r, h => by
    have hc : c ≠ 47 := fun e => h (by simp [e])
    obtain ⟨p, q, h1, h2⟩ := pieces_other (r := a ++ 47 :: r) hc
    rw [List.cons_append, h2]
    rw [pieces_cut a r (fun e => h (by simp [e]))] at h1
    cases h1; rfl
theorem pieces_last : ∀ (a : List UInt8), 47 ∉ a → pieces a = [a]
  | [], _ => rfl
  | c :: a, h => by
    have hc : c ≠ 47 := fun e => h (by simp [e])
    obtain ⟨p, q, h1, h2⟩ := pieces_other (r := a) hc
    rw [h2]
    rw [pieces_last a (fun e => h (by simp [e]))] at h1
    cases h1; rfl
theorem pieces_free (s : List UInt8) : ∀ x ∈ pieces s, 47 ∉ x := by
  induction s with
  | nil => intro x hx; simp [pieces] at hx; simp [hx]
  | cons c r ih =>
    by_cases hc : c = 47
    · subst hc; rw [pieces_slash]; intro x hx
      rcases List.mem_cons.1 hx with h | h
      · simp [h]
      · exact ih x h
    · obtain ⟨p, q, h1, h2⟩ := pieces_other (r := r) hc
      rw [h2]; intro x hx
      rw [h1] at ih
      rcases List.mem_cons.1 hx with h | h
      · subst h; intro hm
        rcases List.mem_cons.1 hm with h3 | h3
        · exact hc h3.symm
        · exact ih p (by simp) h3
      · exact ih x (by simp [h])
theorem joinL_cons (x : List UInt8) {l : List (List UInt8)} (h : l ≠ []) : joinL (x :: l) = x ++ 47 :: joinL l := by
  cases l with
  | nil => exact absurd rfl h
  | cons y r => rfl
theorem join_pieces (s : List UInt8) : joinL (pieces s) = s := by
  induction s with
  | nil => rfl
  | cons c r ih =>
    by_cases hc : c = 47
    · subst hc; rw [pieces_slash, joinL_cons _ (pieces_ne r), ih]; rfl
    · obtain ⟨p, q, h1, h2⟩ := pieces_other (r := r) hc
      rw [h1] at ih
      rw [h2]
      cases q with
      | nil => simp only [joinL] at ih ⊢; rw [ih]
      | cons y z => simp only [joinL] at ih ⊢; rw [List.cons_append, ih]
theorem pieces_join : ∀ (l : List (List UInt8)), l ≠ [] → (∀ x ∈ l, 47 ∉ x) → pieces (joinL l) = l
  | [], h, _ => absurd rfl h
  | [x], _, h => pieces_last x (h x (by simp))
  | x :: y :: r, _, h => by
    show pieces (x ++ 47 :: joinL (y :: r)) = _
    rw [pieces_cut x _ (h x (by simp)), pieces_join (y :: r) (by simp) (fun z hz => h z (by simp [hz]))]
theorem good_free {x : List UInt8} (h : goodL x = true) : 47 ∉ x := by unfold goodL at h; simp at h; exact h.2.2.2.2.1

/-! check -/
theorem checkE_ok {l : List (List UInt8)} : checkE l = 0 ↔ l ≠ [] ∧ (∀ x ∈ l, goodL x = true) ∧ l.length ≤ 64 := by
  unfold checkE
  by_cases h : l = [] ∨ ∃ x ∈ l, goodL x = false
  · rw [if_pos h]
    constructor
    · intro e; cases e
    · rintro ⟨h1, h2, _⟩
      rcases h with h | ⟨x, hx, hg⟩
      · exact absurd h h1
      · rw [h2 x hx] at hg; cases hg
  · rw [if_neg h]
    have h1 : l ≠ [] := fun e => h (.inl e)
    have h2 : ∀ x ∈ l, goodL x = true := fun x hx => by
      cases hg : goodL x
      · exact absurd ⟨x, hx, hg⟩ (fun e => h (.inr e))
      · rfl
    split
    · rename_i h3
      constructor
      · intro e; cases e
      · rintro ⟨_, _, h4⟩; omega
    · rename_i h3; exact ⟨fun _ => ⟨h1, h2, by omega⟩, fun _ => rfl⟩
theorem pieces_inj {a b : List UInt8} (h : pieces a = pieces b) : a = b := by rw [← join_pieces a, h, join_pieces]

/-! the order -/
theorem cmpL_self : ∀ a : List UInt8, cmpL a a = 0
  | [] => rfl
  | c :: a => by unfold cmpL; rw [if_neg (by omega), if_neg (by omega)]; exact cmpL_self a
theorem cmpL_zero : ∀ a b : List UInt8, cmpL a b = 0 → a = b
  | [], [], _ => rfl
  | [], _ :: _, h => by simp [cmpL] at h
  | _ :: _, [], h => by simp [cmpL] at h
  | a :: x, b :: y, h => by
    unfold cmpL at h
    split at h
    · cases h
    · split at h
      · cases h
      · have : a = b := UInt8.toNat_inj.1 (by omega)
        rw [this, cmpL_zero x y h]
theorem cmpL_neg : ∀ a b : List UInt8, cmpL b a = - cmpL a b
  | [], [] => rfl
  | [], _ :: _ => rfl
  | _ :: _, [] => rfl
  | a :: x, b :: y => by
    unfold cmpL
    rcases Nat.lt_trichotomy a.toNat b.toNat with h | h | h
    · rw [if_neg (by omega), if_pos h, if_pos h]; rfl
    · rw [if_neg (by omega), if_neg (by omega), if_neg (by omega), if_neg (by omega)]; exact cmpL_neg x y
    · rw [if_pos h, if_neg (by omega), if_pos h]
theorem cmpL_range : ∀ a b : List UInt8, cmpL a b = -1 ∨ cmpL a b = 0 ∨ cmpL a b = 1
  | [], [] => .inr (.inl rfl)
  | [], _ :: _ => .inl rfl
  | _ :: _, [] => .inr (.inr rfl)
  | a :: x, b :: y => by
    unfold cmpL
    split
    · exact .inl rfl
    · split
      · exact .inr (.inr rfl)
      · exact cmpL_range x y
theorem cmpL_trans : ∀ a b c : List UInt8, cmpL a b = -1 → cmpL b c = -1 → cmpL a c = -1
  | [], [], _, h, _ => by cases h
  | [], _ :: _, [], _, h => by cases h
  | [], _ :: _, _ :: _, _, _ => rfl
  | _ :: _, [], _, h, _ => by cases h
  | a :: x, b :: y, [], _, h => by cases h
  | a :: x, b :: y, c :: z, h1, h2 => by
    unfold cmpL at h1 h2 ⊢
    split at h1
    · split at h2
      · rw [if_pos (by omega)]
      · split at h2
        · cases h2
        · rw [if_pos (by omega)]
    · split at h1
      · cases h1
      · split at h2
        · rw [if_pos (by omega)]
        · split at h2
          · cases h2
          · rw [if_neg (by omega), if_neg (by omega)]; exact cmpL_trans x y z h1 h2
theorem cmpP_self : ∀ a, cmpP a a = 0
  | [] => rfl
  | x :: a => by unfold cmpP; rw [if_pos (cmpL_self x)]; exact cmpP_self a
theorem cmpP_zero : ∀ a b, cmpP a b = 0 → a = b
  | [], [], _ => rfl
  | [], _ :: _, h => by simp [cmpP] at h
  | _ :: _, [], h => by simp [cmpP] at h
  | a :: x, b :: y, h => by
    unfold cmpP at h
    split at h
    · rename_i h0; rw [cmpL_zero a b h0, cmpP_zero x y h]
    · rename_i h0; exact absurd h h0
theorem cmpP_neg : ∀ a b, cmpP b a = - cmpP a b
  | [], [] => rfl
  | [], _ :: _ => rfl
  | _ :: _, [] => rfl
  | a :: x, b :: y => by
    unfold cmpP
    rw [cmpL_neg a b]
    by_cases h : cmpL a b = 0
    · rw [if_pos (by omega), if_pos h]; exact cmpP_neg x y
    · rw [if_neg (by omega), if_neg h]
theorem cmpP_range : ∀ a b, cmpP a b = -1 ∨ cmpP a b = 0 ∨ cmpP a b = 1
  | [], [] => .inr (.inl rfl)
  | [], _ :: _ => .inl rfl
  | _ :: _, [] => .inr (.inr rfl)
  | a :: x, b :: y => by
    unfold cmpP
    split
    · exact cmpP_range x y
    · exact cmpL_range a b
theorem cmpP_trans : ∀ a b c, cmpP a b = -1 → cmpP b c = -1 → cmpP a c = -1
  | [], [], _, h, _ => by cases h
  | [], _ :: _, [], _, h => by cases h
  | [], _ :: _, _ :: _, _, _ => rfl
  | _ :: _, [], _, h, _ => by cases h
  | a :: x, b :: y, [], _, h => by cases h
  | a :: x, b :: y, c :: z, h1, h2 => by
    unfold cmpP at h1 h2 ⊢
    by_cases e1 : cmpL a b = 0
    · rw [if_pos e1] at h1
      have := cmpL_zero a b e1; subst this
      by_cases e2 : cmpL a c = 0
      · rw [if_pos e2] at h2 ⊢; exact cmpP_trans x y z h1 h2
      · rw [if_neg e2] at h2 ⊢; exact h2
    · rw [if_neg e1] at h1
      by_cases e2 : cmpL b c = 0
      · have := cmpL_zero b c e2; subst this
        rw [if_neg e1]; exact h1
      · rw [if_neg e2] at h2
        have := cmpL_trans a b c h1 h2
        rw [if_neg (by omega)]; exact this
/-- a beginning stands ahead -/
theorem cmpP_prefix : ∀ (a b : List (List UInt8)), a.length < b.length → a = b.take a.length → cmpP a b = -1
  | [], [], h, _ => by simp at h
  | [], _ :: _, _, _ => rfl
  | x :: a, [], h, _ => by simp at h
  | x :: a, y :: b, h, e => by
    simp at e h
    unfold cmpP
    rw [e.1, if_pos (cmpL_self y)]
    exact cmpP_prefix a b h e.2
/-- what stands between a beginning and what it begins, begins so too -/
theorem cmpP_between : ∀ (a b c : List (List UInt8)), a.length < c.length → a = c.take a.length → cmpP a b ≤ 0 → cmpP b c ≤ 0 → a = b.take a.length
  | [], _, _, _, _, _, _ => by simp
  | x :: a, [], _, _, _, h, _ => by simp [cmpP] at h
  | x :: a, y :: b, [], h, _, _, _ => by simp at h
  | x :: a, y :: b, z :: c, h, e, h1, h2 => by
    simp at e h
    obtain ⟨rfl, e2⟩ := e
    unfold cmpP at h1 h2
    by_cases e1 : cmpL x y = 0
    · have := cmpL_zero x y e1; subst this
      rw [if_pos e1] at h1
      rw [if_pos (cmpL_self x)] at h2
      have := cmpP_between a b c h e2 h1 h2
      simp only [List.length_cons, List.take_succ_cons]
      rw [← this]
    · rw [if_neg e1] at h1
      have hn := cmpL_neg x y
      rw [if_neg (by omega)] at h2
      have := cmpL_range x y
      omega
end Go.Proofs.YtlenfiiocmchdaaGreatDoor.Pap
/- Small words that every text of this seat uses. -/
namespace Go.Proofs.YtlenfiiocmchdaaGreatDoor
open Go.RowKit
theorem hid {p : Prop} (h : p) : Hid p := h
theorem ret_int {k : IntKind} {a b : Int} (h : a = b) : Ending.returned (.int k a) = .returned (.int k b) := by rw [h]
theorem ret_bool {a b : Bool} (h : a = b) : Ending.returned (.bool a) = .returned (.bool b) := by rw [h]
theorem ret_string {a b : ByteArray} (h : a = b) : Ending.returned (.string a) = .returned (.string b) := by rw [h]
theorem below_then {a b c : World} (h : Below a.heap.size a b) (k : Below b.heap.size b c) : Below a.heap.size a c := h.trans (k.mono h.size)
theorem ba_toList (x : ByteArray) : x.toList = x.data.toList := ByteArray.toList_eq x
theorem ba_ext {x y : ByteArray} (h : x.data.toList = y.data.toList) : x = y := by
  cases x; cases y; simp at h; rw [h]
theorem bstr_ne {x y : ByteArray} (h : x ≠ y) : (x.toList == y.toList) = false := by
  rw [beq_eq_false_iff_ne, ba_toList, ba_toList]; exact fun e => h (ba_ext e)
theorem bstr_nil {x : ByteArray} (h : x.size = 0) : x.toList = [] := by
  rw [ba_toList]; apply List.length_eq_zero_iff.1; simpa using h
theorem bstr_some {x : ByteArray} (h : x.size ≠ 0) : ¬ x.toList = [] := by
  rw [ba_toList]; intro e; apply h; have := congrArg List.length e; simpa using this
theorem bstr_isEmpty {x : ByteArray} (h : x.size ≠ 0) : x.toList.isEmpty = false := by
  have := bstr_some h; cases hx : x.toList <;> simp_all
end Go.Proofs.YtlenfiiocmchdaaGreatDoor
/- Plain law: the library's cutting of a text at its slashes is its pieces. -/
namespace Go.Proofs.YtlenfiiocmchdaaGreatDoor.Pap

theorem split_take {s : List UInt8} {i : Nat} (h : s[i]? = some 47) : s = s.take i ++ 47 :: s.drop (i + 1) := by
  obtain ⟨hi, he⟩ := List.getElem?_eq_some_iff.1 h
  conv => lhs; rw [← List.take_append_drop i s]
  rw [List.drop_eq_getElem_cons hi, he]
theorem splitK_pieces : ∀ (k : Nat) (s : List UInt8), s.count 47 ≤ k → Lib.splitK [47] 0 k s = pieces s
  | 0, s, h => by
    have hn : 47 ∉ s := by intro hm; have := List.count_pos_iff.2 hm; omega
    rw [pieces_last s hn]; rfl
  | k + 1, s, h => by
    unfold Lib.splitK
    rw [Lib.index_one]
    by_cases hi : Lib.indexByte s 47 = -1
    · rw [if_pos (by rw [hi]; rfl)]
      have hn : 47 ∉ s := by
        intro hm
        obtain ⟨j, hj, he⟩ := List.getElem_of_mem hm
        exact Lib.indexByte_none hi j (by rw [List.getElem?_eq_getElem hj, he])
      rw [pieces_last s hn]
    · have hge := Lib.indexByte_ge s 47
      rw [if_neg (by rw [beq_iff_eq]; exact hi)]
      obtain ⟨i, hi'⟩ : ∃ i : Nat, Lib.indexByte s 47 = i := ⟨(Lib.indexByte s 47).toNat, by omega⟩
      obtain ⟨h1, h2⟩ := Lib.indexByte_some hi'
      have hn : 47 ∉ s.take i := by
        intro hm
        obtain ⟨j, hj, he⟩ := List.getElem_of_mem hm
        rw [List.length_take] at hj
        refine h2 j (by omega) ?_
        rw [List.getElem?_eq_getElem (by omega)]
        rw [List.getElem_take] at he
        rw [he]
      have hs := split_take h1
      have hc : (s.drop (i + 1)).count 47 ≤ k := by
        have := congrArg (List.count 47) hs
        rw [List.count_append, List.count_cons_self] at this
        omega
      have e : (Lib.indexByte s 47).toNat = i := by omega
      rw [e]
      show s.take (i + 0) :: Lib.splitK [47] 0 k (s.drop (i + 1)) = _
      rw [Nat.add_zero, splitK_pieces k _ hc]
      conv => rhs; rw [hs]
      rw [pieces_cut _ _ hn]
def slash : ByteArray := ⟨#[47]⟩
theorem splitB_pieces (s : ByteArray) : (Lib.splitB slash 0 (Lib.countB s slash) s).map (·.data.toList) = pieces s.data.toList := by
  rw [Lib.splitB_data]
  refine splitK_pieces _ _ ?_
  show s.data.toList.count 47 ≤ Lib.count s.data.toList [47]
  rw [Lib.count_one]; exact Nat.le_refl _
theorem countB_pieces (s : ByteArray) : Lib.countB s slash + 1 = (pieces s.data.toList).length := by
  rw [← splitB_pieces, List.length_map, Lib.splitB_all slash (by decide) 0 _ s rfl]
theorem join_eq : ∀ l : List (List UInt8), Lib.join l [47] = joinL l
  | [] => rfl
  | [x] => by simp [Lib.join, joinL]
  | x :: y :: r => by
    have ih := join_eq (y :: r)
    unfold Lib.join at ih ⊢
    rw [joinL, ← ih]
    simp [List.intercalate]
theorem joinL_len : ∀ (l : List (List UInt8)) (m : Nat), (∀ x ∈ l, x.length ≤ m) → (joinL l).length ≤ l.length * (m + 1)
  | [], m, _ => by simp [joinL]
  | [x], m, h => by have := h x (by simp); simp [joinL]; omega
  | x :: y :: r, m, h => by
    have ih := joinL_len (y :: r) m (fun z hz => h z (by simp [hz]))
    have := h x (by simp)
    simp only [joinL, List.length_append, List.length_cons] at ih ⊢
    rw [Nat.add_mul, Nat.one_mul]; omega
theorem good_len {x : List UInt8} (h : goodL x = true) : x.length ≤ 255 := by unfold goodL at h; simp at h; exact h.2.1
theorem join_bound {l : List (List UInt8)} (h : checkE l = 0) : (joinL l).length ≤ 64 * 256 := by
  obtain ⟨_, h2, h3⟩ := checkE_ok.1 h
  exact Nat.le_trans (joinL_len l 255 (fun x hx => good_len (h2 x hx))) (Nat.mul_le_mul h3 (Nat.le_refl _))
end Go.Proofs.YtlenfiiocmchdaaGreatDoor.Pap
/- Words on memory that this seat's walks use: a slice of bytes of the call's own, and its text. -/
namespace Go.Proofs.YtlenfiiocmchdaaGreatDoor
open Go.RowKit
set_option linter.unusedVariables false

theorem Tryz.infoB : (Tryz.prog.info? 5).map (fun i => (i.zero, i.size, i.bytes)) = some (some (.int .u8 0), 1, 1) := by kernel_rfl
def bvals (l : List UInt8) : List Value := l.map fun c => Value.int .u8 (c.toNat : Int)
theorem bvals_append (l r : List UInt8) : bvals (l ++ r) = bvals l ++ bvals r := by simp [bvals]
theorem bvals_length (l : List UInt8) : (bvals l).length = l.length := by simp [bvals]
theorem below_grown1 {B : Nat} {a w w' : World} {v : Value} {n : Nat} {xs : List Value} {e : TypeId} {s : Nat} (h : Below B a w) (ho : w.ownsRow B e s v n xs) (o : Obj) (hB : B ≤ w.heap.size) (hg : (w.alloc o).grownBy w' v.ownBlock) : Below B a w' :=
  (h.alloc hB o).grown hg (by simp; omega) (fun k hk => (ho.lt k hk).1)
theorem cellNew1 (w : World) (x : Value) (t : TypeId) : ∀ j u, [x][j]? = some u → (w.alloc (.cells #[x] t)).cell? ((⟨w.heap.size, 0, none⟩ : Addr).add j) = some u := by
  intro j u h
  cases j with
  | zero =>
    simp at h; subst h
    simp [Addr.add]
  | succ j => simp at h
theorem conv_own {w : World} {B : Nat} {v : Value} {l : List UInt8} (h : w.ownsRow B 5 1 v l.length (bvals l)) :
    (convert 91 9 v).run Tryz.prog w = .ok (.string ⟨l.toArray⟩) w := by
  have h' := h
  rcases h.2 with ⟨rfl, h0⟩ | ⟨g, cap, cur, rfl, hb, hg, hn, hc, hsz, htk⟩
  · obtain rfl : l = [] := List.length_eq_zero_iff.1 h0
    exact run_convert_bytes_nil _ _ _ Tryz.underlying91 Tryz.underlying5 _ _ _ Tryz.underlying9
  · refine run_convert_bytes_back w _ _ _ _ cap l Tryz.underlying91 Tryz.underlying5 Tryz.underlying9 ?_
    intro j hj
    have h1 := h'.cellAt j (by omega)
    have h2 : (⟨g, 0, none⟩ : Addr).add j = ⟨g, j, none⟩ := by
      unfold Addr.add; split
      · subst_vars; rfl
      · simp
    rw [h2, h1]; simp [bvals, List.getElem?_eq_getElem hj]
theorem own_drewN {w : World} {B e s n : Nat} {v : Value} {xs : List Value} (h : w.ownsRow B e s v n xs) (q : Nat) : (w.drewN q).ownsRow B e s v n xs := h
theorem own_below {w w' : World} {B e s n : Nat} {v : Value} {xs : List Value} (h : w.ownsRow B e s v n xs) (hb : Below w.heap.size w w') : w'.ownsRow B e s v n xs :=
  h.kept (row := none) ⟨hb.os, hb.tape, hb.output, hb.size, fun k hk _ => hb.block k hk⟩ (by cases hv : v.ownBlock <;> simp)
theorem below_drewN {B : Nat} {a w : World} (h : Below B a w) (q : Nat) : Below B a (w.drewN q) := ⟨h.os, h.tape, h.output, h.size, h.block⟩
/-- a world behind w: whatever lay, lies. THE CLASS for a region that draws its order and whose callees make memory. -/
structure After (w : World) where
  val : World
  below : Below w.heap.size w val
instance afterNonempty (w : World) : Nonempty (After w) := ⟨⟨w, Below.refl _ _⟩⟩
theorem wp_region_after {P : Program} {id : Nat} {Q : Exit → Act → World → Prop} {a : Act} {w : World} {l : List Oper} (hm : P.follows .mixedOrders = true) (hB : Region.lexB .any l.toArray = true)
    (h : wpQuiet P l.toArray (fun w' => ∃ x : After w, w' = x.val) (fun a' => ∀ w', (∃ x : After w, w' = x.val) → Q .normal a' w') l a) : (Code.region id l.toArray true).wp P Q a w :=
  wp_region_quiet (C := fun w' => ∃ x : After w, w' = x.val) hm hB ⟨⟨_, (Below.refl _ _).drew⟩, rfl⟩ (by simpa using h)
theorem calls_after {P : Program} {f : FuncId} {args : Array Value} {w : World} {x : After w} {v : Value}
    (h : Calls P f args x.val fun e w' => e = .returned v ∧ Below x.val.heap.size x.val w') : Calls P f args x.val fun e w'' => e = .returned v ∧ ∃ y : After w, w'' = y.val :=
  h.mono fun _ w' ⟨he, hb⟩ => ⟨he, ⟨w', below_then x.below hb⟩, rfl⟩
theorem calls_after_same {P : Program} {f : FuncId} {args : Array Value} {w : World} {x : After w} {v : Value}
    (h : Calls P f args x.val fun e w' => e = .returned v ∧ x.val = w') : Calls P f args x.val fun e w'' => e = .returned v ∧ ∃ y : After w, w'' = y.val :=
  h.mono fun _ _ ⟨he, hb⟩ => ⟨he, x, hb.symm⟩
theorem one_bytes {P : Value → Prop} {v : Value} (h : P v) : ∀ u ∈ [v], P u := by
  intro u hu; rw [List.mem_singleton] at hu; subst hu; exact h
theorem own_snoc {w : World} {B e s : Nat} {v : Value} {l : List UInt8} {c : UInt8} (h : w.ownsRow B e s v (l.length + 1) (bvals l ++ [.int .u8 (c.toNat : Int)])) : w.ownsRow B e s v (l ++ [c]).length (bvals (l ++ [c])) := by
  rw [bvals_append, List.length_append]; exact h
end Go.Proofs.YtlenfiiocmchdaaGreatDoor
