/- A reel's state as a law sees it: what stands under each name. Plain Lean. -/
import Derived.Test.YthjomknhbfplnaaReelEnts
import Derived.Test.YthjomknhbfplnaaReelOn
namespace Go.Proofs.Ythjomknhbfplnaa.Reel
open Go.RowKit
set_option linter.unusedVariables false

def upd (f : ByteArray → Option Spool) (x : ByteArray) (v : Option Spool) : ByteArray → Option Spool := fun y => if y = x then v else f y
theorem upd_self (f : ByteArray → Option Spool) (x : ByteArray) (v : Option Spool) : upd f x v x = v := by unfold upd; rw [if_pos rfl]
theorem upd_other (f : ByteArray → Option Spool) {x y : ByteArray} (v : Option Spool) (h : y ≠ x) : upd f x v y = f y := by unfold upd; rw [if_neg h]
/-- a state with a room of 2^26; d: down; m: armed; n: acts and lives at most; k: names at most; u: bytes at most -/
structure View (S : St) (d : Bool) (m n k u : Nat) (f : ByteArray → Option Spool) : Prop where
  ok : S.Ok
  room : S.room = 67108864
  down : S.down = d
  armed : S.armed = m
  fits : S.Fits n
  few : S.l.length ≤ k
  used : S.used ≤ u
  at_ : ∀ x, Reel.at_ S x = f x
section
variable {S : St} {d : Bool} {m n k u : Nat} {f : ByteArray → Option Spool} {x : ByteArray} {t : Spool}
theorem view_new : View (new 67108864) false 0 0 0 0 (fun _ => none) := by
  refine ⟨new_ok _, rfl, rfl, rfl, ⟨Nat.le_refl _, Nat.le_refl _, by decide⟩, Nat.le_refl _, Nat.le_refl _, fun x => ?_⟩
  unfold Reel.at_
  split <;> rfl
theorem at_put {U : Nat} (h : S.Ok) (h' : St.Ok { putT S x t with used := U }) (y : ByteArray) : Reel.at_ (putT S x t) y = if y = x then some t else Reel.at_ S y := by
  have hm : ∀ u, (y, u) ∈ St.ents { putT S x t with used := U } ↔ (y = x ∧ u = t) ∨ (y ≠ x ∧ (y, u) ∈ S.ents) := fun u => put_mem h
  by_cases hy : y = x
  · rw [if_pos hy]
    exact (at_iff (S := { putT S x t with used := U }) h').2 ((hm t).2 (.inl ⟨hy, rfl⟩))
  · rw [if_neg hy]
    exact at_ext (S := { putT S x t with used := U }) h' h y (fun u => (hm u).trans ⟨fun e => e.elim (fun e => absurd e.1 hy) (·.2), fun e => .inr ⟨hy, e⟩⟩)
theorem act_view (hd : S.down = false) (ha : S.armed = 0) : actS S = ({ S with acts := S.acts + 1 }, 0) := by unfold actS; rw [if_pos ha]
theorem act_view1 (ha : S.armed = 1) : actS S = ({ S with acts := S.acts + 1, down := true, armed := 0, life := S.life + 1 }, 10) := by unfold actS; rw [if_neg (by omega), if_pos ha]
theorem putN_len (l : List ByteArray) (x : ByteArray) : (putN l x).length ≤ l.length + 1 := by
  unfold putN; split
  · omega
  · have := posOf_le l x
    simp; omega
/-- what Append makes where there is room -/
theorem view_append (h : View S false 0 n k u f) (s : ByteArray) (hx : isName x = true) (hu : u + s.size ≤ 67108864) (hk : k < 64) (hl : ∀ t, f x = some t → t.bytes.length + s.size ≤ 4194304) (hs : s.size ≤ 4194304) :
    (appendS S x s).2 = 0 ∧ View (appendS S x s).1 false 0 (n + 1) (k + 1) (u + s.size) (upd f x (some (match f x with | some t => ⟨t.bytes ++ s.data.toList, t.safe⟩ | none => ⟨s.data.toList, 0⟩))) := by
  have hsz : s.data.toList.length = s.size := by rw [Array.length_toList]; rfl
  have hus := h.used
  have hg : ∀ (t' : Spool), St.Ok { putT S x t' with used := S.used + s.size } → View (actS { putT S x t' with used := S.used + s.size }).1 false 0 (n + 1) (k + 1) (u + s.size) (upd f x (some t')) ∧ (actS { putT S x t' with used := S.used + s.size }).2 = 0 := by
    intro t' hok
    have hact : actS { putT S x t' with used := S.used + s.size } = ({ putT S x t' with used := S.used + s.size, acts := S.acts + 1 }, 0) := by
      exact act_view (S := { putT S x t' with used := S.used + s.size }) h.down h.armed
    have hok2 := act_ok hok
    rw [hact] at hok2 ⊢
    refine ⟨⟨hok2, h.room, h.down, h.armed, ⟨by show S.acts + 1 ≤ _; have := h.fits.1; omega, by show S.life ≤ _; have := h.fits.2.1; omega, h.fits.2.2⟩, ?_, by show S.used + s.size ≤ _; omega, fun y => ?_⟩, rfl⟩
    · have := putN_len S.l x; have := h.few
      show (putN S.l x).length ≤ _; omega
    · show Reel.at_ (putT S x t') y = _
      rw [at_put h.ok hok]; unfold upd
      split
      · rfl
      · exact h.at_ y
  cases hf : f x with
  | some t =>
    have hat : Reel.at_ S x = some t := (h.at_ x).trans hf
    have := hl t hf
    have hsafe := (h.ok.each t (at_mem hat)).2
    have e : appendS S x s = actS { putT S x ⟨t.bytes ++ s.data.toList, t.safe⟩ with used := S.used + s.size } := by
      unfold appendS
      rw [if_neg (by rw [h.down]; simp), if_neg (by rw [hx]; simp), if_neg (by rw [h.room]; omega), hat]
      exact if_neg (by omega)
    rw [e]
    obtain ⟨g1, g2⟩ := hg ⟨t.bytes ++ s.data.toList, t.safe⟩ (h.ok.put hat (t' := ⟨t.bytes ++ s.data.toList, t.safe⟩) (by show (t.bytes ++ s.data.toList).length ≤ _; rw [List.length_append, hsz]; omega) (by show t.safe ≤ (t.bytes ++ s.data.toList).length; rw [List.length_append]; omega) _ (by show _ = S.used + (t.bytes ++ s.data.toList).length; rw [List.length_append, hsz]; omega) (by omega))
    exact ⟨g2, g1⟩
  | none =>
    have hat : Reel.at_ S x = none := (h.at_ x).trans hf
    have hfew := h.few
    have e : appendS S x s = actS { putT S x ⟨s.data.toList, 0⟩ with used := S.used + s.size } := by
      unfold appendS
      rw [if_neg (by rw [h.down]; simp), if_neg (by rw [hx]; simp), if_neg (by rw [h.room]; omega), hat]
      exact if_neg (by omega)
    rw [e]
    obtain ⟨g1, g2⟩ := hg ⟨s.data.toList, 0⟩ (h.ok.ins (at_none h.ok hat) hx (by omega) (t' := ⟨s.data.toList, 0⟩) (by show s.data.toList.length ≤ _; rw [hsz]; omega) (Nat.zero_le _) _ (by show _ = S.used + s.data.toList.length; rw [hsz]) (by omega))
    exact ⟨g2, g1⟩
theorem view_put (h : View S false 0 n k u f) (hf : f x = some t) (t' : Spool) (h1 : t'.safe ≤ t'.bytes.length) (h2 : t'.bytes.length ≤ t.bytes.length) (U : Nat) (hU : U = S.used - (t.bytes.length - t'.bytes.length)) :
    View { putT { S with acts := S.acts + 1 } x t' with used := U } false 0 (n + 1) k u (upd f x (some t')) := by
  have hat : Reel.at_ S x = some t := (h.at_ x).trans hf
  have hmem := size_mem (at_mem hat)
  rw [← h.ok.used] at hmem
  have h64 := (h.ok.each t (at_mem hat)).1
  have hus := h.used
  have hmost := h.ok.most
  have hok : St.Ok { putT S x t' with used := U } := h.ok.put hat (by omega) h1 _ (by omega) (by omega)
  refine ⟨?_, h.room, h.down, h.armed, ⟨by show S.acts + 1 ≤ _; have := h.fits.1; omega, by show S.life ≤ _; have := h.fits.2.1; omega, h.fits.2.2⟩, ?_, by show U ≤ _; omega, fun y => ?_⟩
  · exact hok.with_ rfl rfl rfl hok.room
  · show (putN S.l x).length ≤ k
    unfold putN; rw [if_pos (at_some hat).1]; exact h.few
  · show Reel.at_ (putT S x t') y = _
    rw [at_put h.ok hok]; unfold upd
    split
    · rfl
    · exact h.at_ y
theorem view_sync (h : View S false 0 n k u f) (hf : f x = some t) : (syncS S x).2 = 0 ∧ View (syncS S x).1 false 0 (n + 1) k u (upd f x (some ⟨t.bytes, t.bytes.length⟩)) := by
  have hat : Reel.at_ S x = some t := (h.at_ x).trans hf
  have e : syncS S x = ({ putT { S with acts := S.acts + 1 } x ⟨t.bytes, t.bytes.length⟩ with used := S.used }, 0) := by
    unfold syncS; rw [if_neg (by rw [h.down]; simp), hat]
    show (if (actS S).2 = 0 then _ else _) = _
    rw [act_view h.down h.armed, if_pos rfl]
    rfl
  rw [e]
  exact ⟨rfl, view_put h hf ⟨t.bytes, t.bytes.length⟩ (Nat.le_refl _) (Nat.le_refl _) _ (by show S.used = S.used - (t.bytes.length - t.bytes.length); omega)⟩
theorem view_cut (h : View S false 0 n k u f) (hf : f x = some t) (j : Nat) (hj : j ≤ t.bytes.length) : (cutS S x j).2 = 0 ∧ View (cutS S x j).1 false 0 (n + 1) k u (upd f x (some (cutT t j))) := by
  have hat : Reel.at_ S x = some t := (h.at_ x).trans hf
  have e : cutS S x j = ({ putT { S with acts := S.acts + 1 } x (cutT t j) with used := S.used - (t.bytes.length - j) }, 0) := by
    unfold cutS; rw [if_neg (by rw [h.down]; simp), hat]
    show (if _ then _ else _ : St × Int) = _
    rw [if_neg (by omega), act_view h.down h.armed, if_pos rfl]
    rfl
  rw [e]
  have hl : (cutT t j).bytes.length = j := by unfold cutT; rw [List.length_take]; omega
  exact ⟨rfl, view_put h hf (cutT t j) (by rw [hl]; exact Nat.min_le_right _ _) (by rw [hl]; exact hj) _ (by rw [hl])⟩
theorem view_off (h : View S d m n k u f) : View (offS S) true (if d = true then m else 0) (n + 1) k u f := by
  have hfit := h.fits
  unfold offS
  rw [h.down]
  cases d
  · rw [if_neg (by simp), if_neg (by simp)]
    exact ⟨h.ok.with_ rfl rfl rfl h.ok.room, h.room, rfl, rfl, ⟨by show S.acts ≤ _; have := hfit.1; omega, by show S.life + 1 ≤ _; have := hfit.2.1; omega, by show (0 : Nat) ≤ _; omega⟩, h.few, h.used, h.at_⟩
  · rw [if_pos rfl, if_pos rfl]
    exact ⟨h.ok, h.room, h.down, h.armed, ⟨by have := hfit.1; omega, by have := hfit.2.1; omega, hfit.2.2⟩, h.few, h.used, h.at_⟩
theorem view_arm (h : View S d m n k u f) (j : Nat) (hj : j ≤ 9223372036854775807) : View (armS S j) d j n k u f :=
  ⟨h.ok.with_ rfl rfl rfl h.ok.room, h.room, h.down, by show (j : Int).toNat = j; omega, ⟨h.fits.1, h.fits.2.1, by show (j : Int).toNat ≤ _; omega⟩, h.few, h.used, h.at_⟩
theorem view_act1 (h : View S false 1 n k u f) : (actS S).2 = 10 ∧ View (actS S).1 true 0 (n + 1) k u f := by
  have hfit := h.fits
  rw [act_view1 h.armed]
  exact ⟨rfl, h.ok.with_ rfl rfl rfl h.ok.room, h.room, rfl, rfl, ⟨by show S.acts + 1 ≤ _; have := hfit.1; omega, by show S.life + 1 ≤ _; have := hfit.2.1; omega, by show (0 : Nat) ≤ _; omega⟩, h.few, h.used, h.at_⟩
theorem view_cut1 (h : View S false 1 n k u f) (hf : f x = some t) (j : Nat) (hj : j ≤ t.bytes.length) : (cutS S x j).2 = 10 ∧ View (cutS S x j).1 true 0 (n + 1) k u f := by
  have hat : Reel.at_ S x = some t := (h.at_ x).trans hf
  obtain ⟨h1, h2⟩ := view_act1 h
  have e : cutS S x j = actS S := by
    unfold cutS; rw [if_neg (by rw [h.down]; simp), hat]
    show (if _ then _ else _ : St × Int) = _
    rw [if_neg (by omega), if_neg (by rw [h1]; decide)]
  rw [e]; exact ⟨h1, h2⟩
theorem view_swap1 (h : View S false 1 n k u f) (hf : f x = some t) (y : ByteArray) (hy : isName y = true) : (swapS S x y).2 = 10 ∧ View (swapS S x y).1 true 0 (n + 1) k u f := by
  have hat : Reel.at_ S x = some t := (h.at_ x).trans hf
  obtain ⟨h1, h2⟩ := view_act1 h
  have e : swapS S x y = actS S := by
    unfold swapS; rw [if_neg (by rw [h.down]; simp), hat]
    show (if _ then _ else _ : St × Int) = _
    rw [if_neg (by rw [hy]; decide), if_neg (by rw [h1]; decide)]
  rw [e]; exact ⟨h1, h2⟩
theorem view_drop1 (h : View S false 1 n k u f) (hf : f x = some t) : (dropS S x).2 = 10 ∧ View (dropS S x).1 true 0 (n + 1) k u f := by
  have hat : Reel.at_ S x = some t := (h.at_ x).trans hf
  obtain ⟨h1, h2⟩ := view_act1 h
  have e : dropS S x = actS S := by
    unfold dropS; rw [if_neg (by rw [h.down]; simp), hat]
    show (if _ then _ else _ : St × Int) = _
    rw [if_neg (by rw [h1]; decide)]
  rw [e]; exact ⟨h1, h2⟩
theorem at_del_self {U : Nat} (h : S.Ok) (hx : hasN S.l x = true) (h' : St.Ok { delT S x with used := U }) : Reel.at_ (delT S x) x = none := by
  cases ha : Reel.at_ (delT S x) x with
  | none => rfl
  | some v => exact absurd rfl ((del_mem h hx).1 ((at_iff (S := { delT S x with used := U }) h').1 ha)).2
theorem delN_len (l : List ByteArray) (x : ByteArray) : (delN l x).length ≤ l.length := by
  unfold delN; split
  · simp; omega
  · exact Nat.le_refl _
theorem view_drop (h : View S false 0 n k u f) (hf : f x = some t) : (dropS S x).2 = 0 ∧ View (dropS S x).1 false 0 (n + 1) k u (upd f x none) := by
  have hat : Reel.at_ S x = some t := (h.at_ x).trans hf
  have hmem := size_mem (at_mem hat)
  rw [← h.ok.used] at hmem
  have hus := h.used
  have hfit := h.fits
  have e : dropS S x = ({ delT { S with acts := S.acts + 1 } x with used := S.used - t.bytes.length }, 0) := by
    unfold dropS; rw [if_neg (by rw [h.down]; simp), hat]
    show (if _ then _ else _ : St × Int) = _
    rw [act_view h.down h.armed, if_pos rfl]
  rw [e]
  have hok : St.Ok { delT S x with used := S.used - t.bytes.length } := h.ok.del hat _ (by omega)
  refine ⟨rfl, hok.with_ rfl rfl rfl hok.room, h.room, h.down, h.armed, ⟨by show S.acts + 1 ≤ _; have := hfit.1; omega, by show S.life ≤ _; have := hfit.2.1; omega, hfit.2.2⟩, ?_, by show S.used - _ ≤ _; omega, fun y => ?_⟩
  · have := delN_len S.l x; have := h.few
    show (delN S.l x).length ≤ _; omega
  · show Reel.at_ (delT S x) y = _
    unfold upd
    split
    · rename_i hy; subst hy; exact at_del_self h.ok (at_some hat).1 hok
    · rename_i hy; rw [at_del h.ok hat hy]; exact h.at_ y
theorem view_swap (h : View S false 0 n k u f) (hf : f x = some t) {y : ByteArray} {t2 : Spool} (hy : isName y = true) (hf2 : f y = some t2) (hne : x ≠ y) : (swapS S x y).2 = 0 ∧ View (swapS S x y).1 false 0 (n + 1) k u (upd (upd f x none) y (some t)) := by
  have hat : Reel.at_ S x = some t := (h.at_ x).trans hf
  have hat2 : Reel.at_ S y = some t2 := (h.at_ y).trans hf2
  have hmem := size_mem (at_mem hat)
  rw [← h.ok.used] at hmem
  have hus := h.used
  have hmost := h.ok.most
  have hfit := h.fits
  have hlen : lenAt S y = t2.bytes.length := by unfold lenAt; rw [hat2]
  have e : swapS S x y = ({ putT { delT { S with acts := S.acts + 1 } x with used := S.used - t2.bytes.length } y t with used := S.used - t2.bytes.length }, 0) := by
    unfold swapS; rw [if_neg (by rw [h.down]; simp), hat]
    show (if _ then _ else _ : St × Int) = _
    rw [if_neg (by rw [hy]; decide), act_view h.down h.armed, if_pos rfl, if_neg hne, hlen]
    rfl
  rw [e]
  have hok : St.Ok { delT S x with used := S.used - t.bytes.length } := h.ok.del hat _ (by omega)
  have hatd : Reel.at_ (delT S x) y = some t2 := (at_del h.ok hat (Ne.symm hne)).trans hat2
  have hmem2 : t2.bytes.length ≤ S.used - t.bytes.length := by
    have := size_mem (at_mem (S := { delT S x with used := S.used - t.bytes.length }) hatd)
    rw [← hok.used] at this; exact this
  have hsafe := h.ok.each t (at_mem hat)
  have hok2 : St.Ok { putT { delT S x with used := S.used - t.bytes.length } y t with used := S.used - t2.bytes.length } := hok.put hatd hsafe.1 hsafe.2 _ (by show _ = S.used - t.bytes.length + _; omega) (by omega)
  refine ⟨rfl, hok2.with_ rfl rfl rfl hok2.room, h.room, h.down, h.armed, ⟨by show S.acts + 1 ≤ _; have := hfit.1; omega, by show S.life ≤ _; have := hfit.2.1; omega, hfit.2.2⟩, ?_, by show S.used - _ ≤ _; omega, fun z => ?_⟩
  · have := delN_len S.l x; have := h.few
    show (putN (delN S.l x) y).length ≤ _
    have hh : hasN (delN S.l x) y = true := (at_some (S := delT S x) hatd).1
    unfold putN; rw [if_pos hh]; omega
  · have h3 := at_put hok hok2 z
    show Reel.at_ (putT { delT S x with used := S.used - t.bytes.length } y t) z = _
    rw [h3]
    unfold upd
    split
    · rfl
    · show Reel.at_ (delT S x) z = _
      split
      · rename_i hz; subst hz; exact at_del_self h.ok (at_some hat).1 hok
      · rename_i hz; rw [at_del h.ok hat hz]; exact h.at_ z
theorem onT_get (fs : List Int) : ∀ (ts : List Spool) (i j : Nat), (ts[j]? = none → (onT fs i ts)[j]? = none) ∧ (∀ t, ts[j]? = some t → ∃ t', (onT fs i ts)[j]? = some t' ∧ (t.bytes.length = t.safe → t' = t) ∧ (t.bytes.length ≠ t.safe → ∃ c, t' = left t c))
  | [], i, j => ⟨fun _ => by simp [onT], fun t h => by simp at h⟩
  | a :: r, i, j => by
    unfold onT
    split
    · rename_i he
      cases j with
      | zero => exact ⟨fun h => by simp at h, fun t h => ⟨t, by simpa using h, fun _ => rfl, fun hn => by simp at h; subst h; exact absurd he hn⟩⟩
      | succ j => simpa using onT_get fs r i j
    · rename_i he
      cases j with
      | zero => exact ⟨fun h => by simp at h, fun t h => by
          simp at h; subst h
          exact ⟨_, rfl, fun hn => absurd hn he, fun _ => ⟨_, rfl⟩⟩⟩
      | succ j => simpa using onT_get fs r (if fs = [] then i else i + 1) j
theorem onT_size (fs : List Int) : ∀ (ts : List Spool) (i : Nat), (∀ t ∈ ts, t.safe ≤ t.bytes.length) → size (onT fs i ts) ≤ size ts
  | [], i, _ => by simp [onT]
  | a :: r, i, h => by
    have ha := h a (List.mem_cons_self ..)
    unfold onT
    split
    · rw [size_cons, size_cons]
      have := onT_size fs r i (fun t ht => h t (List.mem_cons_of_mem _ ht)); omega
    · rw [size_cons, size_cons]
      have := onT_size fs r (if fs = [] then i else i + 1) (fun t ht => h t (List.mem_cons_of_mem _ ht))
      have h1 := (left_len a (if fs = [] then 0 else fs.getD (i % fs.length) 0) ha).1
      have h2 := kept_le (if fs = [] then 0 else fs.getD (i % fs.length) 0) (a.bytes.length - a.safe)
      omega
theorem view_on (h : View S true m n k u f) (fs : List Int) : ∃ g, View (onS S fs) false m n k u g ∧ (∀ x, f x = none → g x = none) ∧ (∀ x t, f x = some t → ∃ t', g x = some t' ∧ (t.bytes.length = t.safe → t' = t) ∧ (t.bytes.length ≠ t.safe → ∃ c, t' = left t c)) := by
  have hok := on_ok h.ok fs
  have hus := h.used
  have he : onS S fs = { S with down := false, ts := onT fs 0 S.ts, used := size (onT fs 0 S.ts) } := by unfold onS; rw [if_neg (by rw [h.down]; simp)]
  have hsz := onT_size fs S.ts 0 (fun t ht => (h.ok.each t ht).2)
  rw [← h.ok.used] at hsz
  rw [he] at hok ⊢
  refine ⟨_, ⟨hok, h.room, rfl, h.armed, h.fits, h.few, by show size _ ≤ _; omega, fun x => rfl⟩, fun x hx => ?_, fun x t hx => ?_⟩
  · have hn := at_none h.ok ((h.at_ x).trans hx)
    show Reel.at_ _ x = none
    unfold Reel.at_
    exact if_neg (by show ¬ hasN S.l x = true; rw [hn]; simp)
  · obtain ⟨h1, h2⟩ := at_some ((h.at_ x).trans hx)
    obtain ⟨t', g1, g2⟩ := (onT_get fs S.ts 0 (posOf S.l x)).2 t h2
    refine ⟨t', ?_, g2⟩
    show Reel.at_ _ x = _
    unfold Reel.at_
    exact (if_pos h1).trans g1
theorem view_read (h : View S false m n k u f) (x : ByteArray) : readS S x = match f x with | none => ([], 12) | some t => (t.bytes, 0) := by
  unfold readS; rw [if_neg (by rw [h.down]; simp), h.at_ x]; rfl
theorem view_size (h : View S d m n k u f) (x : ByteArray) : sizeS S x = match f x with | none => -1 | some t => (t.bytes.length : Int) := by
  unfold sizeS; rw [h.at_ x]; rfl
theorem View.mono (h : View S d m n k u f) {n' k' u' : Nat} (hn : n ≤ n') (hk : k ≤ k') (hu : u ≤ u') : View S d m n' k' u' f :=
  ⟨h.ok, h.room, h.down, h.armed, ⟨Nat.le_trans h.fits.1 hn, Nat.le_trans h.fits.2.1 hn, h.fits.2.2⟩, Nat.le_trans h.few hk, Nat.le_trans h.used hu, h.at_⟩
end
end Go.Proofs.Ythjomknhbfplnaa.Reel
