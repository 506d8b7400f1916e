/- What the walks of laws over rows of pieces want. -/
import Derived.Test.YthjomknhbfplnaaReelN
import Derived.Test.YthjomknhbfplnaaStrs
namespace Go.Proofs.Ythjomknhbfplnaa
open Go.RowKit Reel
set_option linter.unusedVariables false

namespace Reel
/-- the bytes under a name, all of them safe, or none yet -/
def Holds (f : ByteArray → Option Spool) (x A : ByteArray) : Prop := f x = some (fl A) ∨ (f x = none ∧ A = ByteArray.empty)
theorem Holds.other {f : ByteArray → Option Spool} {x y A : ByteArray} {v : Option Spool} (h : Holds f x A) (hne : x ≠ y) : Holds (upd f y v) x A := by
  unfold Holds; rw [upd_other _ _ hne]; exact h
theorem app_list (A s : ByteArray) : (A ++ s).data.toList = A.data.toList ++ s.data.toList := by simp
theorem winds_step {S : St} {n k u : Nat} {f : ByteArray → Option Spool} {x A s : ByteArray} (h : View S false 0 n k u f) (hA : Holds f x A) (hx : isName x = true) (hs : s.size ≤ 4096) (hk : k < 64) (hu : u ≤ 67000000) (hAl : A.size ≤ 4000000) :
    (appendS S x s).2 = 0 ∧ (appendS S x s).1.Fits (n + 1) ∧ (syncS (appendS S x s).1 x).2 = 0 ∧ View (syncS (appendS S x s).1 x).1 false 0 (n + 2) (k + 1) (u + 4096) (upd f x (some (fl (A ++ s)))) := by
  have hal : A.data.toList.length = A.size := by rw [Array.length_toList]; rfl
  obtain ⟨h1, h2⟩ := view_append h s hx (by omega) hk (fun t ht => by
    rcases hA with h | ⟨h, -⟩
    · rw [ht] at h; cases h; show A.data.toList.length + _ ≤ _; omega
    · rw [ht] at h; cases h) (by omega)
  have e : (⟨A.data.toList ++ s.data.toList, (A.data.toList ++ s.data.toList).length⟩ : Spool) = fl (A ++ s) := by unfold fl; rw [app_list]
  rcases hA with h | ⟨h, rfl⟩
  · simp only [h] at h2
    obtain ⟨h3, h4⟩ := view_sync h2 (upd_self _ _ _)
    rw [upd_upd] at h4
    rw [← e]
    exact ⟨h1, h2.fits, h3, h4.mono (by omega) (by omega) (by omega)⟩
  · simp only [h] at h2
    obtain ⟨h3, h4⟩ := view_sync h2 (upd_self _ _ _)
    rw [upd_upd] at h4
    rw [← e]
    exact ⟨h1, h2.fits, h3, h4.mono (by omega) (by omega) (by omega)⟩
theorem again' {S : St} {d : Bool} {n k u : Nat} {f : ByteArray → Option Spool} (h : View S d 0 n k u f) {x A : ByteArray} (hA : Holds f x A) (fs : List Int) :
    ∃ e, readS (onS (offS S) fs) x = (A.data.toList, e) ∧ (e = 0 ∨ (e = 12 ∧ A = ByteArray.empty)) := by
  have h1 := view_off h
  obtain ⟨g, hg, g1, g2⟩ := view_on h1 fs
  have hr := view_read hg x
  rcases hA with hA | ⟨hA, rfl⟩
  · obtain ⟨t', e1, e2, -⟩ := g2 x _ hA
    exact ⟨0, by rw [hr, e1, e2 rfl]; rfl, .inl rfl⟩
  · exact ⟨12, by rw [hr, g1 x hA]; rfl, .inr ⟨rfl, rfl⟩⟩
end Reel
theorem ints_lt {w : World} {a : Option Addr} {n : Nat} {l : List Int} (h : IntsAt w a n l) (hn : n ≠ 0) (b off : Nat) (ha : a = some ⟨b, off, none⟩) : b < w.heap.size := by
  obtain ⟨-, -, -, h4⟩ := h
  rcases h4 with h4 | ⟨b', o', hb, hc⟩
  · exact absurd h4 hn
  · rw [ha] at hb; cases hb
    exact World.block_lt_of_cell? w _ (hc 0 (by omega))
theorem ints_later {w w' : World} {a : Option Addr} {n : Nat} {l : List Int} (h : IntsAt w a n l) (hb : Below w.heap.size w w') : IntsAt w' a n l := by
  obtain ⟨h1, h2, h3, h4⟩ := h
  refine ⟨h1, h2, h3, h4.imp id ?_⟩
  rintro ⟨b, off, ha, hc⟩
  exact ⟨b, off, ha, fun j hj => (Only.of_below hb NoF).cell (hc j hj) (fun e => e)⟩

/-- a disk that leaves alone what lies in K -/
def DK (K : Nat → Prop) (w : World) (p : Nat) (S : St) : Prop := ∃ F, DiskAt w p F S ∧ (∀ k, F k → ¬ K k) ∧ (∀ k, K k → k < w.heap.size)
section
variable {K : Nat → Prop} {p : Nat} {S S' : St} {w w' : World}
theorem DK.next {F : Nat → Prop} (hF : ∀ k, F k → ¬ K k) (hK : ∀ k, K k → k < w.heap.size) (h : DiskAt w' p (grow F w w') S) (ho : Only F w w') : DK K w' p S ∧ Only (fun k => ¬ K k) w w' :=
  ⟨⟨_, h, fun k hk => hk.elim (hF k) (fun e ek => by have := hK k ek; omega), fun k hk => Nat.lt_of_lt_of_le (hK k hk) ho.size⟩, ho.mono hF⟩
theorem DK.only {G : Nat → Prop} (h : DK K w p S) (ho : Only G w w') (hG : ∀ k, G k → K k) : DK K w' p S := by
  obtain ⟨F, h1, h2, h3⟩ := h
  exact ⟨F, h1.only ho (fun k hk hg => h2 k hk (hG k hg)), h2, fun k hk => Nat.lt_of_lt_of_le (h3 k hk) ho.size⟩
theorem append_K (n : Nat) (x s : ByteArray) (h : DK K w p S) (hf : S.Fits n) (hn : n < big) (hxs : x.size ≤ 9223372036854775807) (hss : s.size ≤ 140737488355328) :
    Calls Try.prog 10 #[.pointer (some ⟨p, 0, none⟩), .string x, .string s] w fun e w' => e = .returned (.int .i64 (appendS S x s).2) ∧ DK K w' p (appendS S x s).1 ∧ Only (fun k => ¬ K k) w w' := by
  obtain ⟨F, h1, h2, h3⟩ := h
  refine (append_any p F S x s w n h1 hf hn hxs hss).mono ?_; rintro e w' ⟨rfl, hd, ho⟩
  exact ⟨rfl, DK.next h2 h3 hd ho⟩
theorem sync_K (n : Nat) (x : ByteArray) (h : DK K w p S) (hf : S.Fits n) (hn : n < big) :
    Calls Try.prog 11 #[.pointer (some ⟨p, 0, none⟩), .string x] w fun e w' => e = .returned (.int .i64 (syncS S x).2) ∧ DK K w' p (syncS S x).1 ∧ Only (fun k => ¬ K k) w w' := by
  obtain ⟨F, h1, h2, h3⟩ := h
  refine (sync_any p F S x w n h1 hf hn).mono ?_; rintro e w' ⟨rfl, hd, ho⟩
  exact ⟨rfl, DK.next h2 h3 hd ho⟩
theorem off_K (n : Nat) (h : DK K w p S) (hf : S.Fits n) (hn : n < big) :
    Calls Try.prog 13 #[.pointer (some ⟨p, 0, none⟩)] w fun e w' => e = .returned (.tuple #[]) ∧ DK K w' p (offS S) ∧ Only (fun k => ¬ K k) w w' := by
  obtain ⟨F, h1, h2, h3⟩ := h
  refine (doff_any (n := n) (h := h1) (hf := hf) (hn := hn)).mono ?_; rintro e w' ⟨rfl, hd, ho⟩
  exact ⟨rfl, DK.next h2 h3 hd ho⟩
theorem on_K (a : Option Addr) (n c : Nat) (fs : List Int) (h : DK K w p S) (hI : IntsAt w a n fs) (ha : n ≠ 0 → ∀ b off, a = some ⟨b, off, none⟩ → K b) :
    Calls Try.prog 14 #[.pointer (some ⟨p, 0, none⟩), .slice a n c] w fun e w' => e = .returned (.tuple #[]) ∧ DK K w' p (onS S fs) ∧ Only (fun k => ¬ K k) w w' := by
  obtain ⟨F, h1, h2, h3⟩ := h
  refine (on_any p F S a n c fs w h1 hI (fun hn b off e hF => h2 b hF (ha hn b off e))).mono ?_
  rintro e w' ⟨rfl, hd, ho⟩
  exact ⟨rfl, DK.next h2 h3 hd ho⟩
theorem read_K (x : ByteArray) (h : DK K w p S) :
    Calls Try.prog 15 #[.pointer (some ⟨p, 0, none⟩), .string x] w fun e w' => e = .returned (.tuple #[.string ⟨(readS S x).1.toArray⟩, .int .i64 (readS S x).2]) ∧ w = w' := by
  obtain ⟨F, h1, h2, h3⟩ := h; exact read_any p F S x w h1
theorem size_K (x : ByteArray) (h : DK K w p S) :
    Calls Try.prog 12 #[.pointer (some ⟨p, 0, none⟩), .string x] w fun e w' => e = .returned (.int .i64 (sizeS S x)) ∧ w = w' := by
  obtain ⟨F, h1, h2, h3⟩ := h; exact size_any p F S x w h1
end
theorem strs_get {w : World} {a : Option Addr} {n : Nat} {l : List ByteArray} (h : StrsAt w a n l) {j : Nat} (hj : j < n) : ∃ b off, a = some ⟨b, off, none⟩ ∧ b < w.heap.size ∧ w.cell? ⟨b, off + j, none⟩ = some (.string (l.getD j ByteArray.empty)) := by
  obtain ⟨-, -, h3⟩ := h
  rcases h3 with h3 | ⟨b, off, ha, hc⟩
  · omega
  · exact ⟨b, off, ha, World.block_lt_of_cell? w _ (hc j hj), hc j hj⟩

end Go.Proofs.Ythjomknhbfplnaa
