/- The cache law's wakes: contract. -/
import Derived.Test.YtijagdpkclghnaaDoorCCol
namespace Go.Proofs.YtijagdpkclghnaaDoor
open Go Go.RowKit
set_option maxRecDepth 100000
variable {B n data : Nat} {w w' : World} {C C' : CM} {T T' : TS} {L L' : List Int} {f f' : Int → Option Ent} {E : Ent} {t : Int} {c : Nat} {old now s : ByteArray} {d : Bool}
theorem ColAt.there (h : ColAt f t c old now d) (hn : now ≠ noB) : ∃ E, f t = some E := by
  rcases h with ⟨_, _, h3, _⟩ | ⟨E, h1, _⟩
  · exact absurd h3 hn
  · exact ⟨E, h1⟩
/-- A cache, one column of it, all behind some world. -/
structure Run (B n data : Nat) (u w : World) (g : Nat) (C : CM) (T : TS) (L : List Int) (f : Int → Option Ent) (t : Int) (c : Nat) (old now : ByteArray) (d : Bool) : Prop where
  at_ : CacheAt B n data w C T L f
  col : ColAt f t c old now d
  g : C.g = g
  b : Below B u w
theorem Run.below {u : World} {g : Nat} (h : Run B n data u w g C T L f t c old now d) (hb : Below w.heap.size w w') : Run B n data u w' g C T L f t c old now d :=
  ⟨h.at_.below hb, h.col, h.g, h.b.trans (hb.mono (Nat.le_trans h.at_.bg (Nat.le_of_lt h.at_.row.lt)))⟩
theorem Run.mono {u : World} {g m : Nat} (h : Run B n data u w g C T L f t c old now d) (hm : n ≤ m) : Run B m data u w g C T L f t c old now d := ⟨h.at_.mono hm, h.col, h.g, h.b⟩
theorem Run.step {u : World} {g m : Nat} {o' n' : ByteArray} {d' : Bool} (h : Run B n data u w g C T L f t c old now d) (hs : CStep C f C' f' w w') (ha : CacheAt B m data w' C' T' L' f') (hc : ColAt f' t c o' n' d') : Run B m data u w' g C' T' L' f' t c o' n' d' :=
  ⟨ha, hc, hs.g.trans h.g, hs.under h.at_ h.b⟩
theorem fillRun {u : World} {g : Nat} (h : Run B n data u w g C T L f t c old now d) (ht : 0 ≤ t) (ht2 : t < 64) (hc : c < data) (hs : s.size = 64) (hr : f t ≠ none ∨ T.full = false) (hn : n < 90000) :
    Calls Tryd.prog 11 #[pt g, .int .i64 t, .int .i64 (c : Int), .string s] w fun e w' => e = .returned (.int .i64 0) ∧ ∃ (C' : CM) (T' : TS) (L' : List Int) (f' : Int → Option Ent), Run B (n + 1) data u w' g C' T' L' f' t c s (if d = true then now else s) d ∧ f' t ≠ none := by
  have hs2 : s ≠ noB := fun e => by rw [e] at hs; cases hs
  have hg := h.g
  subst hg
  refine (Fill_any t c s w h.at_ ht ht2 hc hs hr hn).mono ?_
  rintro e w' ⟨rfl, w1, C1, E, T1, L1, f1, ho, hA, hS⟩
  exact ⟨rfl, C1, T1, L1, _, h.step hS hA (h.col.fill ho hc hs2), by rw [upd_same]; simp⟩
theorem putRun {u : World} {g : Nat} (h : Run B n data u w g C T L f t c old now d) (ht : 0 ≤ t) (ht2 : t < 64) (hc : c < data) (hs : s.size = 64) (hr : f t ≠ none ∨ T.full = false) (hn : n < 90000) :
    Calls Tryd.prog 10 #[pt g, .int .i64 t, .int .i64 (c : Int), .string s] w fun e w' => e = .returned (.int .i64 0) ∧ ∃ (C' : CM) (T' : TS) (L' : List Int) (f' : Int → Option Ent), Run B (n + 2) data u w' g C' T' L' f' t c old s true ∧ f' t ≠ none := by
  have hs2 : s ≠ noB := fun e => by rw [e] at hs; cases hs
  have hg := h.g
  subst hg
  refine (Put_any t c s w h.at_ ht ht2 hc hs hr hn).mono ?_
  rintro e w' ⟨rfl, w1, C1, E, T1, L1, f1, C', ho, hA, hS⟩
  exact ⟨rfl, C', _, L1, _, h.step hS hA (h.col.put ho hc hs2), by rw [upd_same]; simp⟩
theorem oldRun {u : World} {g : Nat} (h : Run B n data u w g C T L f t c old now d) (ht : 0 ≤ t) (ht2 : t < 64) (hc : c < data) :
    Calls Tryd.prog 13 #[pt g, .int .i64 t, .int .i64 (c : Int)] w fun e w' => e = .returned (.tuple #[.string old, .bool (!decide (old = noB))]) ∧ Run B n data u w' g C T L f t c old now d := by
  have hg := h.g
  subst hg
  refine (Old_any t c w h.at_ ⟨by omega, by omega⟩ hc).mono ?_
  rintro e w' ⟨rfl, hb⟩
  have h2 := h.below hb
  rw [h.col.told.1, h.col.told.2]
  exact ⟨rfl, h2⟩
theorem getRun {u : World} {g : Nat} (h : Run B n data u w g C T L f t c old now d) (ht : 0 ≤ t) (ht2 : t < 64) (hc : c < data) :
    Calls Tryd.prog 14 #[pt g, .int .i64 t, .int .i64 (c : Int)] w fun e w' => e = .returned (.tuple #[.string now, .bool (!decide (now = noB))]) ∧ ∃ (C' : CM) (T' : TS), Run B n data u w' g C' T' L f t c old now d := by
  have hg := h.g
  subst hg
  refine (Get_any t c w h.at_ ⟨by omega, by omega⟩ hc).mono ?_
  rintro e w' ⟨rfl, M', hA, hS⟩
  rw [h.col.tnow.1, h.col.tnow.2]
  exact ⟨rfl, _, _, h.step hS hA h.col⟩
theorem doneRun {u : World} {g : Nat} (h : Run B n data u w g C T L f t c old now d) (ht : 0 ≤ t) (ht2 : t < 64) (hc : c < data) (hT : Tab w) (hn : n < 90000) :
    Calls Tryd.prog 12 #[pt g, .int .i64 t] w fun e w' => e = .returned (.bool (!decide (now = noB))) ∧ ∃ (C' : CM) (T' : TS) (f' : Int → Option Ent), Run B (n + 1) data u w' g C' T' L f' t c (if now = noB then old else now) now (if now = noB then d else false) ∧ (f' t = none ↔ f t = none) := by
  have hg := h.g
  subst hg
  rcases h.col with ⟨h1, h2, h3, h4⟩ | ⟨E, h1, h2, h3⟩
  · refine (Done_no t w h.at_ ⟨by omega, by omega⟩ h1).mono ?_
    rintro e w' ⟨rfl, rfl⟩
    rw [if_pos h3, if_pos h3, decide_eq_true h3]
    exact ⟨rfl, C, T, f, ⟨h.at_.mono (by omega), h.col, rfl, h.b⟩, Iff.rfl⟩
  · refine (Done_yes t w h.at_ ⟨by omega, by omega⟩ h1 hT hn).mono ?_
    rintro e w' ⟨rfl, C', hA, hS⟩
    rw [if_neg h3, if_neg h3, decide_eq_false h3]
    have := h.step hS hA (h.col.done h1 h.at_ hc)
    exact ⟨rfl, C', _, _, this, by rw [upd_same, h1]; simp⟩
theorem newRun (most limit data : Nat) (w : World) (t : Int) (c : Nat) (h1 : 1 ≤ most) (h2 : most ≤ 64) (h3 : limit < most) (h4 : 2 ≤ data) (h5 : data ≤ 30) :
    Calls Tryd.prog 7 #[.int .i64 (most : Int), .int .i64 (limit : Int), .int .i64 (data : Int)] w fun e w' => ∃ (g : Nat) (C : CM), e = .returned (.tuple #[pt g, .int .i64 0]) ∧ Run w.heap.size 0 data w w' g C ⟨most, limit, [], [], []⟩ [] (fun _ => none) t c noB noB false := by
  refine (CNew_ok (B := w.heap.size) most limit data w (Nat.le_refl _) h1 h2 h3 h4 h5).mono ?_
  rintro e w' ⟨C, rfl, hA, hb, _⟩
  exact ⟨C.g, C, rfl, hA, .inl ⟨rfl, rfl, rfl, rfl⟩, rfl, hb⟩
end Go.Proofs.YtijagdpkclghnaaDoor
