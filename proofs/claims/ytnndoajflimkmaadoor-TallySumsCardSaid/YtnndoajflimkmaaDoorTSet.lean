/- The 74 counts of a tally as one row of cells; what its calls make of them: plain laws. -/
import Derived.Test.YtnndoajflimkmaaDoorExt3
import Derived.Lib.BitFns
namespace Go.Proofs.YtnndoajflimkmaaDoor
open Go Go.RowKit
/-- The greatest count. -/
abbrev GR : Int := 4611686018427387904
def cel (f : Nat → Int) : List Value := (List.range 74).map fun i => .int .i64 (f i)
theorem cel_len (f : Nat → Int) : (cel f).length = 74 := by simp [cel]
theorem cel_get (f : Nat → Int) (i : Nat) (h : i < 74) : (cel f)[i]? = some (.int .i64 (f i)) := by simp [cel, h]
theorem cel_ext {f h : Nat → Int} (e : ∀ i, i < 74 → f i = h i) : cel f = cel h := by
  unfold cel
  exact List.map_congr_left fun i hi => by rw [e i (by simpa using hi)]
def put (f : Nat → Int) (i : Nat) (v : Int) : Nat → Int := fun j => if j = i then v else f j
theorem put_at (f : Nat → Int) (i : Nat) (v : Int) : put f i v i = v := by simp [put]
theorem put_ne (f : Nat → Int) (i j : Nat) (v : Int) (h : j ≠ i) : put f i v j = f j := by simp [put, h]
theorem put_put (f : Nat → Int) (i : Nat) (u v : Int) : put (put f i u) i v = put f i v := by funext j; unfold put; split <;> rfl
theorem put_same (f : Nat → Int) (i : Nat) : put f i (f i) = f := by
  funext j; unfold put; split
  · next h => rw [h]
  · rfl
theorem put_comm (f : Nat → Int) (i j : Nat) (u v : Int) (h : i ≠ j) : put (put f i u) j v = put (put f j v) i u := by
  funext k; unfold put; by_cases h1 : k = i <;> by_cases h2 : k = j <;> simp_all
theorem cel_set (f : Nat → Int) (i : Nat) (v : Int) : (cel f).set i (.int .i64 v) = cel (put f i v) := by
  apply List.ext_getElem?
  intro j
  rw [List.getElem?_set]
  by_cases h : i = j
  · subst h
    by_cases h2 : i < 74
    · rw [if_pos rfl, if_pos (by rw [cel_len]; exact h2), cel_get _ _ h2, put_at]
    · have : ¬ i < (cel f).length := by rw [cel_len]; exact h2
      rw [if_pos rfl, if_neg this, List.getElem?_eq_none (by rw [cel_len]; omega)]
  · rw [if_neg h]
    by_cases h2 : j < 74
    · rw [cel_get _ _ h2, cel_get _ _ h2, put_ne _ _ _ _ (Ne.symm h)]
    · rw [List.getElem?_eq_none (by rw [cel_len]; omega), List.getElem?_eq_none (by rw [cel_len]; omega)]
def zeroF : Nat → Int := fun _ => 0
/-- One count goes up. -/
def upS (a n : Int) : Int := a + min n (GR - a)
def addS (f : Nat → Int) (k n : Int) : Nat → Int := if 0 ≤ k ∧ k < 9 ∧ 0 < n then put f k.toNat (upS (f k.toNat) n) else f
def bl (s : Int) : Nat := Lib.bitLen (max 0 s).toNat
def noteS (f : Nat → Int) (s : Int) : Nat → Int := put (put f (9 + bl s) (upS (f (9 + bl s)) 1)) 73 (max (f 73) s)
/-- All counts are counts. -/
structure Fine (f : Nat → Int) : Prop where
  lo : ∀ i, 0 ≤ f i
  hi : ∀ i, i < 73 → f i ≤ GR
  top : f 73 ≤ 9223372036854775807
theorem upS_le {a n : Int} (_ : a ≤ GR) : upS a n ≤ GR := by unfold upS; omega
theorem upS_ge {a n : Int} (h : a ≤ GR) (hn : 0 ≤ n) : a ≤ upS a n := by unfold upS; omega
theorem fine_zero : Fine zeroF := ⟨fun _ => Int.le_refl _, fun _ _ => by show (0 : Int) ≤ _; decide, by show (0 : Int) ≤ _; decide⟩
theorem Fine.put {f : Nat → Int} (h : Fine f) (i : Nat) (v : Int) (hi : i < 73) (h0 : 0 ≤ v) (h1 : v ≤ GR) : Fine (put f i v) := by
  refine ⟨fun j => ?_, fun j hj => ?_, ?_⟩
  · unfold YtnndoajflimkmaaDoor.put; split
    · exact h0
    · exact h.lo j
  · unfold YtnndoajflimkmaaDoor.put; split
    · exact h1
    · exact h.hi j hj
  · rw [put_ne _ _ _ _ (by omega)]; exact h.top
theorem Fine.puttop {f : Nat → Int} (h : Fine f) (v : Int) (h0 : 0 ≤ v) (h1 : v ≤ 9223372036854775807) : Fine (YtnndoajflimkmaaDoor.put f 73 v) := by
  refine ⟨fun j => ?_, fun j hj => ?_, ?_⟩
  · unfold YtnndoajflimkmaaDoor.put; split
    · exact h0
    · exact h.lo j
  · rw [put_ne _ _ _ _ (by omega)]; exact h.hi j hj
  · rw [put_at]; exact h1
theorem bl_lt (s : Int) (h : s ≤ 9223372036854775807) : bl s < 64 := by
  unfold bl
  have := Lib.bitLen_le (max 0 s).toNat 63 (by omega) (by omega)
  omega
theorem Fine.add {f : Nat → Int} (h : Fine f) (k n : Int) : Fine (addS f k n) := by
  unfold addS
  split
  · next hc =>
    have h1 := h.hi k.toNat (by omega)
    have h2 := h.lo k.toNat
    exact h.put _ _ (by omega) (Int.le_trans h2 (upS_ge h1 (by omega))) (upS_le h1)
  · exact h
theorem Fine.note {f : Nat → Int} (h : Fine f) (s : Int) (hs : s ≤ 9223372036854775807) : Fine (noteS f s) := by
  unfold noteS
  have hb := bl_lt s hs
  have h1 := h.hi (9 + bl s) (by omega)
  have h2 := h.lo (9 + bl s)
  have h3 := h.lo 73
  have h4 := h.top
  exact (h.put _ _ (by omega) (Int.le_trans h2 (upS_ge h1 (by omega))) (upS_le h1)).puttop _ (by omega) (by omega)
/-! What a call that turns one block leaves. -/
def Turned (w w' : World) (g : Nat) (cs : List Value) (t : TypeId) : Prop := w.grownBy w' (some g) ∧ w'.row g cs t
variable {w w' : World} {g : Nat} {cs : List Value} {t : TypeId}
theorem Turned.rowOf (h : Turned w w' g cs t) : w'.row g cs t := h.2
theorem Turned.other (h : Turned w w' g cs t) {b : Nat} {ds : List Value} {t' : TypeId} (hr : w.row b ds t') (hn : b ≠ g) : w'.row b ds t' := hr.grown h.1 (by simpa using hn)
theorem Turned.size (h : Turned w w' g cs t) : w.heap.size ≤ w'.heap.size := h.1.size
theorem Turned.below (h : Turned w w' g cs t) {B : Nat} {u : World} (hb : Below B u w) (hB : B ≤ w.heap.size) (hg : B ≤ g) : Below B u w' := hb.grown h.1 hB (fun k hk => by cases hk; exact hg)
theorem Turned.under (h : Turned w w' g cs t) {B : Nat} (hB : B ≤ w.heap.size) (hg : B ≤ g) : Below B w w' := h.below (Below.refl _ _) hB hg
theorem Turned.trans {w'' : World} {ds : List Value} (h : Turned w w' g cs t) (h2 : Turned w' w'' g ds t) : Turned w w'' g ds t :=
  ⟨⟨h2.1.os.trans h.1.os, h2.1.tape.trans h.1.tape, h2.1.output.trans h.1.output, Nat.le_trans h.1.size h2.1.size, fun k hk hn => (h2.1.block k (Nat.lt_of_lt_of_le hk h.1.size) hn).trans (h.1.block k hk hn)⟩, h2.2⟩
theorem Turned.same (h : w.row g cs t) : Turned w w g cs t := ⟨World.grownBy.refl _ _, h⟩
theorem Turned.of_below (h : w.row g cs t) (hb : Below w.heap.size w w') : Turned w w' g cs t := ⟨hb.grownBy _, h.below hb h.lt⟩
theorem Turned.set (h : w.row g cs t) (i : Nat) (v : Value) : Turned w (w.setCell ⟨g, i, none⟩ v) g (cs.set i v) t :=
  ⟨⟨rfl, rfl, rfl, by simp [World.setCell], fun k _ hn => by simp [World.setCell, Array.getElem?_modify, show g ≠ k from fun e => hn (by rw [e])]⟩, h.set i v⟩
theorem Calls.turn_to {P : Program} {f : FuncId} {args : Array Value} {v : Value} {R : Ending → World → Prop}
    (h : Calls P f args w fun e w' => e = .returned v ∧ Turned w w' g cs t) (k : ∀ w', Turned w w' g cs t → R (.returned v) w') : Calls P f args w R :=
  h.mono fun _ w' ⟨he, hm⟩ => he ▸ k w' hm
end Go.Proofs.YtnndoajflimkmaaDoor
