/- The laws' signs of life: a contract. -/
import Derived.Test.YtnndoajflimkmaaDoorTPart
namespace Go.Proofs.YtnndoajflimkmaaDoor
open Go Go.RowKit
set_option maxRecDepth 100000
theorem bl5 : bl 5 = 3 := by decide +kernel
theorem bl0 : bl 0 = 0 := by decide +kernel
/-- The counts behind the signs' calls. -/
def wkF : Nat → Int := noteS (noteS (addS (addS zeroF 2 3) 3 1) 5) 0
set_option maxHeartbeats 1000000 in
theorem wakes_any (w : World) (hN : Nam w) : Calls Tryd.prog 12 #[] w fun e w' => e = .returned (.bool true) ∧ Below w.heap.size w w' := by
  have hlt := hN.lt
  have HN := Lib.hid hN
  clear hN
  have f1 := fine_zero.add 2 3
  have f2 := f1.add 3 1
  have f3 := f2.note 5 (by decide)
  have f4 := f3.note 0 (by decide)
  go_enter Tryd.func12, Tryd.ntmps12
  go_wp2_with fail
  refine (New_any w).mono ?_
  rintro e w0 ⟨rfl, hw0⟩
  have r0 : w0.row w.heap.size (cel zeroF) tT := by rw [hw0]; exact World.row.new _ _ _
  have B0 : Below w.heap.size w w0 := by rw [hw0]; exact (by repeat' (first | (with_reducible exact Below.refl _ _) | (with_reducible assumption) | (with_reducible refine Below.setCell ?_ ?_ _) | (with_reducible refine Below.ext ?_ _ ?_) | (with_reducible refine Below.alloc ?_ ?_ _) | (with_reducible refine Below.drew ?_) | (with_reducible refine Below.drewN ?_ _) | (with_reducible exact Nat.le_refl _) | (dsimp only; omega) | (simp <;> omega)))
  clear hw0
  obtain ⟨g, hg⟩ : ∃ g, g = w.heap.size := ⟨_, rfl⟩
  rw [← hg] at r0 ⊢
  have hg1 : w.heap.size ≤ g := by omega
  clear hg
  go_wp2_with fail
  refine Calls.turn_to (Add_any g 2 3 zeroF _ r0 fine_zero (by decide)) ?_
  intro w1 h1
  have B1 := h1.below B0 B0.size hg1
  have r1 := h1.rowOf
  clear h1 r0 B0
  go_wp2_with fail
  refine Calls.turn_to (Add_any g 3 1 _ _ r1 f1 (by decide)) ?_
  intro w2 h2
  have B2 := h2.below B1 B1.size hg1
  have r2 := h2.rowOf
  clear h2 r1 B1
  go_wp2_with fail
  refine Calls.turn_to (Note_any g 5 _ _ r2 f2 (by decide)) ?_
  intro w3 h3
  have B3 := h3.below B2 B2.size hg1
  have r3 := h3.rowOf
  clear h3 r2 B2
  go_wp2_with fail
  refine Calls.turn_to (Note_any g 0 _ _ r3 f3 (by decide)) ?_
  intro w4 h4
  have B4 := h4.below B3 B3.size hg1
  have r4 : w4.row g (cel wkF) tT := h4.rowOf
  clear h4 r3 B3 f1 f2 f3 f4
  go_wp2_with fail
  refine (Bars_any g wkF _ r4).mono ?_
  rintro e w5 ⟨⟨v, rfl, hv⟩, hb5⟩
  have B5 := B4.trans (hb5.mono B4.size)
  have r5 := r4.below hb5 r4.lt
  clear r4 B4 hb5
  rw [show barsL wkF (lastTo wkF 64) = [.int .i64 1, .int .i64 0, .int .i64 0, .int .i64 1] from by kernel_rfl] at hv
  go_wp2_with fail
  refine Calls.pure_to (Part_small g 3 1 3000 2 3 wkF _ r5 (by decide) (by decide) (by decide) (by decide) (by decide +kernel) (by decide +kernel) (by decide) (by decide) (by decide) (by decide)) ?_
  intro w6 hb6
  have B6 := B5.trans (hb6.mono B5.size)
  have r6 := r5.below hb6 r5.lt
  have hv6 := hv.below hb6 (Nat.le_refl _)
  clear hv hb6 r5 B5
  have HN6 := Lib.hid (HN.out.below B6 hlt)
  have m73 : wkF 73 = 5 := by decide +kernel
  have hM := Most_any g wkF w6 r6
  rw [m73] at hM
  rcases hv6.cases with ⟨h, _⟩ | ⟨_, b, o, c, rfl, hc⟩
  · cases h
  have c0 := hc 0 _ rfl
  have c3 := hc 3 _ rfl
  rw [Nat.add_zero] at c0
  clear hc hv6 r6 m73
  go_wp2_with (first | (go_at_call 17; refine hM.mono ?_; rintro e w' ⟨rfl, rfl⟩) | (go_at_call 13; refine (Name_any 8 _ HN6.out).mono ?_; rintro e w' ⟨rfl, rfl⟩))
  go_returns
  exact ⟨rfl, B6⟩
end Go.Proofs.YtnndoajflimkmaaDoor
