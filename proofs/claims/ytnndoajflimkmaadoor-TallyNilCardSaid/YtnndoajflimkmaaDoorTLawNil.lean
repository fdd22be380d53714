/- TallyNil: its walk. -/
import Derived.Test.YtnndoajflimkmaaDoorTWakes
namespace Go.Proofs.YtnndoajflimkmaaDoor
open Go Go.RowKit
set_option maxRecDepth 100000
theorem nil_walk (d k s n : Int) (w : World) (hN : Nam w) : Calls Tryd.prog 6 #[.agg #[.int .i64 d, .int .i64 k, .int .i64 s, .int .i64 n]] w fun e w' => e = .returned (.bool true) ∧ Below w.heap.size w w' := by
  have hlt := hN.lt
  have HN := Lib.hid hN
  clear hN
  go_enter Tryd.func6, Tryd.ntmps6
  go_wp2_with (first | (go_at_call 8; refine (Add_nil _ _ _).mono ?_; rintro e w' ⟨rfl, rfl⟩) | (go_at_call 15; refine (Note_nil _ _).mono ?_; rintro e w' ⟨rfl, rfl⟩) | (go_at_call 20; refine (Reset_nil _).mono ?_; rintro e w' ⟨rfl, rfl⟩))
  have hB : Below w.heap.size w (w.alloc (.cells #[.int .i64 d, .int .i64 k, .int .i64 s, .int .i64 n] 44)) := (by repeat' (first | (with_reducible exact Below.refl _ _) | (with_reducible assumption) | (with_reducible refine Below.setCell ?_ ?_ _) | (with_reducible refine Below.ext ?_ _ ?_) | (with_reducible refine Below.alloc ?_ ?_ _) | (with_reducible refine Below.drew ?_) | (with_reducible refine Below.drewN ?_ _) | (with_reducible exact Nat.le_refl _) | (dsimp only; omega) | (simp <;> omega)))
  have hr : (w.alloc (.cells #[.int .i64 d, .int .i64 k, .int .i64 s, .int .i64 n] 44)).row w.heap.size [.int .i64 d, .int .i64 k, .int .i64 s, .int .i64 n] 44 := World.row.new _ _ _
  refine Calls.pure_to (wakes_any _ (HN.out.below hB hlt)) ?_
  intro w1 hb1
  have B1 := hB.trans (hb1.mono hB.size)
  have r1 := hr.below hb1 hr.lt
  clear hb1 hr hB
  obtain ⟨c0, c1, c2, c3, z0⟩ := r1.four
  go_wp2_with (first | (go_at_call 18; refine (Get_nil _ _).mono ?_; rintro e w' ⟨rfl, rfl⟩) | (go_at_call 16; refine (Bars_nil _).mono ?_; rintro e w' ⟨rfl, rfl⟩) | (go_at_call 17; refine (Most_nil _).mono ?_; rintro e w' ⟨rfl, rfl⟩))
  refine Calls.pure_to (Part_nil _) ?_
  intro w2 hb2
  have B2 := B1.trans (hb2.mono B1.size)
  go_wp2
  go_returns
  exact ⟨rfl, B2⟩
end Go.Proofs.YtnndoajflimkmaaDoor
