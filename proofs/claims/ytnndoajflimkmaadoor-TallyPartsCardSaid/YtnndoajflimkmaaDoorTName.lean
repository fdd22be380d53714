/- The kinds' names: contracts. -/
import Derived.Test.YtnndoajflimkmaaDoorTRef
import Derived.Test.YtnndoajflimkmaaDoorLaidStr
namespace Go.Proofs.YtnndoajflimkmaaDoor
open Go Go.RowKit
set_option maxRecDepth 100000
def nmS : List (List UInt8) := [[114, 101, 97, 100, 115], [119, 114, 105, 116, 101, 115], [104, 105, 116, 115], [109, 105, 115, 115, 101, 115], [98, 97, 116, 99, 104, 101, 115], [115, 109, 97, 108, 108], [103, 114, 101, 97, 116], [102, 105, 120, 101, 100], [97, 104, 101, 97, 100]]
/-- The variable names holds the names. -/
def Nam (w : World) : Prop := ∀ j s, nmS[j]? = some s → w.cell? ⟨0, j, none⟩ = some (strV s)
theorem Nam.lt {w : World} (h : Nam w) : 0 < w.heap.size := block_lt_of_cell (h 0 _ rfl)
theorem Nam.below {w w' : World} {B : Nat} (h : Nam w) (hb : Below B w w') (hB : 0 < B) : Nam w' := fun j s hj => by
  rw [hb.cell (p := ⟨0, j, none⟩) hB]; exact h j s hj
def nmOf (k : Int) : List UInt8 := if 0 ≤ k ∧ k < 9 then nmS.getD k.toNat [] else []
theorem nmS_at (j : Nat) (h : j < 9) : nmS[j]? = some (nmS.getD j []) := by
  have e : j < nmS.length := h
  simp [List.getD, e]
theorem Name_any (k : Int) (w : World) (hN : Nam w) : Calls Tryd.prog 13 #[.int .i64 k] w fun e w' => e = .returned (strV (nmOf k)) ∧ w = w' := by
  go_enter Tryd.func13, Tryd.ntmps13
  by_cases hk : 0 ≤ k ∧ k < 9
  · have e1 : decide (0 ≤ k ∧ k < 9) = true := decide_eq_true hk
    have h0 := hk.1
    have h1 := hk.2
    have hc := hN k.toNat _ (nmS_at k.toNat (by omega))
    have hx : nmOf k = nmS.getD k.toNat [] := by unfold nmOf; rw [if_pos hk]
    go_wp2_with (first | (go_at_call 22; refine (is_any _ _).mono ?_; rintro e w' ⟨rfl, rfl⟩))
    all_goals (try (exfalso; omega))
    go_returns
    exact ⟨by first | rfl | (rw [hx]; rfl), rfl⟩
  · have e1 : decide (0 ≤ k ∧ k < 9) = false := decide_eq_false hk
    have hx : nmOf k = [] := by unfold nmOf; rw [if_neg hk]
    go_wp2_with (first | (go_at_call 22; refine (is_any _ _).mono ?_; rintro e w' ⟨rfl, rfl⟩))
    all_goals (try (exfalso; omega))
    go_returns
    exact ⟨by first | rfl | (rw [hx]; rfl), rfl⟩
theorem refName_any (k : Int) (w : World) : Calls Tryd.prog 14 #[.int .i64 k] w fun e w' => e = .returned (strV (nmOf k)) ∧ Below w.heap.size w w' := by
  go_enter Tryd.func14, Tryd.ntmps14
  by_cases hk : 0 ≤ k ∧ k < 9
  · have h0 := hk.1
    have h1 := hk.2
    have e1 : (k < 0) = False := eq_false (by omega)
    have e2 : (9 ≤ k) = False := eq_false (by omega)
    have hx : nmOf k = nmS.getD k.toNat [] := by unfold nmOf; rw [if_pos hk]
    go_upto_region 2 with fail
    refine wp_world (fun wc => Below w.heap.size w wc ∧ wc.row w.heap.size (nmS.map strV) 9) ⟨(by repeat' (first | (with_reducible exact Below.refl _ _) | (with_reducible assumption) | (with_reducible refine Below.setCell ?_ ?_ _) | (with_reducible refine Below.ext ?_ _ ?_) | (with_reducible refine Below.alloc ?_ ?_ _) | (with_reducible refine Below.drew ?_) | (with_reducible refine Below.drewN ?_ _) | (with_reducible exact Nat.le_refl _) | (dsimp only; omega) | (simp <;> omega))), World.row.new w (nmS.map strV) 9⟩ ?_
    intro wc ⟨hB, hr⟩
    have hc := hr.cell k.toNat (show (nmS.map strV)[k.toNat]? = some (strV (nmS.getD k.toNat [])) by rw [List.getElem?_map, nmS_at _ (by omega)]; rfl)
    go_wp2_with fail
    all_goals (try (exfalso; omega))
    go_returns
    exact ⟨by first | rfl | (rw [hx]; rfl), hB⟩
  · have hx : nmOf k = [] := by unfold nmOf; rw [if_neg hk]
    by_cases h0 : k < 0
    · go_wp2_with fail
      go_returns
      exact ⟨by first | rfl | (rw [hx]; rfl), (by repeat' (first | (with_reducible exact Below.refl _ _) | (with_reducible assumption) | (with_reducible refine Below.setCell ?_ ?_ _) | (with_reducible refine Below.ext ?_ _ ?_) | (with_reducible refine Below.alloc ?_ ?_ _) | (with_reducible refine Below.drew ?_) | (with_reducible refine Below.drewN ?_ _) | (with_reducible exact Nat.le_refl _) | (dsimp only; omega) | (simp <;> omega)))⟩
    · have e2 : (9 ≤ k) = True := eq_true (by omega)
      go_wp2_with fail
      all_goals (try (exfalso; omega))
      go_returns
      exact ⟨by first | rfl | (rw [hx]; rfl), (by repeat' (first | (with_reducible exact Below.refl _ _) | (with_reducible assumption) | (with_reducible refine Below.setCell ?_ ?_ _) | (with_reducible refine Below.ext ?_ _ ?_) | (with_reducible refine Below.alloc ?_ ?_ _) | (with_reducible refine Below.drew ?_) | (with_reducible refine Below.drewN ?_ _) | (with_reducible exact Nat.le_refl _) | (dsimp only; omega) | (simp <;> omega)))⟩
end Go.Proofs.YtnndoajflimkmaaDoor
