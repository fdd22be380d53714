/- The kinds' names: contract. -/
import Derived.Test.YtdmbenhhjpeepaaDoorPMin
import Derived.Test.YtdmbenhhjpeepaaDoorLaidStr
namespace Go.Proofs.YtdmbenhhjpeepaaDoor
open Go Go.RowKit
set_option maxRecDepth 100000
def nmS : List (List UInt8) := [[102, 117, 108, 108], [103, 114, 101, 97, 116], [115, 109, 97, 108, 108], [119, 104, 111, 108, 101]]
/-- The variable names holds the names. -/
def Nam (w : World) : Prop := ∀ j s, nmS[j]? = some s → w.cell? ⟨0, j, none⟩ = some (strV s)
theorem Nam.lt {w : World} (h : Nam w) : 0 < w.heap.size := block_lt_of_cell (h 0 _ rfl)
theorem Nam.below {w w' : World} {B : Nat} (h : Nam w) (hb : Below B w w') (hB : 0 < B) : Nam w' := fun j s hj => by
  rw [hb.cell (p := ⟨0, j, none⟩) hB]; exact h j s hj
def nmOf (k : Int) : List UInt8 := if 0 ≤ k ∧ k < 4 then nmS.getD k.toNat [] else []
theorem nmS_at (j : Nat) (h : j < 4) : nmS[j]? = some (nmS.getD j []) := by
  have e : j < nmS.length := h
  simp [List.getD, e]
theorem Name_any (k : Int) (w : World) (hN : Nam w) : Calls Tryd.prog 13 #[.int .i64 k] w fun e w' => e = .returned (strV (nmOf k)) ∧ w = w' := by
  go_enter Tryd.func13, Tryd.ntmps13
  by_cases hk : 0 ≤ k ∧ k < 4
  · have h0 := hk.1
    have h1 := hk.2
    have hc := hN k.toNat _ (nmS_at k.toNat (by omega))
    have hx : nmOf k = nmS.getD k.toNat [] := by unfold nmOf; rw [if_pos hk]
    have e1 : (k < 0) = False := eq_false (by omega)
    have e2 : (4 ≤ k) = False := eq_false (by omega)
    have HX := Lib.hid hx
    clear hk hx hN
    go_wp2_with fail
    all_goals (try (exfalso; omega))
    go_returns
    exact ⟨by rw [HX.out]; rfl, rfl⟩
  · have hx : nmOf k = [] := by unfold nmOf; rw [if_neg hk]
    have HX := Lib.hid hx
    clear hx hN
    by_cases h0 : k < 0
    · have e1 : (k < 0) = True := eq_true h0
      clear hk h0
      go_wp2_with fail
      go_returns
      exact ⟨by rw [HX.out]; rfl, rfl⟩
    · have e1 : (k < 0) = False := eq_false h0
      have e2 : (4 ≤ k) = True := eq_true (by omega)
      clear hk h0
      go_wp2_with fail
      go_returns
      exact ⟨by rw [HX.out]; rfl, rfl⟩
end Go.Proofs.YtdmbenhhjpeepaaDoor
