/- The makers of a turn, and of the document's; calls on a nil turn. -/
import Derived.Test.YtfbcgnehpkffeaaUSame
namespace Go.Proofs.Ytfbcgnehpkffeaa
open Go Go.RowKit
set_option maxRecDepth 100000
abbrev pn : Value := .pointer none
theorem New_no (most dear : Int) (w : World) (h : most < 1 ∨ 64 < most ∨ dear < 0 ∨ most ≤ dear) : Calls Try.prog 7 #[.int .i64 most, .int .i64 dear] w fun e w' => e = .returned (.tuple #[pn, .int .i64 2]) ∧ w = w' := by
  by_cases h1 : most < 1
  · go_enter Try.func7, Try.ntmps7
    go_wp2_with fail
    go_ret2
    exact ⟨rfl, rfl⟩
  · by_cases h2 : 64 < most
    · go_enter Try.func7, Try.ntmps7
      go_wp2_with fail
      go_ret2
      exact ⟨rfl, rfl⟩
    · by_cases h3 : dear < 0
      · go_enter Try.func7, Try.ntmps7
        go_wp2_with fail
        go_ret2
        exact ⟨rfl, rfl⟩
      · have h4 : most ≤ dear := by omega
        go_enter Try.func7, Try.ntmps7
        go_wp2_with fail
        go_ret2
        exact ⟨rfl, rfl⟩
theorem RNew_no (most dear : Int) (w : World) (h : most < 1 ∨ 64 < most ∨ dear < 0 ∨ most ≤ dear) : Calls Try.prog 8 #[.int .i64 most, .int .i64 dear] w fun e w' => e = .returned (.tuple #[pn, .int .i64 2]) ∧ w = w' := by
  by_cases h1 : most < 1
  · go_enter Try.func8, Try.ntmps8
    go_wp2_with fail
    go_ret2
    exact ⟨rfl, rfl⟩
  · by_cases h2 : 64 < most
    · go_enter Try.func8, Try.ntmps8
      go_wp2_with fail
      go_ret2
      exact ⟨rfl, rfl⟩
    · by_cases h3 : dear < 0
      · go_enter Try.func8, Try.ntmps8
        go_wp2_with fail
        go_ret2
        exact ⟨rfl, rfl⟩
      · have h4 : most ≤ dear := by omega
        go_enter Try.func8, Try.ntmps8
        go_wp2_with fail
        go_ret2
        exact ⟨rfl, rfl⟩
theorem RNew_ok {B : Nat} (most limit : Nat) (w : World) (hB : B ≤ w.heap.size) (h1 : 1 ≤ most) (h2 : most ≤ 64) (h3 : limit < most) :
    Calls Try.prog 8 #[.int .i64 (most : Int), .int .i64 (limit : Int)] w fun e w' => e = .returned (.tuple #[pt w.heap.size, .int .i64 0]) ∧ RefAt B w' w.heap.size (.slice none 0 0) ⟨most, limit, [], 0⟩ ∧ Below w.heap.size w w' := by
  go_enter Try.func8, Try.ntmps8
  go_wp2_with fail
  go_ret2
  exact ⟨rfl, ⟨World.row.new _ _ _, krow.nil _ _, by simp [Value.ownBlock], hB⟩, (by repeat' (first | (with_reducible exact Below.refl _ _) | (with_reducible assumption) | (with_reducible refine Below.setCell ?_ ?_ _) | (with_reducible refine Below.ext ?_ _ ?_) | (with_reducible refine Below.alloc ?_ ?_ _) | (with_reducible refine Below.drew ?_) | (with_reducible refine Below.drewN ?_ _) | (with_reducible exact Nat.le_refl _) | (dsimp only; omega) | (simp <;> omega)))⟩
theorem Has_nil (x : Int) (w : World) : Calls Try.prog 24 #[pn, .int .i64 x] w fun e w' => e = .returned (.tuple #[.bool false, .bool false]) ∧ w = w' := by
  go_enter Try.func24, Try.ntmps24
  go_wp2_with fail
  go_ret2
  exact ⟨rfl, rfl⟩
theorem Add_nil (x : Int) (w : World) : Calls Try.prog 10 #[pn, .int .i64 x] w fun e w' => e = .returned (.int .i64 1) ∧ w = w' := by
  go_enter Try.func10, Try.ntmps10
  go_wp2_with fail
  go_returns
  exact ⟨rfl, rfl⟩
theorem Touch_nil (x : Int) (w : World) : Calls Try.prog 11 #[pn, .int .i64 x] w fun e w' => e = .returned (.bool false) ∧ w = w' := by
  go_enter Try.func11, Try.ntmps11
  go_wp2_with fail
  go_returns
  exact ⟨rfl, rfl⟩
theorem Drop_nil (x : Int) (w : World) : Calls Try.prog 12 #[pn, .int .i64 x] w fun e w' => e = .returned (.bool false) ∧ w = w' := by
  go_enter Try.func12, Try.ntmps12
  go_wp2_with fail
  go_returns
  exact ⟨rfl, rfl⟩
theorem Pin_nil (x : Int) (on : Bool) (w : World) : Calls Try.prog 13 #[pn, .int .i64 x, .bool on] w fun e w' => e = .returned (.bool false) ∧ w = w' := by
  go_enter Try.func13, Try.ntmps13
  go_wp2_with fail
  refine (Has_nil x w).mono ?_
  rintro e w' ⟨rfl, rfl⟩
  go_wp2_with fail
  go_returns
  exact ⟨rfl, rfl⟩
theorem Full_nil (w : World) : Calls Try.prog 14 #[pn] w fun e w' => e = .returned (.bool true) ∧ w = w' := by
  go_enter Try.func14, Try.ntmps14
  go_wp2_with fail
  go_returns
  exact ⟨rfl, rfl⟩
theorem Order_nil (w : World) : Calls Try.prog 15 #[pn] w fun e w' => e = .returned (.slice none 0 0) ∧ w = w' := by
  go_enter Try.func15, Try.ntmps15
  go_wp2_with fail
  go_returns
  exact ⟨rfl, rfl⟩
end Go.Proofs.Ytfbcgnehpkffeaa
