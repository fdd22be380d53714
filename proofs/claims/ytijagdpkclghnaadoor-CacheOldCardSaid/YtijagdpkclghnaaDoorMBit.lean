import Derived.Test.YtijagdpkclghnaaDoorMOps
namespace Go.Proofs.YtijagdpkclghnaaDoor
open Go Go.RowKit
set_option maxRecDepth 100000
theorem may_yes (i : Nat) (w : World) (h : i < 256) : Calls Tryd.prog 52 #[.int .i64 (i : Int)] w fun e w' => e = .returned (.bool true) ∧ w = w' := by
  have h0 : decide ((0 : Int) ≤ (i : Int)) = true := by simp
  have h1 : decide ((i : Int) < 256) = true := by simp; omega
  go_enter Tryd.func52, Tryd.ntmps52
  go_wp2
  go_ret
  exact ⟨rfl, rfl⟩
theorem may_no (i : Int) (w : World) (h : i < 0 ∨ 256 ≤ i) : Calls Tryd.prog 52 #[.int .i64 i] w fun e w' => e = .returned (.bool false) ∧ w = w' := by
  rcases h with h | h
  · have h0 : decide (0 ≤ i) = false := by simp; omega
    go_enter Tryd.func52, Tryd.ntmps52
    go_wp2
    go_ret
    exact ⟨rfl, rfl⟩
  · have h0 : decide (0 ≤ i) = true := by simp; omega
    have h1 : decide (i < 256) = false := by simp; omega
    go_enter Tryd.func52, Tryd.ntmps52
    go_wp2
    go_ret
    exact ⟨rfl, rfl⟩
theorem bit_any (i k j : Nat) (w : World) (hi : i = 64 * k + j) (hk : k < 4) (hj : j < 64) : Calls Tryd.prog 53 #[.int .i64 (i : Int)] w fun e w' => e = .returned (.tuple #[.int .i64 (k : Int), .int .u64 ((2 ^ j : Nat) : Int)]) ∧ Below w.heap.size w w' := by
  have h0 : (0 : Int) ≤ (i : Int) := by omega
  have h1 : (i : Int) < 256 := by omega
  have H := Lib.hid hi
  clear hi
  go_enter Tryd.func53, Tryd.ntmps53
  go_wp2
  go_quiet (fail)
  go_wp2
  go_ret2
  have hi := H.out
  refine ⟨?_, (by repeat' (first | (with_reducible exact Below.refl _ _) | (with_reducible assumption) | (with_reducible refine Below.setCell ?_ ?_ _) | (with_reducible refine Below.ext ?_ _ ?_) | (with_reducible refine Below.alloc ?_ ?_ _) | (with_reducible refine Below.drew ?_) | (with_reducible refine Below.drewN ?_ _) | (with_reducible exact Nat.le_refl _) | (dsimp only; omega) | (simp <;> omega)))⟩
  show Ending.returned (.tuple #[.int .i64 ((i : Int) / 64), .int .u64 (IntKind.u64.wrap (2 ^ (i % 64)))]) = _
  rw [pow_wrap _ (Nat.mod_lt _ (by omega)), show (i : Int) / 64 = (k : Int) by omega, show i % 64 = j by omega]
theorem Has_no (s : Set4) (i : Int) (w : World) (h : i < 0 ∨ 256 ≤ i) : Calls Tryd.prog 30 #[s.val, .int .i64 i] w fun e w' => e = .returned (.bool false) ∧ Below w.heap.size w w' := by
  go_enter Tryd.func30, Tryd.ntmps30
  go_wp2_with (go_at_call 52; refine (may_no i _ h).mono ?_; rintro e w' ⟨rfl, rfl⟩)
  go_ret
  exact ⟨rfl, (by repeat' (first | (with_reducible exact Below.refl _ _) | (with_reducible assumption) | (with_reducible refine Below.setCell ?_ ?_ _) | (with_reducible refine Below.ext ?_ _ ?_) | (with_reducible refine Below.alloc ?_ ?_ _) | (with_reducible refine Below.drew ?_) | (with_reducible refine Below.drewN ?_ _) | (with_reducible exact Nat.le_refl _) | (dsimp only; omega) | (simp <;> omega)))⟩
set_option maxHeartbeats 1600000 in
theorem Has_yes (s : Set4) (i : Nat) (w : World) (h : i < 256) : Calls Tryd.prog 30 #[s.val, .int .i64 (i : Int)] w fun e w' => e = .returned (.bool (s.has i)) ∧ Below w.heap.size w w' := by
  obtain ⟨k, j, hk, hj, hi⟩ : ∃ k j, k < 4 ∧ j < 64 ∧ i = 64 * k + j := ⟨i / 64, i % 64, by omega, by omega, by omega⟩
  have hv := and_pow_ne (s.word k) j (s.word_lt k) hj
  rw [← Set4.has_at s k j hk hj, ← hi] at hv
  have HV := Lib.hid hv
  have HI := Lib.hid hi
  clear hv hi
  obtain rfl | rfl | rfl | rfl : k = 0 ∨ k = 1 ∨ k = 2 ∨ k = 3 := by omega
  all_goals
    go_enter Tryd.func30, Tryd.ntmps30
    go_wp2_with (go_at_call 52; refine (may_yes _ _ h).mono ?_; rintro e w' ⟨rfl, rfl⟩)
    refine Calls.pure_of (w.heap.size + 1) (by simp) (bit_any i _ j _ HI.out hk hj) ?_
    intro x
    go_wp2
    go_ret
    exact ⟨congrArg (fun z => Ending.returned (.bool z)) HV.out, (by repeat' (first | (with_reducible exact Below.refl _ _) | (with_reducible assumption) | (with_reducible refine Below.setCell ?_ ?_ _) | (with_reducible refine Below.ext ?_ _ ?_) | (with_reducible refine Below.alloc ?_ ?_ _) | (with_reducible refine Below.drew ?_) | (with_reducible refine Below.drewN ?_ _) | (with_reducible exact Nat.le_refl _) | (dsimp only; omega) | (simp <;> omega)))⟩
end Go.Proofs.YtijagdpkclghnaaDoor
