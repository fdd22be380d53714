import Derived.Test.YtdmbenhhjpeepaaDoorMOf
import Derived.Test.YtdmbenhhjpeepaaDoorPop
import Derived.Lib.TrailingZeros
namespace Go.Proofs.YtdmbenhhjpeepaaDoor
open Go Go.RowKit
set_option maxRecDepth 100000
@[go_sem] theorem idx_set0 (w : World) (a0 a1 a2 a3 : Int) : (Instr.index 28 (.agg #[.int .u64 a0, .int .u64 a1, .int .u64 a2, .int .u64 a3]) (.int .i64 0)).run Tryd.prog w = .ok (.int .u64 a0) w := by kernel_rfl
@[go_sem] theorem idx_set1 (w : World) (a0 a1 a2 a3 : Int) : (Instr.index 28 (.agg #[.int .u64 a0, .int .u64 a1, .int .u64 a2, .int .u64 a3]) (.int .i64 1)).run Tryd.prog w = .ok (.int .u64 a1) w := by kernel_rfl
@[go_sem] theorem idx_set2 (w : World) (a0 a1 a2 a3 : Int) : (Instr.index 28 (.agg #[.int .u64 a0, .int .u64 a1, .int .u64 a2, .int .u64 a3]) (.int .i64 2)).run Tryd.prog w = .ok (.int .u64 a2) w := by kernel_rfl
@[go_sem] theorem idx_set3 (w : World) (a0 a1 a2 a3 : Int) : (Instr.index 28 (.agg #[.int .u64 a0, .int .u64 a1, .int .u64 a2, .int .u64 a3]) (.int .i64 3)).run Tryd.prog w = .ok (.int .u64 a3) w := by kernel_rfl
theorem beq_cast (a : Nat) : ((a : Int) == 0) = (a == 0) := by rw [Bool.eq_iff_iff]; simp
theorem Empty_any (s : Set4) (w : World) : Calls Tryd.prog 16 #[s.val] w fun e w' => e = .returned (.bool s.empty) ∧ Below w.heap.size w w' := by
  go_enter Tryd.func16, Tryd.ntmps16
  go_wp2
  go_ret
  refine ⟨congrArg (fun z => Ending.returned (.bool z)) ?_, (by repeat' (first | (with_reducible exact Below.refl _ _) | (with_reducible assumption) | (with_reducible refine Below.setCell ?_ ?_ _) | (with_reducible refine Below.ext ?_ _ ?_) | (with_reducible refine Below.alloc ?_ ?_ _) | (with_reducible refine Below.drew ?_) | (with_reducible refine Below.drewN ?_ _) | (with_reducible exact Nat.le_refl _) | (dsimp only; omega) | (simp <;> omega)))⟩
  unfold Set4.empty
  rw [beq_cast, beq_cast, beq_cast, beq_cast]
theorem Ones_any (x : Nat) (w : World) (hx : x < 18446744073709551616) : Calls Tryd.prog 36 #[.int .u64 (x : Int)] w fun e w' => e = .returned (.int .i64 (Set4.pop x 64 : Int)) ∧ w = w' := by
  have h1 : (0 : Int) ≤ (x : Int) := by omega
  have h2 : (x : Int) < 18446744073709551616 := by omega
  go_enter Tryd.func36, Tryd.ntmps36
  go_wp2
  go_ret
  exact ⟨congrArg (fun z => Ending.returned (.int .i64 z)) (Pop.ones x hx), rfl⟩
set_option maxHeartbeats 1000000 in
theorem Count_any (s : Set4) (w : World) : Calls Tryd.prog 17 #[s.val] w fun e w' => e = .returned (.int .i64 (s.count : Int)) ∧ Below w.heap.size w w' := by
  have ha := s.ha; have hb := s.hb; have hc := s.hc; have hd := s.hd
  have ka := Pop.popR_le 64 s.a; have kb := Pop.popR_le 64 s.b; have kc := Pop.popR_le 64 s.c; have kd := Pop.popR_le 64 s.d
  rw [← Pop.pop_eq] at ka kb kc kd
  go_enter Tryd.func17, Tryd.ntmps17
  go_wp2
  refine wp_loop_rounds 5 ?_
  repeat (rw [rounds_succ]; go_wp2_with (go_at_call 36; refine (Ones_any _ _ (by assumption)).mono ?_; rintro e w' ⟨rfl, rfl⟩))
  go_ret
  exact ⟨by unfold Set4.count; go_num, (by repeat' (first | (with_reducible exact Below.refl _ _) | (with_reducible assumption) | (with_reducible refine Below.setCell ?_ ?_ _) | (with_reducible refine Below.ext ?_ _ ?_) | (with_reducible refine Below.alloc ?_ ?_ _) | (with_reducible refine Below.drew ?_) | (with_reducible refine Below.drewN ?_ _) | (with_reducible exact Nat.le_refl _) | (dsimp only; omega) | (simp <;> omega)))⟩
theorem tz_key (x a : Nat) (hx : x < 18446744073709551616) (hx0 : x ≠ 0) (hlow : x &&& (18446744073709551616 - x) = a) :
    IntKind.u64.wrap (bits BinOp.and IntKind.u64 (x : Int) (IntKind.u64.wrap (-(x : Int))) * 285870213051353865) / 288230376151711744 = ((a * 285870213051353865 % 18446744073709551616 / 288230376151711744 : Nat) : Int) := by
  have e1 : IntKind.u64.wrap (-(x : Int)) = ((18446744073709551616 - x : Nat) : Int) := by rw [IntKind.wrap_u64]; omega
  rw [e1, u64_and_nat x _ hx (by omega), hlow, IntKind.wrap_u64]
  omega
end Go.Proofs.YtdmbenhhjpeepaaDoor
