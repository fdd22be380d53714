import Derived.Test.YtdmbenhhjpeepaaDoorMEach
namespace Go.Proofs.YtdmbenhhjpeepaaDoor
open Go Go.RowKit
set_option maxRecDepth 100000
/-- '==' on sets, as the walk spells it. -/
@[go_sem] theorem eq_set (w : World) (a0 a1 a2 a3 b0 b1 b2 b3 : Int) :
    (Op.equalIn 10000 28 (.agg #[.int .u64 a0, .int .u64 a1, .int .u64 a2, .int .u64 a3]) (.agg #[.int .u64 b0, .int .u64 b1, .int .u64 b2, .int .u64 b3])).run Tryd.prog w = .ok (a0 == b0 && (a1 == b1 && (a2 == b2 && a3 == b3))) w := by
  obtain ⟨i, hi, hs⟩ : ∃ i, Tryd.prog.info? 22 = some i ∧ i.size = 1 := by
    have h : (Tryd.prog.info? 22).map (·.size) = some 1 := by kernel_rfl
    cases e : Tryd.prog.info? 22 with
    | none => rw [e] at h; cases h
    | some i => rw [e] at h; exact ⟨i, rfl, by simpa using h⟩
  exact run_eq_array4 9998 28 22 i .u64 w Tryd.underlying28 Tryd.underlying22 hi hs a0 a1 a2 a3 b0 b1 b2 b3

theorem or_word (x y : Nat) (w : World) (hx : x < 18446744073709551616) (hy : y < 18446744073709551616) :
    Calls Tryd.prog 38 #[.int .u64 x, .int .u64 y] w fun e w' => e = .returned (.int .u64 ((x ||| y : Nat) : Int)) ∧ w = w' := by
  go_enter Tryd.func38, Tryd.ntmps38
  go_wp2
  go_ret
  exact ⟨congrArg (fun z => Ending.returned (.int .u64 z)) (u64_or_nat x y hx hy), rfl⟩
theorem or_any (s t : Set4) (w : World) : Calls Tryd.prog 25 #[s.val, t.val] w fun r w' => r = .returned (s.or t).val ∧ Below w.heap.size w w' := by
  go_enter Tryd.func25, Tryd.ntmps25
  go_wp2_with fail
  refine Calls.pure_of (w.heap.size + 3) (by simp) (each_any 38 _ Set4.or_lt (fun x y w hx hy => or_word x y w hx hy) (fun _ _ => by kernel_rfl) s t _) ?_
  intro x
  go_wp2
  exact bodyPost_row rfl rfl ((((((World.row.new' (by simp)).ext x (by simp)).set 0 _).set 1 _).set 2 _).set 3 _) Tryd.underlying28 rfl (by kernel_rfl) rfl ⟨rfl, (by repeat' (first | (with_reducible exact Below.refl _ _) | (with_reducible assumption) | (with_reducible refine Below.setCell ?_ ?_ _) | (with_reducible refine Below.ext ?_ _ ?_) | (with_reducible refine Below.alloc ?_ ?_ _) | (with_reducible refine Below.drew ?_) | (with_reducible refine Below.drewN ?_ _) | (with_reducible exact Nat.le_refl _) | (dsimp only; omega) | (simp <;> omega)))⟩

theorem and_word (x y : Nat) (w : World) (hx : x < 18446744073709551616) (hy : y < 18446744073709551616) :
    Calls Tryd.prog 35 #[.int .u64 x, .int .u64 y] w fun e w' => e = .returned (.int .u64 ((x &&& y : Nat) : Int)) ∧ w = w' := by
  go_enter Tryd.func35, Tryd.ntmps35
  go_wp2
  go_ret
  exact ⟨congrArg (fun z => Ending.returned (.int .u64 z)) (u64_and_nat x y hx hy), rfl⟩
theorem and_any (s t : Set4) (w : World) : Calls Tryd.prog 15 #[s.val, t.val] w fun r w' => r = .returned (s.and t).val ∧ Below w.heap.size w w' := by
  go_enter Tryd.func15, Tryd.ntmps15
  go_wp2_with fail
  refine Calls.pure_of (w.heap.size + 3) (by simp) (each_any 35 _ Set4.and_lt (fun x y w hx hy => and_word x y w hx hy) (fun _ _ => by kernel_rfl) s t _) ?_
  intro x
  go_wp2
  exact bodyPost_row rfl rfl ((((((World.row.new' (by simp)).ext x (by simp)).set 0 _).set 1 _).set 2 _).set 3 _) Tryd.underlying28 rfl (by kernel_rfl) rfl ⟨rfl, (by repeat' (first | (with_reducible exact Below.refl _ _) | (with_reducible assumption) | (with_reducible refine Below.setCell ?_ ?_ _) | (with_reducible refine Below.ext ?_ _ ?_) | (with_reducible refine Below.alloc ?_ ?_ _) | (with_reducible refine Below.drew ?_) | (with_reducible refine Below.drewN ?_ _) | (with_reducible exact Nat.le_refl _) | (dsimp only; omega) | (simp <;> omega)))⟩

theorem less_word (x y : Nat) (w : World) (hx : x < 18446744073709551616) (hy : y < 18446744073709551616) :
    Calls Tryd.prog 39 #[.int .u64 x, .int .u64 y] w fun e w' => e = .returned (.int .u64 ((x &&& (18446744073709551615 - y) : Nat) : Int)) ∧ w = w' := by
  go_enter Tryd.func39, Tryd.ntmps39
  go_wp2
  go_ret
  exact ⟨congrArg (fun z => Ending.returned (.int .u64 z)) (u64_andNot_nat x y hx hy), rfl⟩
theorem less_any (s t : Set4) (w : World) : Calls Tryd.prog 27 #[s.val, t.val] w fun r w' => r = .returned (s.less t).val ∧ Below w.heap.size w w' := by
  go_enter Tryd.func27, Tryd.ntmps27
  go_wp2_with fail
  refine Calls.pure_of (w.heap.size + 3) (by simp) (each_any 39 _ Set4.less_lt (fun x y w hx hy => less_word x y w hx hy) (fun _ _ => by kernel_rfl) s t _) ?_
  intro x
  go_wp2
  exact bodyPost_row rfl rfl ((((((World.row.new' (by simp)).ext x (by simp)).set 0 _).set 1 _).set 2 _).set 3 _) Tryd.underlying28 rfl (by kernel_rfl) rfl ⟨rfl, (by repeat' (first | (with_reducible exact Below.refl _ _) | (with_reducible assumption) | (with_reducible refine Below.setCell ?_ ?_ _) | (with_reducible refine Below.ext ?_ _ ?_) | (with_reducible refine Below.alloc ?_ ?_ _) | (with_reducible refine Below.drew ?_) | (with_reducible refine Below.drewN ?_ _) | (with_reducible exact Nat.le_refl _) | (dsimp only; omega) | (simp <;> omega)))⟩
end Go.Proofs.YtdmbenhhjpeepaaDoor
