import Derived.Test.YtijagdpkclghnaaDoorMEach
namespace Go.Proofs.YtijagdpkclghnaaDoor
open Go Go.RowKit
set_option maxRecDepth 100000
/-- '==' on sets, as the walk spells it. -/
@[go_sem] theorem eq_set (w : World) (a0 a1 a2 a3 b0 b1 b2 b3 : Int) :
    (Op.equalIn 10000 63 (.agg #[.int .u64 a0, .int .u64 a1, .int .u64 a2, .int .u64 a3]) (.agg #[.int .u64 b0, .int .u64 b1, .int .u64 b2, .int .u64 b3])).run Tryd.prog w = .ok (a0 == b0 && (a1 == b1 && (a2 == b2 && a3 == b3))) w := by
  obtain ⟨i, hi, hs⟩ : ∃ i, Tryd.prog.info? 61 = some i ∧ i.size = 1 := by
    have h : (Tryd.prog.info? 61).map (·.size) = some 1 := by kernel_rfl
    cases e : Tryd.prog.info? 61 with
    | none => rw [e] at h; cases h
    | some i => rw [e] at h; exact ⟨i, rfl, by simpa using h⟩
  exact run_eq_array4 9998 63 61 i .u64 w Tryd.underlying63 Tryd.underlying61 hi hs a0 a1 a2 a3 b0 b1 b2 b3

end Go.Proofs.YtijagdpkclghnaaDoor
