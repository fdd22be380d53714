/- PlanWays: for every state and kind the Go function trunnionlaw25.PlanWays returns true and leaves its arguments as they were. The row lists the variable trunnion/plan.names, which the card ties to the program's text. -/
import Derived.Test.YtdmbenhhjpeepaaDoorPRow
import Derived.Test.YtdmbenhhjpeepaaDoorPLawWays
namespace Go.Proofs.YtdmbenhhjpeepaaDoor
open Go Go.ChangeShapes Go.WideShapes Go.ChangeAt Go.RowKit
set_option maxRecDepth 100000 in
theorem planWays_lifted (os : Os) (started : os.Started) (H : Type) (enc : TypeId × Value → H) :
    ReturnsInHanded {} Tryd.checked os 3 .any (fun w args => (Rows.planWaysSpec.pre enc Tryd.prog Tryd.f3 [] false w args ∧ laidMet Tryd.prog [("trunnion/plan.names", Rows.laid_trunnion_plan_names)] w) ∧ sizedMet enc Tryd.prog Tryd.f3 (OpenSpec.ofChange Rows.planWaysSpec) false w args)
      (Rows.planWaysSpec.post enc Tryd.prog Tryd.f3 false true false false) := by
  refine law_row Tryd.func3 rfl (by kernel_rfl) (by kernel_rfl) (by rw [Tryd.params3]; intro t ht; simp at ht; rcases ht with rfl | rfl <;> exact ⟨by kernel_rfl, of_decide_eq_true (by kernel_rfl)⟩) os started H enc #[.agg #[.int .i64 0, .int .u64 0, .int .u64 0, .int .u64 0, .int .u64 0], .int .i64 0] (by kernel_rfl) (by kernel_rfl) (by kernel_rfl) (by kernel_rfl) (by kernel_rfl) ?_
  intro W base args ds p hval hA hsz hT
  rw [Tryd.params3] at hA hval
  obtain ⟨v0, vs0, d0, ds0, p0, q0, hargs, rfl, rfl, h0, r0⟩ := trodAll_cons hA
  obtain ⟨v1, vs1, d1, ds1, p1, q1, rfl, rfl, rfl, h1, r1⟩ := trodAll_cons r0
  obtain ⟨rfl, rfl, rfl⟩ := trodAll_nil r1
  obtain rfl : args = #[v0, v1] := by cases args; simp_all
  obtain ⟨y0, rfl⟩ := open_raw (hval 0 _ v0 rfl rfl) h0
  obtain ⟨z1, rfl, rfl, rfl, w1⟩ := open_int Tryd.underlying3 (hval 1 _ v1 rfl rfl) h1
  exact ⟨rfl, ways_walk y0 z1 W hT⟩
theorem planWays_said : Rows.PlanWaysSaid :=
  OpenClaim.holds_of_wide 3 Tryd.f3 rfl rfl rfl rfl rfl rfl rfl ⟨rfl, rfl, rfl, rfl, rfl⟩ rfl rfl rfl rfl rfl (by kernel_rfl) Tryd.func3 (by kernel_rfl)
    (of_decide_eq_true (by kernel_rfl)) (by unfold Func.isWrapper; first | (rw [if_pos (by decide +kernel)]; kernel_rfl) | (rw [if_neg (by decide +kernel)]; exact ⟨rfl, rfl⟩))
    (fun os started H enc _ => planWays_lifted os started H enc)
theorem planWays_card : Rows.PlanWaysCardSaid :=
  Claim7.holds_tied_plain_at .later [] [.data] true Rows.planWaysCard.stood.harness false
    planWays_said (fun _ h => by cases h) (by kernel_rfl) (fun _ h => by cases h) planWays_row_tie rfl ⟨rfl, rfl⟩ (by kernel_rfl) rfl
    (fun f fn hf hfn => by
      obtain rfl : f = 3 := Option.some.inj ((show Tryd.prog.funcNamed "trunnion/trunnionlaw25.PlanWays" = some 3 by kernel_rfl).symm.trans hf) |>.symm
      obtain rfl : fn = Tryd.f3 := (Option.some.inj (Tryd.func3.symm.trans hfn)).symm
      refine ⟨by kernel_rfl, fun j t ht => ?_⟩
      rw [Tryd.params3] at ht
      have hm : t ∈ [24, 3] := by simpa using Array.mem_of_getElem? ht
      simp at hm
      rcases hm with rfl | rfl <;> exact (show Tryd.prog.wantsStandIn _ = false by kernel_rfl))
    (by kernel_rfl)
#print axioms planWays_card
end Go.Proofs.YtdmbenhhjpeepaaDoor
