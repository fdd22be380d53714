/- PlanLeast: for every state the Go function trunnionlaw25.PlanLeast returns true and leaves its argument as it was. The row lists the variable trunnion/plan.names, which the card ties to the program's text. -/
import Derived.Test.YtdmbenhhjpeepaaDoorPRow
import Derived.Test.YtdmbenhhjpeepaaDoorPLeast
namespace Go.Proofs.YtdmbenhhjpeepaaDoor
open Go Go.ChangeShapes Go.WideShapes Go.ChangeAt Go.RowKit
set_option maxRecDepth 100000 in
theorem planLeast_lifted (os : Os) (started : os.Started) (H : Type) (enc : TypeId × Value → H) :
    ReturnsInHanded {} Tryd.checked os 4 .any (fun w args => (Rows.planLeastSpec.pre enc Tryd.prog Tryd.f4 [] false w args ∧ laidMet Tryd.prog [("trunnion/plan.names", Rows.laid_trunnion_plan_names)] w) ∧ sizedMet enc Tryd.prog Tryd.f4 (OpenSpec.ofChange Rows.planLeastSpec) false w args)
      (Rows.planLeastSpec.post enc Tryd.prog Tryd.f4 false true false false) := by
  refine law_row Tryd.func4 rfl (by kernel_rfl) (by kernel_rfl) (by rw [Tryd.params4]; intro t ht; simp at ht; subst ht; exact ⟨by kernel_rfl, of_decide_eq_true (by kernel_rfl)⟩) os started H enc #[.agg #[.int .i64 0, .int .u64 0, .int .u64 0, .int .u64 0, .int .u64 0]] (by kernel_rfl) (by kernel_rfl) (by kernel_rfl) (by kernel_rfl) (by kernel_rfl) ?_
  intro W base args ds p hval hA hsz hT
  rw [Tryd.params4] at hA hval
  obtain ⟨v0, vs0, d0, ds0, p0, q0, hargs, rfl, rfl, h0, r0⟩ := trodAll_cons hA
  obtain ⟨rfl, rfl, rfl⟩ := trodAll_nil r0
  obtain rfl : args = #[v0] := by cases args; simp_all
  obtain ⟨y0, rfl⟩ := open_raw (hval 0 _ v0 rfl rfl) h0
  exact ⟨rfl, least_walk y0 W hT⟩
theorem planLeast_said : Rows.PlanLeastSaid :=
  OpenClaim.holds_of_wide 4 Tryd.f4 rfl rfl rfl rfl rfl rfl rfl ⟨rfl, rfl, rfl, rfl, rfl⟩ rfl rfl rfl rfl rfl (by kernel_rfl) Tryd.func4 (by kernel_rfl)
    (of_decide_eq_true (by kernel_rfl)) (by unfold Func.isWrapper; first | (rw [if_pos (by decide +kernel)]; kernel_rfl) | (rw [if_neg (by decide +kernel)]; exact ⟨rfl, rfl⟩))
    (fun os started H enc _ => planLeast_lifted os started H enc)
theorem planLeast_card : Rows.PlanLeastCardSaid :=
  Claim7.holds_tied_plain_at .later [] [.data] true Rows.planLeastCard.stood.harness false
    planLeast_said (fun _ h => by cases h) (by kernel_rfl) (fun _ h => by cases h) planLeast_row_tie rfl ⟨rfl, rfl⟩ (by kernel_rfl) rfl
    (fun f fn hf hfn => by
      obtain rfl : f = 4 := Option.some.inj ((show Tryd.prog.funcNamed "trunnion/trunnionlaw25.PlanLeast" = some 4 by kernel_rfl).symm.trans hf) |>.symm
      obtain rfl : fn = Tryd.f4 := (Option.some.inj (Tryd.func4.symm.trans hfn)).symm
      refine ⟨by kernel_rfl, fun j t ht => ?_⟩
      rw [Tryd.params4] at ht
      have hm : t ∈ [24] := by simpa using Array.mem_of_getElem? ht
      simp at hm
      subst hm; exact (show Tryd.prog.wantsStandIn _ = false by kernel_rfl))
    (by kernel_rfl)
#print axioms planLeast_card
end Go.Proofs.YtdmbenhhjpeepaaDoor
