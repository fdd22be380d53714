/- RepairCounts: each row that is brought back is counted once, with its kind, and none that is refused. The row lists the variable trunnion/repair.names, which the card ties to the program's text. -/
import Derived.Test.YtjoipibldahbhaaGreatDoorKrh
namespace Go.Proofs.YtjoipibldahbhaaGreatDoor
open Go Go.ChangeShapes Go.WideShapes Go.ChangeAt Go.RowKit
set_option maxRecDepth 100000 in
theorem repairCounts_lifted (os : Os) (started : os.Started) (H : Type) (enc : TypeId × Value → H) :
    ReturnsInHanded {} Tryz.checked os 8 .any (fun w args => (Rows.repairCountsSpec.pre enc Tryz.prog Tryz.f8 [] false w args ∧ laidMet Tryz.prog [("trunnion/repair.names", Rows.laid_trunnion_repair_names)] w) ∧ sizedMet enc Tryz.prog Tryz.f8 (OpenSpec.ofChange Rows.repairCountsSpec) false w args)
      (Rows.repairCountsSpec.post enc Tryz.prog Tryz.f8 false true false false) := by
  refine law_row Tryz.func8 rfl (by kernel_rfl) (by kernel_rfl) (by rw [Tryz.params8]; intro t ht; simp at ht; rcases ht with rfl | rfl <;> exact ⟨by kernel_rfl, of_decide_eq_true (by kernel_rfl)⟩) os started H enc #[.slice none 0 0, .slice none 0 0] (by kernel_rfl) (by kernel_rfl) (by kernel_rfl) (by kernel_rfl) (by kernel_rfl) ?_
  intro W base args ds p hval hA hsz hT
  rw [Tryz.params8] at hA hval
  obtain ⟨v0, vs0, d0, ds0, p0, q0, hargs, rfl, rfl, h0, r0⟩ := trodAll_cons hA
  obtain ⟨v1, vs1, d1, ds1, p1, q1, rfl, rfl, rfl, h1, r1⟩ := trodAll_cons r0
  obtain ⟨rfl, rfl, rfl⟩ := trodAll_nil r1
  obtain rfl : args = #[v0, v1] := by cases args; simp_all
  obtain ⟨a0, m0, c0, rfl⟩ := okWide_slice Tryz.underlying33 (hval 0 _ v0 rfl rfl)
  obtain ⟨l0, hs0, ha0⟩ := open_strs h0
  obtain ⟨a1, m1, c1, rfl⟩ := okWide_slice Tryz.underlying49 (hval 1 _ v1 rfl rfl)
  obtain ⟨vs, q1, q2, q3, q4⟩ := open_lists h1
  exact ⟨rfl, counts_walk W hT hs0 ha0 q1 q2 q3 q4⟩
theorem repairCounts_said : Rows.RepairCountsSaid :=
  OpenClaim.holds_of_wide 8 Tryz.f8 rfl rfl rfl rfl rfl rfl rfl ⟨rfl, rfl, rfl, rfl, rfl⟩ rfl rfl rfl rfl rfl (by kernel_rfl) Tryz.func8 (by kernel_rfl)
    (of_decide_eq_true (by kernel_rfl)) (by unfold Func.isWrapper; first | (rw [if_pos (by decide +kernel)]; kernel_rfl) | (rw [if_neg (by decide +kernel)]; exact ⟨rfl, rfl⟩))
    (fun os started H enc _ => repairCounts_lifted os started H enc)
theorem repairCounts_card : Rows.RepairCountsCardSaid :=
  Claim7.holds_tied_plain_at .later [] [.data] true Rows.repairCountsCard.stood.harness false
    repairCounts_said (fun _ h => by cases h) (by kernel_rfl) (fun _ h => by cases h) repairCounts_row_tie rfl ⟨rfl, rfl⟩ (by kernel_rfl) rfl
    (fun f fn hf hfn => by
      obtain rfl : f = 8 := Option.some.inj ((show Tryz.prog.funcNamed "trunnion/trunnionlaw05.RepairCounts" = some 8 by kernel_rfl).symm.trans hf) |>.symm
      obtain rfl : fn = Tryz.f8 := (Option.some.inj (Tryz.func8.symm.trans hfn)).symm
      refine ⟨by kernel_rfl, fun j t ht => ?_⟩
      rw [Tryz.params8] at ht
      have hm : t ∈ [33, 49] := by simpa using Array.mem_of_getElem? ht
      simp at hm
      rcases hm with rfl | rfl <;> exact (show Tryz.prog.wantsStandIn _ = false by kernel_rfl))
    (by kernel_rfl)
#print axioms repairCounts_card
end Go.Proofs.YtjoipibldahbhaaGreatDoor
