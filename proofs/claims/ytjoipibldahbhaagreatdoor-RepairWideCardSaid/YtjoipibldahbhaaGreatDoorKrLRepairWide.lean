/- RepairWide: whichever two columns of a row as wide as may be are lost, all are told. The row lists the variable trunnion/repair.names, which the card ties to the program's text. -/
import Derived.Test.YtjoipibldahbhaaGreatDoorKrh
namespace Go.Proofs.YtjoipibldahbhaaGreatDoor
open Go Go.ChangeShapes Go.WideShapes Go.ChangeAt Go.RowKit
set_option maxRecDepth 100000 in
theorem repairWide_lifted (os : Os) (started : os.Started) (H : Type) (enc : TypeId × Value → H) :
    ReturnsInHanded {} Tryz.checked os 6 .any (fun w args => (Rows.repairWideSpec.pre enc Tryz.prog Tryz.f6 [] false w args ∧ laidMet Tryz.prog [("trunnion/repair.names", Rows.laid_trunnion_repair_names)] w) ∧ sizedMet enc Tryz.prog Tryz.f6 (OpenSpec.ofChange Rows.repairWideSpec) false w args)
      (Rows.repairWideSpec.post enc Tryz.prog Tryz.f6 false true false false) := by
  refine law_row Tryz.func6 rfl (by kernel_rfl) (by kernel_rfl) (by rw [Tryz.params6]; intro t ht; simp at ht; rcases ht with rfl | rfl <;> exact ⟨by kernel_rfl, of_decide_eq_true (by kernel_rfl)⟩) os started H enc #[.slice none 0 0, .agg #[.int .i64 0, .int .i64 0]] (by kernel_rfl) (by kernel_rfl) (by kernel_rfl) (by kernel_rfl) (by kernel_rfl) ?_
  intro W base args ds p hval hA hsz hT
  rw [Tryz.params6] at hA hval
  obtain ⟨v0, vs0, d0, ds0, p0, q0, hargs, rfl, rfl, h0, r0⟩ := trodAll_cons hA
  obtain ⟨v1, vs1, d1, ds1, p1, q1, rfl, rfl, rfl, h1, r1⟩ := trodAll_cons r0
  obtain ⟨rfl, rfl, rfl⟩ := trodAll_nil r1
  obtain rfl : args = #[v0, v1] := by cases args; simp_all
  obtain ⟨a0, m0, c0, rfl⟩ := okWide_slice Tryz.underlying33 (hval 0 _ v0 rfl rfl)
  obtain ⟨l0, hs0, ha0⟩ := open_strs h0
  obtain ⟨x0, x1, rfl⟩ := open_two (hval 1 _ v1 rfl rfl) h1
  exact ⟨rfl, wide_walk W hT hs0 ha0⟩
theorem repairWide_said : Rows.RepairWideSaid :=
  OpenClaim.holds_of_wide 6 Tryz.f6 rfl rfl rfl rfl rfl rfl rfl ⟨rfl, rfl, rfl, rfl, rfl⟩ rfl rfl rfl rfl rfl (by kernel_rfl) Tryz.func6 (by kernel_rfl)
    (of_decide_eq_true (by kernel_rfl)) (by unfold Func.isWrapper; first | (rw [if_pos (by decide +kernel)]; kernel_rfl) | (rw [if_neg (by decide +kernel)]; exact ⟨rfl, rfl⟩))
    (fun os started H enc _ => repairWide_lifted os started H enc)
theorem repairWide_card : Rows.RepairWideCardSaid :=
  Claim7.holds_tied_plain_at .later [] [.data] true Rows.repairWideCard.stood.harness false
    repairWide_said (fun _ h => by cases h) (by kernel_rfl) (fun _ h => by cases h) repairWide_row_tie rfl ⟨rfl, rfl⟩ (by kernel_rfl) rfl
    (fun f fn hf hfn => by
      obtain rfl : f = 6 := Option.some.inj ((show Tryz.prog.funcNamed "trunnion/trunnionlaw05.RepairWide" = some 6 by kernel_rfl).symm.trans hf) |>.symm
      obtain rfl : fn = Tryz.f6 := (Option.some.inj (Tryz.func6.symm.trans hfn)).symm
      refine ⟨by kernel_rfl, fun j t ht => ?_⟩
      rw [Tryz.params6] at ht
      have hm : t ∈ [33, 45] := by simpa using Array.mem_of_getElem? ht
      simp at hm
      rcases hm with rfl | rfl <;> exact (show Tryz.prog.wantsStandIn _ = false by kernel_rfl))
    (by kernel_rfl)
#print axioms repairWide_card
end Go.Proofs.YtjoipibldahbhaaGreatDoor
