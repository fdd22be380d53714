/- RepairAny: whichever two columns of a row are lost, and whatever stands in their place, all are told as they were. The row lists the variable trunnion/repair.names, which the card ties to the program's text. -/
import Derived.Test.YtjoipibldahbhaaGreatDoorKrh
namespace Go.Proofs.YtjoipibldahbhaaGreatDoor
open Go Go.ChangeShapes Go.WideShapes Go.ChangeAt Go.RowKit
set_option maxRecDepth 100000 in
theorem repairAny_lifted (os : Os) (started : os.Started) (H : Type) (enc : TypeId × Value → H) :
    ReturnsInHanded {} Tryz.checked os 5 .any (fun w args => (Rows.repairAnySpec.pre enc Tryz.prog Tryz.f5 [] false w args ∧ laidMet Tryz.prog [("trunnion/repair.names", Rows.laid_trunnion_repair_names)] w) ∧ sizedMet enc Tryz.prog Tryz.f5 (OpenSpec.ofChange Rows.repairAnySpec) false w args)
      (Rows.repairAnySpec.post enc Tryz.prog Tryz.f5 false true false false) := by
  refine law_row Tryz.func5 rfl (by kernel_rfl) (by kernel_rfl) (by rw [Tryz.params5]; intro t ht; simp at ht; rcases ht with rfl | rfl <;> exact ⟨by kernel_rfl, of_decide_eq_true (by kernel_rfl)⟩) os started H enc #[.slice none 0 0, .string { data := #[] }] (by kernel_rfl) (by kernel_rfl) (by kernel_rfl) (by kernel_rfl) (by kernel_rfl) ?_
  intro W base args ds p hval hA hsz hT
  rw [Tryz.params5] at hA hval
  obtain ⟨v0, vs0, d0, ds0, p0, q0, hargs, rfl, rfl, h0, r0⟩ := trodAll_cons hA
  obtain ⟨v1, vs1, d1, ds1, p1, q1, rfl, rfl, rfl, h1, r1⟩ := trodAll_cons r0
  obtain ⟨rfl, rfl, rfl⟩ := trodAll_nil r1
  obtain rfl : args = #[v0, v1] := by cases args; simp_all
  obtain ⟨a0, m0, c0, rfl⟩ := okWide_slice Tryz.underlying33 (hval 0 _ v0 rfl rfl)
  obtain ⟨l0, hs0, ha0⟩ := open_strs h0
  obtain ⟨l1, ha1, rfl⟩ := open_str (hval 1 _ v1 rfl rfl)
  exact ⟨rfl, any_walk W hT hs0 ha0 ha1⟩
theorem repairAny_said : Rows.RepairAnySaid :=
  OpenClaim.holds_of_wide 5 Tryz.f5 rfl rfl rfl rfl rfl rfl rfl ⟨rfl, rfl, rfl, rfl, rfl⟩ rfl rfl rfl rfl rfl (by kernel_rfl) Tryz.func5 (by kernel_rfl)
    (of_decide_eq_true (by kernel_rfl)) (by unfold Func.isWrapper; first | (rw [if_pos (by decide +kernel)]; kernel_rfl) | (rw [if_neg (by decide +kernel)]; exact ⟨rfl, rfl⟩))
    (fun os started H enc _ => repairAny_lifted os started H enc)
theorem repairAny_card : Rows.RepairAnyCardSaid :=
  Claim7.holds_tied_plain_at .later [] [.data] true Rows.repairAnyCard.stood.harness false
    repairAny_said (fun _ h => by cases h) (by kernel_rfl) (fun _ h => by cases h) repairAny_row_tie rfl ⟨rfl, rfl⟩ (by kernel_rfl) rfl
    (fun f fn hf hfn => by
      obtain rfl : f = 5 := Option.some.inj ((show Tryz.prog.funcNamed "trunnion/trunnionlaw05.RepairAny" = some 5 by kernel_rfl).symm.trans hf) |>.symm
      obtain rfl : fn = Tryz.f5 := (Option.some.inj (Tryz.func5.symm.trans hfn)).symm
      refine ⟨by kernel_rfl, fun j t ht => ?_⟩
      rw [Tryz.params5] at ht
      have hm : t ∈ [33, 9] := by simpa using Array.mem_of_getElem? ht
      simp at hm
      rcases hm with rfl | rfl <;> exact (show Tryz.prog.wantsStandIn _ = false by kernel_rfl))
    (by kernel_rfl)
#print axioms repairAny_card
end Go.Proofs.YtjoipibldahbhaaGreatDoor
