/- RepairFixes: of every columns, whichever are lost, all are the document's, or its error. The row lists the variable trunnion/repair.names, which the card ties to the program's text. -/
import Derived.Test.YtjoipibldahbhaaGreatDoorKsb
namespace Go.Proofs.YtjoipibldahbhaaGreatDoor
open Go Go.ChangeShapes Go.WideShapes Go.ChangeAt Go.RowKit
set_option maxRecDepth 100000 in
theorem repairFixes_lifted (os : Os) (started : os.Started) (H : Type) (enc : TypeId × Value → H) :
    ReturnsInHanded {} Tryz.checked os 4 .any (fun w args => (Rows.repairFixesSpec.pre enc Tryz.prog Tryz.f4 [] false w args ∧ laidMet Tryz.prog [("trunnion/repair.names", Rows.laid_trunnion_repair_names)] w) ∧ sizedMet enc Tryz.prog Tryz.f4 (OpenSpec.ofChange Rows.repairFixesSpec) false w args)
      (Rows.repairFixesSpec.post enc Tryz.prog Tryz.f4 false true false false) := by
  refine law_row Tryz.func4 rfl (by kernel_rfl) (by kernel_rfl) (by rw [Tryz.params4]; intro t ht; simp at ht; rcases ht with rfl | rfl | rfl <;> exact ⟨by kernel_rfl, of_decide_eq_true (by kernel_rfl)⟩) os started H enc #[.slice none 0 0, .slice none 0 0, .bool false] (by kernel_rfl) (by kernel_rfl) (by kernel_rfl) (by kernel_rfl) (by kernel_rfl) ?_
  intro W base args ds p hval hA hsz hT
  rw [Tryz.params4] at hA hval
  obtain ⟨v0, vs0, d0, ds0, p0, q0, hargs, rfl, rfl, h0, r0⟩ := trodAll_cons hA
  obtain ⟨v1, vs1, d1, ds1, p1, q1, rfl, rfl, rfl, h1, r1⟩ := trodAll_cons r0
  obtain ⟨v2, vs2, d2, ds2, p2, q2, rfl, rfl, rfl, h2, r2⟩ := trodAll_cons r1
  obtain ⟨rfl, rfl, rfl⟩ := trodAll_nil r2
  obtain rfl : args = #[v0, v1, v2] := by cases args; simp_all
  obtain ⟨a0, m0, c0, rfl⟩ := okWide_slice Tryz.underlying33 (hval 0 _ v0 rfl rfl)
  obtain ⟨l0, hs0, ha0⟩ := open_strs h0
  obtain ⟨a1, m1, c1, rfl⟩ := okWide_slice Tryz.underlying22 (hval 1 _ v1 rfl rfl)
  obtain ⟨xs, q1, q2, q3, _⟩ := open_slice_ints Tryz.underlying22 Tryz.underlying3 (by kernel_rfl) h1
  obtain ⟨z2, rfl⟩ := okWide_bool Tryz.underlying4 (hval 2 _ v2 rfl rfl)
  exact ⟨rfl, fixes_walk W hT hs0 ha0 q1 q2 q3⟩
theorem repairFixes_said : Rows.RepairFixesSaid :=
  OpenClaim.holds_of_wide 4 Tryz.f4 rfl rfl rfl rfl rfl rfl rfl ⟨rfl, rfl, rfl, rfl, rfl⟩ rfl rfl rfl rfl rfl (by kernel_rfl) Tryz.func4 (by kernel_rfl)
    (of_decide_eq_true (by kernel_rfl)) (by unfold Func.isWrapper; first | (rw [if_pos (by decide +kernel)]; kernel_rfl) | (rw [if_neg (by decide +kernel)]; exact ⟨rfl, rfl⟩))
    (fun os started H enc _ => repairFixes_lifted os started H enc)
theorem repairFixes_card : Rows.RepairFixesCardSaid :=
  Claim7.holds_tied_plain_at .later [] [.data] true Rows.repairFixesCard.stood.harness false
    repairFixes_said (fun _ h => by cases h) (by kernel_rfl) (fun _ h => by cases h) repairFixes_row_tie rfl ⟨rfl, rfl⟩ (by kernel_rfl) rfl
    (fun f fn hf hfn => by
      obtain rfl : f = 4 := Option.some.inj ((show Tryz.prog.funcNamed "trunnion/trunnionlaw05.RepairFixes" = some 4 by kernel_rfl).symm.trans hf) |>.symm
      obtain rfl : fn = Tryz.f4 := (Option.some.inj (Tryz.func4.symm.trans hfn)).symm
      refine ⟨by kernel_rfl, fun j t ht => ?_⟩
      rw [Tryz.params4] at ht
      have hm : t ∈ [33, 22, 4] := by simpa using Array.mem_of_getElem? ht
      simp at hm
      rcases hm with rfl | rfl | rfl <;> exact (show Tryz.prog.wantsStandIn _ = false by kernel_rfl))
    (by kernel_rfl)
#print axioms repairFixes_card
end Go.Proofs.YtjoipibldahbhaaGreatDoor
