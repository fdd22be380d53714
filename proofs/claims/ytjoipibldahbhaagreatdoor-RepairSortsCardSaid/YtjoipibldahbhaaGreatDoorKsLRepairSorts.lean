/- RepairSorts: which kind every lost columns are, and its name, is the document's answer, or its error. The row lists the variable trunnion/repair.names, which the card ties to the program's text. -/
import Derived.Test.YtjoipibldahbhaaGreatDoorKsb
namespace Go.Proofs.YtjoipibldahbhaaGreatDoor
open Go Go.ChangeShapes Go.WideShapes Go.ChangeAt Go.RowKit
set_option maxRecDepth 100000 in
theorem repairSorts_lifted (os : Os) (started : os.Started) (H : Type) (enc : TypeId × Value → H) :
    ReturnsInHanded {} Tryz.checked os 3 .any (fun w args => (Rows.repairSortsSpec.pre enc Tryz.prog Tryz.f3 [] false w args ∧ laidMet Tryz.prog [("trunnion/repair.names", Rows.laid_trunnion_repair_names)] w) ∧ sizedMet enc Tryz.prog Tryz.f3 (OpenSpec.ofChange Rows.repairSortsSpec) false w args)
      (Rows.repairSortsSpec.post enc Tryz.prog Tryz.f3 false true false false) := by
  refine law_row Tryz.func3 rfl (by kernel_rfl) (by kernel_rfl) (by rw [Tryz.params3]; intro t ht; simp at ht; rcases ht with rfl | rfl | rfl <;> exact ⟨by kernel_rfl, of_decide_eq_true (by kernel_rfl)⟩) os started H enc #[.int .i64 0, .slice none 0 0, .int .i64 0] (by kernel_rfl) (by kernel_rfl) (by kernel_rfl) (by kernel_rfl) (by kernel_rfl) ?_
  intro W base args ds p hval hA hsz hT
  rw [Tryz.params3] at hA hval
  obtain ⟨v0, vs0, d0, ds0, p0, q0, hargs, rfl, rfl, h0, r0⟩ := trodAll_cons hA
  obtain ⟨v1, vs1, d1, ds1, p1, q1, rfl, rfl, rfl, h1, r1⟩ := trodAll_cons r0
  obtain ⟨v2, vs2, d2, ds2, p2, q2, rfl, rfl, rfl, h2, r2⟩ := trodAll_cons r1
  obtain ⟨rfl, rfl, rfl⟩ := trodAll_nil r2
  obtain rfl : args = #[v0, v1, v2] := by cases args; simp_all
  obtain ⟨z0, rfl⟩ := okWide_int Tryz.underlying3 (hval 0 _ v0 rfl rfl)
  obtain ⟨a1, m1, c1, rfl⟩ := okWide_slice Tryz.underlying22 (hval 1 _ v1 rfl rfl)
  obtain ⟨xs, q1, q2, q3, _⟩ := open_slice_ints Tryz.underlying22 Tryz.underlying3 (by kernel_rfl) h1
  obtain ⟨z2, rfl⟩ := okWide_int Tryz.underlying3 (hval 2 _ v2 rfl rfl)
  exact ⟨rfl, sorts_walk W hT q1 q2 q3⟩
theorem repairSorts_said : Rows.RepairSortsSaid :=
  OpenClaim.holds_of_wide 3 Tryz.f3 rfl rfl rfl rfl rfl rfl rfl ⟨rfl, rfl, rfl, rfl, rfl⟩ rfl rfl rfl rfl rfl (by kernel_rfl) Tryz.func3 (by kernel_rfl)
    (of_decide_eq_true (by kernel_rfl)) (by unfold Func.isWrapper; first | (rw [if_pos (by decide +kernel)]; kernel_rfl) | (rw [if_neg (by decide +kernel)]; exact ⟨rfl, rfl⟩))
    (fun os started H enc _ => repairSorts_lifted os started H enc)
theorem repairSorts_card : Rows.RepairSortsCardSaid :=
  Claim7.holds_tied_plain_at .later [] [.data] true Rows.repairSortsCard.stood.harness false
    repairSorts_said (fun _ h => by cases h) (by kernel_rfl) (fun _ h => by cases h) repairSorts_row_tie rfl ⟨rfl, rfl⟩ (by kernel_rfl) rfl
    (fun f fn hf hfn => by
      obtain rfl : f = 3 := Option.some.inj ((show Tryz.prog.funcNamed "trunnion/trunnionlaw05.RepairSorts" = some 3 by kernel_rfl).symm.trans hf) |>.symm
      obtain rfl : fn = Tryz.f3 := (Option.some.inj (Tryz.func3.symm.trans hfn)).symm
      refine ⟨by kernel_rfl, fun j t ht => ?_⟩
      rw [Tryz.params3] at ht
      have hm : t ∈ [3, 22, 3] := by simpa using Array.mem_of_getElem? ht
      simp at hm
      rcases hm with rfl | rfl | rfl <;> exact (show Tryz.prog.wantsStandIn _ = false by kernel_rfl))
    (by kernel_rfl)
#print axioms repairSorts_card
end Go.Proofs.YtjoipibldahbhaaGreatDoor
