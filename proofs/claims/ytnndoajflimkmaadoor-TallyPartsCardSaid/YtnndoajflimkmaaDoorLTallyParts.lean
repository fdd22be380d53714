/- TallyParts: how many of a thousand every counts are, and the names of the kinds, are the document's answers: for all numbers and kinds the Go function trunnionlaw18.TallyParts returns true and leaves its arguments as they were. The row lists the variable trunnion/tally.names, which the card ties to the program's text. -/
import Derived.Test.YtnndoajflimkmaaDoorTRow
import Derived.Test.YtnndoajflimkmaaDoorTLawParts
namespace Go.Proofs.YtnndoajflimkmaaDoor
open Go Go.ChangeShapes Go.WideShapes Go.ChangeAt Go.RowKit
set_option maxRecDepth 100000 in
theorem tallyParts_lifted (os : Os) (started : os.Started) (H : Type) (enc : TypeId × Value → H) :
    ReturnsInHanded {} Tryd.checked os 3 .any (fun w args => (Rows.tallyPartsSpec.pre enc Tryd.prog Tryd.f3 [] false w args ∧ laidMet Tryd.prog [("trunnion/tally.names", Rows.laid_trunnion_tally_names)] w) ∧ sizedMet enc Tryd.prog Tryd.f3 (OpenSpec.ofChange Rows.tallyPartsSpec) false w args)
      (Rows.tallyPartsSpec.post enc Tryd.prog Tryd.f3 false true false false) := by
  refine law_row Tryd.func3 rfl (by kernel_rfl) (by kernel_rfl) (by rw [Tryd.params3]; intro t ht; simp at ht; rcases ht with rfl | rfl | rfl <;> exact ⟨by kernel_rfl, of_decide_eq_true (by kernel_rfl)⟩) os started H enc #[.agg #[.int .i64 0, .int .i64 0], .agg #[.int .i64 0, .int .i64 0], .int .i64 0] (by kernel_rfl) (by kernel_rfl) (by kernel_rfl) (by kernel_rfl) (by kernel_rfl) ?_
  intro W base args ds p hval hA hsz hT
  rw [Tryd.params3] at hA hval
  obtain ⟨v0, vs0, d0, ds0, p0, q0, hargs, rfl, rfl, h0, r0⟩ := trodAll_cons hA
  obtain ⟨v1, vs1, d1, ds1, p1, q1, rfl, rfl, rfl, h1, r1⟩ := trodAll_cons r0
  obtain ⟨v2, vs2, d2, ds2, p2, q2, rfl, rfl, rfl, h2, r2⟩ := trodAll_cons r1
  obtain ⟨rfl, rfl, rfl⟩ := trodAll_nil r2
  obtain rfl : args = #[v0, v1, v2] := by cases args; simp_all
  obtain ⟨a0, b0, rfl, g0, h0'⟩ := open_two Tryd.underlying22 Tryd.underlying2 (by kernel_rfl) (by kernel_rfl) (hval 0 _ v0 rfl rfl) h0
  obtain ⟨a1, b1, rfl, g1, h1'⟩ := open_two Tryd.underlying23 Tryd.underlying3 (by kernel_rfl) (by kernel_rfl) (hval 1 _ v1 rfl rfl) h1
  obtain ⟨i2, rfl, rfl, rfl, _⟩ := open_int Tryd.underlying3 (hval 2 _ v2 rfl rfl) h2
  exact ⟨rfl, parts_walk a0 b0 a1 b1 i2 W hT g0 h0' g1 h1'⟩
theorem tallyParts_said : Rows.TallyPartsSaid :=
  OpenClaim.holds_of_wide 3 Tryd.f3 rfl rfl rfl rfl rfl rfl rfl ⟨rfl, rfl, rfl, rfl, rfl⟩ rfl rfl rfl rfl rfl (by kernel_rfl) Tryd.func3 (by kernel_rfl)
    (of_decide_eq_true (by kernel_rfl)) (by unfold Func.isWrapper; first | (rw [if_pos (by decide +kernel)]; kernel_rfl) | (rw [if_neg (by decide +kernel)]; exact ⟨rfl, rfl⟩))
    (fun os started H enc _ => tallyParts_lifted os started H enc)
theorem tallyParts_card : Rows.TallyPartsCardSaid :=
  Claim7.holds_tied_plain_at .later [] [.data] true Rows.tallyPartsCard.stood.harness false
    tallyParts_said (fun _ h => by cases h) (by kernel_rfl) (fun _ h => by cases h) tallyParts_row_tie rfl ⟨rfl, rfl⟩ (by kernel_rfl) rfl
    (fun f fn hf hfn => by
      obtain rfl : f = 3 := Option.some.inj ((show Tryd.prog.funcNamed "trunnion/trunnionlaw18.TallyParts" = some 3 by kernel_rfl).symm.trans hf) |>.symm
      obtain rfl : fn = Tryd.f3 := (Option.some.inj (Tryd.func3.symm.trans hfn)).symm
      refine ⟨by kernel_rfl, fun j t ht => ?_⟩
      rw [Tryd.params3] at ht
      have hm : t ∈ [22, 23, 3] := by simpa using Array.mem_of_getElem? ht
      simp at hm
      rcases hm with rfl | rfl | rfl <;> exact (show Tryd.prog.wantsStandIn _ = false by kernel_rfl))
    (by kernel_rfl)
#print axioms tallyParts_card
end Go.Proofs.YtnndoajflimkmaaDoor
