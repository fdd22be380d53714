/- TallyNil: of a nil tally nothing is counted: for every act the Go function trunnionlaw18.TallyNil returns true and leaves its argument as it was. The row lists the variable trunnion/tally.names, which the card ties to the program's text. -/
import Derived.Test.YtnndoajflimkmaaDoorTRow
import Derived.Test.YtnndoajflimkmaaDoorTLawNil
namespace Go.Proofs.YtnndoajflimkmaaDoor
open Go Go.ChangeShapes Go.WideShapes Go.ChangeAt Go.RowKit
set_option maxRecDepth 100000 in
theorem tallyNil_lifted (os : Os) (started : os.Started) (H : Type) (enc : TypeId × Value → H) :
    ReturnsInHanded {} Tryd.checked os 6 .any (fun w args => (Rows.tallyNilSpec.pre enc Tryd.prog Tryd.f6 [] false w args ∧ laidMet Tryd.prog [("trunnion/tally.names", Rows.laid_trunnion_tally_names)] w) ∧ sizedMet enc Tryd.prog Tryd.f6 (OpenSpec.ofChange Rows.tallyNilSpec) false w args)
      (Rows.tallyNilSpec.post enc Tryd.prog Tryd.f6 false true false false) := by
  refine law_row Tryd.func6 rfl (by kernel_rfl) (by kernel_rfl) (by rw [Tryd.params6]; intro t ht; simp at ht; subst ht; exact ⟨by kernel_rfl, of_decide_eq_true (by kernel_rfl)⟩) os started H enc #[.agg #[.int .i64 0, .int .i64 0, .int .i64 0, .int .i64 0]] (by kernel_rfl) (by kernel_rfl) (by kernel_rfl) (by kernel_rfl) (by kernel_rfl) ?_
  intro W base args ds p hval hA hsz hT
  rw [Tryd.params6] at hA hval
  obtain ⟨v0, vs0, d0, ds0, p0, q0, hargs, rfl, rfl, h0, r0⟩ := trodAll_cons hA
  obtain ⟨rfl, rfl, rfl⟩ := trodAll_nil r0
  obtain rfl : args = #[v0] := by cases args; simp_all
  obtain ⟨y0, rfl, _⟩ := open_act (hval 0 _ v0 rfl rfl) h0
  exact ⟨rfl, nil_walk y0.1 y0.2.1 y0.2.2.1 y0.2.2.2 W hT⟩
theorem tallyNil_said : Rows.TallyNilSaid :=
  OpenClaim.holds_of_wide 6 Tryd.f6 rfl rfl rfl rfl rfl rfl rfl ⟨rfl, rfl, rfl, rfl, rfl⟩ rfl rfl rfl rfl rfl (by kernel_rfl) Tryd.func6 (by kernel_rfl)
    (of_decide_eq_true (by kernel_rfl)) (by unfold Func.isWrapper; first | (rw [if_pos (by decide +kernel)]; kernel_rfl) | (rw [if_neg (by decide +kernel)]; exact ⟨rfl, rfl⟩))
    (fun os started H enc _ => tallyNil_lifted os started H enc)
theorem tallyNil_card : Rows.TallyNilCardSaid :=
  Claim7.holds_tied_plain_at .later [] [.data] true Rows.tallyNilCard.stood.harness false
    tallyNil_said (fun _ h => by cases h) (by kernel_rfl) (fun _ h => by cases h) tallyNil_row_tie rfl ⟨rfl, rfl⟩ (by kernel_rfl) rfl
    (fun f fn hf hfn => by
      obtain rfl : f = 6 := Option.some.inj ((show Tryd.prog.funcNamed "trunnion/trunnionlaw18.TallyNil" = some 6 by kernel_rfl).symm.trans hf) |>.symm
      obtain rfl : fn = Tryd.f6 := (Option.some.inj (Tryd.func6.symm.trans hfn)).symm
      refine ⟨by kernel_rfl, fun j t ht => ?_⟩
      rw [Tryd.params6] at ht
      have hm : t ∈ [44] := by simpa using Array.mem_of_getElem? ht
      simp at hm
      subst hm; exact (show Tryd.prog.wantsStandIn _ = false by kernel_rfl))
    (by kernel_rfl)
#print axioms tallyNil_card
end Go.Proofs.YtnndoajflimkmaaDoor
