/- TallyPlays: behind every acts the counts, the bars and the greatest size are the document's, step by step: for every list of acts the Go function trunnionlaw18.TallyPlays returns true and leaves its argument as it was. The row lists the variable trunnion/tally.names, which the card ties to the program's text. -/
import Derived.Test.YtnndoajflimkmaaDoorTRow
import Derived.Test.YtnndoajflimkmaaDoorTLawPlays
namespace Go.Proofs.YtnndoajflimkmaaDoor
open Go Go.ChangeShapes Go.WideShapes Go.ChangeAt Go.RowKit
set_option maxRecDepth 100000 in
theorem tallyPlays_lifted (os : Os) (started : os.Started) (H : Type) (enc : TypeId × Value → H) :
    ReturnsInHanded {} Tryd.checked os 5 .any (fun w args => (Rows.tallyPlaysSpec.pre enc Tryd.prog Tryd.f5 [] false w args ∧ laidMet Tryd.prog [("trunnion/tally.names", Rows.laid_trunnion_tally_names)] w) ∧ sizedMet enc Tryd.prog Tryd.f5 (OpenSpec.ofChange Rows.tallyPlaysSpec) false w args)
      (Rows.tallyPlaysSpec.post enc Tryd.prog Tryd.f5 false true false false) := by
  refine law_row Tryd.func5 rfl (by kernel_rfl) (by kernel_rfl) (by rw [Tryd.params5]; intro t ht; simp at ht; subst ht; exact ⟨by kernel_rfl, of_decide_eq_true (by kernel_rfl)⟩) os started H enc #[.slice none 0 0] (by kernel_rfl) (by kernel_rfl) (by kernel_rfl) (by kernel_rfl) (by kernel_rfl) ?_
  intro W base args ds p hval hA hsz hT
  rw [Tryd.params5] at hA hval
  obtain ⟨v0, vs0, d0, ds0, p0, q0, hargs, rfl, rfl, h0, r0⟩ := trodAll_cons hA
  obtain ⟨rfl, rfl, rfl⟩ := trodAll_nil r0
  obtain rfl : args = #[v0] := by cases args; simp_all
  obtain ⟨a0, m0, c0, rfl⟩ := okWide_slice Tryd.underlying41 (hval 0 _ v0 rfl rfl)
  obtain ⟨l0, hl0, hc0, hi0, hn0, hd0⟩ := open_acts h0
  exact ⟨rfl, plays_walk a0 m0 c0 l0 W hT hl0 hc0 hi0 hn0 hd0⟩
theorem tallyPlays_said : Rows.TallyPlaysSaid :=
  OpenClaim.holds_of_wide 5 Tryd.f5 rfl rfl rfl rfl rfl rfl rfl ⟨rfl, rfl, rfl, rfl, rfl⟩ rfl rfl rfl rfl rfl (by kernel_rfl) Tryd.func5 (by kernel_rfl)
    (of_decide_eq_true (by kernel_rfl)) (by unfold Func.isWrapper; first | (rw [if_pos (by decide +kernel)]; kernel_rfl) | (rw [if_neg (by decide +kernel)]; exact ⟨rfl, rfl⟩))
    (fun os started H enc _ => tallyPlays_lifted os started H enc)
theorem tallyPlays_card : Rows.TallyPlaysCardSaid :=
  Claim7.holds_tied_plain_at .later [] [.data] true Rows.tallyPlaysCard.stood.harness false
    tallyPlays_said (fun _ h => by cases h) (by kernel_rfl) (fun _ h => by cases h) tallyPlays_row_tie rfl ⟨rfl, rfl⟩ (by kernel_rfl) rfl
    (fun f fn hf hfn => by
      obtain rfl : f = 5 := Option.some.inj ((show Tryd.prog.funcNamed "trunnion/trunnionlaw18.TallyPlays" = some 5 by kernel_rfl).symm.trans hf) |>.symm
      obtain rfl : fn = Tryd.f5 := (Option.some.inj (Tryd.func5.symm.trans hfn)).symm
      refine ⟨by kernel_rfl, fun j t ht => ?_⟩
      rw [Tryd.params5] at ht
      have hm : t ∈ [41] := by simpa using Array.mem_of_getElem? ht
      simp at hm
      subst hm; exact (show Tryd.prog.wantsStandIn _ = false by kernel_rfl))
    (by kernel_rfl)
#print axioms tallyPlays_card
end Go.Proofs.YtnndoajflimkmaaDoor
