/- MarksBack: a set is made again of its list, and of its runs; going by Next tells the list: the Go function trunnionlaw07.MarksBack returns true for every input and leaves its argument as it was. The row lists the table math/bits.deBruijn64tab, which the card ties to the text of the program. -/
import Derived.Test.YtdgeobofpnbenaaDoorMRow
import Derived.Test.YtdgeobofpnbenaaDoorMLawBack
namespace Go.Proofs.YtdgeobofpnbenaaDoor
open Go Go.ChangeShapes Go.WideShapes Go.ChangeAt Go.RowKit
set_option maxRecDepth 100000 in
theorem marksBack_lifted (os : Os) (started : os.Started) (H : Type) (enc : TypeId × Value → H) :
    ReturnsInHanded {} Tryd.checked os 6 .any (fun w args => (Rows.marksBackSpec.pre enc Tryd.prog Tryd.f6 [] false w args ∧ laidMet Tryd.prog [("math/bits.deBruijn64tab", Rows.laid_math_bits_deBruijn64tab)] w) ∧ sizedMet enc Tryd.prog Tryd.f6 (OpenSpec.ofChange Rows.marksBackSpec) false w args)
      (Rows.marksBackSpec.post enc Tryd.prog Tryd.f6 false true false false) := by
  refine law_row Tryd.func6 rfl (by kernel_rfl) (by kernel_rfl) (by rw [Tryd.params6]; intro t ht; simp at ht; subst ht; exact ⟨by kernel_rfl, of_decide_eq_true (by kernel_rfl)⟩) os started H enc #[Set4.zero.val] (by kernel_rfl) (by kernel_rfl) (by kernel_rfl) (by kernel_rfl) (by kernel_rfl) ?_
  intro W base args ds p hval hA hsz hT
  rw [Tryd.params6] at hA hval
  obtain ⟨v0, vs0, d0, ds0, p0, q0, hargs, rfl, rfl, h0, r0⟩ := trodAll_cons hA
  obtain ⟨rfl, rfl, rfl⟩ := trodAll_nil r0
  obtain rfl : args = #[v0] := by cases args; simp_all
  obtain ⟨s0, rfl⟩ := open_set (hval 0 _ v0 rfl rfl) h0
  exact ⟨rfl, back_walk s0 W hT⟩
theorem marksBack_said : Rows.MarksBackSaid :=
  OpenClaim.holds_of_wide 6 Tryd.f6 rfl rfl rfl rfl rfl rfl rfl ⟨rfl, rfl, rfl, rfl, rfl⟩ rfl rfl rfl rfl rfl (by kernel_rfl) Tryd.func6 (by kernel_rfl)
    (of_decide_eq_true (by kernel_rfl)) (by unfold Func.isWrapper; first | (rw [if_pos (by decide +kernel)]; kernel_rfl) | (rw [if_neg (by decide +kernel)]; exact ⟨rfl, rfl⟩))
    (fun os started H enc _ => marksBack_lifted os started H enc)
theorem marksBack_card : Rows.MarksBackCardSaid :=
  Claim7.holds_tied_plain_at .later [] [.data] true Rows.marksBackCard.stood.harness false
    marksBack_said (fun _ h => by cases h) (by kernel_rfl) (fun _ h => by cases h) marksBack_row_tie rfl ⟨rfl, rfl⟩ (by kernel_rfl) rfl
    (fun f fn hf hfn => by
      obtain rfl : f = 6 := Option.some.inj ((show Tryd.prog.funcNamed "trunnion/trunnionlaw07.MarksBack" = some 6 by kernel_rfl).symm.trans hf) |>.symm
      obtain rfl : fn = Tryd.f6 := (Option.some.inj (Tryd.func6.symm.trans hfn)).symm
      refine ⟨by kernel_rfl, fun j t ht => ?_⟩
      rw [Tryd.params6] at ht
      have hm : t ∈ [23] := by simpa using Array.mem_of_getElem? ht
      simp at hm
      subst hm; exact (show Tryd.prog.wantsStandIn _ = false by kernel_rfl))
    (by kernel_rfl)
#print axioms marksBack_card
end Go.Proofs.YtdgeobofpnbenaaDoor
