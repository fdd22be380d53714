/- MarksLaws: for all sets s, t, u of numbers below 256, putting them together, taking away and counting obey the laws of sets: the Go function trunnionlaw07.MarksLaws returns true for every input and leaves its arguments as they were. The row lists the library's table math/bits.deBruijn64tab, which the card ties to the program's text. -/
import Derived.Test.YtdgeobofpnbenaaDoorMRow
import Derived.Test.YtdgeobofpnbenaaDoorMLaws
namespace Go.Proofs.YtdgeobofpnbenaaDoor
open Go Go.ChangeShapes Go.WideShapes Go.ChangeAt Go.RowKit
set_option maxRecDepth 100000 in
theorem marksLaws_lifted (os : Os) (started : os.Started) (H : Type) (enc : TypeId × Value → H) :
    ReturnsInHanded {} Tryd.checked os 4 .any (fun w args => (Rows.marksLawsSpec.pre enc Tryd.prog Tryd.f4 [] false w args ∧ laidMet Tryd.prog [("math/bits.deBruijn64tab", Rows.laid_math_bits_deBruijn64tab)] w) ∧ sizedMet enc Tryd.prog Tryd.f4 (OpenSpec.ofChange Rows.marksLawsSpec) false w args)
      (Rows.marksLawsSpec.post enc Tryd.prog Tryd.f4 false true false false) := by
  refine law_row Tryd.func4 rfl (by kernel_rfl) (by kernel_rfl) (by rw [Tryd.params4]; intro t ht; simp at ht; subst ht; exact ⟨by kernel_rfl, of_decide_eq_true (by kernel_rfl)⟩) os started H enc #[Set4.zero.val, Set4.zero.val, Set4.zero.val] (by kernel_rfl) (by kernel_rfl) (by kernel_rfl) (by kernel_rfl) (by kernel_rfl) ?_
  intro W base args ds p hval hA hsz hT
  rw [Tryd.params4] at hA hval
  obtain ⟨v0, vs0, d0, ds0, p0, q0, hargs, rfl, rfl, h0, r0⟩ := trodAll_cons hA
  obtain ⟨v1, vs1, d1, ds1, p1, q1, rfl, rfl, rfl, h1, r1⟩ := trodAll_cons r0
  obtain ⟨v2, vs2, d2, ds2, p2, q2, rfl, rfl, rfl, h2, r2⟩ := trodAll_cons r1
  obtain ⟨rfl, rfl, rfl⟩ := trodAll_nil r2
  obtain rfl : args = #[v0, v1, v2] := by cases args; simp_all
  obtain ⟨s, rfl⟩ := open_set (hval 0 _ v0 rfl rfl) h0
  obtain ⟨t, rfl⟩ := open_set (hval 1 _ v1 rfl rfl) h1
  obtain ⟨u, rfl⟩ := open_set (hval 2 _ v2 rfl rfl) h2
  exact ⟨rfl, laws_walk s t u W hT⟩
theorem marksLaws_said : Rows.MarksLawsSaid :=
  OpenClaim.holds_of_wide 4 Tryd.f4 rfl rfl rfl rfl rfl rfl rfl ⟨rfl, rfl, rfl, rfl, rfl⟩ rfl rfl rfl rfl rfl (by kernel_rfl) Tryd.func4 (by kernel_rfl)
    (of_decide_eq_true (by kernel_rfl)) (by unfold Func.isWrapper; first | (rw [if_pos (by decide +kernel)]; kernel_rfl) | (rw [if_neg (by decide +kernel)]; exact ⟨rfl, rfl⟩))
    (fun os started H enc _ => marksLaws_lifted os started H enc)
theorem marksLaws_card : Rows.MarksLawsCardSaid :=
  Claim7.holds_tied_plain_at .later [] [.data] true Rows.marksLawsCard.stood.harness false
    marksLaws_said (fun _ h => by cases h) (by kernel_rfl) (fun _ h => by cases h) marksLaws_row_tie rfl ⟨rfl, rfl⟩ (by kernel_rfl) rfl
    (fun f fn hf hfn => by
      obtain rfl : f = 4 := Option.some.inj ((show Tryd.prog.funcNamed "trunnion/trunnionlaw07.MarksLaws" = some 4 by kernel_rfl).symm.trans hf) |>.symm
      obtain rfl : fn = Tryd.f4 := (Option.some.inj (Tryd.func4.symm.trans hfn)).symm
      refine ⟨by kernel_rfl, fun j t ht => ?_⟩
      rw [Tryd.params4] at ht
      have hm : t ∈ [23, 23, 23] := by simpa using Array.mem_of_getElem? ht
      simp at hm
      subst hm
      exact (show Tryd.prog.wantsStandIn _ = false by kernel_rfl))
    (by kernel_rfl)
#print axioms marksLaws_card
end Go.Proofs.YtdgeobofpnbenaaDoor
