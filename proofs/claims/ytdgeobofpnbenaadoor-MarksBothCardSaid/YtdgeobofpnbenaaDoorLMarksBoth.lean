/- MarksBoth: for all sets s, t of numbers below 256, what one of them has, both, the first one alone, how many there are, and whether there are none, is the document's answer: the Go function trunnionlaw07.MarksBoth returns true for every input and leaves its arguments as they were. The row lists the library's table math/bits.deBruijn64tab, which the card ties to the program's text. -/
import Derived.Test.YtdgeobofpnbenaaDoorMRow
import Derived.Test.YtdgeobofpnbenaaDoorMLawBoth
namespace Go.Proofs.YtdgeobofpnbenaaDoor
open Go Go.ChangeShapes Go.WideShapes Go.ChangeAt Go.RowKit
set_option maxRecDepth 100000 in
theorem marksBoth_lifted (os : Os) (started : os.Started) (H : Type) (enc : TypeId × Value → H) :
    ReturnsInHanded {} Tryd.checked os 3 .any (fun w args => (Rows.marksBothSpec.pre enc Tryd.prog Tryd.f3 [] false w args ∧ laidMet Tryd.prog [("math/bits.deBruijn64tab", Rows.laid_math_bits_deBruijn64tab)] w) ∧ sizedMet enc Tryd.prog Tryd.f3 (OpenSpec.ofChange Rows.marksBothSpec) false w args)
      (Rows.marksBothSpec.post enc Tryd.prog Tryd.f3 false true false false) := by
  refine law_row Tryd.func3 rfl (by kernel_rfl) (by kernel_rfl) (by rw [Tryd.params3]; intro t ht; simp at ht; subst ht; exact ⟨by kernel_rfl, of_decide_eq_true (by kernel_rfl)⟩) os started H enc #[Set4.zero.val, Set4.zero.val] (by kernel_rfl) (by kernel_rfl) (by kernel_rfl) (by kernel_rfl) (by kernel_rfl) ?_
  intro W base args ds p hval hA hsz hT
  rw [Tryd.params3] at hA hval
  obtain ⟨v0, vs0, d0, ds0, p0, q0, hargs, rfl, rfl, h0, r0⟩ := trodAll_cons hA
  obtain ⟨v1, vs1, d1, ds1, p1, q1, rfl, rfl, rfl, h1, r1⟩ := trodAll_cons r0
  obtain ⟨rfl, rfl, rfl⟩ := trodAll_nil r1
  obtain rfl : args = #[v0, v1] := by cases args; simp_all
  obtain ⟨s0, rfl⟩ := open_set (hval 0 _ v0 rfl rfl) h0
  obtain ⟨s1, rfl⟩ := open_set (hval 1 _ v1 rfl rfl) h1
  exact ⟨rfl, both_walk s0 s1 W hT⟩
theorem marksBoth_said : Rows.MarksBothSaid :=
  OpenClaim.holds_of_wide 3 Tryd.f3 rfl rfl rfl rfl rfl rfl rfl ⟨rfl, rfl, rfl, rfl, rfl⟩ rfl rfl rfl rfl rfl (by kernel_rfl) Tryd.func3 (by kernel_rfl)
    (of_decide_eq_true (by kernel_rfl)) (by unfold Func.isWrapper; first | (rw [if_pos (by decide +kernel)]; kernel_rfl) | (rw [if_neg (by decide +kernel)]; exact ⟨rfl, rfl⟩))
    (fun os started H enc _ => marksBoth_lifted os started H enc)
theorem marksBoth_card : Rows.MarksBothCardSaid :=
  Claim7.holds_tied_plain_at .later [] [.data] true Rows.marksBothCard.stood.harness false
    marksBoth_said (fun _ h => by cases h) (by kernel_rfl) (fun _ h => by cases h) marksBoth_row_tie rfl ⟨rfl, rfl⟩ (by kernel_rfl) rfl
    (fun f fn hf hfn => by
      obtain rfl : f = 3 := Option.some.inj ((show Tryd.prog.funcNamed "trunnion/trunnionlaw07.MarksBoth" = some 3 by kernel_rfl).symm.trans hf) |>.symm
      obtain rfl : fn = Tryd.f3 := (Option.some.inj (Tryd.func3.symm.trans hfn)).symm
      refine ⟨by kernel_rfl, fun j t ht => ?_⟩
      rw [Tryd.params3] at ht
      have hm : t ∈ [23, 23] := by simpa using Array.mem_of_getElem? ht
      simp at hm
      subst hm; exact (show Tryd.prog.wantsStandIn _ = false by kernel_rfl))
    (by kernel_rfl)
#print axioms marksBoth_card
end Go.Proofs.YtdgeobofpnbenaaDoor
