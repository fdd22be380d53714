/- MarksLists: all numbers of every set, the next one behind every number, the last one, and the runs, are the document's answers: the Go function trunnionlaw07.MarksLists returns true for every input and leaves its arguments as they were. The row lists the library's table math/bits.deBruijn64tab, which the card ties to the program's text. -/
import Derived.Test.YtdgeobofpnbenaaDoorMRow
import Derived.Test.YtdgeobofpnbenaaDoorMLawLists
namespace Go.Proofs.YtdgeobofpnbenaaDoor
open Go Go.ChangeShapes Go.WideShapes Go.ChangeAt Go.RowKit
set_option maxRecDepth 100000 in
theorem marksLists_lifted (os : Os) (started : os.Started) (H : Type) (enc : TypeId × Value → H) :
    ReturnsInHanded {} Tryd.checked os 7 .any (fun w args => (Rows.marksListsSpec.pre enc Tryd.prog Tryd.f7 [] false w args ∧ laidMet Tryd.prog [("math/bits.deBruijn64tab", Rows.laid_math_bits_deBruijn64tab)] w) ∧ sizedMet enc Tryd.prog Tryd.f7 (OpenSpec.ofChange Rows.marksListsSpec) false w args)
      (Rows.marksListsSpec.post enc Tryd.prog Tryd.f7 false true false false) := by
  refine law_row Tryd.func7 rfl (by kernel_rfl) (by kernel_rfl) (by rw [Tryd.params7]; intro t ht; simp at ht; rcases ht with rfl | rfl <;> exact ⟨by kernel_rfl, of_decide_eq_true (by kernel_rfl)⟩) os started H enc #[Set4.zero.val, .int .i64 0] (by kernel_rfl) (by kernel_rfl) (by kernel_rfl) (by kernel_rfl) (by kernel_rfl) ?_
  intro W base args ds p hval hA hsz hT
  rw [Tryd.params7] at hA hval
  obtain ⟨v0, vs0, d0, ds0, p0, q0, hargs, rfl, rfl, h0, r0⟩ := trodAll_cons hA
  obtain ⟨v1, vs1, d1, ds1, p1, q1, rfl, rfl, rfl, h1, r1⟩ := trodAll_cons r0
  obtain ⟨rfl, rfl, rfl⟩ := trodAll_nil r1
  obtain rfl : args = #[v0, v1] := by cases args; simp_all
  obtain ⟨s0, rfl⟩ := open_set (hval 0 _ v0 rfl rfl) h0
  obtain ⟨i1, rfl, rfl, rfl, _⟩ := open_int Tryd.underlying3 (hval 1 _ v1 rfl rfl) h1
  exact ⟨rfl, lists_walk s0 i1 W hT⟩
theorem marksLists_said : Rows.MarksListsSaid :=
  OpenClaim.holds_of_wide 7 Tryd.f7 rfl rfl rfl rfl rfl rfl rfl ⟨rfl, rfl, rfl, rfl, rfl⟩ rfl rfl rfl rfl rfl (by kernel_rfl) Tryd.func7 (by kernel_rfl)
    (of_decide_eq_true (by kernel_rfl)) (by unfold Func.isWrapper; first | (rw [if_pos (by decide +kernel)]; kernel_rfl) | (rw [if_neg (by decide +kernel)]; exact ⟨rfl, rfl⟩))
    (fun os started H enc _ => marksLists_lifted os started H enc)
theorem marksLists_card : Rows.MarksListsCardSaid :=
  Claim7.holds_tied_plain_at .later [] [.data] true Rows.marksListsCard.stood.harness false
    marksLists_said (fun _ h => by cases h) (by kernel_rfl) (fun _ h => by cases h) marksLists_row_tie rfl ⟨rfl, rfl⟩ (by kernel_rfl) rfl
    (fun f fn hf hfn => by
      obtain rfl : f = 7 := Option.some.inj ((show Tryd.prog.funcNamed "trunnion/trunnionlaw07.MarksLists" = some 7 by kernel_rfl).symm.trans hf) |>.symm
      obtain rfl : fn = Tryd.f7 := (Option.some.inj (Tryd.func7.symm.trans hfn)).symm
      refine ⟨by kernel_rfl, fun j t ht => ?_⟩
      rw [Tryd.params7] at ht
      have hm : t ∈ [23, 3] := by simpa using Array.mem_of_getElem? ht
      simp at hm
      rcases hm with rfl | rfl <;> exact (show Tryd.prog.wantsStandIn _ = false by kernel_rfl))
    (by kernel_rfl)
#print axioms marksLists_card
end Go.Proofs.YtdgeobofpnbenaaDoor
