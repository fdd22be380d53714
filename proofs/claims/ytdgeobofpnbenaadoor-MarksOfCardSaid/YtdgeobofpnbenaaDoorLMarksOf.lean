/- MarksOf: for every list of numbers, every set of numbers below 256, and every number, the set of the list, the numbers below the number, whether it is in the set, and the set with and without it are the document's answers: the Go function trunnionlaw07.MarksOf returns true for every input and leaves its arguments as they were. The row lists the library's table math/bits.deBruijn64tab, which the card ties to the program's text. -/
import Derived.Test.YtdgeobofpnbenaaDoorMRow
import Derived.Test.YtdgeobofpnbenaaDoorOpen2
import Derived.Test.YtdgeobofpnbenaaDoorMLawOf
namespace Go.Proofs.YtdgeobofpnbenaaDoor
open Go Go.ChangeShapes Go.WideShapes Go.ChangeAt Go.RowKit
set_option maxRecDepth 100000 in
theorem marksOf_lifted (os : Os) (started : os.Started) (H : Type) (enc : TypeId × Value → H) :
    ReturnsInHanded {} Tryd.checked os 5 .any (fun w args => (Rows.marksOfSpec.pre enc Tryd.prog Tryd.f5 [] false w args ∧ laidMet Tryd.prog [("math/bits.deBruijn64tab", Rows.laid_math_bits_deBruijn64tab)] w) ∧ sizedMet enc Tryd.prog Tryd.f5 (OpenSpec.ofChange Rows.marksOfSpec) false w args)
      (Rows.marksOfSpec.post enc Tryd.prog Tryd.f5 false true false false) := by
  refine law_row Tryd.func5 rfl (by kernel_rfl) (by kernel_rfl) (by rw [Tryd.params5]; intro t ht; simp at ht; rcases ht with rfl | rfl | rfl <;> exact ⟨by kernel_rfl, of_decide_eq_true (by kernel_rfl)⟩) os started H enc #[.slice none 0 0, Set4.zero.val, .int .i64 0] (by kernel_rfl) (by kernel_rfl) (by kernel_rfl) (by kernel_rfl) (by kernel_rfl) ?_
  intro W base args ds p hval hA hsz hT
  rw [Tryd.params5] at hA hval
  obtain ⟨v0, vs0, d0, ds0, p0, q0, hargs, rfl, rfl, h0, r0⟩ := trodAll_cons hA
  obtain ⟨v1, vs1, d1, ds1, p1, q1, rfl, rfl, rfl, h1, r1⟩ := trodAll_cons r0
  obtain ⟨v2, vs2, d2, ds2, p2, q2, rfl, rfl, rfl, h2, r2⟩ := trodAll_cons r1
  obtain ⟨rfl, rfl, rfl⟩ := trodAll_nil r2
  obtain rfl : args = #[v0, v1, v2] := by cases args; simp_all
  obtain ⟨a0, m0, c0, rfl⟩ := okWide_slice Tryd.underlying25 (hval 0 _ v0 rfl rfl)
  obtain ⟨xs0, hrd0, hl0, hm0, hc0, hn0, _⟩ := open_slice_ints Tryd.underlying25 Tryd.underlying3 (by kernel_rfl) h0
  obtain ⟨s1, rfl⟩ := open_set (hval 1 _ v1 rfl rfl) h1
  obtain ⟨i2, rfl, rfl, rfl, _⟩ := open_int Tryd.underlying3 (hval 2 _ v2 rfl rfl) h2
  exact ⟨rfl, of_walk a0 m0 c0 xs0 s1 i2 W hT hrd0 hl0 hm0 hc0 hn0⟩
theorem marksOf_said : Rows.MarksOfSaid :=
  OpenClaim.holds_of_wide 5 Tryd.f5 rfl rfl rfl rfl rfl rfl rfl ⟨rfl, rfl, rfl, rfl, rfl⟩ rfl rfl rfl rfl rfl (by kernel_rfl) Tryd.func5 (by kernel_rfl)
    (of_decide_eq_true (by kernel_rfl)) (by unfold Func.isWrapper; first | (rw [if_pos (by decide +kernel)]; kernel_rfl) | (rw [if_neg (by decide +kernel)]; exact ⟨rfl, rfl⟩))
    (fun os started H enc _ => marksOf_lifted os started H enc)
theorem marksOf_card : Rows.MarksOfCardSaid :=
  Claim7.holds_tied_plain_at .later [] [.data] true Rows.marksOfCard.stood.harness false
    marksOf_said (fun _ h => by cases h) (by kernel_rfl) (fun _ h => by cases h) marksOf_row_tie rfl ⟨rfl, rfl⟩ (by kernel_rfl) rfl
    (fun f fn hf hfn => by
      obtain rfl : f = 5 := Option.some.inj ((show Tryd.prog.funcNamed "trunnion/trunnionlaw07.MarksOf" = some 5 by kernel_rfl).symm.trans hf) |>.symm
      obtain rfl : fn = Tryd.f5 := (Option.some.inj (Tryd.func5.symm.trans hfn)).symm
      refine ⟨by kernel_rfl, fun j t ht => ?_⟩
      rw [Tryd.params5] at ht
      have hm : t ∈ [25, 23, 3] := by simpa using Array.mem_of_getElem? ht
      simp at hm
      rcases hm with rfl | rfl | rfl <;> exact (show Tryd.prog.wantsStandIn _ = false by kernel_rfl))
    (by kernel_rfl)
#print axioms marksOf_card
end Go.Proofs.YtdgeobofpnbenaaDoor
