/- TurnPlays: behind every calls a turn answers, and has, what the document says, step by step. -/
import Derived.Test.YtfbcgnehpkffeaaPRow
import Derived.Test.YtfbcgnehpkffeaaUOpen
import Derived.Test.YtfbcgnehpkffeaaULawPlays
namespace Go.Proofs.Ytfbcgnehpkffeaa
open Go Go.ChangeShapes Go.WideShapes Go.ChangeAt Go.RowKit
set_option maxRecDepth 100000 in
theorem turnPlays_lifted (os : Os) (started : os.Started) (H : Type) (enc : TypeId × Value → H) :
    ReturnsInHanded {} Try.checked os 3 .any (Rows.turnPlaysSpec.pre6 enc Try.prog Try.f3 [] false)
      (Rows.turnPlaysSpec.post enc Try.prog Try.f3 false true false false) := by
  refine law_row Try.func3 rfl (by kernel_rfl) (by kernel_rfl) (by rw [Try.params3]; intro t ht; simp at ht; rcases ht with rfl | rfl <;> exact ⟨by kernel_rfl, of_decide_eq_true (by kernel_rfl)⟩) os started H enc #[.int .i64 0, .int .i64 0, .slice none 0 0] (by kernel_rfl) (by kernel_rfl) (by kernel_rfl) (by kernel_rfl) (by kernel_rfl) ?_
  intro W base args ds p hval hA hsz
  rw [Try.params3] at hA hval
  obtain ⟨v0, vs0, d0, ds0, p0, q0, hargs, rfl, rfl, h0, r0⟩ := trodAll_cons hA
  obtain ⟨v1, vs1, d1, ds1, p1, q1, rfl, rfl, rfl, h1, r1⟩ := trodAll_cons r0
  obtain ⟨v2, vs2, d2, ds2, p2, q2, rfl, rfl, rfl, h2, r2⟩ := trodAll_cons r1
  obtain ⟨rfl, rfl, rfl⟩ := trodAll_nil r2
  obtain rfl : args = #[v0, v1, v2] := by cases args; simp_all
  obtain ⟨i0, rfl, rfl, rfl, hw0⟩ := open_int Try.underlying3 (hval 0 _ v0 rfl rfl) h0
  obtain ⟨i1, rfl, rfl, rfl, hw1⟩ := open_int Try.underlying3 (hval 1 _ v1 rfl rfl) h1
  obtain ⟨a2, m2, c2, rfl⟩ := okWide_slice Try.underlying22 (hval 2 _ v2 rfl rfl)
  obtain ⟨l2, hl2, hc2, hi2, hn2, hd2⟩ := open_acts h2
  exact ⟨rfl, plays_walk i0 i1 a2 m2 c2 l2 W hl2 hc2 hn2 (fun x hx => (hi2 x hx).2) hd2⟩
theorem turnPlays_said : Rows.TurnPlaysSaid :=
  OpenClaim.holds_of_wide 3 Try.f3 rfl rfl rfl rfl rfl rfl rfl ⟨rfl, rfl, rfl, rfl, rfl⟩ rfl rfl rfl rfl rfl (by kernel_rfl) Try.func3 (by kernel_rfl)
    (of_decide_eq_true (by kernel_rfl)) (by unfold Func.isWrapper; first | (rw [if_pos (by decide +kernel)]; kernel_rfl) | (rw [if_neg (by decide +kernel)]; exact ⟨rfl, rfl⟩))
    (fun os started H enc _ => turnPlays_lifted os started H enc)
#print axioms turnPlays_said
end Go.Proofs.Ytfbcgnehpkffeaa
