/- TurnOnce: each key is there once; never more keys, nor dear ones, than may be; a victim is there, isn't pinned; dropping victims empties all that isn't pinned. -/
import Derived.Test.YtfbcgnehpkffeaaPRow
import Derived.Test.YtfbcgnehpkffeaaUOpen
import Derived.Test.YtfbcgnehpkffeaaULawOnce
namespace Go.Proofs.Ytfbcgnehpkffeaa
open Go Go.ChangeShapes Go.WideShapes Go.ChangeAt Go.RowKit
set_option maxRecDepth 100000 in
theorem turnOnce_lifted (os : Os) (started : os.Started) (H : Type) (enc : TypeId × Value → H) :
    ReturnsInHanded {} Try.checked os 4 .any (Rows.turnOnceSpec.pre6 enc Try.prog Try.f4 [] false)
      (Rows.turnOnceSpec.post enc Try.prog Try.f4 false true false false) := by
  refine law_row Try.func4 rfl (by kernel_rfl) (by kernel_rfl) (by rw [Try.params4]; intro t ht; simp at ht; rcases ht with rfl | rfl <;> exact ⟨by kernel_rfl, of_decide_eq_true (by kernel_rfl)⟩) os started H enc #[.agg #[.int .i64 0, .int .i64 0], .slice none 0 0] (by kernel_rfl) (by kernel_rfl) (by kernel_rfl) (by kernel_rfl) (by kernel_rfl) ?_
  intro W base args ds p hval hA hsz
  rw [Try.params4] at hA hval
  obtain ⟨v0, vs0, d0, ds0, p0, q0, hargs, rfl, rfl, h0, r0⟩ := trodAll_cons hA
  obtain ⟨v1, vs1, d1, ds1, p1, q1, rfl, rfl, rfl, h1, r1⟩ := trodAll_cons r0
  obtain ⟨rfl, rfl, rfl⟩ := trodAll_nil r1
  obtain rfl : args = #[v0, v1] := by cases args; simp_all
  obtain ⟨x0, y0, rfl, hx0, hy0⟩ := open_two Try.underlying45 Try.underlying3 (by kernel_rfl) (by kernel_rfl) (hval 0 _ v0 rfl rfl) h0
  obtain ⟨a1, m1, c1, rfl⟩ := okWide_slice Try.underlying22 (hval 1 _ v1 rfl rfl)
  obtain ⟨l1, hl1, hc1, hi1, hn1, hd1⟩ := open_acts h1
  exact ⟨rfl, once_walk x0 y0 a1 m1 c1 l1 W hx0 hy0 hl1 hc1 hn1 hd1⟩
theorem turnOnce_said : Rows.TurnOnceSaid :=
  OpenClaim.holds_of_wide 4 Try.f4 rfl rfl rfl rfl rfl rfl rfl ⟨rfl, rfl, rfl, rfl, rfl⟩ rfl rfl rfl rfl rfl (by kernel_rfl) Try.func4 (by kernel_rfl)
    (of_decide_eq_true (by kernel_rfl)) (by unfold Func.isWrapper; first | (rw [if_pos (by decide +kernel)]; kernel_rfl) | (rw [if_neg (by decide +kernel)]; exact ⟨rfl, rfl⟩))
    (fun os started H enc _ => turnOnce_lifted os started H enc)
#print axioms turnOnce_said
end Go.Proofs.Ytfbcgnehpkffeaa
