/- TurnScan: keys that are added once and never touched go one by one, and no dear one goes for them. -/
import Derived.Test.YtfbcgnehpkffeaaPRow
import Derived.Test.YtfbcgnehpkffeaaUOpen
import Derived.Test.YtfbcgnehpkffeaaULawScanW
namespace Go.Proofs.Ytfbcgnehpkffeaa
open Go Go.ChangeShapes Go.WideShapes Go.ChangeAt Go.RowKit
set_option maxRecDepth 100000 in
theorem turnScan_lifted (os : Os) (started : os.Started) (H : Type) (enc : TypeId × Value → H) :
    ReturnsInHanded {} Try.checked os 5 .any (Rows.turnScanSpec.pre6 enc Try.prog Try.f5 [] false)
      (Rows.turnScanSpec.post enc Try.prog Try.f5 false true false false) := by
  refine law_row Try.func5 rfl (by kernel_rfl) (by kernel_rfl) (by rw [Try.params5]; intro t ht; simp at ht; rcases ht with rfl | rfl | rfl <;> exact ⟨by kernel_rfl, of_decide_eq_true (by kernel_rfl)⟩) os started H enc #[.agg #[.int .i64 0, .int .i64 0], .slice none 0 0, .int .i64 0] (by kernel_rfl) (by kernel_rfl) (by kernel_rfl) (by kernel_rfl) (by kernel_rfl) ?_
  intro W base args ds p hval hA hsz
  rw [Try.params5] at hA hval
  obtain ⟨v0, vs0, d0, ds0, p0, q0, hargs, rfl, rfl, h0, r0⟩ := trodAll_cons hA
  obtain ⟨v1, vs1, d1, ds1, p1, q1, rfl, rfl, rfl, h1, r1⟩ := trodAll_cons r0
  obtain ⟨v2, vs2, d2, ds2, p2, q2, rfl, rfl, rfl, h2, r2⟩ := trodAll_cons r1
  obtain ⟨rfl, rfl, rfl⟩ := trodAll_nil r2
  obtain rfl : args = #[v0, v1, v2] := by cases args; simp_all
  obtain ⟨x0, y0, rfl, hx0, hy0⟩ := open_two Try.underlying45 Try.underlying3 (by kernel_rfl) (by kernel_rfl) (hval 0 _ v0 rfl rfl) h0
  obtain ⟨a1, m1, c1, rfl⟩ := okWide_slice Try.underlying22 (hval 1 _ v1 rfl rfl)
  obtain ⟨l1, hl1, hc1, hi1, hn1, hd1⟩ := open_acts h1
  obtain ⟨i2, rfl, rfl, rfl, hw2⟩ := open_int Try.underlying3 (hval 2 _ v2 rfl rfl) h2
  exact ⟨rfl, scan_walk x0 y0 i2 a1 m1 c1 l1 W hx0 hy0 hl1 hc1 hn1 hd1⟩
theorem turnScan_said : Rows.TurnScanSaid :=
  OpenClaim.holds_of_wide 5 Try.f5 rfl rfl rfl rfl rfl rfl rfl ⟨rfl, rfl, rfl, rfl, rfl⟩ rfl rfl rfl rfl rfl (by kernel_rfl) Try.func5 (by kernel_rfl)
    (of_decide_eq_true (by kernel_rfl)) (by unfold Func.isWrapper; first | (rw [if_pos (by decide +kernel)]; kernel_rfl) | (rw [if_neg (by decide +kernel)]; exact ⟨rfl, rfl⟩))
    (fun os started H enc _ => turnScan_lifted os started H enc)
#print axioms turnScan_said
end Go.Proofs.Ytfbcgnehpkffeaa
