/- The cache law's wakes: the walk. -/
import Derived.Test.YtijagdpkclghnaaDoorCWakes
namespace Go.Proofs.YtijagdpkclghnaaDoor
open Go Go.RowKit
set_option maxRecDepth 100000
set_option maxHeartbeats 1000000 in
theorem wakes_any (w : World) (hT : Tab w) : Calls Tryd.prog 8 #[] w fun e w' => e = .returned (.bool true) ∧ Below w.heap.size w w' := by
  have HT := Lib.hid hT
  clear hT
  have n97 := secB_ne 97
  have n98 := secB_ne 98
  have HN := Lib.hid (And.intro n97 n98)
  clear n97 n98
  go_enter Tryd.func8, Tryd.ntmps8
  go_wp2_with fail
  refine (newRun 2 1 3 w 0 1 (by decide) (by decide) (by decide) (by decide) (by decide)).mono ?_
  rintro e w1 ⟨g, C1, rfl, R1⟩
  have H1 := Lib.hid R1
  clear R1
  go_wp2_with fail
  refine Calls.pure_to (sec_any 97 w1) ?_
  intro w2 b2
  have R2 := H1.out.below b2
  have H2 := Lib.hid R2
  clear R2 b2
  go_wp2_with fail
  refine (fillRun H2.out (by decide) (by decide) (by decide) (secB_size 97) (.inr (full_nil H2.out.at_)) (by decide)).mono ?_
  rintro e w3 ⟨rfl, C3, T3, L3, f3, R3, hf3⟩
  simp only [Bool.false_eq_true, if_false] at R3
  have H3 := Lib.hid (And.intro R3 hf3)
  clear R3 hf3
  go_wp2_with fail
  refine Calls.pure_to (sec_any 98 w3) ?_
  intro w4 b4
  have R4 := H3.out.1.below b4
  have H4 := Lib.hid R4
  clear R4 b4
  go_wp2_with fail
  refine (putRun H4.out (by decide) (by decide) (by decide) (secB_size 98) (.inl H3.out.2) (by decide)).mono ?_
  rintro e w5 ⟨rfl, C5, T5, L5, f5, R5, hf5⟩
  have H5 := Lib.hid (And.intro R5 hf5)
  clear R5 hf5
  go_wp2_with fail
  refine (getRun H5.out.1 (by decide) (by decide) (by decide)).mono ?_
  rintro e w6 ⟨rfl, C6, T6, R6⟩
  rw [decide_eq_false HN.out.2]
  have H6 := Lib.hid R6
  clear R6
  go_wp2_with fail
  refine (oldRun H6.out (by decide) (by decide) (by decide)).mono ?_
  rintro e w7 ⟨rfl, R7⟩
  rw [decide_eq_false HN.out.1]
  have H7 := Lib.hid R7
  clear R7
  go_wp2_with fail
  refine (doneRun H7.out (by decide) (by decide) (by decide) (HT.out.below H7.out.b HT.out.lt) (by decide)).mono ?_
  rintro e w8 ⟨rfl, C8, T8, f8, R8, _⟩
  rw [if_neg HN.out.2, if_neg HN.out.2] at R8
  rw [decide_eq_false HN.out.2]
  have H8 := Lib.hid R8
  clear R8
  go_wp2_with fail
  refine (oldRun H8.out (by decide) (by decide) (by decide)).mono ?_
  rintro e w9 ⟨rfl, R9⟩
  rw [decide_eq_false HN.out.2]
  have H9 := Lib.hid R9
  clear R9
  go_wp2_with fail
  refine Calls.pure_to (sec_any 98 w9) ?_
  intro w10 b10
  go_wp2_with fail
  refine Calls.pure_to (sec_any 97 w10) ?_
  intro w11 b11
  have B11 := (H9.out.b.trans (b10.mono H9.out.b.size)).trans (b11.mono (Nat.le_trans H9.out.b.size b10.size))
  clear b10 b11
  go_wp2_with fail
  go_returns
  exact ⟨rfl, B11⟩
end Go.Proofs.YtijagdpkclghnaaDoor
