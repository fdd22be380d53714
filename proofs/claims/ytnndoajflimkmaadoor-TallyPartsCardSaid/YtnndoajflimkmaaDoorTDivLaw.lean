/- Long division by two digits of 32 bits, as math/bits.Div64 does it: plain laws. -/
import Derived.WalkKit
import Derived.Lib.BitFns
namespace Go.Proofs.YtnndoajflimkmaaDoor
/-- What holds of a guessed digit q with its rest r: u is what is divided (but for the digit u1 behind it), y = y1 * 2^32 + y0 the divisor. -/
structure Guess (u u1 y1 y0 q r : Nat) : Prop where
  eq : u = q * y1 + r
  ge : (u * 4294967296 + u1) / (y1 * 4294967296 + y0) ≤ q
theorem Guess.key {u u1 y1 y0 q r : Nat} (h : Guess u u1 y1 y0 q r) : (u * 4294967296 + u1) + q * y0 = q * (y1 * 4294967296 + y0) + r * 4294967296 + u1 := by
  rw [h.eq, Nat.add_mul, Nat.mul_add, Nat.mul_assoc]; omega
theorem Guess.start (u u1 y1 y0 : Nat) (hy : 0 < y1) (h1 : u1 < 4294967296) : Guess u u1 y1 y0 (u / y1) (u % y1) := by
  refine ⟨(Nat.div_add_mod' u y1).symm, (Nat.le_div_iff_mul_le hy).2 ?_⟩
  obtain ⟨Q, hQ⟩ : ∃ Q, Q = (u * 4294967296 + u1) / (y1 * 4294967296 + y0) := ⟨_, rfl⟩
  rw [← hQ]
  have h2 : Q * (y1 * 4294967296 + y0) ≤ u * 4294967296 + u1 := by rw [hQ]; exact Nat.div_mul_le_self _ _
  rw [Nat.mul_add, ← Nat.mul_assoc] at h2
  omega
theorem Guess.step {u u1 y1 y0 q r : Nat} (h : Guess u u1 y1 y0 q r) (hy : 0 < y1) (h1 : u1 < 4294967296) (hu : u < y1 * 4294967296 + y0) (hc : 4294967296 ≤ q ∨ 4294967296 * r + u1 < q * y0) : 1 ≤ q ∧ Guess u u1 y1 y0 (q - 1) (r + y1) := by
  have hk := h.key
  have hlt : (u * 4294967296 + u1) / (y1 * 4294967296 + y0) < q := by
    rcases hc with hc | hc
    · refine Nat.lt_of_lt_of_le ((Nat.div_lt_iff_lt_mul (by omega)).2 ?_) hc
      omega
    · refine (Nat.div_lt_iff_lt_mul (by omega)).2 ?_
      omega
  have hq : 1 ≤ q := Nat.lt_of_le_of_lt (Nat.zero_le _) hlt
  refine ⟨hq, ⟨?_, Nat.le_sub_one_of_lt hlt⟩⟩
  have e : q * y1 = (q - 1) * y1 + y1 := by
    rw [← Nat.succ_mul]; congr 1; omega
  rw [h.eq, e]; omega
theorem Guess.stop {u u1 y1 y0 q r : Nat} (h : Guess u u1 y1 y0 q r) (hy : 0 < y1) (hc : q * y0 ≤ 4294967296 * r + u1) : q = (u * 4294967296 + u1) / (y1 * 4294967296 + y0) := by
  have hk := h.key
  refine Nat.le_antisymm ((Nat.le_div_iff_mul_le (by omega)).2 (by omega)) h.ge
theorem Guess.out {u u1 y1 y0 q r : Nat} (h : Guess u u1 y1 y0 q r) (hy : 0 < y1) (h0 : y0 < 4294967296) (hu : u < y1 * 4294967296 + y0) (hr : 4294967296 ≤ r) : q = (u * 4294967296 + u1) / (y1 * 4294967296 + y0) := by
  have hq : q < 4294967296 := by
    have e := h.eq
    have : y1 * q < y1 * 4294967296 := by rw [Nat.mul_comm y1 q]; omega
    exact Nat.lt_of_mul_lt_mul_left this
  have hm : q * y0 ≤ 4294967295 * 4294967295 := Nat.mul_le_mul (by omega) (by omega)
  exact h.stop hy (by omega)
/-- The digit is a digit. -/
theorem digit_lt (u u1 y1 y0 : Nat) (h1 : u1 < 4294967296) (hu : u < y1 * 4294967296 + y0) : (u * 4294967296 + u1) / (y1 * 4294967296 + y0) < 4294967296 :=
  (Nat.div_lt_iff_lt_mul (by omega)).2 (by omega)
theorem guess_bound {u u1 y1 y0 q r : Nat} (h : Guess u u1 y1 y0 q r) (hu : u < 18446744073709551616) (hy : 2147483648 ≤ y1) : q ≤ 8589934592 := by
  have h2 : q * 2147483648 ≤ q * y1 := Nat.mul_le_mul_left _ hy
  have := h.eq
  omega
/-- Two digits. -/
theorem two_digits (u u1 u0 y : Nat) :
    (u * 18446744073709551616 + (u1 * 4294967296 + u0)) / y = (u * 4294967296 + u1) / y * 4294967296 + ((u * 4294967296 + u1) % y * 4294967296 + u0) / y := by
  rcases Nat.eq_zero_or_pos y with rfl | hy
  · simp
  have e : u * 18446744073709551616 + (u1 * 4294967296 + u0) = ((u * 4294967296 + u1) % y * 4294967296 + u0) + y * ((u * 4294967296 + u1) / y * 4294967296) := by
    have := Nat.div_add_mod (u * 4294967296 + u1) y
    rw [← Nat.mul_assoc]
    omega
  rw [e, Nat.add_mul_div_left _ _ hy]
  omega
end Go.Proofs.YtnndoajflimkmaaDoor
