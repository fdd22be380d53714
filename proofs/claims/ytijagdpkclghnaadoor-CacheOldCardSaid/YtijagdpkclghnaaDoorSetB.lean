/- More plain facts on sets: the first number, all numbers in order. -/
import Derived.Test.YtijagdpkclghnaaDoorSet
import Derived.Lib.TrailingZeros
namespace Go.Proofs.YtijagdpkclghnaaDoor
open Go
theorem ctz_spec (x : Nat) (h0 : x ≠ 0) (hx : x < 18446744073709551616) : Lib.ctz 64 x < 64 ∧ x.testBit (Lib.ctz 64 x) = true ∧ ∀ j, j < Lib.ctz 64 x → x.testBit j = false := by
  have e : Lib.ctz 64 x = Lib.ctzFrom 64 x := by unfold Lib.ctz; rw [if_neg h0]
  obtain ⟨m, hm, hk⟩ := Lib.ctzFrom_spec 64 x (by omega) hx
  rw [e]
  generalize Lib.ctzFrom 64 x = c at *
  refine ⟨hk, ?_, fun j hj => ?_⟩
  · rw [hm, Nat.testBit_eq_decide_div_mod_eq, Nat.mul_div_cancel_left _ (Nat.two_pow_pos c)]
    exact decide_eq_true (by omega)
  · rw [hm, Nat.testBit_eq_decide_div_mod_eq, show c = j + 1 + (c - j - 1) by omega, Nat.pow_add, Nat.pow_succ, Nat.mul_assoc, Nat.mul_assoc, Nat.mul_div_cancel_left _ (Nat.two_pow_pos j)]
    exact decide_eq_false (by omega)
theorem testBit_clear (x j : Nat) (h0 : x ≠ 0) (hx : x < 18446744073709551616) : (x &&& (x - 1)).testBit j = (x.testBit j && decide (j ≠ Lib.ctz 64 x)) := by
  have e : Lib.ctz 64 x = Lib.ctzFrom 64 x := by unfold Lib.ctz; rw [if_neg h0]
  obtain ⟨m, hm, hk⟩ := Lib.ctzFrom_spec 64 x (by omega) hx
  rw [e]
  generalize Lib.ctzFrom 64 x = c at *
  have hp := Nat.two_pow_pos c
  have h1 : x - 1 = 2 ^ c * (2 * m) + (2 ^ c - 1) := by rw [hm, Nat.mul_add]; omega
  have h2 : x = 2 ^ c * (2 * m + 1) + 0 := by omega
  rw [Nat.testBit_and]
  have t1 : x.testBit j = if j < c then false else (2 * m + 1).testBit (j - c) := by
    rw [h2, Nat.testBit_two_pow_mul_add _ hp]; simp
  have t2 : (x - 1).testBit j = if j < c then (2 ^ c - 1).testBit j else (2 * m).testBit (j - c) := by
    rw [h1, Nat.testBit_two_pow_mul_add _ (by omega)]
  rw [t1, t2]
  by_cases hj : j < c
  · simp [hj]
  · rw [if_neg hj, if_neg hj]
    by_cases e2 : j = c
    · subst e2; simp
    · obtain ⟨r, hr⟩ : ∃ r, j - c = r + 1 := ⟨j - c - 1, by omega⟩
      rw [hr, Nat.testBit_succ, Nat.testBit_succ, show (2 * m + 1) / 2 = m by omega, show 2 * m / 2 = m by omega]
      simp [e2]
theorem clear_lt (x : Nat) (h0 : x ≠ 0) : x &&& (x - 1) < x := Nat.lt_of_le_of_lt Nat.and_le_right (by omega)
/-- The numbers of a word, rising, each with base added. -/
def bitsOf (base y : Nat) : List Nat := ((List.range 64).filter fun j => y.testBit j).map (base + ·)
theorem filter_first (f g : Nat → Bool) (c n : Nat) (hc : c < n) (h1 : f c = true) (h2 : ∀ j, j < c → f j = false) (h3 : ∀ j, g j = (f j && decide (j ≠ c))) : (List.range n).filter f = c :: (List.range n).filter g := by
  obtain ⟨r, rfl⟩ : ∃ r, n = c + (1 + r) := ⟨n - c - 1, by omega⟩
  have e : List.range (c + (1 + r)) = List.range c ++ ([c] ++ (List.range r).map (fun x => c + 1 + x)) := by
    rw [List.range_add, List.range_add, List.map_append, List.map_map]
    simp [Function.comp_def, Nat.add_assoc]
  rw [e, List.filter_append, List.filter_append, List.filter_append, List.filter_append]
  have a1 : (List.range c).filter f = [] := List.filter_eq_nil_iff.2 fun j hj => by rw [h2 j (List.mem_range.1 hj)]; simp
  have a2 : (List.range c).filter g = [] := List.filter_eq_nil_iff.2 fun j hj => by rw [h3, h2 j (List.mem_range.1 hj)]; simp
  have a3 : [c].filter f = [c] := by simp [h1]
  have a4 : [c].filter g = [] := by simp [h3]
  rw [a1, a2, a3, a4]
  simp only [List.nil_append, List.singleton_append, List.cons.injEq, true_and]
  refine List.filter_congr fun j hj => ?_
  obtain ⟨x, _, rfl⟩ := List.mem_map.1 hj
  rw [h3]; simp; omega
theorem bitsOf_step (base y : Nat) (h0 : y ≠ 0) (hy : y < 18446744073709551616) : bitsOf base y = (base + Lib.ctz 64 y) :: bitsOf base (y &&& (y - 1)) := by
  obtain ⟨h1, h2, h3⟩ := ctz_spec y h0 hy
  unfold bitsOf
  rw [filter_first _ _ _ 64 h1 h2 h3 (fun j => testBit_clear y j h0 hy)]; rfl
theorem bitsOf_zero (base : Nat) : bitsOf base 0 = [] := by unfold bitsOf; rw [List.filter_eq_nil_iff.2 (by simp)]; rfl
namespace Set4
theorem list_words (s : Set4) : s.list = bitsOf 0 s.a ++ (bitsOf 64 s.b ++ (bitsOf 128 s.c ++ bitsOf 192 s.d)) := by
  have part : ∀ k, k < 4 → ((List.range 64).map (fun j => 64 * k + j)).filter s.has = bitsOf (64 * k) (s.word k) := fun k hk => by
    unfold bitsOf
    rw [List.filter_map]
    congr 1
    refine List.filter_congr fun j hj => ?_
    exact has_at s k j hk (List.mem_range.1 hj)
  have e : List.range 256 = ((List.range 64).map (fun j => 64 * 0 + j)) ++ (((List.range 64).map (fun j => 64 * 1 + j)) ++ (((List.range 64).map (fun j => 64 * 2 + j)) ++ ((List.range 64).map (fun j => 64 * 3 + j)))) := by decide +kernel
  unfold list
  rw [e, List.filter_append, List.filter_append, List.filter_append, part 0 (by omega), part 1 (by omega), part 2 (by omega), part 3 (by omega)]
  rfl
/-- The least number. -/
def first (s : Set4) : Option Nat := s.list.head?
theorem first_at (s : Set4) (k : Nat) (hk : k < 4) (hz : ∀ m, m < k → s.word m = 0) (hn : s.word k ≠ 0) : s.first = some (64 * k + Lib.ctz 64 (s.word k)) := by
  unfold first
  rw [list_words]
  have hw := bitsOf_step (64 * k) (s.word k) hn (s.word_lt k)
  have : k = 0 ∨ k = 1 ∨ k = 2 ∨ k = 3 := by omega
  rcases this with rfl | rfl | rfl | rfl
  · rw [show s.a = s.word 0 by rfl, hw]; rfl
  · have z0 := hz 0 (by omega)
    rw [show s.a = s.word 0 by rfl, z0, bitsOf_zero, show s.b = s.word 1 by rfl, hw]; rfl
  · have z0 := hz 0 (by omega); have z1 := hz 1 (by omega)
    rw [show s.a = s.word 0 by rfl, z0, bitsOf_zero, show s.b = s.word 1 by rfl, z1, bitsOf_zero, show s.c = s.word 2 by rfl, hw]; rfl
  · have z0 := hz 0 (by omega); have z1 := hz 1 (by omega); have z2 := hz 2 (by omega)
    rw [show s.a = s.word 0 by rfl, z0, bitsOf_zero, show s.b = s.word 1 by rfl, z1, bitsOf_zero, show s.c = s.word 2 by rfl, z2, bitsOf_zero, show s.d = s.word 3 by rfl, hw]; rfl
theorem first_none (s : Set4) (hz : ∀ m, m < 4 → s.word m = 0) : s.first = none := by
  unfold first
  rw [list_words, show s.a = s.word 0 by rfl, hz 0 (by omega), show s.b = s.word 1 by rfl, hz 1 (by omega), show s.c = s.word 2 by rfl, hz 2 (by omega), show s.d = s.word 3 by rfl, hz 3 (by omega)]
  simp [bitsOf_zero]
def next (s : Set4) (from' : Int) : Option Nat := (s.less (upto from'.toNat)).first
end Set4
end Go.Proofs.YtijagdpkclghnaaDoor
