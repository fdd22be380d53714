/- Sets of numbers below 256 as four words: plain facts, no program in them. -/
import Derived.WalkKit
namespace Go.Proofs.YtijagdpkclghnaaDoor
open Go
/-- Four words of 64 bits. -/
structure Set4 where
  a : Nat
  b : Nat
  c : Nat
  d : Nat
  ha : a < 18446744073709551616
  hb : b < 18446744073709551616
  hc : c < 18446744073709551616
  hd : d < 18446744073709551616
theorem pow_lt64 (j : Nat) (hj : j < 64) : 2 ^ j < 18446744073709551616 := by
  have : 2 ^ j ≤ 2 ^ 63 := Nat.pow_le_pow_right (by omega) (by omega)
  omega
theorem pow_wrap (j : Nat) (hj : j < 64) : IntKind.u64.wrap (2 ^ j) = ((2 ^ j : Nat) : Int) := by
  have h := pow_lt64 j hj
  have e : ((2 : Int) ^ j) = ((2 ^ j : Nat) : Int) := by simp
  rw [IntKind.wrap_u64, e]
  generalize 2 ^ j = p at *
  omega
theorem and_pow (x j : Nat) : x &&& 2 ^ j = (x.testBit j).toNat * 2 ^ j := by
  refine Nat.eq_of_testBit_eq fun i => ?_
  rw [Nat.testBit_and, Nat.testBit_two_pow]
  by_cases e : j = i
  · subst e; cases h : x.testBit j <;> simp
  · cases x.testBit j <;> simp [e]
theorem and_pow_ne (x j : Nat) (hx : x < 18446744073709551616) (hj : j < 64) : (!(bits .and .u64 (x : Int) ((2 ^ j : Nat) : Int) == 0)) = x.testBit j := by
  rw [u64_and_nat x (2 ^ j) hx (pow_lt64 j hj), and_pow]
  have := Nat.two_pow_pos j
  generalize 2 ^ j = p at *
  cases x.testBit j
  · simp
  · simp; omega
namespace Set4
abbrev cells (s : Set4) : List Value := [.int .u64 (s.a : Int), .int .u64 (s.b : Int), .int .u64 (s.c : Int), .int .u64 (s.d : Int)]
abbrev val (s : Set4) : Value := .agg #[.int .u64 (s.a : Int), .int .u64 (s.b : Int), .int .u64 (s.c : Int), .int .u64 (s.d : Int)]
def word (s : Set4) (k : Nat) : Nat := if k = 0 then s.a else if k = 1 then s.b else if k = 2 then s.c else s.d
theorem word_lt (s : Set4) (k : Nat) : s.word k < 18446744073709551616 := by
  unfold word; split; exact s.ha; split; exact s.hb; split; exact s.hc; exact s.hd
def has (s : Set4) (i : Nat) : Bool := decide (i < 256) && (s.word (i / 64)).testBit (i % 64)
theorem ext_words {s t : Set4} (h : ∀ k, k < 4 → s.word k = t.word k) : s = t := by
  have h0 := h 0 (by omega); have h1 := h 1 (by omega); have h2 := h 2 (by omega); have h3 := h 3 (by omega)
  obtain ⟨a, b, c, d, _, _, _, _⟩ := s; obtain ⟨a', b', c', d', _, _, _, _⟩ := t
  simp [word] at h0 h1 h2 h3; subst h0 h1 h2 h3; rfl
theorem big (j : Nat) (hj : ¬ j < 64) : 18446744073709551616 ≤ 2 ^ j := by
  have : 2 ^ 64 ≤ 2 ^ j := Nat.pow_le_pow_right (by omega) (by omega)
  exact this
theorem word_eq {x y : Nat} (hx : x < 18446744073709551616) (hy : y < 18446744073709551616) (h : ∀ j, j < 64 → x.testBit j = y.testBit j) : x = y := by
  refine Nat.eq_of_testBit_eq fun j => ?_
  by_cases hj : j < 64
  · exact h j hj
  · rw [Nat.testBit_lt_two_pow (Nat.lt_of_lt_of_le hx (big j hj)), Nat.testBit_lt_two_pow (Nat.lt_of_lt_of_le hy (big j hj))]
theorem ext_has {s t : Set4} (h : ∀ i, i < 256 → s.has i = t.has i) : s = t := by
  refine ext_words fun k hk => word_eq (s.word_lt k) (t.word_lt k) fun j hj => ?_
  have := h (64 * k + j) (by omega)
  unfold has at this
  rw [show (64 * k + j) / 64 = k by omega, show (64 * k + j) % 64 = j by omega] at this
  simpa [show 64 * k + j < 256 by omega] using this
theorem has_ge (s : Set4) {i : Nat} (h : 256 ≤ i) : s.has i = false := by unfold has; simp; omega
/-- A word for each pair of words. -/
def zip (g : Nat → Nat → Nat) (hg : ∀ x y, x < 18446744073709551616 → y < 18446744073709551616 → g x y < 18446744073709551616) (s t : Set4) : Set4 :=
  ⟨g s.a t.a, g s.b t.b, g s.c t.c, g s.d t.d, hg _ _ s.ha t.ha, hg _ _ s.hb t.hb, hg _ _ s.hc t.hc, hg _ _ s.hd t.hd⟩
theorem word_zip (g hg) (s t : Set4) (k : Nat) : (zip g hg s t).word k = g (s.word k) (t.word k) := by
  unfold word zip; split; rfl; split; rfl; split <;> rfl
theorem or_lt (x y : Nat) (hx : x < 18446744073709551616) (hy : y < 18446744073709551616) : x ||| y < 18446744073709551616 := Nat.or_lt_two_pow (n := 64) hx hy
theorem and_lt (x y : Nat) (hx : x < 18446744073709551616) (_hy : y < 18446744073709551616) : x &&& y < 18446744073709551616 := Nat.lt_of_le_of_lt Nat.and_le_left hx
theorem less_lt (x y : Nat) (hx : x < 18446744073709551616) (_hy : y < 18446744073709551616) : x &&& (18446744073709551615 - y) < 18446744073709551616 := Nat.lt_of_le_of_lt Nat.and_le_left hx
def or : Set4 → Set4 → Set4 := zip (fun x y => x ||| y) or_lt
def and : Set4 → Set4 → Set4 := zip (fun x y => x &&& y) and_lt
def less : Set4 → Set4 → Set4 := zip (fun x y => x &&& (18446744073709551615 - y)) less_lt
theorem has_or (s t : Set4) (i : Nat) : (s.or t).has i = (s.has i || t.has i) := by
  unfold has or; rw [word_zip, Nat.testBit_or]; cases decide (i < 256) <;> simp
theorem has_and (s t : Set4) (i : Nat) : (s.and t).has i = (s.has i && t.has i) := by
  unfold has and; rw [word_zip, Nat.testBit_and]; cases decide (i < 256) <;> simp
theorem testBit_not64 (y j : Nat) (hy : y < 18446744073709551616) (hj : j < 64) : (18446744073709551615 - y).testBit j = !y.testBit j := by
  have := Nat.testBit_two_pow_sub_succ (n := 64) hy j
  rw [show (2 : Nat) ^ 64 - (y + 1) = 18446744073709551615 - y by omega] at this
  rw [this]; simp [hj]
theorem has_less (s t : Set4) (i : Nat) : (s.less t).has i = (s.has i && !t.has i) := by
  unfold has less; rw [word_zip, Nat.testBit_and, testBit_not64 _ _ (t.word_lt _) (Nat.mod_lt _ (by omega))]; cases decide (i < 256) <;> simp
/-- The number of a run of n bits, from f base on. -/
def tot (f : Nat → Bool) : Nat → Nat → Nat
  | _, 0 => 0
  | base, n + 1 => (f base).toNat + 2 * tot f (base + 1) n
theorem tot_lt (f : Nat → Bool) : ∀ n base, tot f base n < 2 ^ n
  | 0, _ => by simp [tot]
  | n + 1, base => by
    have := tot_lt f n (base + 1); unfold tot; rw [Nat.pow_succ]; have : (f base).toNat ≤ 1 := Bool.toNat_le _; omega
theorem testBit_tot (f : Nat → Bool) : ∀ n base j, (tot f base n).testBit j = (decide (j < n) && f (base + j))
  | 0, base, j => by simp [tot]
  | n + 1, base, 0 => by
    unfold tot; rw [Nat.testBit_zero]; cases f base <;> simp
  | n + 1, base, j + 1 => by
    have ih := testBit_tot f n (base + 1) j
    rw [Nat.testBit_succ]
    have e : tot f base (n + 1) / 2 = tot f (base + 1) n := by
      show ((f base).toNat + 2 * tot f (base + 1) n) / 2 = _
      have : (f base).toNat ≤ 1 := Bool.toNat_le _
      omega
    rw [e, ih, show base + (j + 1) = base + 1 + j by omega]
    simp
/-- The set of the numbers that f says yes to. -/
def of (f : Nat → Bool) : Set4 :=
  ⟨tot f 0 64, tot f 64 64, tot f 128 64, tot f 192 64, tot_lt f 64 _, tot_lt f 64 _, tot_lt f 64 _, tot_lt f 64 _⟩
theorem word_of (f : Nat → Bool) (k : Nat) (hk : k < 4) : (of f).word k = tot f (64 * k) 64 := by
  have : k = 0 ∨ k = 1 ∨ k = 2 ∨ k = 3 := by omega
  rcases this with rfl | rfl | rfl | rfl <;> rfl
theorem has_of (f : Nat → Bool) (i : Nat) : (of f).has i = (decide (i < 256) && f i) := by
  unfold has
  by_cases h : i < 256
  · rw [word_of f _ (by omega), testBit_tot, show 64 * (i / 64) + i % 64 = i by omega]
    simp [h, Nat.mod_lt]
  · simp [h]
theorem eq_of {s : Set4} {f : Nat → Bool} (h : ∀ i, i < 256 → s.has i = f i) : s = of f :=
  ext_has fun i hi => by rw [has_of, h i hi]; simp [hi]
theorem of_has (s : Set4) : of s.has = s := (eq_of fun _ _ => rfl).symm
theorem of_congr {f g : Nat → Bool} (h : ∀ i, i < 256 → f i = g i) : of f = of g := eq_of fun i hi => by rw [has_of, h i hi]; simp [hi]
/-- The word with a bit more, without a bit. -/
theorem testBit_pow (k j : Nat) : (2 ^ k).testBit j = decide (k = j) := by rw [Nat.testBit_two_pow]
def zero : Set4 := ⟨0, 0, 0, 0, by omega, by omega, by omega, by omega⟩
theorem has_zero (i : Nat) : zero.has i = false := by unfold has word zero; simp
def with' (s : Set4) (i : Nat) : Set4 := of fun j => decide (j = i) || s.has j
def without (s : Set4) (i : Nat) : Set4 := of fun j => !decide (j = i) && s.has j
def upto (n : Nat) : Set4 := of fun j => decide (j < n)
/-- How many of the first n bits are set. -/
def pop (x : Nat) : Nat → Nat
  | 0 => 0
  | n + 1 => pop x n + (x.testBit n).toNat
def cnt (s : Set4) : Nat → Nat
  | 0 => 0
  | n + 1 => cnt s n + (s.has n).toNat
theorem has_at (s : Set4) (k j : Nat) (hk : k < 4) (hj : j < 64) : s.has (64 * k + j) = (s.word k).testBit j := by
  unfold has; rw [show (64 * k + j) / 64 = k by omega, show (64 * k + j) % 64 = j by omega]; simp [show 64 * k + j < 256 by omega]
theorem word_with (s : Set4) (k j m : Nat) (hk : k < 4) (hj : j < 64) (hm : m < 4) : (s.with' (64 * k + j)).word m = if m = k then s.word k ||| 2 ^ j else s.word m := by
  refine word_eq (word_lt _ _) ?_ fun b hb => ?_
  · split
    · exact or_lt _ _ (s.word_lt _) (pow_lt64 j hj)
    · exact s.word_lt _
  · rw [← has_at _ m b hm hb]
    unfold with'
    rw [has_of, has_at _ m b hm hb]
    by_cases e : m = k
    · subst e; simp [Nat.testBit_or, testBit_pow, show 64 * m + b < 256 by omega]; rw [Bool.or_comm]; congr 1; simp; omega
    · simp [e, show 64 * m + b < 256 by omega]; omega
theorem word_without (s : Set4) (k j m : Nat) (hk : k < 4) (hj : j < 64) (hm : m < 4) : (s.without (64 * k + j)).word m = if m = k then s.word k &&& (18446744073709551615 - 2 ^ j) else s.word m := by
  refine word_eq (word_lt _ _) ?_ fun b hb => ?_
  · split
    · exact Nat.lt_of_le_of_lt Nat.and_le_left (s.word_lt _)
    · exact s.word_lt _
  · rw [← has_at _ m b hm hb]
    unfold without
    rw [has_of, has_at _ m b hm hb]
    by_cases e : m = k
    · subst e; simp only [if_true, Nat.testBit_and, testBit_not64 _ _ (pow_lt64 j hj) hb, testBit_pow, show 64 * m + b < 256 by omega, decide_true, Bool.true_and]; rw [Bool.and_comm]; congr 2; simp; omega
    · simp [e, show 64 * m + b < 256 by omega]; intro _; omega
theorem val_words (s : Set4) : s.val = .agg #[.int .u64 (s.word 0 : Int), .int .u64 (s.word 1 : Int), .int .u64 (s.word 2 : Int), .int .u64 (s.word 3 : Int)] := rfl
theorem tot_upto (N base n : Nat) : tot (fun j => decide (j < N)) base n = 2 ^ (min n (N - base)) - 1 := by
  refine Nat.eq_of_testBit_eq fun i => ?_
  rw [testBit_tot, Nat.testBit_two_pow_sub_one, ← Bool.decide_and]
  exact decide_eq_decide.2 (by omega)
theorem word_upto (N k : Nat) (hk : k < 4) : (upto N).word k = 2 ^ (min 64 (N - 64 * k)) - 1 := by
  unfold upto; rw [word_of _ _ hk, tot_upto]
theorem ones_wrap (r : Nat) (n : Int) (hn : n = (r : Int)) (hr : r < 64) : IntKind.u64.wrap (IntKind.u64.wrap (2 ^ n.toNat) - 1) = ((2 ^ r - 1 : Nat) : Int) := by
  subst hn
  rw [Int.toNat_natCast, pow_wrap r hr, IntKind.wrap_u64]
  have h := pow_lt64 r hr
  have h1 := Nat.two_pow_pos r
  generalize 2 ^ r = p at *
  omega
def empty (s : Set4) : Bool := s.a == 0 && (s.b == 0 && (s.c == 0 && s.d == 0))
theorem empty_iff (s : Set4) : s.empty = true ↔ s = zero := by
  unfold empty
  obtain ⟨a, b, c, d, _, _, _, _⟩ := s
  simp [zero]
def count (s : Set4) : Nat := pop s.a 64 + pop s.b 64 + pop s.c 64 + pop s.d 64
def list (s : Set4) : List Nat := (List.range 256).filter s.has
end Set4
end Go.Proofs.YtijagdpkclghnaaDoor
