/- The last number of a set. Plain facts. -/
import Derived.Test.YtdgeobofpnbenaaDoorMLast
import Derived.Test.YtdgeobofpnbenaaDoorSetC
namespace Go.Proofs.YtdgeobofpnbenaaDoor
open Go
theorem last_filter (p : Nat → Bool) (m : Nat) (hm : p m = true) : ∀ n, m < n → (∀ j, m < j → j < n → p j = false) → ((List.range n).filter p).getLast? = some m
  | 0, h, _ => by omega
  | n + 1, h, hj => by
    rw [List.range_succ, List.filter_append]
    by_cases e : m = n
    · subst e; simp [hm]
    · have := hj n (by omega) (by omega)
      simp only [List.filter_cons, this, List.filter_nil]
      simpa using last_filter p m hm n (by omega) fun j h1 h2 => hj j h1 (by omega)
theorem bitLen_bit (x : Nat) (hx : x < 18446744073709551616) (h0 : x ≠ 0) : x.testBit (Lib.bitLen x - 1) = true ∧ ∀ j, Lib.bitLen x ≤ j → x.testBit j = false := by
  obtain ⟨h1, h2, h3⟩ := Lib.bitLenAux_bounds 64 x hx h0
  have h1' : 1 ≤ Lib.bitLen x := h1
  have h2' : 2 ^ (Lib.bitLen x - 1) ≤ x := h2
  have h3' : x < 2 ^ Lib.bitLen x := h3
  refine ⟨?_, fun j hj => Nat.testBit_lt_two_pow (Nat.lt_of_lt_of_le h3' (Nat.pow_le_pow_right (by omega) hj))⟩
  obtain ⟨k, hk⟩ : ∃ k, Lib.bitLen x = k + 1 := ⟨Lib.bitLen x - 1, by omega⟩
  rw [hk, Nat.add_sub_cancel] at h2'
  rw [hk] at h3' ⊢
  rw [Nat.add_sub_cancel]
  rw [Nat.pow_succ] at h3'
  have : x / 2 ^ k = 1 := by
    apply Nat.div_eq_of_lt_le <;> omega
  simp [Nat.testBit, Nat.shiftRight_eq_div_pow, this]
theorem Set4.last_at (s : Set4) (k : Nat) (hk : k < 4) (hz : ∀ m, k < m → m < 4 → s.word m = 0) (hn : s.word k ≠ 0) : s.list.getLast? = some (64 * k + (Lib.bitLen (s.word k) - 1)) := by
  obtain ⟨b1, b2⟩ := bitLen_bounds _ (s.word_lt k) hn
  obtain ⟨c1, c2⟩ := bitLen_bit _ (s.word_lt k) hn
  refine last_filter s.has _ ?_ 256 (by omega) ?_
  · unfold Set4.has
    rw [show (64 * k + (Lib.bitLen (s.word k) - 1)) / 64 = k by omega, show (64 * k + (Lib.bitLen (s.word k) - 1)) % 64 = Lib.bitLen (s.word k) - 1 by omega, c1]
    simp; omega
  · intro j h1 h2
    unfold Set4.has
    by_cases e : j / 64 = k
    · rw [e, c2 (j % 64) (by omega)]; simp
    · rw [hz (j / 64) (by omega) (by omega)]; simp
theorem lastW_list (s : Set4) : lastW s = s.list.getLast? := by
  unfold lastW
  by_cases zd : s.d = 0
  · by_cases zc : s.c = 0
    · by_cases zb : s.b = 0
      · by_cases za : s.a = 0
        · rw [if_pos zd, if_pos zc, if_pos zb, if_pos za]
          have e : s.list = [] := by rw [Set4.list_words, za, zb, zc, zd]; rfl
          rw [e]; rfl
        · rw [if_pos zd, if_pos zc, if_pos zb, if_neg za]
          exact (s.last_at 0 (by omega) (fun m h1 h2 => (by have : m = 1 ∨ m = 2 ∨ m = 3 := (by omega); rcases this with rfl | rfl | rfl <;> assumption)) za).symm
      · rw [if_pos zd, if_pos zc, if_neg zb]
        exact (s.last_at 1 (by omega) (fun m h1 h2 => (by have : m = 2 ∨ m = 3 := (by omega); rcases this with rfl | rfl <;> assumption)) zb).symm
    · rw [if_pos zd, if_neg zc]
      exact (s.last_at 2 (by omega) (fun m h1 h2 => (by obtain rfl : m = 3 := (by omega); assumption)) zc).symm
  · rw [if_neg zd]
    exact (s.last_at 3 (by omega) (fun m h1 h2 => (by omega)) zd).symm
end Go.Proofs.YtdgeobofpnbenaaDoor
