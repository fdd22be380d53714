/- Plan: the plain laws of what is chosen. No walk in it. -/
import Derived.Test.YtdmbenhhjpeepaaDoorPWakes
namespace Go.Proofs.YtdmbenhhjpeepaaDoor
open Go Go.RowKit
set_option maxRecDepth 100000
theorem has_ofNat (n : Nat) (h : n < 18446744073709551616) (i : Nat) : (Set4.ofNat n h).has i = n.testBit i := by
  unfold Set4.has Set4.word Set4.ofNat
  by_cases hi : i < 64
  · have e1 : i / 64 = 0 := by omega
    have e2 : i % 64 = i := by omega
    have e3 : i < 256 := by omega
    simp [e1, e2, e3]
  · have e : n.testBit i = false := Nat.testBit_lt_two_pow (Nat.lt_of_lt_of_le h (Nat.pow_le_pow_right (n := 2) (by decide) (show 64 ≤ i by omega)))
    rw [e]
    have e1 : i / 64 ≠ 0 := by omega
    simp only [e1, if_false]
    split <;> (try split) <;> simp
theorem empty_has (s : Set4) (h : ∀ i, i < 256 → s.has i = false) : s.empty = true := (Set4.empty_iff s).2 (Set4.ext_has fun i hi => by rw [h i hi, Set4.has_zero])
theorem has_empty (s : Set4) (h : s.empty = true) (i : Nat) : s.has i = false := by rw [(Set4.empty_iff s).1 h, Set4.has_zero]
theorem has_upto (n i : Nat) : (Set4.upto n).has i = (decide (i < 256) && decide (i < n)) := Set4.has_of _ _
theorem PS.has_ends (p : PS) (i : Nat) : p.ends.has i = (decide (i < 256) && decide ((i : Int) = p.data ∨ (i : Int) = p.data + 1)) := by
  unfold PS.ends Set4.ofInts
  rw [Set4.has_of]
  simp
/-- What a good state is. -/
theorem PS.good_iff {p : PS} (h : p.good = true) : (2 ≤ p.data ∧ p.data ≤ 30) ∧ p.D.empty = false ∧ (∀ i, p.D.has i = true → p.H.has i = true) ∧ (∀ i, p.H.has i = true → (i : Int) < p.data) ∧ (∀ i, p.K.has i = true → (i : Int) < p.data) ∧
    (∀ i, p.L.has i = true → (i : Int) < p.data + 2) ∧ p.L.count ≤ 2 := by
  unfold PS.good at h
  simp only [Bool.and_eq_true, decide_eq_true_eq, Bool.not_eq_true'] at h
  obtain ⟨hd, ⟨⟨h1, h2⟩, h3, h4⟩, h5, h6⟩ := h
  refine ⟨hd, h1, fun i hi => ?_, fun i hi => ?_, fun i hi => ?_, fun i hi => ?_, h6⟩
  · have := has_empty _ h2 i
    rw [Set4.has_less, hi] at this
    simpa using this
  · have := has_empty _ h3 i
    rw [Set4.has_less, hi, PS.all, has_upto] at this
    simp at this
    have := this.2
    omega
  · have := has_empty _ h4 i
    rw [Set4.has_less, hi, PS.all, has_upto] at this
    simp at this
    have := this.2
    omega
  · have := has_empty _ h5 i
    rw [Set4.has_less, hi, Set4.has_or, PS.all, has_upto, PS.has_ends] at this
    simp at this
    by_cases hl : (i : Int) < p.data
    · omega
    · have h9 := (this (.inr (by omega))).2
      omega
theorem PS.good_of {p : PS} (hd : 2 ≤ p.data ∧ p.data ≤ 30) (h1 : p.D.empty = false) (h2 : ∀ i, p.D.has i = true → p.H.has i = true) (h3 : ∀ i, p.H.has i = true → (i : Int) < p.data) (h4 : ∀ i, p.K.has i = true → (i : Int) < p.data)
    (h5 : ∀ i, p.L.has i = true → (i : Int) < p.data + 2) (h6 : p.L.count ≤ 2) : p.good = true := by
  unfold PS.good
  simp only [Bool.and_eq_true, decide_eq_true_eq, Bool.not_eq_true']
  refine ⟨hd, ⟨⟨h1, empty_has _ fun i hi => ?_⟩, empty_has _ fun i hi => ?_, empty_has _ fun i hi => ?_⟩, empty_has _ fun i hi => ?_, h6⟩
  · rw [Set4.has_less]
    cases e : p.D.has i
    · rfl
    · rw [h2 i e]; rfl
  · rw [Set4.has_less, PS.all, has_upto]
    cases e : p.H.has i
    · rfl
    · have := h3 i e
      have h9 : i < p.data.toNat := by omega
      simp [hi, h9]
  · rw [Set4.has_less, PS.all, has_upto]
    cases e : p.K.has i
    · rfl
    · have := h4 i e
      have h9 : i < p.data.toNat := by omega
      simp [hi, h9]
  · rw [Set4.has_less, Set4.has_or, PS.all, has_upto, PS.has_ends]
    cases e : p.L.has i
    · rfl
    · have := h5 i e
      by_cases h9 : i < p.data.toNat
      · simp [hi, h9]
      · have h8 : (i : Int) = p.data ∨ (i : Int) = p.data + 1 := by omega
        simp [hi, h8]
/-- The first two bits. -/
theorem pick2_bits (L : Nat) : ∀ k i, (pick2 L k).1.testBit i = true → L.testBit i = true
  | 0, i, h => by simp [pick2] at h
  | k + 1, i, h => by
    unfold pick2 at h
    split at h
    · rename_i hc
      rw [Nat.testBit_or, Bool.or_eq_true] at h
      rcases h with h | h
      · exact pick2_bits L k i h
      · rw [Nat.testBit_two_pow] at h
        simp at h hc
        rw [← h]; exact hc.1
    · exact pick2_bits L k i h
theorem pick2_congr (L M : Nat) : ∀ k, (∀ i, i < k → L.testBit i = M.testBit i) → pick2 L k = pick2 M k
  | 0, _ => rfl
  | k + 1, h => by
    unfold pick2
    rw [pick2_congr L M k fun i hi => h i (by omega), h k (by omega)]
theorem pick2_small : ∀ N, N < 10 → ∀ l, l < 512 → Pop.popR 9 (pick2 l N).1 ≤ 2 := by decide +kernel
theorem pick2_count (L N : Nat) (hN : N < 10) : Set4.pop (pick2 L N).1 64 ≤ 2 := by
  have e : pick2 L N = pick2 (L % 2 ^ 9) N := pick2_congr _ _ N fun i hi => by
    rw [Nat.testBit_mod_two_pow, decide_eq_true (show i < 9 by omega), Bool.true_and]
  rw [e]
  have h1 := pick2_small N hN (L % 2 ^ 9) (Nat.mod_lt _ (by decide))
  have h2 := pick2_lt (L % 2 ^ 9) N
  have h3 : (pick2 (L % 2 ^ 9) N).1 / 2 ^ 9 = 0 := Nat.div_eq_of_lt (Nat.lt_of_lt_of_le h2 (Nat.pow_le_pow_right (by decide) (by omega)))
  have h4 : Pop.popR 55 0 = 0 := by decide +kernel
  rw [Pop.pop_eq, show (64 : Nat) = 9 + 55 from rfl, Pop.popR_add 9 55, h3, h4]
  exact h1
theorem dirt_ne {D m : Nat} : dirt D m ≠ 0 := by unfold dirt; split <;> omega
theorem dirt_bits {D n i : Nat} (hn : 0 < n) (h : (dirt D (2 ^ n - 1)).testBit i = true) : i < n := by
  unfold dirt at h
  split at h
  · cases i with
    | zero => omega
    | succ i => rw [Nat.testBit_succ] at h; simp at h
  · rw [Nat.testBit_and, Nat.testBit_two_pow_sub_one] at h
    simp at h
    exact h.2
theorem and_bits {D n i : Nat} (h : (D &&& (2 ^ n - 1)).testBit i = true) : i < n := by
  rw [Nat.testBit_and, Nat.testBit_two_pow_sub_one] at h
  simp at h
  exact h.2
/-- What the law's good makes is good. -/
theorem gd_good (x : Raw) : x.gd.ps.good = true := by
  have hn := x.dn_le
  have hdata : x.gd.ps.data = (x.dn : Int) := rfl
  refine PS.good_of (by rw [hdata]; omega) ?_ (fun i hi => ?_) (fun i hi => ?_) (fun i hi => ?_) (fun i hi => ?_) ?_
  · have : ¬ x.gd.ps.D.empty = true := fun h => by
      have h2 := (Set4.empty_iff _).1 h
      have h3 : x.gd.ps.D.a = 0 := by rw [h2]; rfl
      exact dirt_ne h3
    simpa using this
  · have h1 : x.gd.ps.D.has i = (dirt x.D (2 ^ x.dn - 1)).testBit i := has_ofNat _ _ i
    have h2 : x.gd.ps.H.has i = (x.H &&& (2 ^ x.dn - 1) ||| dirt x.D (2 ^ x.dn - 1)).testBit i := has_ofNat _ _ i
    rw [h2, Nat.testBit_or, ← h1, hi, Bool.or_true]
  · have h2 : x.gd.ps.H.has i = (x.H &&& (2 ^ x.dn - 1) ||| dirt x.D (2 ^ x.dn - 1)).testBit i := has_ofNat _ _ i
    rw [h2, Nat.testBit_or, Bool.or_eq_true] at hi
    rw [hdata]
    rcases hi with hi | hi
    · have := and_bits hi; omega
    · have := dirt_bits (by omega) hi; omega
  · have h2 : x.gd.ps.K.has i = (x.K &&& (2 ^ x.dn - 1)).testBit i := has_ofNat _ _ i
    rw [h2] at hi
    rw [hdata]
    have := and_bits hi; omega
  · have h2 : x.gd.ps.L.has i = (pick2 x.L (x.dn + 2)).1.testBit i := has_ofNat _ _ i
    rw [h2] at hi
    rw [hdata]
    have h3 := pick2_lt x.L (x.dn + 2)
    by_cases h4 : i < x.dn + 2
    · omega
    · have := Nat.testBit_lt_two_pow (Nat.lt_of_lt_of_le h3 (Nat.pow_le_pow_right (n := 2) (by decide) (show x.dn + 2 ≤ i by omega)))
      rw [hi] at this; cases this
  · show Set4.pop (pick2 x.L (x.dn + 2)).1 64 + Set4.pop 0 64 + Set4.pop 0 64 + Set4.pop 0 64 ≤ 2
    have h1 := pick2_count x.L (x.dn + 2) (by omega)
    have h2 : Set4.pop 0 64 = 0 := by decide +kernel
    omega
/-- The least of a list: it is in it, none is less, and it is the first one if that reads nothing. -/
theorem minOf_mem (x : Int × Set4) : ∀ xs, minOf x xs = x ∨ minOf x xs ∈ xs := fun xs => by
  induction xs generalizing x with
  | nil => exact .inl rfl
  | cons y ys ih =>
    show minOf (better x y) ys = x ∨ minOf (better x y) ys ∈ y :: ys
    rcases ih (better x y) with h | h
    · rw [h]
      unfold better
      split
      · exact .inr (List.mem_cons_self ..)
      · exact .inl rfl
    · exact .inr (List.mem_cons_of_mem _ h)
theorem minOf_le (x : Int × Set4) : ∀ xs, (minOf x xs).2.count ≤ x.2.count ∧ ∀ y ∈ xs, (minOf x xs).2.count ≤ y.2.count := fun xs => by
  induction xs generalizing x with
  | nil => exact ⟨Nat.le_refl _, fun y hy => by cases hy⟩
  | cons y ys ih =>
    have h := ih (better x y)
    have h1 : (better x y).2.count ≤ x.2.count ∧ (better x y).2.count ≤ y.2.count := by
      unfold better
      split <;> constructor <;> omega
    refine ⟨Nat.le_trans h.1 h1.1, fun z hz => ?_⟩
    rcases List.mem_cons.1 hz with rfl | hz
    · exact Nat.le_trans h.1 h1.2
    · exact h.2 z hz
theorem minOf_none (x : Int × Set4) (h : x.2.count = 0) : ∀ xs, minOf x xs = x := fun xs => by
  induction xs with
  | nil => rfl
  | cons y ys ih =>
    show minOf (better x y) ys = x
    have : better x y = x := by unfold better; rw [if_neg (by omega)]
    rw [this, ih]
theorem choose_mem (p : PS) : p.choose ∈ p.ways := by
  obtain ⟨x, xs, h, _⟩ := ways_ne p
  unfold PS.choose
  rw [h]
  rcases minOf_mem x xs with e | e
  · show minOf x xs ∈ _; rw [e]; exact List.mem_cons_self ..
  · exact List.mem_cons_of_mem _ e
theorem choose_le (p : PS) : ∀ y ∈ p.ways, p.choose.2.count ≤ y.2.count := by
  obtain ⟨x, xs, h, _⟩ := ways_ne p
  unfold PS.choose
  rw [h]
  intro y hy
  rcases List.mem_cons.1 hy with rfl | hy
  · exact (minOf_le y xs).1
  · exact (minOf_le x xs).2 y hy
theorem mem_ways {p : PS} {y : Int × Set4} (h : y ∈ p.ways) : (y = (0, Set4.zero) ∧ p.fullB = true) ∨ (y = (1, p.greatR) ∧ p.greatB = true) ∨ (y = (2, p.smallR) ∧ p.smallB = true) ∨ y = (3, p.wholeR) := by
  unfold PS.ways at h
  simp only [List.mem_append, List.mem_singleton] at h
  rcases h with (h | h | h) | h
  · split at h
    · rename_i e; exact .inl ⟨by simpa using h, e⟩
    · cases h
  · split at h
    · rename_i e; exact .inr (.inl ⟨by simpa using h, e⟩)
    · cases h
  · split at h
    · rename_i e; exact .inr (.inr (.inl ⟨by simpa using h, e⟩))
    · cases h
  · exact .inr (.inr (.inr h))
theorem zero_and (s : Set4) : (Set4.zero.and s).empty = true := empty_has _ fun i _ => by rw [Set4.has_and, Set4.has_zero, Bool.false_and]
/-- No way reads a lost column. -/
theorem ways_lost {p : PS} {y : Int × Set4} (h : y ∈ p.ways) : (y.2.and p.L).empty = true := by
  rcases mem_ways h with ⟨rfl, _⟩ | ⟨rfl, e⟩ | ⟨rfl, e⟩ | rfl
  · exact zero_and _
  · unfold PS.greatB at e
    rw [Bool.and_eq_true] at e
    exact e.2
  · unfold PS.smallB at e
    rw [Bool.and_eq_true] at e
    have h1 := has_empty _ e.1
    refine empty_has _ fun i _ => ?_
    have := h1 i
    rw [Set4.has_and] at this ⊢
    unfold PS.smallR PS.endsR
    rw [Set4.has_or, Set4.has_less]
    cases e1 : p.L.has i
    · simp
    · rw [e1, Bool.and_true] at this
      rw [this]
      simp
  · refine empty_has _ fun i _ => ?_
    unfold PS.wholeR
    rw [Set4.has_and, Set4.has_less]
    cases p.L.has i <;> simp
theorem great_have (p : PS) : (p.greatR.and p.H).empty = true := empty_has _ fun i _ => by
  unfold PS.greatR
  rw [Set4.has_and, Set4.has_less]
  cases p.H.has i <;> simp
theorem small_known {p : PS} (h : p.good = true) : (p.smallR.and p.K).empty = true := empty_has _ fun i _ => by
  have hk := (PS.good_iff h).2.2.2.2.1 i
  unfold PS.smallR PS.olds PS.endsR
  rw [Set4.has_and, Set4.has_or, Set4.has_less, Set4.has_less, PS.has_ends]
  cases e : p.K.has i
  · simp
  · have h1 := hk e
    have h2 : ¬ ((i : Int) = p.data ∨ (i : Int) = p.data + 1) := by omega
    simp [h2]
theorem choose_kind {p : PS} (h : p.good = true) : (p.choose.1 = 1 → (p.choose.2.and p.H).empty = true) ∧ (p.choose.1 = 2 → (p.choose.2.and p.K).empty = true) := by
  rcases mem_ways (choose_mem p) with ⟨e, _⟩ | ⟨e, _⟩ | ⟨e, _⟩ | e
  · rw [e]; exact ⟨fun h => by simp at h, fun h => by simp at h⟩
  · rw [e]; exact ⟨fun _ => great_have p, fun h => by simp at h⟩
  · rw [e]; exact ⟨fun h => by simp at h, fun _ => small_known h⟩
  · rw [e]; exact ⟨fun h => by simp at h, fun h => by simp at h⟩
theorem zero_count : Set4.zero.count = 0 := by decide +kernel
theorem choose_full (p : PS) : (p.choose.1 == 0) = p.H.beq p.all ∧ (p.choose.1 = 0 → p.choose.2.empty = true) := by
  by_cases hf : p.fullB = true
  · have e : p.choose = (0, Set4.zero) := by
      unfold PS.choose PS.ways
      rw [if_pos hf]
      exact minOf_none (0, Set4.zero) zero_count _
    rw [e]
    exact ⟨hf.symm, fun _ => by decide +kernel⟩
  · have hne : p.choose.1 ≠ 0 := by
      rcases mem_ways (choose_mem p) with ⟨_, e⟩ | ⟨e, _⟩ | ⟨e, _⟩ | e
      · exact absurd e hf
      · rw [e]; simp
      · rw [e]; simp
      · rw [e]; simp
    refine ⟨?_, fun h => absurd h hne⟩
    have h1 : p.H.beq p.all = false := by simpa [PS.fullB] using hf
    rw [h1]
    simpa using hne
end Go.Proofs.YtdmbenhhjpeepaaDoor
