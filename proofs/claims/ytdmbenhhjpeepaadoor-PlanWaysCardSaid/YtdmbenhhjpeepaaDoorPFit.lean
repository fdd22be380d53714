/- Plan: the program's state and the document's are alike: plain laws, no walk. -/
import Derived.Test.YtdmbenhhjpeepaaDoorRChoose
namespace Go.Proofs.YtdmbenhhjpeepaaDoor
open Go Go.RowKit
set_option maxRecDepth 100000
theorem pop_cnt (x : Nat) : ∀ k, Set4.pop x k = cnt x.testBit k
  | 0 => rfl
  | k + 1 => by
    rw [cnt_succ, ← pop_cnt x k]
    show Set4.pop x k + (x.testBit k).toNat = _
    cases x.testBit k <;> simp
theorem cnt_congr {f g : Nat → Bool} : ∀ {k : Nat}, (∀ i, i < k → f i = g i) → cnt f k = cnt g k
  | 0, _ => rfl
  | k + 1, h => by rw [cnt_succ, cnt_succ, cnt_congr (fun i hi => h i (by omega)), h k (by omega)]
theorem cnt_far {f : Nat → Bool} (h : ∀ i, 32 ≤ i → f i = false) : ∀ j, cnt f (32 + j) = cnt f 32
  | 0 => rfl
  | j + 1 => by rw [← Nat.add_assoc, cnt_succ, cnt_far h j, h (32 + j) (by omega)]; simp
theorem cnt_pos {f : Nat → Bool} {k : Nat} : 0 < cnt f k ↔ ∃ i, i < k ∧ f i = true := by
  unfold cnt
  rw [List.countP_pos_iff]
  simp
theorem bits_far {n : Nat} (h : n < 4294967296) (i : Nat) (hi : 32 ≤ i) : n.testBit i = false := Nat.testBit_lt_two_pow (Nat.lt_of_lt_of_le h (Nat.pow_le_pow_right (n := 2) (by decide) hi))
theorem lt_of_far {n : Nat} (h : ∀ i, 32 ≤ i → n.testBit i = false) : n < 4294967296 := Nat.lt_pow_two_of_testBit (n := 32) n h
theorem count_ofNat (n : Nat) (h : n < 18446744073709551616) (hf : ∀ i, 32 ≤ i → n.testBit i = false) : (Set4.ofNat n h).count = cnt n.testBit 32 := by
  show Set4.pop n 64 + Set4.pop 0 64 + Set4.pop 0 64 + Set4.pop 0 64 = _
  have h2 : Set4.pop 0 64 = 0 := by decide +kernel
  rw [h2, pop_cnt, ← cnt_far hf 32]; rfl
theorem has_toSet (f : Nat → Bool) (i : Nat) : (toSet f).has i = (decide (i < 32) && f i) := by unfold toSet; rw [has_ofNat, natOf_bit]
theorem count_toSet (f : Nat → Bool) : (toSet f).count = cnt f 32 := by
  unfold toSet
  rw [count_ofNat _ _ (fun i hi => by rw [natOf_bit]; simp; omega)]
  exact cnt_congr fun i hi => by rw [natOf_bit, decide_eq_true hi, Bool.true_and]
def conv (x : Int × (Nat → Bool)) : Int × Set4 := (x.1, toSet x.2)
theorem conv_better (m x : Int × (Nat → Bool)) : conv (rbetter m x) = better (conv m) (conv x) := by
  unfold rbetter better
  show conv _ = if ((toSet x.2).count : Int) - ((toSet m.2).count : Int) < 0 then conv x else conv m
  rw [count_toSet, count_toSet]
  by_cases h : cnt x.2 32 < cnt m.2 32
  · rw [if_pos h, if_pos (by omega)]
  · rw [if_neg h, if_neg (by omega)]
theorem conv_min : ∀ (xs : List (Int × (Nat → Bool))) (x : Int × (Nat → Bool)), conv (rmin x xs) = minOf (conv x) (xs.map conv)
  | [], _ => rfl
  | y :: ys, x => by
    show conv (rmin (rbetter x y) ys) = minOf (better (conv x) (conv y)) (ys.map conv)
    rw [← conv_better]
    exact conv_min ys _
theorem conv_choose {p : PS} {r : RSt} (h : p.ways = r.ways.map conv) : p.choose = conv r.choose := by
  obtain ⟨x, xs, hx, _⟩ := r.ways_ne
  unfold PS.choose RSt.choose
  rw [h, hx]
  exact (conv_min xs x).symm
theorem Raw.odd_iff (y : Raw) : y.rs.odd = false ↔ y.D < 4294967296 ∧ y.H < 4294967296 ∧ y.K < 4294967296 ∧ y.L < 4294967296 := by
  show (Raw.big y.D || Raw.big y.H || Raw.big y.K || Raw.big y.L) = false ↔ _
  unfold Raw.big
  simp only [Bool.or_eq_false_iff, decide_eq_false_iff_not, Nat.not_le]
  constructor
  · rintro ⟨⟨⟨a, b⟩, c⟩, d⟩; exact ⟨a, b, c, d⟩
  · rintro ⟨a, b, c, d⟩; exact ⟨⟨⟨a, b⟩, c⟩, d⟩
theorem Raw.hD' (y : Raw) (i : Nat) : y.ps.D.has i = y.rs.D i := has_ofNat _ _ i
theorem Raw.hH' (y : Raw) (i : Nat) : y.ps.H.has i = y.rs.H i := has_ofNat _ _ i
theorem Raw.hK' (y : Raw) (i : Nat) : y.ps.K.has i = y.rs.K i := has_ofNat _ _ i
theorem Raw.hL' (y : Raw) (i : Nat) : y.ps.L.has i = y.rs.L i := has_ofNat _ _ i
theorem RSt.good_iff (r : RSt) : r.good = true ↔ (2 ≤ r.data ∧ r.data ≤ 30) ∧ r.odd = false ∧ (∀ i, i < 32 → r.okAt i = true) ∧ 0 < cnt r.D 32 ∧ cnt r.L 32 ≤ 2 := by
  unfold RSt.good
  simp only [Bool.and_eq_true, decide_eq_true_eq, Bool.not_eq_true', List.all_eq_true, List.mem_range]
theorem RSt.okAt_iff (r : RSt) (i : Nat) : r.okAt i = true ↔ (r.D i = true → (i : Int) < r.data ∧ r.H i = true) ∧ (r.H i = true → (i : Int) < r.data) ∧ (r.K i = true → (i : Int) < r.data) ∧ (r.L i = true → (i : Int) < r.data + 2) := by
  unfold RSt.okAt
  by_cases h1 : r.data ≤ (i : Int)
  · have n1 : ¬ (i : Int) < r.data := by omega
    by_cases h2 : r.data + 2 ≤ (i : Int)
    · have n2 : ¬ (i : Int) < r.data + 2 := by omega
      cases r.D i <;> cases r.H i <;> cases r.K i <;> cases r.L i <;> simp [h1, h2, n1, n2]
    · have n2 : (i : Int) < r.data + 2 := by omega
      cases r.D i <;> cases r.H i <;> cases r.K i <;> cases r.L i <;> simp [h1, h2, n1, n2]
  · have n1 : (i : Int) < r.data := by omega
    have h2 : ¬ r.data + 2 ≤ (i : Int) := by omega
    have n2 : (i : Int) < r.data + 2 := by omega
    cases r.D i <;> cases r.H i <;> cases r.K i <;> cases r.L i <;> simp [h1, h2, n1, n2]
theorem Raw.good_same (y : Raw) : y.ps.good = y.rs.good := by
  rw [Bool.eq_iff_iff]
  constructor
  · intro h
    obtain ⟨hd, h1, h2, h3, h4, h5, h6⟩ := PS.good_iff h
    have hdd : y.ps.data = y.rs.data := rfl
    rw [hdd] at hd h3 h4 h5
    simp only [Raw.hD', Raw.hH', Raw.hK', Raw.hL'] at h2 h3 h4 h5
    have fD : ∀ i, 32 ≤ i → y.rs.D i = false := fun i hi => by
      cases e : y.rs.D i
      · rfl
      · have := h3 i (h2 i e); omega
    have fH : ∀ i, 32 ≤ i → y.rs.H i = false := fun i hi => by
      cases e : y.rs.H i
      · rfl
      · have := h3 i e; omega
    have fK : ∀ i, 32 ≤ i → y.rs.K i = false := fun i hi => by
      cases e : y.rs.K i
      · rfl
      · have := h4 i e; omega
    have fL : ∀ i, 32 ≤ i → y.rs.L i = false := fun i hi => by
      cases e : y.rs.L i
      · rfl
      · have := h5 i e; omega
    refine y.rs.good_iff.2 ⟨hd, y.odd_iff.2 ⟨lt_of_far fD, lt_of_far fH, lt_of_far fK, lt_of_far fL⟩, fun i _ => (y.rs.okAt_iff i).2 ⟨fun e => ⟨h3 i (h2 i e), h2 i e⟩, h3 i, h4 i, h5 i⟩, ?_, ?_⟩
    · have hne : ¬ ∀ i, i < 256 → y.ps.D.has i = false := fun hall => by rw [empty_has _ hall] at h1; cases h1
      refine cnt_pos.2 ?_
      false_or_by_contra
      rename_i hno
      refine hne fun i _ => ?_
      rw [Raw.hD']
      cases e : y.rs.D i
      · rfl
      · refine absurd ⟨i, ?_, e⟩ hno
        false_or_by_contra
        have := fD i (by omega)
        rw [this] at e; cases e
    · have : y.ps.L.count = cnt y.rs.L 32 := count_ofNat _ _ fL
      rw [← this]; exact h6
  · intro h
    obtain ⟨hd, ho, hok, hc, hl⟩ := y.rs.good_iff.1 h
    obtain ⟨bD, bH, bK, bL⟩ := y.odd_iff.1 ho
    have hdd : y.ps.data = y.rs.data := rfl
    have far : ∀ {f : Nat → Bool}, (∀ i, 32 ≤ i → f i = false) → ∀ i, f i = true → i < 32 := fun hf i e => by
      false_or_by_contra
      rw [hf i (by omega)] at e; cases e
    refine PS.good_of (by rw [hdd]; exact hd) ?_ (fun i hi => ?_) (fun i hi => ?_) (fun i hi => ?_) (fun i hi => ?_) ?_
    · obtain ⟨i, hi, hDi⟩ := cnt_pos.1 hc
      cases e : y.ps.D.empty
      · rfl
      · have := has_empty _ e i
        rw [Raw.hD', hDi] at this; cases this
    · rw [Raw.hD'] at hi
      rw [Raw.hH']
      exact (((y.rs.okAt_iff i).1 (hok i (far (bits_far bD) i hi))).1 hi).2
    · rw [Raw.hH'] at hi
      exact ((y.rs.okAt_iff i).1 (hok i (far (bits_far bH) i hi))).2.1 hi
    · rw [Raw.hK'] at hi
      exact ((y.rs.okAt_iff i).1 (hok i (far (bits_far bK) i hi))).2.2.1 hi
    · rw [Raw.hL'] at hi
      exact ((y.rs.okAt_iff i).1 (hok i (far (bits_far bL) i hi))).2.2.2 hi
    · have : y.ps.L.count = cnt y.rs.L 32 := count_ofNat _ _ (bits_far bL)
      rw [this]; exact hl
end Go.Proofs.YtdmbenhhjpeepaaDoor
