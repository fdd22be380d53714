/- Sets made again of their runs and lists. Plain facts. -/
import Derived.Test.YtdgeobofpnbenaaDoorSetC
namespace Go.Proofs.YtdgeobofpnbenaaDoor
open Go
namespace Set4
def inRuns (rs : List (Nat × Nat)) (i : Nat) : Bool := rs.any fun p => decide (p.1 ≤ i) && decide (i < p.1 + p.2)
def ofRuns (rs : List (Nat × Nat)) : Set4 := of (inRuns rs)
theorem ofRuns_nil : ofRuns [] = zero := (eq_of fun i _ => by rw [has_zero]; rfl).symm
theorem ofRuns_snoc (rs : List (Nat × Nat)) (a n : Nat) : (ofRuns rs).or ((upto (a + n)).less (upto a)) = ofRuns (rs ++ [(a, n)]) := by
  refine eq_of fun i hi => ?_
  rw [has_or, has_less, upto, has_of, upto, has_of, ofRuns, has_of]
  unfold inRuns
  rw [List.any_append]
  simp only [hi, decide_true, Bool.true_and, List.any_cons, List.any_nil, Bool.or_false]
  congr 1
  by_cases h : a ≤ i
  · have h1 : ¬ i < a := by omega
    simp [h, h1]
  · have h1 : i < a := by omega
    simp [h, h1]
theorem inRuns_from (s : Set4) : ∀ d i, 257 - i ≤ d → ∀ j, inRuns (s.runsFrom i) j = (s.has j && decide (i ≤ j))
  | 0, i, hd, j => by
    cases h : s.next i with
    | none =>
      rw [runsFrom_none h]
      show false = _
      by_cases hj : i ≤ j
      · rw [next_none h j (by omega)]; rfl
      · simp [hj]
    | some a => have := next_some h; omega
  | d + 1, i, hd, j => by
    cases h : s.next i with
    | none =>
      rw [runsFrom_none h]
      show false = _
      by_cases hj : i ≤ j
      · rw [next_none h j (by omega)]; rfl
      · simp [hj]
    | some a =>
      obtain ⟨h1, h2, h3, h4⟩ := next_some h
      obtain ⟨k1, k2, k3, k4⟩ := runEnd_spec s a h2
      rw [runsFrom_some h]
      show ((decide (a ≤ j) && decide (j < a + (s.runEnd a - a))) || inRuns (s.runsFrom (s.runEnd a)) j) = _
      rw [inRuns_from s d (s.runEnd a) (by omega) j]
      by_cases e1 : j < a
      · by_cases e2 : i ≤ j
        · rw [h4 j e1 (by omega)]; simp; omega
        · simp [e2]; omega
      · by_cases e3 : j < s.runEnd a
        · have a1 : decide (a ≤ j) = true := by simp; omega
          have a2 : decide (j < a + (s.runEnd a - a)) = true := by simp; omega
          have a3 : decide (i ≤ j) = true := by simp; omega
          rw [k3 j (by omega) e3, a1, a2, a3]; rfl
        · have a1 : decide (j < a + (s.runEnd a - a)) = false := by simp; omega
          rw [a1]
          have a2 : decide (s.runEnd a ≤ j) = true := by simp; omega
          have a3 : decide (i ≤ j) = true := by simp; omega
          rw [a2, a3]; simp
theorem ofRuns_runs (s : Set4) : ofRuns (s.runsFrom 0) = s :=
  (eq_of fun i _ => by rw [inRuns_from s 257 0 (by omega) i]; simp).symm
theorem run_le (s : Set4) : ∀ d i, 257 - i ≤ d → ∀ p ∈ s.runsFrom i, p.1 + p.2 ≤ 256
  | 0, i, hd, p, hp => by
    cases h : s.next i with
    | none => rw [runsFrom_none h] at hp; cases hp
    | some a => have := next_some h; omega
  | d + 1, i, hd, p, hp => by
    cases h : s.next i with
    | none => rw [runsFrom_none h] at hp; cases hp
    | some a =>
      obtain ⟨h1, h2, h3, h4⟩ := next_some h
      obtain ⟨k1, k2, k3, k4⟩ := runEnd_spec s a h2
      rw [runsFrom_some h] at hp
      rcases List.mem_cons.1 hp with e | e
      · subst e; show a + (s.runEnd a - a) ≤ 256; omega
      · exact run_le s d (s.runEnd a) (by omega) p e
/-- All numbers from n on. -/
def listFrom (s : Set4) (n : Nat) : List Nat := (List.range 256).filter fun j => s.has j && decide (n ≤ j)
theorem listFrom_zero (s : Set4) : s.listFrom 0 = s.list := by unfold listFrom list; exact List.filter_congr fun j _ => by simp
theorem listFrom_none {s : Set4} {n : Nat} (h : s.next n = none) : s.listFrom n = [] :=
  List.filter_eq_nil_iff.2 fun j _ => by
    by_cases hj : n ≤ j
    · rw [next_none h j (by omega)]; simp
    · simp [hj]
theorem listFrom_some {s : Set4} {n a : Nat} (h : s.next n = some a) : s.listFrom n = a :: s.listFrom (a + 1) := by
  obtain ⟨h1, h2, h3, h4⟩ := next_some h
  unfold listFrom
  refine filter_first _ _ a 256 h1 ?_ ?_ ?_
  · rw [h2]; simp; omega
  · intro j hj
    by_cases e : n ≤ j
    · rw [h4 j hj (by omega)]; rfl
    · simp [e]
  · intro j
    cases hj : s.has j with
    | false => rfl
    | true =>
      have e : ¬ (n ≤ j ∧ j < a) := fun ⟨e1, e2⟩ => by rw [h4 j e2 (by omega)] at hj; cases hj
      simp only [Bool.true_and]
      rw [← Bool.decide_and]
      exact decide_eq_decide.2 (by omega)
theorem list_le (s : Set4) : s.list.length ≤ 256 := by unfold list; exact Nat.le_trans (List.length_filter_le _ _) (by simp)
end Set4
end Go.Proofs.YtdgeobofpnbenaaDoor
