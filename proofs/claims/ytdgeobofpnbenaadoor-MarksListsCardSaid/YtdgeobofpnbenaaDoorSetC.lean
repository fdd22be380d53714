/- Plain facts on sets: the next number, runs. -/
import Derived.Test.YtdgeobofpnbenaaDoorSetB
namespace Go.Proofs.YtdgeobofpnbenaaDoor
open Go
namespace Set4
theorem mem_list (s : Set4) (i : Nat) : i ∈ s.list ↔ s.has i = true := by
  unfold list
  rw [List.mem_filter, List.mem_range]
  exact ⟨fun h => h.2, fun h => ⟨Nat.lt_of_not_le (fun hi => (by rw [has_ge s hi] at h; cases h)), h⟩⟩
theorem head_filter (f : Nat → Bool) (n : Nat) {m : Nat} (h : ((List.range n).filter f).head? = some m) : m < n ∧ f m = true ∧ ∀ j, j < m → f j = false := by
  rw [List.head?_filter] at h
  have h1 := List.find?_some h
  have h2 := List.mem_of_find?_eq_some h
  refine ⟨List.mem_range.1 h2, h1, fun j hj => ?_⟩
  have h3 := (List.find?_range_eq_some).1 h
  simpa using h3.2.2 j hj
theorem head_filter_none (f : Nat → Bool) (n : Nat) (h : ((List.range n).filter f).head? = none) : ∀ j, j < n → f j = false := by
  intro j hj
  rw [List.head?_eq_none_iff, List.filter_eq_nil_iff] at h
  simpa using h j (List.mem_range.2 hj)
theorem has_next (s : Set4) (n : Int) (i : Nat) : (s.less (upto n.toNat)).has i = (s.has i && decide (n ≤ (i : Int))) := by
  rw [has_less, upto, has_of]
  by_cases h : i < 256
  · simp only [h, decide_true, Bool.true_and, ← decide_not]
    congr 1
    exact decide_eq_decide.2 (by omega)
  · rw [has_ge s (by omega)]; simp
theorem next_some {s : Set4} {n : Int} {m : Nat} (h : s.next n = some m) : m < 256 ∧ s.has m = true ∧ n ≤ (m : Int) ∧ ∀ j : Nat, j < m → n ≤ (j : Int) → s.has j = false := by
  unfold next first list at h
  obtain ⟨h1, h2, h3⟩ := head_filter _ _ h
  rw [has_next, Bool.and_eq_true, decide_eq_true_eq] at h2
  refine ⟨h1, h2.1, h2.2, fun j hj hn => ?_⟩
  have := h3 j hj
  rw [has_next, decide_eq_true hn, Bool.and_true] at this
  exact this
theorem next_none {s : Set4} {n : Int} (h : s.next n = none) : ∀ j : Nat, n ≤ (j : Int) → s.has j = false := by
  intro j hn
  by_cases hj : j < 256
  · unfold next first list at h
    have := head_filter_none _ _ h j hj
    rw [has_next, decide_eq_true hn, Bool.and_true] at this
    exact this
  · exact has_ge s (by omega)
theorem next_eq {s : Set4} {n : Int} {m : Nat} (h1 : s.has m = true) (h2 : n ≤ (m : Int)) (h3 : ∀ j : Nat, j < m → n ≤ (j : Int) → s.has j = false) : s.next n = some m := by
  cases h : s.next n with
  | none => rw [next_none h m h2] at h1; cases h1
  | some k =>
    obtain ⟨a1, a2, a3, a4⟩ := next_some h
    by_cases e : k < m
    · rw [h3 k e a3] at a2; cases a2
    · by_cases e2 : m < k
      · rw [a4 m e2 h2] at h1; cases h1
      · congr 1; omega
def compl (s : Set4) : Set4 := (upto 256).less s
theorem has_compl (s : Set4) (i : Nat) : s.compl.has i = (decide (i < 256) && !s.has i) := by
  unfold compl; rw [has_less, upto, has_of]; simp
/-- Where the run ends that begins at a. -/
def runEnd (s : Set4) (a : Nat) : Nat := (s.compl.next a).getD 256
theorem runEnd_spec (s : Set4) (a : Nat) (ha : s.has a = true) : a < s.runEnd a ∧ s.runEnd a ≤ 256 ∧ (∀ j, a ≤ j → j < s.runEnd a → s.has j = true) ∧ s.has (s.runEnd a) = false := by
  have ha2 : a < 256 := by by_cases h : a < 256; exact h; rw [has_ge s (by omega)] at ha; cases ha
  unfold runEnd
  cases h : s.compl.next a with
  | none =>
    refine ⟨ha2, Nat.le_refl _, fun j h1 h2 => ?_, has_ge s (Nat.le_refl _)⟩
    have := next_none h j (by omega)
    rw [has_compl, decide_eq_true (show j < 256 from h2), Bool.true_and] at this
    simpa using this
  | some m =>
    obtain ⟨h1, h2, h3, h4⟩ := next_some h
    rw [has_compl, Bool.and_eq_true] at h2
    have hm : s.has m = false := by simpa using h2.2
    refine ⟨?_, by simp; omega, fun j k1 k2 => ?_, hm⟩
    · show a < m
      by_cases e : a = m
      · subst e; rw [hm] at ha; cases ha
      · omega
    · have k2' : j < m := k2
      have := h4 j k2' (by omega)
      rw [has_compl, decide_eq_true (show j < 256 by omega), Bool.true_and] at this
      simpa using this
/-- The runs from a number on (f: so many at most). -/
def runsF (s : Set4) : Nat → Nat → List (Nat × Nat)
  | 0, _ => []
  | f + 1, i => match s.next i with
    | none => []
    | some a => (a, s.runEnd a - a) :: runsF s f (s.runEnd a)
def runsFrom (s : Set4) (i : Nat) : List (Nat × Nat) := runsF s (257 - i) i
theorem runsF_more (s : Set4) : ∀ f g i, 257 - i ≤ f → 257 - i ≤ g → runsF s f i = runsF s g i
  | 0, 0, _, _, _ => rfl
  | 0, g + 1, i, hf, _ => by
    unfold runsF
    cases h : s.next i with
    | none => rfl
    | some a => have := next_some h; omega
  | f + 1, 0, i, _, hg => by
    unfold runsF
    cases h : s.next i with
    | none => rfl
    | some a => have := next_some h; omega
  | f + 1, g + 1, i, hf, hg => by
    unfold runsF
    cases h : s.next i with
    | none => rfl
    | some a =>
      obtain ⟨h1, h2, h3, _⟩ := next_some h
      have := runEnd_spec s a h2
      show _ :: _ = _ :: _
      rw [runsF_more s f g (s.runEnd a) (by omega) (by omega)]
theorem runsFrom_none {s : Set4} {i : Nat} (h : s.next i = none) : s.runsFrom i = [] := by
  unfold runsFrom
  cases 257 - i with
  | zero => rfl
  | succ f => unfold runsF; rw [h]
theorem runsFrom_some {s : Set4} {i a : Nat} (h : s.next i = some a) : s.runsFrom i = (a, s.runEnd a - a) :: s.runsFrom (s.runEnd a) := by
  obtain ⟨h1, h2, h3, _⟩ := next_some h
  have hs := runEnd_spec s a h2
  unfold runsFrom
  obtain ⟨f, hf⟩ : ∃ f, 257 - i = f + 1 := ⟨256 - i, by omega⟩
  rw [hf]
  show (match s.next i with | none => [] | some a => (a, s.runEnd a - a) :: runsF s f (s.runEnd a)) = _
  rw [h]
  show _ :: _ = _ :: _
  rw [runsF_more s f (257 - s.runEnd a) (s.runEnd a) (by omega) (by omega)]
theorem runsFrom_len (s : Set4) : ∀ d i, 257 - i ≤ d → (s.runsFrom i).length ≤ d
  | 0, i, hd => by
    cases h : s.next i with
    | none => rw [runsFrom_none h]; simp
    | some a => have := next_some h; omega
  | d + 1, i, hd => by
    cases h : s.next i with
    | none => rw [runsFrom_none h]; simp
    | some a =>
      obtain ⟨h1, h2, h3, _⟩ := next_some h
      have hs := runEnd_spec s a h2
      rw [runsFrom_some h, List.length_cons]
      have := runsFrom_len s d (s.runEnd a) (by omega)
      omega
/-- As cells. -/
def pairs (l : List (Nat × Nat)) : List Value := l.flatMap fun p => [Value.int .i64 (p.1 : Int), Value.int .i64 (p.2 : Int)]
theorem pairs_append (a b : List (Nat × Nat)) : pairs (a ++ b) = pairs a ++ pairs b := by unfold pairs; simp
theorem pairs_length (a : List (Nat × Nat)) : (pairs a).length = 2 * a.length := by
  induction a with
  | nil => rfl
  | cons p a ih => show (_ :: _ :: pairs a).length = _; simp only [List.length_cons, ih]; omega
end Set4
end Go.Proofs.YtdgeobofpnbenaaDoor
