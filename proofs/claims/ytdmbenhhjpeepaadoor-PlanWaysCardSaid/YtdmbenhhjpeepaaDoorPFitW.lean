/- Plan: the program's ways are the document's: plain laws, no walk. -/
import Derived.Test.YtdmbenhhjpeepaaDoorPFit
namespace Go.Proofs.YtdmbenhhjpeepaaDoor
open Go Go.RowKit
set_option maxRecDepth 100000
/-- Good states alike, by their bits. -/
structure Fit (p : PS) (r : RSt) (m : Nat) : Prop where
  d1 : p.data = (m : Int)
  d2 : r.data = (m : Int)
  m1 : 2 ≤ m
  m2 : m ≤ 30
  D : ∀ i, p.D.has i = r.D i
  H : ∀ i, p.H.has i = r.H i
  K : ∀ i, p.K.has i = r.K i
  L : ∀ i, p.L.has i = r.L i
  dh : ∀ i, r.D i = true → r.H i = true
  hm : ∀ i, r.H i = true → i < m
  km : ∀ i, r.K i = true → i < m
  lm : ∀ i, r.L i = true → i < m + 2
theorem Raw.fit (y : Raw) (h : y.ps.good = true) : ∃ m, Fit y.ps y.rs m := by
  obtain ⟨hd, h1, h2, h3, h4, h5, h6⟩ := PS.good_iff h
  have hdd : y.ps.data = y.rs.data := rfl
  obtain ⟨m, hm⟩ : ∃ m : Nat, y.ps.data = (m : Int) := ⟨y.ps.data.toNat, by omega⟩
  simp only [Raw.hD', Raw.hH', Raw.hK', Raw.hL'] at h2 h3 h4 h5
  refine ⟨m, hm, hdd ▸ hm, by omega, by omega, Raw.hD' y, Raw.hH' y, Raw.hK' y, Raw.hL' y, h2, fun i hi => ?_, fun i hi => ?_, fun i hi => ?_⟩
  · have := h3 i hi; omega
  · have := h4 i hi; omega
  · have := h5 i hi; omega
section
variable {p : PS} {r : RSt} {m : Nat}
theorem Fit.n2 (h : Fit p r m) : r.n2 = m + 2 := by unfold RSt.n2; rw [h.d2]; omega
theorem Fit.all (h : Fit p r m) (i : Nat) : p.all.has i = decide (i < m) := by
  have := h.m2
  unfold PS.all
  rw [has_upto, h.d1, Int.toNat_natCast]
  by_cases e : i < m
  · simp [e]; omega
  · simp [e]
theorem Fit.ends (h : Fit p r m) (i : Nat) : p.ends.has i = (decide (m ≤ i) && decide (i < m + 2)) := by
  have := h.m2
  rw [PS.has_ends, h.d1]
  by_cases e : m ≤ i ∧ i < m + 2
  · have e1 : (i : Int) = (m : Int) ∨ (i : Int) = (m : Int) + 1 := by omega
    simp [e.1, e.2, e1]; omega
  · have e1 : ¬ ((i : Int) = (m : Int) ∨ (i : Int) = (m : Int) + 1) := by omega
    rw [decide_eq_false e1, Bool.and_false]
    symm
    rw [← Bool.decide_and]
    exact decide_eq_false e
theorem Fit.dec (h : Fit p r m) (i : Nat) : decide (r.data ≤ (i : Int)) = decide (m ≤ i) := by rw [h.d2]; exact decide_eq_decide.2 (by omega)
theorem upTo_at (f : Nat → Bool) (n i : Nat) : upTo f n i = (decide (i < n) && f i) := rfl
/-- A set is that of a plan: bit by bit. -/
theorem set_of {s : Set4} {f : Nat → Bool} (h : ∀ i, i < 256 → s.has i = (decide (i < 32) && f i)) : s = toSet f := Set4.ext_has fun i hi => by rw [has_toSet]; exact h i hi
theorem toSet_zero : Set4.zero = toSet zB := set_of fun i _ => by rw [Set4.has_zero]; simp
theorem empty_false (s : Set4) : s.empty = false ↔ ∃ i, i < 256 ∧ s.has i = true := by
  constructor
  · intro h
    false_or_by_contra
    rename_i hno
    have := empty_has s fun i hi => by
      cases e : s.has i
      · rfl
      · exact absurd ⟨i, hi, e⟩ hno
    rw [this] at h; cases h
  · rintro ⟨i, _, hi⟩
    cases e : s.empty
    · rfl
    · have := has_empty _ e i
      rw [hi] at this; cases this
theorem empty_true (s : Set4) : s.empty = true ↔ ∀ i, i < 256 → s.has i = false := ⟨fun h i _ => has_empty _ h i, empty_has s⟩
theorem allOk_iff (r : RSt) (kind : Nat) : r.allOk kind = true ↔ ∀ i, i < r.n2 → r.ba kind i = false := by
  unfold RSt.allOk
  simp only [List.all_eq_true, List.mem_range, Bool.not_eq_true']
theorem Fit.full (h : Fit p r m) : p.fullB = r.may 0 := by
  rw [Bool.eq_iff_iff]
  show p.H.beq p.all = true ↔ r.allOk 0 = true
  rw [Set4.beq_iff, allOk_iff, h.n2]
  constructor
  · intro e i _
    rw [RSt.ba_0, h.dec, ← h.H, e, h.all]
    by_cases c : m ≤ i
    · simp [c]
    · simp [c]; omega
  · intro e
    refine Set4.ext_has fun i _ => ?_
    rw [h.H, h.all]
    by_cases c : i < m
    · have := e i (by omega)
      rw [RSt.ba_0, h.dec, decide_eq_false (by omega : ¬ m ≤ i)] at this
      simpa [c] using this
    · cases e2 : r.H i
      · simp [c]
      · exact absurd (h.hm i e2) c
theorem Fit.greatS (h : Fit p r m) : p.greatR = toSet (upTo (r.rd 1) r.n2) := set_of fun i _ => by
  have := h.m2
  unfold PS.greatR
  rw [Set4.has_less, h.all, h.H, upTo_at, RSt.rd_1, h.dec, h.n2]
  by_cases c : i < m
  · have c1 : ¬ m ≤ i := by omega
    have c2 : i < m + 2 := by omega
    have c3 : i < 32 := by omega
    simp [c, c1, c2, c3]
  · have c1 : m ≤ i := by omega
    simp [c, c1]
theorem Fit.great (h : Fit p r m) : p.greatB = r.may 1 := by
  have hm2 := h.m2
  have e1 : p.greatR.empty = decide (cnt (r.rd 1) r.n2 = 0) := by
    rw [Bool.eq_iff_iff, decide_eq_true_eq, empty_true, h.greatS]
    constructor
    · intro e
      false_or_by_contra
      rename_i hc
      obtain ⟨i, hi, hr⟩ := cnt_pos.1 (Nat.pos_of_ne_zero hc)
      have := e i (by rw [h.n2] at hi; omega)
      rw [has_toSet, upTo_at, hr] at this
      rw [h.n2] at hi this
      simp [hi] at this
      omega
    · intro e i _
      rw [has_toSet, upTo_at]
      cases c : r.rd 1 i
      · simp
      · by_cases hi : i < r.n2
        · have := cnt_pos.2 ⟨i, hi, c⟩; omega
        · simp [hi]
  have e2 : (p.greatR.and p.L).empty = r.allOk 1 := by
    rw [Bool.eq_iff_iff, empty_true, allOk_iff]
    constructor
    · intro e i hi
      have := e i (by rw [h.n2] at hi; omega)
      rw [Set4.has_and, h.greatS, has_toSet, upTo_at, h.L] at this
      have hi2 : i < 32 := by rw [h.n2] at hi; omega
      rw [decide_eq_true hi, decide_eq_true hi2, Bool.true_and, Bool.true_and] at this
      exact this
    · intro e i _
      rw [Set4.has_and, h.greatS, has_toSet, upTo_at, h.L]
      by_cases hi : i < r.n2
      · have : (r.rd 1 i && r.L i) = false := e i hi
        rw [Bool.and_assoc, Bool.and_assoc, this]; simp
      · simp [hi]
  show (!p.greatR.empty && (p.greatR.and p.L).empty) = (r.allOk 1 && !decide (cnt (r.rd 1) r.n2 = 0))
  rw [e1, e2, Bool.and_comm]
theorem Fit.smallS (h : Fit p r m) : p.smallR = toSet (upTo (r.rd 2) r.n2) := set_of fun i _ => by
  have := h.m2
  unfold PS.smallR PS.olds PS.endsR
  rw [Set4.has_or, Set4.has_less, Set4.has_less, h.ends, h.D, h.K, h.L, upTo_at, RSt.rd_2, h.dec, h.n2]
  by_cases c : i < m
  · have c1 : ¬ m ≤ i := by omega
    have c2 : i < m + 2 := by omega
    have c3 : i < 32 := by omega
    simp [c1, c2, c3]
  · have c1 : m ≤ i := by omega
    have hD : r.D i = false := by
      cases e : r.D i
      · rfl
      · exact absurd (h.hm i (h.dh i e)) c
    by_cases c2 : i < m + 2
    · have c3 : i < 32 := by omega
      simp [c1, c2, c3, hD]
    · simp [c2, hD]
theorem Fit.small (h : Fit p r m) : p.smallB = r.may 2 := by
  have hm2 := h.m2
  have e1 : (!p.endsR.empty) = !(r.L m && r.L (m + 1)) := by
    congr 1
    rw [Bool.eq_iff_iff, empty_true, Bool.and_eq_true]
    unfold PS.endsR
    constructor
    · intro e
      have a := e m (by omega)
      have b := e (m + 1) (by omega)
      rw [Set4.has_less, h.ends, h.L] at a b
      simp at a b
      exact ⟨a, b⟩
    · rintro ⟨a, b⟩ i _
      rw [Set4.has_less, h.ends, h.L]
      by_cases c : i = m
      · subst c; simp [a]
      · by_cases c2 : i = m + 1
        · subst c2; simp [b]
        · have : ¬ (m ≤ i ∧ i < m + 2) := by omega
          rw [← Bool.decide_and, decide_eq_false this]; rfl
  have e2 : (p.olds.and p.L).empty = r.allOk 2 := by
    rw [Bool.eq_iff_iff, empty_true, allOk_iff]
    unfold PS.olds
    constructor
    · intro e i hi
      have := e i (by rw [h.n2] at hi; omega)
      rw [Set4.has_and, Set4.has_less, h.D, h.K, h.L] at this
      rw [RSt.ba_2]
      cases eL : r.L i
      · simp
      · rw [eL] at this
        simpa using this
    · intro e i _
      rw [Set4.has_and, Set4.has_less, h.D, h.K, h.L]
      by_cases hi : i < r.n2
      · have := e i hi
        rw [RSt.ba_2] at this
        cases eL : r.L i
        · simp
        · rw [eL] at this
          simpa using this
      · have hD : r.D i = false := by
          cases e : r.D i
          · rfl
          · have := h.hm i (h.dh i e); rw [h.n2] at hi; omega
        simp [hD]
  show ((p.olds.and p.L).empty && !p.endsR.empty) = (r.allOk 2 && !(r.L r.data.toNat && r.L (r.data.toNat + 1)))
  rw [e1, e2, h.d2, Int.toNat_natCast]
theorem Fit.wholeS (h : Fit p r m) : p.wholeR = toSet (upTo (r.rd 3) r.n2) := set_of fun i _ => by
  have := h.m2
  unfold PS.wholeR
  rw [Set4.has_less, Set4.has_or, h.all, h.ends, h.L, upTo_at, RSt.rd_3, h.n2]
  by_cases c : i < m
  · have c1 : ¬ m ≤ i := by omega
    have c2 : i < m + 2 := by omega
    have c3 : i < 32 := by omega
    simp [c, c1, c2, c3]
  · have c1 : m ≤ i := by omega
    by_cases c2 : i < m + 2
    · have c3 : i < 32 := by omega
      simp [c, c1, c2, c3]
    · simp [c, c2]
theorem Fit.ways (h : Fit p r m) : p.ways = r.ways.map conv := by
  have z0 : conv (0, upTo (r.rd 0) r.n2) = (0, Set4.zero) := by
    show ((0 : Int), toSet (upTo (r.rd 0) r.n2)) = _
    rw [toSet_zero]
    congr 1
    congr 1
    funext i
    rw [upTo_at, RSt.rd_0, Bool.and_false]
  have step : ∀ k, r.wl (k + 1) = r.wl k ++ (if r.may k = true then [((k : Int), upTo (r.rd k) r.n2)] else []) := fun k => by
    show (if r.may k = true then r.wl k ++ [r.plan k] else r.wl k) = _
    split
    · rename_i e; rw [RSt.plan_yes e]
    · simp
  have e3 := r.may_3
  show p.ways = (r.wl 4).map conv
  rw [step 3, step 2, step 1, step 0, if_pos e3]
  unfold PS.ways
  rw [h.full, h.great, h.small, h.greatS, h.smallS, h.wholeS]
  simp only [List.map_append, apply_ite (List.map conv), List.map_cons, List.map_nil]
  show _ = (((List.map conv [] ++ _) ++ _) ++ _) ++ [conv (3, upTo (r.rd 3) r.n2)]
  rw [show conv (((0 : Nat) : Int), upTo (r.rd 0) r.n2) = (0, Set4.zero) from z0]
  simp only [List.map_nil, List.nil_append, List.append_assoc]
  rfl
end
end Go.Proofs.YtdmbenhhjpeepaaDoor
