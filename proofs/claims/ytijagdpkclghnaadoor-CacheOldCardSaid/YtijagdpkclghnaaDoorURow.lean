/- Owned rows of integers: laws of my own, no program in them. -/
import Derived.Test.YtijagdpkclghnaaDoorUMap
import Derived.Shelf.SlicesG.Delete
import Derived.Laws.OwnMore
namespace Go
open Go.RowKit Go.Sort
def ints (l : List Int) : List Value := l.map (Value.int .i64)
theorem ints_len (l : List Int) : (ints l).length = l.length := by simp [ints]
theorem ints_get (l : List Int) (j : Nat) {x : Int} (h : l[j]? = some x) : (ints l)[j]? = some (.int .i64 x) := by simp [ints, h]
theorem ints_append (a b : List Int) : ints (a ++ b) = ints a ++ ints b := by simp [ints]
/-- The row of integers xs that v owns, no block of it below B. -/
def World.irow (w : World) (B : Nat) (e : TypeId) (v : Value) (xs : List Int) : Prop := w.ownsRow B e 1 v xs.length (ints xs)
variable {w w' : World} {B : Nat} {e : TypeId} {v : Value} {xs : List Int}
theorem World.irow.form (h : w.irow B e v xs) : (v = .slice none 0 0 ∧ xs = []) ∨ ∃ g cap, v = .slice (some ⟨g, 0, none⟩) xs.length cap ∧ B ≤ g ∧ g < w.heap.size ∧ xs.length ≤ cap ∧ cap ≤ maxLen ∧ ∀ j x, xs[j]? = some x → w.cell? ⟨g, j, none⟩ = some (.int .i64 x) := by
  have hlt := h.lt
  obtain ⟨hl, h⟩ := h
  rcases h with ⟨h1, h2⟩ | ⟨g, cap, cur, hv, hB, hh, h1, h2, hs, ht⟩
  · exact .inl ⟨h1, List.length_eq_zero_iff.1 h2⟩
  · refine .inr ⟨g, cap, hv, hB, (hlt g (by rw [hv]; rfl)).2, h1, h2, fun j x hj => ?_⟩
    have h3 : cur[j]? = some (.int .i64 x) := by
      have h4 := ints_get xs j hj
      rw [← ht] at h4
      rw [List.getElem?_take] at h4
      split at h4
      · simpa using h4
      · cases h4
    simp [World.cell?, hh, h3]
theorem World.irow.cellD {g n cap : Nat} (h : w.irow B e (.slice (some ⟨g, 0, none⟩) n cap) xs) : n = xs.length ∧ n ≤ cap ∧ cap ≤ maxLen ∧ B ≤ g ∧ g < w.heap.size ∧ (∀ j, j < xs.length → w.cell? ⟨g, 0 + j, none⟩ = some (.int .i64 (xs.getD j 0))) ∧ ∀ j, w.frozen? ⟨g, j, none⟩ = false := by
  have h0 := h
  rcases h.form with ⟨h1, _⟩ | ⟨g', cap', hv, hB, hg, h1, h2, hc⟩
  · cases h1
  · obtain ⟨⟨rfl, _⟩, rfl, rfl⟩ := by simpa using hv
    refine ⟨rfl, h1, h2, hB, hg, fun j hj => ?_, fun j => World.ownsRow.frozenAt h0 j⟩
    rw [Nat.zero_add]
    exact hc j _ (by simp [List.getD, hj])
theorem World.irow.nil (w : World) (B : Nat) (e : TypeId) : w.irow B e (.slice none 0 0) [] := World.ownsRow_nil _ _ _ _
/-- An element taken out: what slices.Delete leaves. -/
theorem World.irow.cut {g n cap i : Nat} (h : w.irow B e (.slice (some ⟨g, 0, none⟩) n cap) xs) (hi : i < xs.length) (q : Nat) :
    (putRow (Value.int .i64) (Sort.ahead w q) g 0 (xs.take i ++ xs.drop (i + 1) ++ List.replicate (i + 1 - i) 0).toArray).irow B e (.slice (some ⟨g, 0, none⟩) (n - (i + 1 - i)) cap) (xs.eraseIdx i) ∧
    w.grownBy (putRow (Value.int .i64) (Sort.ahead w q) g 0 (xs.take i ++ xs.drop (i + 1) ++ List.replicate (i + 1 - i) 0).toArray) (some g) := by
  have hn := h.cellD.1
  subst hn
  obtain ⟨hl, h⟩ := h
  rcases h with ⟨h1, _⟩ | ⟨g', cap', cur, hv, hB, hh, h1, h2, hs, ht⟩
  · cases h1
  obtain ⟨rfl, rfl⟩ : g = g' ∧ cap = cap' := by simpa using hv
  rw [Nat.mul_one] at hs ht
  have e1 : i + 1 - i = 1 := by omega
  rw [e1]
  have hel : (xs.eraseIdx i).length = xs.length - 1 := List.length_eraseIdx_of_lt hi
  have hdl : (xs.take i ++ xs.drop (i + 1) ++ List.replicate 1 0).length = xs.length := by simp; omega
  have hb : (putRow (Value.int .i64) (Sort.ahead w q) g 0 (xs.take i ++ xs.drop (i + 1) ++ List.replicate 1 0).toArray).heap[g]? = some (.cells (putCells (Value.int .i64) 0 (xs.take i ++ xs.drop (i + 1) ++ List.replicate 1 0).toArray cur) e (0, 0)) := by
    unfold putRow mapBlock Sort.ahead
    simp [Array.getElem?_modify, hh, onCells]
  refine ⟨⟨by rw [ints_len, Nat.mul_one], .inr ⟨g, cap, _, by rw [hel], hB, hb, by omega, h2, by simp [putCells, hs], ?_⟩⟩, ⟨rfl, rfl, rfl, by simp [putRow, mapBlock, Sort.ahead], fun k _ hk => ?_⟩⟩
  · rw [Nat.mul_one, hel]
    apply List.ext_getElem?
    intro j
    rw [List.getElem?_take]
    by_cases hj : j < xs.length - 1
    · rw [if_pos hj]
      have hjc : j < cur.size := by omega
      have hx : (xs.eraseIdx i)[j]? = some ((xs.eraseIdx i)[j]'(by omega)) := List.getElem?_eq_getElem (by omega)
      rw [ints_get _ j hx]
      have hd : (xs.take i ++ xs.drop (i + 1) ++ List.replicate 1 0)[j]? = (xs.eraseIdx i)[j]? := by
        rw [List.eraseIdx_eq_take_drop_succ, List.getElem?_append_left (by simp; omega)]
      rw [hx] at hd
      have hd2 : (xs.take i ++ xs.drop (i + 1) ++ List.replicate 1 0).toArray[j]! = (xs.eraseIdx i)[j]'(by omega) := by
        rw [getElem!_def]
        simp only [List.getElem?_toArray, hd]
      unfold putCells
      rw [← List.getElem?_toArray, Array.toArray_toList, Array.getElem?_mapIdx, Array.getElem?_eq_getElem hjc, Option.map_some, if_pos ⟨Nat.zero_le _, by simp only [List.size_toArray]; omega⟩, Nat.sub_zero, hd2]
    · rw [if_neg hj, List.getElem?_eq_none (by rw [ints_len]; omega)]
  · unfold putRow mapBlock Sort.ahead
    simp [Array.getElem?_modify, show g ≠ k from fun e => hk (by rw [e])]
end Go
