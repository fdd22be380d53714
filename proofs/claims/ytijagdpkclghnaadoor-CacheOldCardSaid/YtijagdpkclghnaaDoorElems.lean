/- Rows of elements of n cells: where each lies. No program in it. -/
import Derived.Test.YtijagdpkclghnaaDoorOp
namespace Go
open Go.RowKit
theorem flatMap_get {α : Type} (f : α → List Value) (n : Nat) (hn : ∀ x, (f x).length = n) : ∀ {ps : List α} {i : Nat} {x : α}, ps[i]? = some x → ∀ j, j < n → (ps.flatMap f)[i * n + j]? = (f x)[j]?
  | [], i, x, h, _, _ => by simp at h
  | a :: ps, 0, x, h, j, hj => by
    simp at h; subst h
    rw [List.flatMap_cons, Nat.zero_mul, Nat.zero_add, List.getElem?_append_left (by rw [hn]; exact hj)]
  | a :: ps, i + 1, x, h, j, hj => by
    rw [List.flatMap_cons, List.getElem?_append_right (by rw [hn, Nat.succ_mul]; omega), hn]
    have e : (i + 1) * n + j - n = i * n + j := by rw [Nat.succ_mul]; omega
    rw [e]
    exact flatMap_get f n hn (by simpa using h) j hj
variable {w w' : World} {B : Nat} {e : TypeId} {size n : Nat} {v : Value} {xs : List Value}
theorem own_form (h : w.ownsRow B e size v n xs) : (v = .slice none 0 0 ∧ n = 0) ∨ ∃ g cap, v = .slice (some ⟨g, 0, none⟩) n cap ∧ B ≤ g ∧ g < w.heap.size ∧ n ≤ cap ∧ cap ≤ maxLen ∧ (∀ j u, xs[j]? = some u → w.cell? ⟨g, j, none⟩ = some u) ∧ ∀ j, w.frozen? ⟨g, j, none⟩ = false := by
  have hlt := h.lt
  have h0 := h
  obtain ⟨hl, h⟩ := h
  rcases h with ⟨h1, h2⟩ | ⟨g, cap, cur, hv, hB, hh, h1, h2, hs, ht⟩
  · exact .inl ⟨h1, h2⟩
  · refine .inr ⟨g, cap, hv, hB, (hlt g (by rw [hv]; rfl)).2, h1, h2, fun j u hj => ?_, fun j => ?_⟩
    · have h3 : cur[j]? = some u := by
        rw [← ht] at hj
        rw [List.getElem?_take] at hj
        split at hj
        · simpa using hj
        · cases hj
      simp [World.cell?, hh, h3]
    · unfold World.frozen?; simp [hh]
/-- An element's range. -/
theorem own_at {α : Type} {f : α → List Value} {ps : List α} {i : Nat} {x : α} (hn : ∀ x, (f x).length = size) (h : w.ownsRow B e size v ps.length (ps.flatMap f)) (hi : ps[i]? = some x) :
    ∃ g cap, v = .slice (some ⟨g, 0, none⟩) ps.length cap ∧ B ≤ g ∧ g < w.heap.size ∧ ps.length ≤ cap ∧ cap ≤ maxLen ∧ w.rangeAt g (i * size) (f x) ∧ ∀ j, w.frozen? ⟨g, j, none⟩ = false := by
  have hil : i < ps.length := (List.getElem?_eq_some_iff.1 hi).1
  rcases own_form h with ⟨_, h2⟩ | ⟨g, cap, hv, hB, hg, h1, h2, hc, hz⟩
  · omega
  · refine ⟨g, cap, hv, hB, hg, h1, h2, fun j u hj => hc _ u ?_, hz⟩
    have hjl : j < size := by rw [← hn x]; exact (List.getElem?_eq_some_iff.1 hj).1
    rw [flatMap_get f size hn hi j hjl]; exact hj
theorem own_same (h : w.ownsRow B e size v n xs) (hb : ∀ k, v.ownBlock = some k → w'.heap[k]? = w.heap[k]?) : w'.ownsRow B e size v n xs := by
  obtain ⟨hl, h⟩ := h
  refine ⟨hl, ?_⟩
  rcases h with h | ⟨g, cap, cur, hv, hB, hh, r⟩
  · exact .inl h
  · exact .inr ⟨g, cap, cur, hv, hB, (hb g (by rw [hv]; rfl)).trans hh, r⟩
end Go
