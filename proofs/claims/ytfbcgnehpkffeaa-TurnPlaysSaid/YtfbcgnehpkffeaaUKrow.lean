/- Rows of the document's keys: laws of my own. -/
import Derived.Test.YtfbcgnehpkffeaaURefStep
import Derived.Test.YtfbcgnehpkffeaaUWakes
namespace Go.Proofs.Ytfbcgnehpkffeaa
open Go Go.RowKit
set_option maxRecDepth 100000
abbrev RK.cells (x : RK) : List Value := [.int .i64 x.n, .bool x.dear, .bool x.pin, .int .i64 (x.at_ : Int)]
def keyCells (ks : List RK) : List Value := ks.flatMap RK.cells
variable {ks : List RK} {x y : RK} {i : Nat}
theorem keyCells_cons (x : RK) (ks : List RK) : keyCells (x :: ks) = x.cells ++ keyCells ks := by simp [keyCells]
theorem keyCells_len (ks : List RK) : (keyCells ks).length = ks.length * 4 := by
  induction ks with
  | nil => rfl
  | cons a ks ih => rw [keyCells_cons, List.length_append, ih]; simp; omega
theorem keyCells_append (a b : List RK) : keyCells (a ++ b) = keyCells a ++ keyCells b := by simp [keyCells]
theorem keyCells_get : ∀ {ks : List RK} {i : Nat} {x : RK}, ks[i]? = some x → ∀ j, j < 4 → (keyCells ks)[i * 4 + j]? = x.cells[j]?
  | [], i, x, h, _, _ => by simp at h
  | a :: ks, 0, x, h, j, hj => by
    simp at h; subst h
    rw [keyCells_cons, Nat.zero_mul, Nat.zero_add, List.getElem?_append_left (by simp; omega)]
  | a :: ks, i + 1, x, h, j, hj => by
    rw [keyCells_cons, List.getElem?_append_right (by simp; omega)]
    have e : (i + 1) * 4 + j - a.cells.length = i * 4 + j := by simp; omega
    rw [e]
    exact keyCells_get (by simpa using h) j hj
theorem keyCells_set : ∀ {ks : List RK} {i : Nat} {x : RK} (_ : ks[i]? = some x) (j : Nat) (_ : j < 4) (v : Value) (y : RK), x.cells.set j v = y.cells → (keyCells ks).set (i * 4 + j) v = keyCells (ks.set i y)
  | [], i, x, h, _, _, _, _, _ => by simp at h
  | a :: ks, 0, x, h, j, hj, v, y, hy => by
    simp at h; subst h
    rw [keyCells_cons, Nat.zero_mul, Nat.zero_add, List.set_append_left _ _ (by simp; omega), hy, List.set_cons_zero, keyCells_cons]
  | a :: ks, i + 1, x, h, j, hj, v, y, hy => by
    rw [keyCells_cons, List.set_append_right _ _ (by simp; omega), List.set_cons_succ, keyCells_cons]
    have e : (i + 1) * 4 + j - a.cells.length = i * 4 + j := by simp; omega
    rw [e, keyCells_set (by simpa using h) j hj v y hy]
abbrev kT : TypeId := 68
/-- The row of keys ks that v owns, no block of it below B. -/
def krow (w : World) (B : Nat) (v : Value) (ks : List RK) : Prop := w.ownsRow B kT 4 v ks.length (keyCells ks)
variable {w w' : World} {B : Nat} {v : Value}
theorem krow.nil (w : World) (B : Nat) : krow w B (.slice none 0 0) [] := World.ownsRow_nil _ _ _ _
theorem krow.lt (h : krow w B v ks) (k : Nat) (hk : v.ownBlock = some k) : B ≤ k ∧ k < w.heap.size := World.ownsRow.lt h k hk
theorem krow.shape (h : krow w B v ks) : ∃ a c, v = .slice a ks.length c := by
  obtain ⟨_, h⟩ := h
  rcases h with ⟨rfl, h2⟩ | ⟨g, cap, cur, rfl, _⟩
  · exact ⟨none, 0, by rw [h2]⟩
  · exact ⟨_, _, rfl⟩
theorem krow.same (h : krow w B v ks) (hb : ∀ k, v.ownBlock = some k → w'.heap[k]? = w.heap[k]?) : krow w' B v ks := by
  obtain ⟨hl, h⟩ := h
  refine ⟨hl, ?_⟩
  rcases h with h | ⟨g, cap, cur, hv, hB, hh, r⟩
  · exact .inl h
  · exact .inr ⟨g, cap, cur, hv, hB, (hb g (by rw [hv]; rfl)).trans hh, r⟩
theorem krow.below (h : krow w B v ks) (hb : Below w.heap.size w w') : krow w' B v ks := h.same fun k hk => hb.block k (h.lt k hk).2
/-- One of the keys: where it lies. -/
theorem krow.at (h : krow w B v ks) (hi : ks[i]? = some x) : ∃ g c, v = .slice (some ⟨g, 0, none⟩) ks.length c ∧ B ≤ g ∧ g < w.heap.size ∧ w.cell? ⟨g, i * 4, none⟩ = some (.int .i64 x.n) ∧ w.cell? ⟨g, i * 4 + 1, none⟩ = some (.bool x.dear) ∧
    w.cell? ⟨g, i * 4 + 2, none⟩ = some (.bool x.pin) ∧ w.cell? ⟨g, i * 4 + 3, none⟩ = some (.int .i64 (x.at_ : Int)) ∧ ∀ j, w.frozen? ⟨g, j, none⟩ = false := by
  have hil : i < ks.length := (List.getElem?_eq_some_iff.1 hi).1
  have hlt := h.lt
  have h0 := h
  obtain ⟨hl, h⟩ := h
  rcases h with ⟨rfl, h2⟩ | ⟨g, cap, cur, rfl, hB, hh, r⟩
  · omega
  · have hc := fun j hj => (World.ownsRow.cellAt h0 (i * 4 + j) (by omega)).trans (keyCells_get hi j hj)
    exact ⟨g, cap, rfl, hB, (hlt g rfl).2, hc 0 (by omega), hc 1 (by omega), hc 2 (by omega), hc 3 (by omega), fun j => World.ownsRow.frozenAt h0 j⟩
/-- A field of one of them is set. -/
theorem krow.set {g m c : Nat} (h : krow w B (.slice (some ⟨g, 0, none⟩) m c) ks) (hi : ks[i]? = some x) (j : Nat) (hj : j < 4) (u : Value) (y : RK) (hy : x.cells.set j u = y.cells) :
    krow (w.setCell ⟨g, i * 4 + j, none⟩ u) B (.slice (some ⟨g, 0, none⟩) m c) (ks.set i y) ∧ w.grownBy (w.setCell ⟨g, i * 4 + j, none⟩ u) (some g) := by
  have hm : m = ks.length := by
    obtain ⟨a, c', e⟩ := h.shape
    exact (Value.slice.inj e).2.1
  subst hm
  obtain ⟨h1, h2⟩ := World.ownsRow.stored h (i * 4 + j) u
  refine ⟨?_, h2⟩
  unfold krow
  rw [List.length_set, ← keyCells_set hi j hj u y hy]
  exact h1
end Go.Proofs.Ytfbcgnehpkffeaa
