/- Slices that are read, with or without elements: laws of my own, no program in them. -/
import Derived.Test.YtijagdpkclghnaaDoorExt2
namespace Go
open Go.RowKit
/-- The slice v reads as the list vs (elements of one cell). -/
def World.rd (w : World) (v : Value) (vs : List Value) : Prop :=
  ∃ a c, v = .slice a vs.length c ∧ (vs = [] ∨ ∃ b o, a = some ⟨b, o, none⟩ ∧ ∀ j u, vs[j]? = some u → w.cell? ⟨b, o + j, none⟩ = some u)
namespace World
variable {w w' : World} {v : Value} {vs : List Value}
theorem rd.below {B : Nat} (h : w.rd v vs) (hb : Below B w w') (hB : w.heap.size ≤ B) : w'.rd v vs := by
  obtain ⟨a, c, hv, h⟩ := h
  refine ⟨a, c, hv, ?_⟩
  rcases h with h | ⟨b, o, ha, hc⟩
  · exact .inl h
  · refine .inr ⟨b, o, ha, fun j u hj => ?_⟩
    have h1 := hc j u hj
    rw [hb.cell (p := ⟨b, o + j, none⟩) (Nat.lt_of_lt_of_le (block_lt_of_cell h1) hB)]
    exact h1
theorem rd.cases (h : w.rd v vs) : (vs = [] ∧ ∃ a c, v = .slice a 0 c) ∨ (vs ≠ [] ∧ ∃ b o c, v = .slice (some ⟨b, o, none⟩) vs.length c ∧ ∀ j u, vs[j]? = some u → w.cell? ⟨b, o + j, none⟩ = some u) := by
  obtain ⟨a, c, hv, h⟩ := h
  by_cases e : vs = []
  · subst e; exact .inl ⟨rfl, a, c, hv⟩
  · rcases h with h | ⟨b, o, ha, hc⟩
    · exact absurd h e
    · subst ha; exact .inr ⟨e, b, o, c, hv, hc⟩
theorem ownsRow.rd {base : Nat} {e : TypeId} {n : Nat} {xs : List Value} (h : w.ownsRow base e 1 v n xs) : w.rd v xs := by
  obtain ⟨hl, h⟩ := h
  have hn : n = xs.length := by omega
  rcases h with ⟨h1, h2⟩ | ⟨g, cap, cur, hv, _, hh, h1, _, hs, ht⟩
  · subst h2; exact ⟨none, 0, by rw [h1, ← hn], .inl (List.length_eq_zero_iff.1 hn.symm)⟩
  · refine ⟨_, cap, by rw [hv, hn], .inr ⟨g, 0, rfl, fun j u hj => ?_⟩⟩
    have h2 : cur[j]? = some u := by
      rw [← ht] at hj
      rw [List.getElem?_take] at hj
      split at hj
      · simpa using hj
      · cases hj
    simp [World.cell?, hh, h2]
/-- A slice cut off behind m elements. -/
theorem rd.cut (h : w.rd v vs) (m : Nat) (hm : m ≤ vs.length) {a : Option Addr} {n c : Nat} (hv : v = .slice a n c) : w.rd (.slice a m c) (vs.take m) := by
  obtain ⟨a', c', hv', h⟩ := h
  rw [hv] at hv'
  obtain ⟨rfl, _, rfl⟩ := Value.slice.inj hv'
  refine ⟨a, c, by rw [List.length_take]; congr 1; omega, ?_⟩
  rcases h with h | ⟨b, o, ha, hc⟩
  · left; rw [h]; simp
  · right
    refine ⟨b, o, ha, fun j u hj => hc j u ?_⟩
    rw [List.getElem?_take] at hj
    split at hj
    · exact hj
    · cases hj
end World
end Go
