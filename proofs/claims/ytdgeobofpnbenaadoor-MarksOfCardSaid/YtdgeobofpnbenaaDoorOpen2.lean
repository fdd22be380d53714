/- Slices among the arguments: laws of my own, no program in them. -/
import Derived.Test.YtdgeobofpnbenaaDoorOpen
import Derived.Test.YtdgeobofpnbenaaDoorExt3
namespace Go
open Go.ChangeShapes Go.WideShapes Go.ChangeAt Go.RowKit
section
variable {H : Type} {enc : TypeId × Value → H} {P : Program} {W : World} {held : Bool}
theorem addr_add (b o j : Nat) : (⟨b, o, none⟩ : Addr).add j = ⟨b, o + j, none⟩ := by
  unfold Addr.add
  split
  · rename_i h; subst h; rfl
  · rfl
/-- A slice of integers that came in. -/
theorem open_slice_ints {t e : TypeId} {k : IntKind} {a : Option Addr} {len cap : Nat} {d : DataW H} {p : List MemPlace} (ht : P.underlying t = some (.slice e)) (he : P.underlying e = some (.int k)) (hce : P.cellsOf e = 1)
    (h : DataW.Trod enc P W 0 (fun _ => true) held t (.slice a len cap) d p) :
    ∃ xs : List Int, W.rd (.slice a len cap) (xs.map (Value.int k)) ∧ xs.length = len ∧ len ≤ cap ∧ cap ≤ maxLen ∧ (a = none → len = 0 ∧ cap = 0) ∧ ∀ z ∈ xs, (Lit.int k z).wf = true := by
  obtain ⟨fuel, hf⟩ := h
  rcases open_ints ht he hce hf with ⟨hcs, _⟩ | ⟨x, l, c, zs, hcs, _, hl, hm, hz, _, hcell, hwz⟩
  · simp [Value.cells] at hcs
    obtain ⟨rfl, rfl, rfl⟩ := hcs
    exact ⟨[], ⟨none, 0, rfl, .inl rfl⟩, rfl, Nat.le_refl _, Nat.zero_le _, (fun _ => ⟨rfl, rfl⟩), (fun z hz => by cases hz)⟩
  · simp [Value.cells] at hcs
    obtain ⟨rfl, rfl, rfl⟩ := hcs
    have hz' : zs.length = cap := by simpa using hz
    have hlt : (zs.take len).length = len := by rw [List.length_take]; omega
    refine ⟨zs.take len, ?_, hlt, hl, hm, (fun h => by cases h), fun z hz => hwz z (List.mem_of_mem_take hz)⟩
    refine ⟨some x, cap, by rw [List.length_map, hlt], ?_⟩
    by_cases h0 : len = 0
    · left; subst h0; simp
    · right
      obtain ⟨b, o, sp'⟩ := x
      have h1 := hcell 0 (by omega)
      have h2 : (⟨b, o, sp'⟩ : Addr).add 0 = ⟨b, o, sp'⟩ := rfl
      rw [h2] at h1
      have h3 : sp' = none := by
        cases sp' with
        | none => rfl
        | some q =>
          unfold World.cell? at h1
          split at h1 <;> simp at h1
      subst h3
      refine ⟨b, o, rfl, fun j u hj => ?_⟩
      rw [List.getElem?_map] at hj
      cases hx : (zs.take len)[j]? with
      | none => rw [hx] at hj; cases hj
      | some z =>
        rw [hx] at hj
        have hj2 : j < len := by
          have := (List.getElem?_eq_some_iff.1 hx).1
          omega
        have h4 := hcell j (by omega)
        rw [addr_add] at h4
        rw [h4]
        rw [List.getElem?_take_of_lt hj2] at hx
        rw [← hj]
        simp [List.getD, hx]
end
end Go
