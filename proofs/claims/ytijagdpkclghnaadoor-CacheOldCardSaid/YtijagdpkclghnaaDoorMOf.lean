import Derived.Test.YtijagdpkclghnaaDoorMUpto
namespace Go.Proofs.YtijagdpkclghnaaDoor
open Go Go.RowKit
set_option maxRecDepth 100000
def ints (xs : List Int) : List Value := xs.map (Value.int .i64)
theorem ints_get {xs : List Int} {k : Nat} (h : k < xs.length) : (ints xs)[k]? = some (.int .i64 xs[k]) := by unfold ints; simp [h]
def Set4.ofInts (xs : List Int) : Set4 := Set4.of fun j => decide ((j : Int) ∈ xs)
theorem Set4.ofInts_snoc_no (xs : List Int) (i : Int) (h : i < 0 ∨ 256 ≤ i) : Set4.ofInts (xs ++ [i]) = Set4.ofInts xs :=
  Set4.of_congr fun j hj => decide_eq_decide.2 (by simp; omega)
theorem Set4.ofInts_snoc_yes (xs : List Int) (i : Nat) (h : i < 256) : Set4.ofInts (xs ++ [(i : Int)]) = (Set4.ofInts xs).with' i := by
  refine Set4.of_congr fun j hj => ?_
  rw [Set4.ofInts, Set4.has_of, ← Bool.decide_and, ← Bool.decide_or]
  refine decide_eq_decide.2 ⟨fun h => ?_, fun h => ?_⟩
  · rcases List.mem_append.1 h with h | h
    · exact .inr ⟨hj, h⟩
    · exact .inl (by have := List.mem_singleton.1 h; omega)
  · rcases h with h | h
    · subst h; simp
    · exact List.mem_append_left _ h.2
theorem Set4.ofInts_nil : Set4.ofInts [] = Set4.zero := (Set4.eq_of fun i _ => by rw [Set4.has_zero]; simp).symm
theorem take_snoc {α : Type} (xs : List α) (k : Nat) (h : k < xs.length) : xs.take (k + 1) = xs.take k ++ [xs[k]] := List.take_succ_eq_append_getElem h
end Go.Proofs.YtijagdpkclghnaaDoor
