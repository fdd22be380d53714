import Derived.Test.YtdmbenhhjpeepaaDoorMUpto
namespace Go.Proofs.YtdmbenhhjpeepaaDoor
open Go Go.RowKit
set_option maxRecDepth 100000
def ints (xs : List Int) : List Value := xs.map (Value.int .i64)
theorem ints_get {xs : List Int} {k : Nat} (h : k < xs.length) : (ints xs)[k]? = some (.int .i64 xs[k]) := by unfold ints; simp [h]
def Set4.ofInts (xs : List Int) : Set4 := Set4.of fun j => decide ((j : Int) ∈ xs)
theorem Set4.ofInts_snoc_no (xs : List Int) (i : Int) (h : i < 0 ∨ 256 ≤ i) : Set4.ofInts (xs ++ [i]) = Set4.ofInts xs :=
  Set4.of_congr fun j hj => decide_eq_decide.2 (by simp; omega)
theorem Set4.ofInts_snoc_yes (xs : List Int) (i : Nat) (h : i < 256) : Set4.ofInts (xs ++ [(i : Int)]) = (Set4.ofInts xs).with' i := by
  refine Set4.of_congr fun j hj => ?_
  rw [Set4.ofInts, Set4.has_of, ← Bool.decide_and, ← Bool.decide_or]
  refine decide_eq_decide.2 ⟨fun h => ?_, fun h => ?_⟩
  · rcases List.mem_append.1 h with h | h
    · exact .inr ⟨hj, h⟩
    · exact .inl (by have := List.mem_singleton.1 h; omega)
  · rcases h with h | h
    · subst h; simp
    · exact List.mem_append_left _ h.2
theorem Set4.ofInts_nil : Set4.ofInts [] = Set4.zero := (Set4.eq_of fun i _ => by rw [Set4.has_zero]; simp).symm
theorem take_snoc {α : Type} (xs : List α) (k : Nat) (h : k < xs.length) : xs.take (k + 1) = xs.take k ++ [xs[k]] := List.take_succ_eq_append_getElem h
set_option maxHeartbeats 1000000 in
theorem Of_any (xs : List Int) (b o c : Nat) (w : World) (hc : ∀ j u, (ints xs)[j]? = some u → w.cell? ⟨b, o + j, none⟩ = some u) (hlen : xs.length < 9223372036854775807) :
    Calls Tryd.prog 33 #[.slice (some ⟨b, o, none⟩) xs.length c] w fun e w' => e = .returned (Set4.ofInts xs).val ∧ Below w.heap.size w w' := by
  have HC : Hid (∀ j u, (ints xs)[j]? = some u → w.cell? ⟨b, o + j, none⟩ = some u) := hc
  clear hc
  go_enter Tryd.func33, Tryd.ntmps33
  go_wp2
  go_loopw [8] (fun i wr => ∃ k : Nat, k ≤ xs.length ∧ i = .int .i64 k ∧ Below w.heap.size w wr ∧ w.heap.size + 2 ≤ wr.heap.size ∧ wr.row w.heap.size Set4.zero.cells 28 ∧ wr.row (w.heap.size + 1) (Set4.ofInts (xs.take k)).cells 28) (fun i _ => xs.length - (intOf i).toNat)
  case atStart => exact ⟨0, Nat.zero_le _, rfl, (by repeat' (first | (with_reducible exact Below.refl _ _) | (with_reducible assumption) | (with_reducible refine Below.setCell ?_ ?_ _) | (with_reducible refine Below.ext ?_ _ ?_) | (with_reducible refine Below.alloc ?_ ?_ _) | (with_reducible refine Below.drew ?_) | (with_reducible refine Below.drewN ?_ _) | (with_reducible exact Nat.le_refl _) | (dsimp only; omega) | (simp <;> omega))), by simp, (World.row.new' rfl).alloc _, by rw [List.take_zero, Set4.ofInts_nil]; exact World.row.new' (by simp)⟩
  case round =>
    obtain ⟨k, hk, rfl, hB, hz, r0, r1⟩ := hrel
    obtain ⟨c10, c11, c12, c13, z1⟩ := r1.four
    by_cases hlt : k < xs.length
    · have hcell : wr.cell? ⟨b, o + k, none⟩ = some (.int .i64 xs[k]) := by
        have h1 := HC.out k _ (ints_get hlt)
        rw [hB.cell (p := ⟨b, o + k, none⟩) (block_lt_of_cell h1)]; exact h1
      by_cases hr : xs[k] < 0 ∨ 256 ≤ xs[k]
      · go_wp2_with fail
        refine Calls.pure_of (w.heap.size + 2) hz (With_no (Set4.ofInts (xs.take k)) xs[k] _ hr) ?_
        intro x
        go_wp2
        go_roundw
        case rel =>
          refine ⟨k + 1, by omega, by go_num, (by repeat' (first | (with_reducible exact Below.refl _ _) | (with_reducible assumption) | (with_reducible refine Below.setCell ?_ ?_ _) | (with_reducible refine Below.ext ?_ _ ?_) | (with_reducible refine Below.alloc ?_ ?_ _) | (with_reducible refine Below.drew ?_) | (with_reducible refine Below.drewN ?_ _) | (with_reducible exact Nat.le_refl _) | (dsimp only; omega) | (simp <;> omega))), by simp, ((((r0.ext x (by omega)).other _ _ (by simp)).other _ _ (by simp)).other _ _ (by simp)).other _ _ (by simp), ?_⟩
          rw [take_snoc xs k hlt, Set4.ofInts_snoc_no _ _ hr]
          exact ((((r1.ext x (by omega)).set 0 _).set 1 _).set 2 _).set 3 _
        case measure => simp [intOf]; omega
      · obtain ⟨i, hi⟩ : ∃ i : Nat, xs[k] = (i : Int) := ⟨xs[k].toNat, by omega⟩
        rw [hi] at hcell
        have hi2 : i < 256 := by omega
        have HI := Lib.hid hi
        clear hi hr
        go_wp2_with fail
        refine Calls.pure_of (w.heap.size + 2) hz (With_yes (Set4.ofInts (xs.take k)) i _ hi2) ?_
        intro x
        go_wp2
        go_roundw
        case rel =>
          refine ⟨k + 1, by omega, by go_num, (by repeat' (first | (with_reducible exact Below.refl _ _) | (with_reducible assumption) | (with_reducible refine Below.setCell ?_ ?_ _) | (with_reducible refine Below.ext ?_ _ ?_) | (with_reducible refine Below.alloc ?_ ?_ _) | (with_reducible refine Below.drew ?_) | (with_reducible refine Below.drewN ?_ _) | (with_reducible exact Nat.le_refl _) | (dsimp only; omega) | (simp <;> omega))), by simp, ((((r0.ext x (by omega)).other _ _ (by simp)).other _ _ (by simp)).other _ _ (by simp)).other _ _ (by simp), ?_⟩
          rw [take_snoc xs k hlt, HI.out, Set4.ofInts_snoc_yes _ _ hi2]
          exact ((((r1.ext x (by omega)).set 0 _).set 1 _).set 2 _).set 3 _
        case measure => simp [intOf]; omega
    · obtain ⟨c00, c01, c02, c03, z0⟩ := r0.four
      go_wp2
      refine bodyPost_row rfl rfl ((((r0.set 0 _).set 1 _).set 2 _).set 3 _) Tryd.underlying28 rfl (by kernel_rfl) rfl ⟨?_, (by repeat' (first | (with_reducible exact Below.refl _ _) | (with_reducible assumption) | (with_reducible refine Below.setCell ?_ ?_ _) | (with_reducible refine Below.ext ?_ _ ?_) | (with_reducible refine Below.alloc ?_ ?_ _) | (with_reducible refine Below.drew ?_) | (with_reducible refine Below.drewN ?_ _) | (with_reducible exact Nat.le_refl _) | (dsimp only; omega) | (simp <;> omega)))⟩
      rw [List.take_of_length_le (by omega)]
      rfl
end Go.Proofs.YtdmbenhhjpeepaaDoor
