import Derived.Test.YtdgeobofpnbenaaDoorMRefD
import Derived.Test.YtdgeobofpnbenaaDoorExt3
namespace Go.Proofs.YtdgeobofpnbenaaDoor
open Go Go.RowKit
set_option maxRecDepth 100000
theorem Of_empty (a : Option Addr) (c : Nat) (w : World) : Calls Tryd.prog 23 #[.slice a 0 c] w fun e w' => e = .returned Set4.zero.val ∧ Below w.heap.size w w' := by
  go_enter Tryd.func23, Tryd.ntmps23
  go_wp2
  go_rounds 1
  exact bodyPost_row rfl rfl ((World.row.new' (by simp)).alloc _) Tryd.underlying24 rfl (by kernel_rfl) rfl ⟨rfl, (by repeat' (first | (with_reducible exact Below.refl _ _) | (with_reducible assumption) | (with_reducible refine Below.setCell ?_ ?_ _) | (with_reducible refine Below.ext ?_ _ ?_) | (with_reducible refine Below.alloc ?_ ?_ _) | (with_reducible refine Below.drew ?_) | (with_reducible refine Below.drewN ?_ _) | (with_reducible exact Nat.le_refl _) | (dsimp only; omega) | (simp <;> omega)))⟩
theorem Of_rd (xs : List Int) (v : Value) (w : World) (h : w.rd v (ints xs)) (hlen : xs.length ≤ 300) : Calls Tryd.prog 23 #[v] w fun e w' => e = .returned (Set4.ofInts xs).val ∧ Below w.heap.size w w' := by
  rcases h.cases with ⟨h1, a, c, rfl⟩ | ⟨_, b, o, c, rfl, hc⟩
  · obtain rfl : xs = [] := by unfold ints at h1; simpa using h1
    rw [Set4.ofInts_nil]; exact Of_empty a c w
  · have e : (ints xs).length = xs.length := by unfold ints; simp
    rw [e]; exact Of_any xs b o c w hc (by omega)
theorem refOf_empty (a : Option Addr) (c : Nat) (w : World) : Calls Tryd.prog 24 #[.slice a 0 c] w fun e w' => e = .returned Set4.zero.val ∧ Below w.heap.size w w' := by
  go_enter Tryd.func24, Tryd.ntmps24
  go_wp2_with (refine wpList_alloc_row rfl 54 rfl _ infoBools ?_)
  refine wp_loop_rounds 1 ?_
  rw [rounds_succ]
  have r0 := (World.row.new' (w := w) (cs := Set4.zero.cells) (t := 23) rfl).alloc (.cells (bools fun _ => false).toArray 54)
  have r1 := World.row.new' (w := w.alloc (.cells Set4.zero.cells.toArray 23)) (cs := bools fun _ => false) (t := 54) (b := w.heap.size + 1) (by simp)
  go_wp2_with (refine wpList_load_row rfl 54 _ rfl (w.heap.size + 1) rfl 54 _ (0, 0) _ r1 Tryd.underlying54 rfl (sizeBools' _) ?_)
  refine Calls.pure_to (Words_any _ _) ?_
  intro w3 hb3
  have r2 := r0.below hb3 r0.lt
  have hB4 : Below w.heap.size w w3 := (((Below.refl w.heap.size w).alloc (Nat.le_refl _) _).alloc (by simp) _).trans (hb3.mono (by simp; omega))
  obtain ⟨c0, c1, c2, c3, z0⟩ := r2.four
  go_wp2
  have e : Set4.of (fun _ => false) = Set4.zero := (Set4.eq_of fun j _ => by rw [Set4.has_zero]).symm
  refine bodyPost_row rfl rfl ((((r2.set 0 _).set 1 _).set 2 _).set 3 _) Tryd.underlying23 rfl (by kernel_rfl) rfl ⟨?_, (by repeat' (first | (with_reducible exact Below.refl _ _) | (with_reducible assumption) | (with_reducible refine Below.setCell ?_ ?_ _) | (with_reducible refine Below.ext ?_ _ ?_) | (with_reducible refine Below.alloc ?_ ?_ _) | (with_reducible refine Below.drew ?_) | (with_reducible refine Below.drewN ?_ _) | (with_reducible exact Nat.le_refl _) | (dsimp only; omega) | (simp <;> omega)))⟩
  rw [← e]; rfl
theorem mem_step (xs : List Int) (k : Nat) (h : k < xs.length) (i : Nat) (hi : xs[k] = (i : Int)) : (bools fun j => decide ((j : Int) ∈ xs.take k)).set i (.bool true) = bools fun j => decide ((j : Int) ∈ xs.take (k + 1)) := by
  rw [bools_set, take_snoc xs k h, hi]
  refine bools_congr fun j _ => ?_
  by_cases e : j = i
  · subst e; simp
  · rw [if_neg e]; exact decide_eq_decide.2 (by simp; omega)
theorem mem_skip (xs : List Int) (k : Nat) (h : k < xs.length) (hi : xs[k] < 0 ∨ 256 ≤ xs[k]) : (bools fun j => decide ((j : Int) ∈ xs.take k)) = bools fun j => decide ((j : Int) ∈ xs.take (k + 1)) := by
  rw [take_snoc xs k h]
  refine bools_congr fun j hj => decide_eq_decide.2 ?_
  simp only [List.mem_append, List.mem_singleton]
  constructor
  · exact fun h => .inl h
  · rintro (h | h)
    · exact h
    · omega
set_option maxHeartbeats 4000000 in
theorem refOf_any (xs : List Int) (b o c : Nat) (w : World) (hc : ∀ j u, (ints xs)[j]? = some u → w.cell? ⟨b, o + j, none⟩ = some u) (hlen : xs.length ≤ 300) :
    Calls Tryd.prog 24 #[.slice (some ⟨b, o, none⟩) xs.length c] w fun e w' => e = .returned (Set4.ofInts xs).val ∧ Below w.heap.size w w' := by
  have HC : Hid (∀ j u, (ints xs)[j]? = some u → w.cell? ⟨b, o + j, none⟩ = some u) := hc
  clear hc
  go_enter Tryd.func24, Tryd.ntmps24
  go_wp2_with (refine wpList_alloc_row rfl 54 rfl _ infoBools ?_)
  go_loopw [4] (fun x wr => ∃ (k : Nat), k ≤ xs.length ∧ x = .int .i64 k ∧ Below w.heap.size w wr ∧ wr.row w.heap.size Set4.zero.cells 23 ∧ wr.row (w.heap.size + 1) (bools fun j => decide ((j : Int) ∈ xs.take k)) 54) (fun x _ => xs.length - (intOf x).toNat)
  case atStart =>
    refine ⟨0, by omega, rfl, (by repeat' (first | (with_reducible exact Below.refl _ _) | (with_reducible assumption) | (with_reducible refine Below.setCell ?_ ?_ _) | (with_reducible refine Below.ext ?_ _ ?_) | (with_reducible refine Below.alloc ?_ ?_ _) | (with_reducible refine Below.drew ?_) | (with_reducible refine Below.drewN ?_ _) | (with_reducible exact Nat.le_refl _) | (dsimp only; omega) | (simp <;> omega))), (World.row.new' (cs := Set4.zero.cells) rfl).alloc _, ?_⟩
    rw [bools_congr (f := fun j => decide ((j : Int) ∈ xs.take 0)) (g := fun _ => false) (fun j _ => by simp)]
    exact World.row.new' (by simp)
  case round =>
    obtain ⟨k, hk, rfl, hB, r0, r1⟩ := hrel
    by_cases hlt : k < xs.length
    · have hcell : wr.cell? ⟨b, o + k, none⟩ = some (.int .i64 xs[k]) := by
        have h1 := HC.out k _ (ints_get hlt)
        rw [hB.cell (p := ⟨b, o + k, none⟩) (block_lt_of_cell h1)]; exact h1
      by_cases hr : xs[k] < 0 ∨ 256 ≤ xs[k]
      · have R := Lib.hid (mem_skip xs k hlt hr)
        rcases hr with hr | hr
        · have e1 : decide (0 ≤ xs[k]) = false := by simp; omega
          go_wp2
          go_roundw
          case rel => exact ⟨k + 1, by omega, by go_num, hB, r0, by rw [← R.out]; exact r1⟩
          case measure => simp [intOf] <;> omega
        · have e1 : decide (0 ≤ xs[k]) = true := by simp; omega
          have e2 : decide (xs[k] ≤ 255) = false := by simp; omega
          go_wp2
          go_roundw
          case rel => exact ⟨k + 1, by omega, by go_num, hB, r0, by rw [← R.out]; exact r1⟩
          case measure => simp [intOf] <;> omega
      · obtain ⟨i, hi⟩ : ∃ i : Nat, xs[k] = (i : Int) := ⟨xs[k].toNat, by omega⟩
        have R := Lib.hid (mem_step xs k hlt i hi)
        rw [hi] at hcell
        have hi2 : i < 256 := by omega
        clear hi hr
        have e1 : decide (0 ≤ (i : Int)) = true := by simp
        have e2 : decide ((i : Int) ≤ 255) = true := by simp; omega
        have hcc := r1.cell i (bools_get _ i hi2)
        have hz := r1.free i
        go_wp2
        go_roundw
        case rel => exact ⟨k + 1, by omega, by go_num, (by repeat' (first | (with_reducible exact Below.refl _ _) | (with_reducible assumption) | (with_reducible refine Below.setCell ?_ ?_ _) | (with_reducible refine Below.ext ?_ _ ?_) | (with_reducible refine Below.alloc ?_ ?_ _) | (with_reducible refine Below.drew ?_) | (with_reducible refine Below.drewN ?_ _) | (with_reducible exact Nat.le_refl _) | (dsimp only; omega) | (simp <;> omega))), r0.other _ _ (by first | (dsimp only; omega) | simp), by rw [← R.out]; exact r1.set i _⟩
        case measure => simp [intOf] <;> omega
    · obtain rfl : k = xs.length := by omega
      rw [List.take_length] at r1
      go_wp2_with (refine wpList_load_row rfl 54 _ rfl (w.heap.size + 1) rfl 54 _ (0, 0) _ r1 Tryd.underlying54 rfl (sizeBools' _) ?_)
      refine Calls.pure_to (Words_any _ _) ?_
      intro w3 hb3
      have r2 := r0.below hb3 r0.lt
      have hB4 := hB.trans (hb3.mono hB.size)
      obtain ⟨c0, c1, c2, c3, z0⟩ := r2.four
      go_wp2
      exact bodyPost_row rfl rfl ((((r2.set 0 _).set 1 _).set 2 _).set 3 _) Tryd.underlying23 rfl (by kernel_rfl) rfl ⟨rfl, (by repeat' (first | (with_reducible exact Below.refl _ _) | (with_reducible assumption) | (with_reducible refine Below.setCell ?_ ?_ _) | (with_reducible refine Below.ext ?_ _ ?_) | (with_reducible refine Below.alloc ?_ ?_ _) | (with_reducible refine Below.drew ?_) | (with_reducible refine Below.drewN ?_ _) | (with_reducible exact Nat.le_refl _) | (dsimp only; omega) | (simp <;> omega)))⟩
theorem refOf_rd (xs : List Int) (v : Value) (w : World) (h : w.rd v (ints xs)) (hlen : xs.length ≤ 300) : Calls Tryd.prog 24 #[v] w fun e w' => e = .returned (Set4.ofInts xs).val ∧ Below w.heap.size w w' := by
  rcases h.cases with ⟨h1, a, c, rfl⟩ | ⟨_, b, o, c, rfl, hc⟩
  · obtain rfl : xs = [] := by unfold ints at h1; simpa using h1
    rw [Set4.ofInts_nil]; exact refOf_empty a c w
  · have e : (ints xs).length = xs.length := by unfold ints; simp
    rw [e]; exact refOf_any xs b o c w hc hlen
end Go.Proofs.YtdgeobofpnbenaaDoor
