/- The atomic numbers, 'up', 'raise', 'is': contracts. -/
import Derived.Test.YtnndoajflimkmaaDoorTSet
import Derived.Laws.LoneSync
import Derived.Test.YtnndoajflimkmaaDoorRows
import Derived.Test.YtnndoajflimkmaaDoorProg
namespace Go.Proofs.YtnndoajflimkmaaDoor
open Go Go.RowKit
set_option maxRecDepth 100000
variable {w : World}
theorem load_any (g i : Nat) (x : Int) (w : World) (hc : w.cell? ⟨g, i, none⟩ = some (.int .i64 x)) :
    Calls Tryd.prog 28 #[.pointer (some ⟨g, i, none⟩)] w fun e w' => e = .returned (.int .i64 x) ∧ w = w' := by
  have hl := run_call_load (P := Tryd.prog) Tryd.func35 (by kernel_rfl) (by kernel_rfl) (by kernel_rfl) .i64 (by kernel_rfl) hc
  go_enter Tryd.func28, Tryd.ntmps28
  go_wp2
  go_ret
  exact ⟨rfl, rfl⟩
theorem cas_any (g i : Nat) (x y : Int) (w : World) (hc : w.cell? ⟨g, i, none⟩ = some (.int .i64 x)) (hz : w.frozen? ⟨g, i, none⟩ = false) :
    Calls Tryd.prog 31 #[.pointer (some ⟨g, i, none⟩), .int .i64 x, .int .i64 y] w fun e w' => e = .returned (.bool true) ∧ w' = w.setCell ⟨g, i, none⟩ (.int .i64 y) := by
  have hl := run_call_cas_hit (P := Tryd.prog) Tryd.func37 (by kernel_rfl) (by kernel_rfl) (by kernel_rfl) .i64 (by kernel_rfl) (y := y) hc hz
  go_enter Tryd.func31, Tryd.ntmps31
  go_wp2
  go_ret
  exact ⟨rfl, rfl⟩
theorem store_any (g i : Nat) (x y : Int) (w : World) (hc : w.cell? ⟨g, i, none⟩ = some (.int .i64 x)) (hz : w.frozen? ⟨g, i, none⟩ = false) :
    Calls Tryd.prog 29 #[.pointer (some ⟨g, i, none⟩), .int .i64 y] w fun e w' => e = .returned (.tuple #[]) ∧ w' = w.setCell ⟨g, i, none⟩ (.int .i64 y) := by
  have hl := run_call_store (P := Tryd.prog) Tryd.func36 (by kernel_rfl) (by kernel_rfl) (by kernel_rfl) (by kernel_rfl) (k := .i64) (y := y) hc hz
  go_enter Tryd.func29, Tryd.ntmps29
  go_wp2
  go_end0
  exact ⟨rfl, rfl⟩
theorem is_any (k : Int) (w : World) : Calls Tryd.prog 22 #[.int .i64 k] w fun e w' => e = .returned (.bool (decide (0 ≤ k ∧ k < 9))) ∧ w = w' := by
  go_enter Tryd.func22, Tryd.ntmps22
  by_cases h0 : 0 ≤ k
  · have e0 : decide (0 ≤ k) = true := decide_eq_true h0
    go_wp2
    go_ret
    simp [h0]
  · have e0 : decide (0 ≤ k) = false := decide_eq_false h0
    go_wp2
    go_ret
    simp
theorem List.set_getElem?_self' {α : Type} {l : List α} {i : Nat} {x : α} (h : l[i]? = some x) : l.set i x = l := by
  apply List.ext_getElem?
  intro j
  rw [List.getElem?_set]
  split
  · next e => subst e; split
              · rw [h]
              · next h2 => rw [List.getElem?_eq_none (by omega)] at h; cases h
  · rfl
theorem up_any (g i : Nat) (a n : Int) (cs : List Value) (t : TypeId) (w : World) (hr : w.row g cs t) (hi : cs[i]? = some (.int .i64 a)) (h0 : 0 ≤ a) (h1 : a ≤ 4611686018427387904) (hn : 0 < n) (hn1 : n ≤ 9223372036854775807) :
    Calls Tryd.prog 23 #[.pointer (some ⟨g, i, none⟩), .int .i64 n] w fun e w' => e = .returned (.tuple #[]) ∧ Turned w w' g (cs.set i (.int .i64 (upS a n))) t := by
  have hc := hr.cell i hi
  have hz := hr.free i
  go_enter Tryd.func23, Tryd.ntmps23
  by_cases hm : a = 4611686018427387904
  · subst hm
    have e1 : min n 0 = 0 := by omega
    have e2 : upS 4611686018427387904 n = 4611686018427387904 := by unfold upS GR; omega
    have hcs : cs.set i (.int .i64 4611686018427387904) = cs := List.set_getElem?_self' hi
    go_wp2
    refine wp_loop_rounds 1 ?_
    rw [rounds_succ]
    go_wp2_with (go_at_call 28; refine (load_any _ _ _ _ hc).mono ?_; rintro e w' ⟨rfl, rfl⟩)
    refine bodyPost_ret (results_none rfl _ _ _) rfl ?_
    rw [e2, hcs]
    exact ⟨rfl, Turned.same hr⟩
  · have e1 : wrap64 (4611686018427387904 - a) = 4611686018427387904 - a := by unfold wrap64; omega
    have e2 : wrap64 (a + min n (4611686018427387904 - a)) = upS a n := by unfold wrap64 upS GR; omega
    have e3 : (upS a n == a) = false := by unfold upS GR; simp; omega
    go_wp2
    refine wp_loop_rounds 1 ?_
    rw [rounds_succ]
    go_wp2_with (first | (go_at_call 28; refine (load_any _ _ _ _ hc).mono ?_; rintro e w' ⟨rfl, rfl⟩) | (go_at_call 31; refine (cas_any _ _ _ _ _ hc hz).mono ?_; rintro e w' ⟨rfl, rfl⟩))
    all_goals (refine bodyPost_ret (results_none rfl _ _ _) rfl ?_; refine ⟨rfl, ?_⟩)
    all_goals (first | (rw [show upS a n = a + n by unfold upS GR; omega]; exact Turned.set hr i _) | (have e := Turned.set hr i (.int .i64 (a + (4611686018427387904 - a))); rw [show a + (4611686018427387904 - a) = upS a n by unfold upS GR; omega] at e ⊢; exact e))
theorem raise_any (g i : Nat) (a n : Int) (cs : List Value) (t : TypeId) (w : World) (hr : w.row g cs t) (hi : cs[i]? = some (.int .i64 a)) :
    Calls Tryd.prog 27 #[.pointer (some ⟨g, i, none⟩), .int .i64 n] w fun e w' => e = .returned (.tuple #[]) ∧ Turned w w' g (cs.set i (.int .i64 (max a n))) t := by
  have hc := hr.cell i hi
  have hz := hr.free i
  go_enter Tryd.func27, Tryd.ntmps27
  by_cases hm : a < n
  · have e1 : decide (a < n) = true := decide_eq_true hm
    go_wp2_with (go_at_call 28; refine (load_any _ _ _ _ hc).mono ?_; rintro e w' ⟨rfl, rfl⟩)
    refine wp_loop_rounds 1 ?_
    rw [rounds_succ]
    go_wp2_with (go_at_call 31; refine (cas_any _ _ _ _ _ hc hz).mono ?_; rintro e w' ⟨rfl, rfl⟩)
    refine bodyPost_ret (results_none rfl _ _ _) rfl ?_
    rw [show max a n = n by omega]
    exact ⟨rfl, Turned.set hr i _⟩
  · have e1 : decide (a < n) = false := decide_eq_false hm
    go_wp2_with (go_at_call 28; refine (load_any _ _ _ _ hc).mono ?_; rintro e w' ⟨rfl, rfl⟩)
    refine wp_loop_rounds 1 ?_
    rw [rounds_succ]
    go_wp2_with fail
    go_end0
    rw [show max a n = a by omega, List.set_getElem?_self' hi]
    exact ⟨rfl, Turned.same hr⟩
end Go.Proofs.YtnndoajflimkmaaDoor
