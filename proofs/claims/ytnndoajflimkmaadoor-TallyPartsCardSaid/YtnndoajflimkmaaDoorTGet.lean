/- New, Add, Get, Most, Note of the tally; Len off the shelf: contracts. -/
import Derived.Shelf.Lay
import Derived.Shelf.Small.Bits
import Derived.Test.YtnndoajflimkmaaDoorTUp
import Derived.Test.YtnndoajflimkmaaDoorArr
import Derived.Handy
namespace Go.Proofs.YtnndoajflimkmaaDoor
open Go Go.RowKit Go.Shelf
set_option maxRecDepth 100000
variable {w : World}
shelf_lay Lays.n125 Nm 125 at Tryd as lays125
theorem Len_any (x : Int) (w : World) (h0 : 0 ≤ x) (h1 : x ≤ 18446744073709551615) : Calls Tryd.prog 26 #[.int .u64 x] w fun e w' => e = .returned (.int .i64 (Lib.bitLen x.toNat : Int)) ∧ w = w' := by
  refine (Any.bits_Len lays125 x w h0 h1).mono ?_
  rintro e w' ⟨h1, h2⟩
  exact ⟨h1, h2.symm⟩
/-- The pointer to block g. -/
abbrev pt (g : Nat) : Value := .pointer (some ⟨g, 0, none⟩)
abbrev tT : TypeId := 65
theorem run_zeroValue {P : Program} {T : TypeId} {v : Value} (h : (P.info? T).map (·.zero) = some (some v)) (w : World) : Sem.run P (zeroValue T) w = .ok v w := by
  cases hi : P.info? T with
  | none => rw [hi] at h; cases h
  | some i =>
    rw [hi] at h
    have h2 : i.zero = some v := by simpa using h
    simp [zeroValue, typeInfo, hi, h2]
theorem New_any (w : World) : Calls Tryd.prog 7 #[] w fun e w' => e = .returned (pt w.heap.size) ∧ w' = w.alloc (.cells (cel zeroF).toArray tT) := by
  have hz := fun w => run_zeroValue (P := Tryd.prog) (T := tT) (v := .agg (cel zeroF).toArray) (by kernel_rfl) w
  go_enter Tryd.func7, Tryd.ntmps7
  go_wp2_with (first | (refine wpList_box_row rfl _ _ rfl (cel zeroF) (by simp) ?_))
  go_ret
  exact ⟨rfl, rfl⟩
theorem Get_any (g : Nat) (k : Int) (f : Nat → Int) (w : World) (hr : w.row g (cel f) tT) :
    Calls Tryd.prog 18 #[pt g, .int .i64 k] w fun e w' => e = .returned (.int .i64 (if 0 ≤ k ∧ k < 9 then f k.toNat else 0)) ∧ w = w' := by
  go_enter Tryd.func18, Tryd.ntmps18
  by_cases hk : 0 ≤ k ∧ k < 9
  · have e1 : decide (0 ≤ k ∧ k < 9) = true := decide_eq_true hk
    have h0 := hk.1
    have h1 := hk.2
    have hc := hr.cell k.toNat (cel_get f k.toNat (by omega))
    go_wp2_with (first | (go_at_call 22; refine (is_any _ _).mono ?_; rintro e w' ⟨rfl, rfl⟩) | (go_at_call 28; refine (load_any _ _ _ _ hc).mono ?_; rintro e w' ⟨rfl, rfl⟩))
    all_goals (try (exfalso; omega))
    go_returns
    exact ⟨by first | rfl | rw [if_pos hk], rfl⟩
  · have e1 : decide (0 ≤ k ∧ k < 9) = false := decide_eq_false hk
    go_wp2_with (first | (go_at_call 22; refine (is_any _ _).mono ?_; rintro e w' ⟨rfl, rfl⟩))
    all_goals (try (exfalso; omega))
    go_returns
    exact ⟨by first | rfl | rw [if_neg hk], rfl⟩
theorem Get_nil (k : Int) (w : World) : Calls Tryd.prog 18 #[.pointer none, .int .i64 k] w fun e w' => e = .returned (.int .i64 0) ∧ w = w' := by
  go_enter Tryd.func18, Tryd.ntmps18
  go_wp2_with fail
  go_returns
  exact ⟨rfl, rfl⟩
theorem Add_any (g : Nat) (k n : Int) (f : Nat → Int) (w : World) (hr : w.row g (cel f) tT) (hf : Fine f) (hn : n ≤ 9223372036854775807) :
    Calls Tryd.prog 8 #[pt g, .int .i64 k, .int .i64 n] w fun e w' => e = .returned (.tuple #[]) ∧ Turned w w' g (cel (addS f k n)) tT := by
  go_enter Tryd.func8, Tryd.ntmps8
  by_cases hk : 0 ≤ k ∧ k < 9
  · have e1 : decide (0 ≤ k ∧ k < 9) = true := decide_eq_true hk
    have h0 := hk.1
    have h1 := hk.2
    by_cases hp : 0 < n
    · have e2 : decide (0 < n) = true := decide_eq_true hp
      have e3 : decide (n > 0) = true := decide_eq_true hp
      go_wp2_with (first | (go_at_call 22; refine (is_any _ _).mono ?_; rintro e w' ⟨rfl, rfl⟩) | (go_at_call 23; refine Calls.turn_to (up_any g k.toNat (f k.toNat) n (cel f) tT _ hr (cel_get f _ (by omega)) (hf.lo _) (hf.hi _ (by omega)) hp hn) ?_; intro w1 h1))
      all_goals (try (exfalso; omega))
      go_returns
      refine ⟨rfl, ?_⟩
      rw [show addS f k n = put f k.toNat (upS (f k.toNat) n) by unfold addS; rw [if_pos ⟨hk.1, hk.2, hp⟩], ← cel_set]
      assumption
    · have e2 : decide (0 < n) = false := decide_eq_false hp
      have e3 : decide (n > 0) = false := decide_eq_false hp
      go_wp2_with (first | (go_at_call 22; refine (is_any _ _).mono ?_; rintro e w' ⟨rfl, rfl⟩))
      all_goals (try (exfalso; omega))
      go_returns
      rw [show addS f k n = f by unfold addS; rw [if_neg (by omega)]]
      exact ⟨rfl, Turned.same hr⟩
  · have e1 : decide (0 ≤ k ∧ k < 9) = false := decide_eq_false hk
    go_wp2_with (first | (go_at_call 22; refine (is_any _ _).mono ?_; rintro e w' ⟨rfl, rfl⟩))
    all_goals (try (exfalso; omega))
    go_returns
    rw [show addS f k n = f by unfold addS; rw [if_neg (by omega)]]
    exact ⟨rfl, Turned.same hr⟩
theorem Add_nil (k n : Int) (w : World) : Calls Tryd.prog 8 #[.pointer none, .int .i64 k, .int .i64 n] w fun e w' => e = .returned (.tuple #[]) ∧ w = w' := by
  go_enter Tryd.func8, Tryd.ntmps8
  go_wp2_with fail
  go_returns
  exact ⟨rfl, rfl⟩
theorem Most_any (g : Nat) (f : Nat → Int) (w : World) (hr : w.row g (cel f) tT) :
    Calls Tryd.prog 17 #[pt g] w fun e w' => e = .returned (.int .i64 (f 73)) ∧ w = w' := by
  have hc := hr.cell 73 (cel_get f 73 (by omega))
  go_enter Tryd.func17, Tryd.ntmps17
  go_wp2_with (first | (go_at_call 28; refine (load_any _ _ _ _ hc).mono ?_; rintro e w' ⟨rfl, rfl⟩))
  go_returns
  exact ⟨rfl, rfl⟩
theorem Most_nil (w : World) : Calls Tryd.prog 17 #[.pointer none] w fun e w' => e = .returned (.int .i64 0) ∧ w = w' := by
  go_enter Tryd.func17, Tryd.ntmps17
  go_wp2_with fail
  go_returns
  exact ⟨rfl, rfl⟩
theorem Note_nil (n : Int) (w : World) : Calls Tryd.prog 15 #[.pointer none, .int .i64 n] w fun e w' => e = .returned (.tuple #[]) ∧ w = w' := by
  go_enter Tryd.func15, Tryd.ntmps15
  go_wp2_with fail
  go_returns
  exact ⟨rfl, rfl⟩
theorem Reset_nil (w : World) : Calls Tryd.prog 20 #[.pointer none] w fun e w' => e = .returned (.tuple #[]) ∧ w = w' := by
  go_enter Tryd.func20, Tryd.ntmps20
  go_wp2_with fail
  go_returns
  exact ⟨rfl, rfl⟩
theorem Bars_nil (w : World) : Calls Tryd.prog 16 #[.pointer none] w fun e w' => e = .returned (.slice none 0 0) ∧ w = w' := by
  go_enter Tryd.func16, Tryd.ntmps16
  go_wp2_with fail
  go_returns
  exact ⟨rfl, rfl⟩
end Go.Proofs.YtnndoajflimkmaaDoor
