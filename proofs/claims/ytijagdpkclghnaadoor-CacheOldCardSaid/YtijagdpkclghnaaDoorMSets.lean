import Derived.Test.YtijagdpkclghnaaDoorMBit
namespace Go.Proofs.YtijagdpkclghnaaDoor
open Go Go.RowKit
set_option maxRecDepth 100000
theorem With_no (s : Set4) (i : Int) (w : World) (h : i < 0 ∨ 256 ≤ i) : Calls Tryd.prog 28 #[s.val, .int .i64 i] w fun e w' => e = .returned s.val ∧ Below w.heap.size w w' := by
  go_enter Tryd.func28, Tryd.ntmps28
  go_wp2_with (go_at_call 52; refine (may_no i _ h).mono ?_; rintro e w' ⟨rfl, rfl⟩)
  exact bodyPost_row rfl rfl (World.row.new' (by simp)) Tryd.underlying63 rfl (by kernel_rfl) rfl ⟨rfl, (by repeat' (first | (with_reducible exact Below.refl _ _) | (with_reducible assumption) | (with_reducible refine Below.setCell ?_ ?_ _) | (with_reducible refine Below.ext ?_ _ ?_) | (with_reducible refine Below.alloc ?_ ?_ _) | (with_reducible refine Below.drew ?_) | (with_reducible refine Below.drewN ?_ _) | (with_reducible exact Nat.le_refl _) | (dsimp only; omega) | (simp <;> omega)))⟩

theorem With_0 (s : Set4) (i j : Nat) (w : World) (hj : j < 64) (hi : i = 64 * 0 + j) : Calls Tryd.prog 28 #[s.val, .int .i64 (i : Int)] w fun e w' => e = .returned (s.with' i).val ∧ Below w.heap.size w w' := by
  have e0 := Set4.word_with s 0 j 0 (by omega) hj (by omega)
  have e1 := Set4.word_with s 0 j 1 (by omega) hj (by omega)
  have e2 := Set4.word_with s 0 j 2 (by omega) hj (by omega)
  have e3 := Set4.word_with s 0 j 3 (by omega) hj (by omega)
  have hv := u64_or_nat (s.word 0) (2 ^ j) (s.word_lt 0) (pow_lt64 j hj)
  rw [← hi] at e0 e1 e2 e3
  have E : Hid ((s.with' i).val = .agg #[.int .u64 (bits .or .u64 (s.word 0 : Int) ((2 ^ j : Nat) : Int)), .int .u64 (s.b : Int), .int .u64 (s.c : Int), .int .u64 (s.d : Int)]) := by
    show Value.agg #[.int .u64 ((s.with' i).word 0 : Int), .int .u64 ((s.with' i).word 1 : Int), .int .u64 ((s.with' i).word 2 : Int), .int .u64 ((s.with' i).word 3 : Int)] = _
    rw [e0, e1, e2, e3]
    simp only [Nat.reduceEqDiff, if_false, if_true, ← hv]
    rfl
  have hlt : i < 256 := by omega
  have HI := Lib.hid hi
  clear e0 e1 e2 e3 hv hi
  go_enter Tryd.func28, Tryd.ntmps28
  go_wp2_with (go_at_call 52; refine (may_yes _ _ hlt).mono ?_; rintro e w' ⟨rfl, rfl⟩)
  refine Calls.pure_of (w.heap.size + 2) (by simp) (bit_any i 0 j _ HI.out (by omega) hj) ?_
  intro x
  go_wp2
  refine bodyPost_row rfl rfl (((((World.row.ext (World.row.new' (by simp)) x (by simp)).other _ _ (by simp)).set 0 _ |>.set 1 _).set 2 _).set 3 _) Tryd.underlying63 rfl (by kernel_rfl) rfl ⟨?_, (by repeat' (first | (with_reducible exact Below.refl _ _) | (with_reducible assumption) | (with_reducible refine Below.setCell ?_ ?_ _) | (with_reducible refine Below.ext ?_ _ ?_) | (with_reducible refine Below.alloc ?_ ?_ _) | (with_reducible refine Below.drew ?_) | (with_reducible refine Below.drewN ?_ _) | (with_reducible exact Nat.le_refl _) | (dsimp only; omega) | (simp <;> omega)))⟩
  rw [E.out]
  rfl

theorem With_1 (s : Set4) (i j : Nat) (w : World) (hj : j < 64) (hi : i = 64 * 1 + j) : Calls Tryd.prog 28 #[s.val, .int .i64 (i : Int)] w fun e w' => e = .returned (s.with' i).val ∧ Below w.heap.size w w' := by
  have e0 := Set4.word_with s 1 j 0 (by omega) hj (by omega)
  have e1 := Set4.word_with s 1 j 1 (by omega) hj (by omega)
  have e2 := Set4.word_with s 1 j 2 (by omega) hj (by omega)
  have e3 := Set4.word_with s 1 j 3 (by omega) hj (by omega)
  have hv := u64_or_nat (s.word 1) (2 ^ j) (s.word_lt 1) (pow_lt64 j hj)
  rw [← hi] at e0 e1 e2 e3
  have E : Hid ((s.with' i).val = .agg #[.int .u64 (s.a : Int), .int .u64 (bits .or .u64 (s.word 1 : Int) ((2 ^ j : Nat) : Int)), .int .u64 (s.c : Int), .int .u64 (s.d : Int)]) := by
    show Value.agg #[.int .u64 ((s.with' i).word 0 : Int), .int .u64 ((s.with' i).word 1 : Int), .int .u64 ((s.with' i).word 2 : Int), .int .u64 ((s.with' i).word 3 : Int)] = _
    rw [e0, e1, e2, e3]
    simp only [Nat.reduceEqDiff, if_false, if_true, ← hv]
    rfl
  have hlt : i < 256 := by omega
  have HI := Lib.hid hi
  clear e0 e1 e2 e3 hv hi
  go_enter Tryd.func28, Tryd.ntmps28
  go_wp2_with (go_at_call 52; refine (may_yes _ _ hlt).mono ?_; rintro e w' ⟨rfl, rfl⟩)
  refine Calls.pure_of (w.heap.size + 2) (by simp) (bit_any i 1 j _ HI.out (by omega) hj) ?_
  intro x
  go_wp2
  refine bodyPost_row rfl rfl (((((World.row.ext (World.row.new' (by simp)) x (by simp)).other _ _ (by simp)).set 0 _ |>.set 1 _).set 2 _).set 3 _) Tryd.underlying63 rfl (by kernel_rfl) rfl ⟨?_, (by repeat' (first | (with_reducible exact Below.refl _ _) | (with_reducible assumption) | (with_reducible refine Below.setCell ?_ ?_ _) | (with_reducible refine Below.ext ?_ _ ?_) | (with_reducible refine Below.alloc ?_ ?_ _) | (with_reducible refine Below.drew ?_) | (with_reducible refine Below.drewN ?_ _) | (with_reducible exact Nat.le_refl _) | (dsimp only; omega) | (simp <;> omega)))⟩
  rw [E.out]
  rfl

theorem With_2 (s : Set4) (i j : Nat) (w : World) (hj : j < 64) (hi : i = 64 * 2 + j) : Calls Tryd.prog 28 #[s.val, .int .i64 (i : Int)] w fun e w' => e = .returned (s.with' i).val ∧ Below w.heap.size w w' := by
  have e0 := Set4.word_with s 2 j 0 (by omega) hj (by omega)
  have e1 := Set4.word_with s 2 j 1 (by omega) hj (by omega)
  have e2 := Set4.word_with s 2 j 2 (by omega) hj (by omega)
  have e3 := Set4.word_with s 2 j 3 (by omega) hj (by omega)
  have hv := u64_or_nat (s.word 2) (2 ^ j) (s.word_lt 2) (pow_lt64 j hj)
  rw [← hi] at e0 e1 e2 e3
  have E : Hid ((s.with' i).val = .agg #[.int .u64 (s.a : Int), .int .u64 (s.b : Int), .int .u64 (bits .or .u64 (s.word 2 : Int) ((2 ^ j : Nat) : Int)), .int .u64 (s.d : Int)]) := by
    show Value.agg #[.int .u64 ((s.with' i).word 0 : Int), .int .u64 ((s.with' i).word 1 : Int), .int .u64 ((s.with' i).word 2 : Int), .int .u64 ((s.with' i).word 3 : Int)] = _
    rw [e0, e1, e2, e3]
    simp only [Nat.reduceEqDiff, if_false, if_true, ← hv]
    rfl
  have hlt : i < 256 := by omega
  have HI := Lib.hid hi
  clear e0 e1 e2 e3 hv hi
  go_enter Tryd.func28, Tryd.ntmps28
  go_wp2_with (go_at_call 52; refine (may_yes _ _ hlt).mono ?_; rintro e w' ⟨rfl, rfl⟩)
  refine Calls.pure_of (w.heap.size + 2) (by simp) (bit_any i 2 j _ HI.out (by omega) hj) ?_
  intro x
  go_wp2
  refine bodyPost_row rfl rfl (((((World.row.ext (World.row.new' (by simp)) x (by simp)).other _ _ (by simp)).set 0 _ |>.set 1 _).set 2 _).set 3 _) Tryd.underlying63 rfl (by kernel_rfl) rfl ⟨?_, (by repeat' (first | (with_reducible exact Below.refl _ _) | (with_reducible assumption) | (with_reducible refine Below.setCell ?_ ?_ _) | (with_reducible refine Below.ext ?_ _ ?_) | (with_reducible refine Below.alloc ?_ ?_ _) | (with_reducible refine Below.drew ?_) | (with_reducible refine Below.drewN ?_ _) | (with_reducible exact Nat.le_refl _) | (dsimp only; omega) | (simp <;> omega)))⟩
  rw [E.out]
  rfl

theorem With_3 (s : Set4) (i j : Nat) (w : World) (hj : j < 64) (hi : i = 64 * 3 + j) : Calls Tryd.prog 28 #[s.val, .int .i64 (i : Int)] w fun e w' => e = .returned (s.with' i).val ∧ Below w.heap.size w w' := by
  have e0 := Set4.word_with s 3 j 0 (by omega) hj (by omega)
  have e1 := Set4.word_with s 3 j 1 (by omega) hj (by omega)
  have e2 := Set4.word_with s 3 j 2 (by omega) hj (by omega)
  have e3 := Set4.word_with s 3 j 3 (by omega) hj (by omega)
  have hv := u64_or_nat (s.word 3) (2 ^ j) (s.word_lt 3) (pow_lt64 j hj)
  rw [← hi] at e0 e1 e2 e3
  have E : Hid ((s.with' i).val = .agg #[.int .u64 (s.a : Int), .int .u64 (s.b : Int), .int .u64 (s.c : Int), .int .u64 (bits .or .u64 (s.word 3 : Int) ((2 ^ j : Nat) : Int))]) := by
    show Value.agg #[.int .u64 ((s.with' i).word 0 : Int), .int .u64 ((s.with' i).word 1 : Int), .int .u64 ((s.with' i).word 2 : Int), .int .u64 ((s.with' i).word 3 : Int)] = _
    rw [e0, e1, e2, e3]
    simp only [Nat.reduceEqDiff, if_false, if_true, ← hv]
    rfl
  have hlt : i < 256 := by omega
  have HI := Lib.hid hi
  clear e0 e1 e2 e3 hv hi
  go_enter Tryd.func28, Tryd.ntmps28
  go_wp2_with (go_at_call 52; refine (may_yes _ _ hlt).mono ?_; rintro e w' ⟨rfl, rfl⟩)
  refine Calls.pure_of (w.heap.size + 2) (by simp) (bit_any i 3 j _ HI.out (by omega) hj) ?_
  intro x
  go_wp2
  refine bodyPost_row rfl rfl (((((World.row.ext (World.row.new' (by simp)) x (by simp)).other _ _ (by simp)).set 0 _ |>.set 1 _).set 2 _).set 3 _) Tryd.underlying63 rfl (by kernel_rfl) rfl ⟨?_, (by repeat' (first | (with_reducible exact Below.refl _ _) | (with_reducible assumption) | (with_reducible refine Below.setCell ?_ ?_ _) | (with_reducible refine Below.ext ?_ _ ?_) | (with_reducible refine Below.alloc ?_ ?_ _) | (with_reducible refine Below.drew ?_) | (with_reducible refine Below.drewN ?_ _) | (with_reducible exact Nat.le_refl _) | (dsimp only; omega) | (simp <;> omega)))⟩
  rw [E.out]
  rfl

theorem With_yes (s : Set4) (i : Nat) (w : World) (h : i < 256) : Calls Tryd.prog 28 #[s.val, .int .i64 (i : Int)] w fun e w' => e = .returned (s.with' i).val ∧ Below w.heap.size w w' := by
  obtain ⟨k, j, hk, hj, hi⟩ : ∃ k j, k < 4 ∧ j < 64 ∧ i = 64 * k + j := ⟨i / 64, i % 64, by omega, by omega, by omega⟩
  obtain rfl | rfl | rfl | rfl : k = 0 ∨ k = 1 ∨ k = 2 ∨ k = 3 := by omega
  · exact With_0 s i j w hj hi
  · exact With_1 s i j w hj hi
  · exact With_2 s i j w hj hi
  · exact With_3 s i j w hj hi

end Go.Proofs.YtijagdpkclghnaaDoor
