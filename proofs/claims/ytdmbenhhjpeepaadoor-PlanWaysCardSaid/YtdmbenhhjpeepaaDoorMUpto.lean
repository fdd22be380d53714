import Derived.Test.YtdmbenhhjpeepaaDoorMSets
namespace Go.Proofs.YtdmbenhhjpeepaaDoor
open Go Go.RowKit
set_option maxRecDepth 100000

set_option maxHeartbeats 1000000 in
theorem Upto_0 (n : Int) (w : World) (h1 : 0 < n) (h2 : n < 64) : Calls Tryd.prog 18 #[.int .i64 n] w fun e w' => e = .returned (Set4.upto n.toNat).val ∧ Below w.heap.size w w' := by
  go_enter Tryd.func18, Tryd.ntmps18
  go_wp2
  go_rounds 5
  refine bodyPost_row rfl rfl ((World.row.new' (by simp)).alloc _) Tryd.underlying28 rfl (by kernel_rfl) rfl ⟨?_, (by repeat' (first | (with_reducible exact Below.refl _ _) | (with_reducible assumption) | (with_reducible refine Below.setCell ?_ ?_ _) | (with_reducible refine Below.ext ?_ _ ?_) | (with_reducible refine Below.alloc ?_ ?_ _) | (with_reducible refine Below.drew ?_) | (with_reducible refine Below.drewN ?_ _) | (with_reducible exact Nat.le_refl _) | (dsimp only; omega) | (simp <;> omega)))⟩
  rw [Set4.val_words, Set4.word_upto _ 0 (by omega), Set4.word_upto _ 1 (by omega), Set4.word_upto _ 2 (by omega), Set4.word_upto _ 3 (by omega)]
  rw [Set4.ones_wrap (n.toNat - 0) _ (by omega) (by omega)]
  rw [show min 64 (n.toNat - 64 * 0) = n.toNat - 0 by omega]
  rw [show min 64 (n.toNat - 64 * 1) = 0 by omega]
  rw [show min 64 (n.toNat - 64 * 2) = 0 by omega]
  rw [show min 64 (n.toNat - 64 * 3) = 0 by omega]
  rfl

set_option maxHeartbeats 1000000 in
theorem Upto_0e (n : Int) (w : World) (h1 : n ≤ 0) : Calls Tryd.prog 18 #[.int .i64 n] w fun e w' => e = .returned (Set4.upto n.toNat).val ∧ Below w.heap.size w w' := by
  go_enter Tryd.func18, Tryd.ntmps18
  go_wp2
  go_rounds 5
  refine bodyPost_row rfl rfl ((World.row.new' (by simp)).alloc _) Tryd.underlying28 rfl (by kernel_rfl) rfl ⟨?_, (by repeat' (first | (with_reducible exact Below.refl _ _) | (with_reducible assumption) | (with_reducible refine Below.setCell ?_ ?_ _) | (with_reducible refine Below.ext ?_ _ ?_) | (with_reducible refine Below.alloc ?_ ?_ _) | (with_reducible refine Below.drew ?_) | (with_reducible refine Below.drewN ?_ _) | (with_reducible exact Nat.le_refl _) | (dsimp only; omega) | (simp <;> omega)))⟩
  rw [Set4.val_words, Set4.word_upto _ 0 (by omega), Set4.word_upto _ 1 (by omega), Set4.word_upto _ 2 (by omega), Set4.word_upto _ 3 (by omega)]
  rw [show min 64 (n.toNat - 64 * 0) = 0 by omega]
  rw [show min 64 (n.toNat - 64 * 1) = 0 by omega]
  rw [show min 64 (n.toNat - 64 * 2) = 0 by omega]
  rw [show min 64 (n.toNat - 64 * 3) = 0 by omega]
  rfl

set_option maxHeartbeats 1000000 in
theorem Upto_1 (n : Int) (w : World) (h1 : 64 < n) (h2 : n < 128) : Calls Tryd.prog 18 #[.int .i64 n] w fun e w' => e = .returned (Set4.upto n.toNat).val ∧ Below w.heap.size w w' := by
  go_enter Tryd.func18, Tryd.ntmps18
  go_wp2
  go_rounds 5
  refine bodyPost_row rfl rfl ((World.row.new' (by simp)).alloc _) Tryd.underlying28 rfl (by kernel_rfl) rfl ⟨?_, (by repeat' (first | (with_reducible exact Below.refl _ _) | (with_reducible assumption) | (with_reducible refine Below.setCell ?_ ?_ _) | (with_reducible refine Below.ext ?_ _ ?_) | (with_reducible refine Below.alloc ?_ ?_ _) | (with_reducible refine Below.drew ?_) | (with_reducible refine Below.drewN ?_ _) | (with_reducible exact Nat.le_refl _) | (dsimp only; omega) | (simp <;> omega)))⟩
  rw [Set4.val_words, Set4.word_upto _ 0 (by omega), Set4.word_upto _ 1 (by omega), Set4.word_upto _ 2 (by omega), Set4.word_upto _ 3 (by omega)]
  rw [Set4.ones_wrap (n.toNat - 64) _ (by omega) (by omega)]
  rw [show min 64 (n.toNat - 64 * 0) = 64 by omega]
  rw [show min 64 (n.toNat - 64 * 1) = n.toNat - 64 by omega]
  rw [show min 64 (n.toNat - 64 * 2) = 0 by omega]
  rw [show min 64 (n.toNat - 64 * 3) = 0 by omega]
  rfl

set_option maxHeartbeats 1000000 in
theorem Upto_1e (n : Int) (w : World) (h1 : n = 64) : Calls Tryd.prog 18 #[.int .i64 n] w fun e w' => e = .returned (Set4.upto n.toNat).val ∧ Below w.heap.size w w' := by
  subst h1
  go_enter Tryd.func18, Tryd.ntmps18
  go_wp2
  go_rounds 5
  refine bodyPost_row rfl rfl ((World.row.new' (by simp)).alloc _) Tryd.underlying28 rfl (by kernel_rfl) rfl ⟨?_, (by repeat' (first | (with_reducible exact Below.refl _ _) | (with_reducible assumption) | (with_reducible refine Below.setCell ?_ ?_ _) | (with_reducible refine Below.ext ?_ _ ?_) | (with_reducible refine Below.alloc ?_ ?_ _) | (with_reducible refine Below.drew ?_) | (with_reducible refine Below.drewN ?_ _) | (with_reducible exact Nat.le_refl _) | (dsimp only; omega) | (simp <;> omega)))⟩
  rw [Set4.val_words, Set4.word_upto _ 0 (by omega), Set4.word_upto _ 1 (by omega), Set4.word_upto _ 2 (by omega), Set4.word_upto _ 3 (by omega)]
  rw [show min 64 ((64 : Int).toNat - 64 * 0) = 64 by omega]
  rw [show min 64 ((64 : Int).toNat - 64 * 1) = 0 by omega]
  rw [show min 64 ((64 : Int).toNat - 64 * 2) = 0 by omega]
  rw [show min 64 ((64 : Int).toNat - 64 * 3) = 0 by omega]
  rfl

set_option maxHeartbeats 1000000 in
theorem Upto_2 (n : Int) (w : World) (h1 : 128 < n) (h2 : n < 192) : Calls Tryd.prog 18 #[.int .i64 n] w fun e w' => e = .returned (Set4.upto n.toNat).val ∧ Below w.heap.size w w' := by
  go_enter Tryd.func18, Tryd.ntmps18
  go_wp2
  go_rounds 5
  refine bodyPost_row rfl rfl ((World.row.new' (by simp)).alloc _) Tryd.underlying28 rfl (by kernel_rfl) rfl ⟨?_, (by repeat' (first | (with_reducible exact Below.refl _ _) | (with_reducible assumption) | (with_reducible refine Below.setCell ?_ ?_ _) | (with_reducible refine Below.ext ?_ _ ?_) | (with_reducible refine Below.alloc ?_ ?_ _) | (with_reducible refine Below.drew ?_) | (with_reducible refine Below.drewN ?_ _) | (with_reducible exact Nat.le_refl _) | (dsimp only; omega) | (simp <;> omega)))⟩
  rw [Set4.val_words, Set4.word_upto _ 0 (by omega), Set4.word_upto _ 1 (by omega), Set4.word_upto _ 2 (by omega), Set4.word_upto _ 3 (by omega)]
  rw [Set4.ones_wrap (n.toNat - 128) _ (by omega) (by omega)]
  rw [show min 64 (n.toNat - 64 * 0) = 64 by omega]
  rw [show min 64 (n.toNat - 64 * 1) = 64 by omega]
  rw [show min 64 (n.toNat - 64 * 2) = n.toNat - 128 by omega]
  rw [show min 64 (n.toNat - 64 * 3) = 0 by omega]
  rfl

set_option maxHeartbeats 1000000 in
theorem Upto_2e (n : Int) (w : World) (h1 : n = 128) : Calls Tryd.prog 18 #[.int .i64 n] w fun e w' => e = .returned (Set4.upto n.toNat).val ∧ Below w.heap.size w w' := by
  subst h1
  go_enter Tryd.func18, Tryd.ntmps18
  go_wp2
  go_rounds 5
  refine bodyPost_row rfl rfl ((World.row.new' (by simp)).alloc _) Tryd.underlying28 rfl (by kernel_rfl) rfl ⟨?_, (by repeat' (first | (with_reducible exact Below.refl _ _) | (with_reducible assumption) | (with_reducible refine Below.setCell ?_ ?_ _) | (with_reducible refine Below.ext ?_ _ ?_) | (with_reducible refine Below.alloc ?_ ?_ _) | (with_reducible refine Below.drew ?_) | (with_reducible refine Below.drewN ?_ _) | (with_reducible exact Nat.le_refl _) | (dsimp only; omega) | (simp <;> omega)))⟩
  rw [Set4.val_words, Set4.word_upto _ 0 (by omega), Set4.word_upto _ 1 (by omega), Set4.word_upto _ 2 (by omega), Set4.word_upto _ 3 (by omega)]
  rw [show min 64 ((128 : Int).toNat - 64 * 0) = 64 by omega]
  rw [show min 64 ((128 : Int).toNat - 64 * 1) = 64 by omega]
  rw [show min 64 ((128 : Int).toNat - 64 * 2) = 0 by omega]
  rw [show min 64 ((128 : Int).toNat - 64 * 3) = 0 by omega]
  rfl

set_option maxHeartbeats 1000000 in
theorem Upto_3 (n : Int) (w : World) (h1 : 192 < n) (h2 : n < 256) : Calls Tryd.prog 18 #[.int .i64 n] w fun e w' => e = .returned (Set4.upto n.toNat).val ∧ Below w.heap.size w w' := by
  go_enter Tryd.func18, Tryd.ntmps18
  go_wp2
  go_rounds 5
  refine bodyPost_row rfl rfl ((World.row.new' (by simp)).alloc _) Tryd.underlying28 rfl (by kernel_rfl) rfl ⟨?_, (by repeat' (first | (with_reducible exact Below.refl _ _) | (with_reducible assumption) | (with_reducible refine Below.setCell ?_ ?_ _) | (with_reducible refine Below.ext ?_ _ ?_) | (with_reducible refine Below.alloc ?_ ?_ _) | (with_reducible refine Below.drew ?_) | (with_reducible refine Below.drewN ?_ _) | (with_reducible exact Nat.le_refl _) | (dsimp only; omega) | (simp <;> omega)))⟩
  rw [Set4.val_words, Set4.word_upto _ 0 (by omega), Set4.word_upto _ 1 (by omega), Set4.word_upto _ 2 (by omega), Set4.word_upto _ 3 (by omega)]
  rw [Set4.ones_wrap (n.toNat - 192) _ (by omega) (by omega)]
  rw [show min 64 (n.toNat - 64 * 0) = 64 by omega]
  rw [show min 64 (n.toNat - 64 * 1) = 64 by omega]
  rw [show min 64 (n.toNat - 64 * 2) = 64 by omega]
  rw [show min 64 (n.toNat - 64 * 3) = n.toNat - 192 by omega]
  rfl

set_option maxHeartbeats 1000000 in
theorem Upto_3e (n : Int) (w : World) (h1 : n = 192) : Calls Tryd.prog 18 #[.int .i64 n] w fun e w' => e = .returned (Set4.upto n.toNat).val ∧ Below w.heap.size w w' := by
  subst h1
  go_enter Tryd.func18, Tryd.ntmps18
  go_wp2
  go_rounds 5
  refine bodyPost_row rfl rfl ((World.row.new' (by simp)).alloc _) Tryd.underlying28 rfl (by kernel_rfl) rfl ⟨?_, (by repeat' (first | (with_reducible exact Below.refl _ _) | (with_reducible assumption) | (with_reducible refine Below.setCell ?_ ?_ _) | (with_reducible refine Below.ext ?_ _ ?_) | (with_reducible refine Below.alloc ?_ ?_ _) | (with_reducible refine Below.drew ?_) | (with_reducible refine Below.drewN ?_ _) | (with_reducible exact Nat.le_refl _) | (dsimp only; omega) | (simp <;> omega)))⟩
  rw [Set4.val_words, Set4.word_upto _ 0 (by omega), Set4.word_upto _ 1 (by omega), Set4.word_upto _ 2 (by omega), Set4.word_upto _ 3 (by omega)]
  rw [show min 64 ((192 : Int).toNat - 64 * 0) = 64 by omega]
  rw [show min 64 ((192 : Int).toNat - 64 * 1) = 64 by omega]
  rw [show min 64 ((192 : Int).toNat - 64 * 2) = 64 by omega]
  rw [show min 64 ((192 : Int).toNat - 64 * 3) = 0 by omega]
  rfl

set_option maxHeartbeats 1000000 in
theorem Upto_4 (n : Int) (w : World) (h1 : 256 ≤ n) : Calls Tryd.prog 18 #[.int .i64 n] w fun e w' => e = .returned (Set4.upto n.toNat).val ∧ Below w.heap.size w w' := by
  have e : Set4.upto n.toNat = Set4.upto 256 := Set4.of_congr fun i hi => decide_eq_decide.2 (by omega)
  rw [e]
  go_enter Tryd.func18, Tryd.ntmps18
  go_wp2
  go_rounds 5
  all_goals exact bodyPost_row rfl rfl ((World.row.new' (by simp)).alloc _) Tryd.underlying28 rfl (by kernel_rfl) rfl ⟨by rw [Set4.val_words, Set4.word_upto _ 0 (by omega), Set4.word_upto _ 1 (by omega), Set4.word_upto _ 2 (by omega), Set4.word_upto _ 3 (by omega)]; rfl, (by repeat' (first | (with_reducible exact Below.refl _ _) | (with_reducible assumption) | (with_reducible refine Below.setCell ?_ ?_ _) | (with_reducible refine Below.ext ?_ _ ?_) | (with_reducible refine Below.alloc ?_ ?_ _) | (with_reducible refine Below.drew ?_) | (with_reducible refine Below.drewN ?_ _) | (with_reducible exact Nat.le_refl _) | (dsimp only; omega) | (simp <;> omega)))⟩
theorem Upto_any (n : Int) (w : World) : Calls Tryd.prog 18 #[.int .i64 n] w fun e w' => e = .returned (Set4.upto n.toNat).val ∧ Below w.heap.size w w' := by
  by_cases h : n ≤ 0
  · exact Upto_0e n w h
  by_cases h4 : 256 ≤ n
  · exact Upto_4 n w h4
  by_cases h1 : n = 64
  · exact Upto_1e n w h1
  by_cases h2 : n = 128
  · exact Upto_2e n w h2
  by_cases h3 : n = 192
  · exact Upto_3e n w h3
  by_cases g1 : n < 64
  · exact Upto_0 n w (by omega) g1
  by_cases g2 : n < 128
  · exact Upto_1 n w (by omega) g2
  by_cases g3 : n < 192
  · exact Upto_2 n w (by omega) g3
  · exact Upto_3 n w (by omega) (by omega)
end Go.Proofs.YtdmbenhhjpeepaaDoor
