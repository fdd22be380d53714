/- Several texts in one: MEach MOps MBit MSets MUpto MOf Pop MCnt SetB MNext MRow Open3 UMap. -/
import Derived.Test.YtijagdpkclghnaaDoorKckb
import Derived.Test.YtijagdpkclghnaaDoorProg
import Derived.Handy
import Derived.Lib.TrailingZeros
import Derived.Test.YtijagdpkclghnaaDoorRows
import Derived.Test.YtijagdpkclghnaaDoorTie
import Derived.Test.YtijagdpkclghnaaDoorCards
import Derived.ShutString
import Derived.ChangeOld
import Derived.SizedLaws
import Derived.ChangeVars
import Derived.ChangeSame
import Derived.Deep.Slices
import Derived.Maps.OwnSet
namespace Go.Proofs.YtijagdpkclghnaaDoor
open Go Go.RowKit
set_option maxRecDepth 100000
end Go.Proofs.YtijagdpkclghnaaDoor
namespace Go.Proofs.YtijagdpkclghnaaDoor
open Go Go.RowKit
set_option maxRecDepth 100000
/-- '==' on sets, as the walk spells it. -/
@[go_sem] theorem eq_set (w : World) (a0 a1 a2 a3 b0 b1 b2 b3 : Int) :
    (Op.equalIn 10000 63 (.agg #[.int .u64 a0, .int .u64 a1, .int .u64 a2, .int .u64 a3]) (.agg #[.int .u64 b0, .int .u64 b1, .int .u64 b2, .int .u64 b3])).run Tryd.prog w = .ok (a0 == b0 && (a1 == b1 && (a2 == b2 && a3 == b3))) w := by
  obtain ⟨i, hi, hs⟩ : ∃ i, Tryd.prog.info? 61 = some i ∧ i.size = 1 := by
    have h : (Tryd.prog.info? 61).map (·.size) = some 1 := by kernel_rfl
    cases e : Tryd.prog.info? 61 with
    | none => rw [e] at h; cases h
    | some i => rw [e] at h; exact ⟨i, rfl, by simpa using h⟩
  exact run_eq_array4 9998 63 61 i .u64 w Tryd.underlying63 Tryd.underlying61 hi hs a0 a1 a2 a3 b0 b1 b2 b3

end Go.Proofs.YtijagdpkclghnaaDoor
namespace Go.Proofs.YtijagdpkclghnaaDoor
open Go Go.RowKit
set_option maxRecDepth 100000
theorem may_yes (i : Nat) (w : World) (h : i < 256) : Calls Tryd.prog 52 #[.int .i64 (i : Int)] w fun e w' => e = .returned (.bool true) ∧ w = w' := by
  have h0 : decide ((0 : Int) ≤ (i : Int)) = true := by simp
  have h1 : decide ((i : Int) < 256) = true := by simp; omega
  go_enter Tryd.func52, Tryd.ntmps52
  go_wp2
  go_ret
  exact ⟨rfl, rfl⟩
theorem may_no (i : Int) (w : World) (h : i < 0 ∨ 256 ≤ i) : Calls Tryd.prog 52 #[.int .i64 i] w fun e w' => e = .returned (.bool false) ∧ w = w' := by
  rcases h with h | h
  · have h0 : decide (0 ≤ i) = false := by simp; omega
    go_enter Tryd.func52, Tryd.ntmps52
    go_wp2
    go_ret
    exact ⟨rfl, rfl⟩
  · have h0 : decide (0 ≤ i) = true := by simp; omega
    have h1 : decide (i < 256) = false := by simp; omega
    go_enter Tryd.func52, Tryd.ntmps52
    go_wp2
    go_ret
    exact ⟨rfl, rfl⟩
theorem bit_any (i k j : Nat) (w : World) (hi : i = 64 * k + j) (hk : k < 4) (hj : j < 64) : Calls Tryd.prog 53 #[.int .i64 (i : Int)] w fun e w' => e = .returned (.tuple #[.int .i64 (k : Int), .int .u64 ((2 ^ j : Nat) : Int)]) ∧ Below w.heap.size w w' := by
  have h0 : (0 : Int) ≤ (i : Int) := by omega
  have h1 : (i : Int) < 256 := by omega
  have H := Lib.hid hi
  clear hi
  go_enter Tryd.func53, Tryd.ntmps53
  go_wp2
  go_quiet (fail)
  go_wp2
  go_ret2
  have hi := H.out
  refine ⟨?_, (by repeat' (first | (with_reducible exact Below.refl _ _) | (with_reducible assumption) | (with_reducible refine Below.setCell ?_ ?_ _) | (with_reducible refine Below.ext ?_ _ ?_) | (with_reducible refine Below.alloc ?_ ?_ _) | (with_reducible refine Below.drew ?_) | (with_reducible refine Below.drewN ?_ _) | (with_reducible exact Nat.le_refl _) | (dsimp only; omega) | (simp <;> omega)))⟩
  show Ending.returned (.tuple #[.int .i64 ((i : Int) / 64), .int .u64 (IntKind.u64.wrap (2 ^ (i % 64)))]) = _
  rw [pow_wrap _ (Nat.mod_lt _ (by omega)), show (i : Int) / 64 = (k : Int) by omega, show i % 64 = j by omega]
theorem Has_no (s : Set4) (i : Int) (w : World) (h : i < 0 ∨ 256 ≤ i) : Calls Tryd.prog 30 #[s.val, .int .i64 i] w fun e w' => e = .returned (.bool false) ∧ Below w.heap.size w w' := by
  go_enter Tryd.func30, Tryd.ntmps30
  go_wp2_with (go_at_call 52; refine (may_no i _ h).mono ?_; rintro e w' ⟨rfl, rfl⟩)
  go_ret
  exact ⟨rfl, (by repeat' (first | (with_reducible exact Below.refl _ _) | (with_reducible assumption) | (with_reducible refine Below.setCell ?_ ?_ _) | (with_reducible refine Below.ext ?_ _ ?_) | (with_reducible refine Below.alloc ?_ ?_ _) | (with_reducible refine Below.drew ?_) | (with_reducible refine Below.drewN ?_ _) | (with_reducible exact Nat.le_refl _) | (dsimp only; omega) | (simp <;> omega)))⟩
set_option maxHeartbeats 1600000 in
theorem Has_yes (s : Set4) (i : Nat) (w : World) (h : i < 256) : Calls Tryd.prog 30 #[s.val, .int .i64 (i : Int)] w fun e w' => e = .returned (.bool (s.has i)) ∧ Below w.heap.size w w' := by
  obtain ⟨k, j, hk, hj, hi⟩ : ∃ k j, k < 4 ∧ j < 64 ∧ i = 64 * k + j := ⟨i / 64, i % 64, by omega, by omega, by omega⟩
  have hv := and_pow_ne (s.word k) j (s.word_lt k) hj
  rw [← Set4.has_at s k j hk hj, ← hi] at hv
  have HV := Lib.hid hv
  have HI := Lib.hid hi
  clear hv hi
  obtain rfl | rfl | rfl | rfl : k = 0 ∨ k = 1 ∨ k = 2 ∨ k = 3 := by omega
  all_goals
    go_enter Tryd.func30, Tryd.ntmps30
    go_wp2_with (go_at_call 52; refine (may_yes _ _ h).mono ?_; rintro e w' ⟨rfl, rfl⟩)
    refine Calls.pure_of (w.heap.size + 1) (by simp) (bit_any i _ j _ HI.out hk hj) ?_
    intro x
    go_wp2
    go_ret
    exact ⟨congrArg (fun z => Ending.returned (.bool z)) HV.out, (by repeat' (first | (with_reducible exact Below.refl _ _) | (with_reducible assumption) | (with_reducible refine Below.setCell ?_ ?_ _) | (with_reducible refine Below.ext ?_ _ ?_) | (with_reducible refine Below.alloc ?_ ?_ _) | (with_reducible refine Below.drew ?_) | (with_reducible refine Below.drewN ?_ _) | (with_reducible exact Nat.le_refl _) | (dsimp only; omega) | (simp <;> omega)))⟩
end Go.Proofs.YtijagdpkclghnaaDoor
namespace Go.Proofs.YtijagdpkclghnaaDoor
open Go Go.RowKit
set_option maxRecDepth 100000
theorem With_no (s : Set4) (i : Int) (w : World) (h : i < 0 ∨ 256 ≤ i) : Calls Tryd.prog 28 #[s.val, .int .i64 i] w fun e w' => e = .returned s.val ∧ Below w.heap.size w w' := by
  go_enter Tryd.func28, Tryd.ntmps28
  go_wp2_with (go_at_call 52; refine (may_no i _ h).mono ?_; rintro e w' ⟨rfl, rfl⟩)
  exact bodyPost_row rfl rfl (World.row.new' (by simp)) Tryd.underlying63 rfl (by kernel_rfl) rfl ⟨rfl, (by repeat' (first | (with_reducible exact Below.refl _ _) | (with_reducible assumption) | (with_reducible refine Below.setCell ?_ ?_ _) | (with_reducible refine Below.ext ?_ _ ?_) | (with_reducible refine Below.alloc ?_ ?_ _) | (with_reducible refine Below.drew ?_) | (with_reducible refine Below.drewN ?_ _) | (with_reducible exact Nat.le_refl _) | (dsimp only; omega) | (simp <;> omega)))⟩

theorem With_0 (s : Set4) (i j : Nat) (w : World) (hj : j < 64) (hi : i = 64 * 0 + j) : Calls Tryd.prog 28 #[s.val, .int .i64 (i : Int)] w fun e w' => e = .returned (s.with' i).val ∧ Below w.heap.size w w' := by
  have e0 := Set4.word_with s 0 j 0 (by omega) hj (by omega)
  have e1 := Set4.word_with s 0 j 1 (by omega) hj (by omega)
  have e2 := Set4.word_with s 0 j 2 (by omega) hj (by omega)
  have e3 := Set4.word_with s 0 j 3 (by omega) hj (by omega)
  have hv := u64_or_nat (s.word 0) (2 ^ j) (s.word_lt 0) (pow_lt64 j hj)
  rw [← hi] at e0 e1 e2 e3
  have E : Hid ((s.with' i).val = .agg #[.int .u64 (bits .or .u64 (s.word 0 : Int) ((2 ^ j : Nat) : Int)), .int .u64 (s.b : Int), .int .u64 (s.c : Int), .int .u64 (s.d : Int)]) := by
    show Value.agg #[.int .u64 ((s.with' i).word 0 : Int), .int .u64 ((s.with' i).word 1 : Int), .int .u64 ((s.with' i).word 2 : Int), .int .u64 ((s.with' i).word 3 : Int)] = _
    rw [e0, e1, e2, e3]
    simp only [Nat.reduceEqDiff, if_false, if_true, ← hv]
    rfl
  have hlt : i < 256 := by omega
  have HI := Lib.hid hi
  clear e0 e1 e2 e3 hv hi
  go_enter Tryd.func28, Tryd.ntmps28
  go_wp2_with (go_at_call 52; refine (may_yes _ _ hlt).mono ?_; rintro e w' ⟨rfl, rfl⟩)
  refine Calls.pure_of (w.heap.size + 2) (by simp) (bit_any i 0 j _ HI.out (by omega) hj) ?_
  intro x
  go_wp2
  refine bodyPost_row rfl rfl (((((World.row.ext (World.row.new' (by simp)) x (by simp)).other _ _ (by simp)).set 0 _ |>.set 1 _).set 2 _).set 3 _) Tryd.underlying63 rfl (by kernel_rfl) rfl ⟨?_, (by repeat' (first | (with_reducible exact Below.refl _ _) | (with_reducible assumption) | (with_reducible refine Below.setCell ?_ ?_ _) | (with_reducible refine Below.ext ?_ _ ?_) | (with_reducible refine Below.alloc ?_ ?_ _) | (with_reducible refine Below.drew ?_) | (with_reducible refine Below.drewN ?_ _) | (with_reducible exact Nat.le_refl _) | (dsimp only; omega) | (simp <;> omega)))⟩
  rw [E.out]
  rfl

theorem With_1 (s : Set4) (i j : Nat) (w : World) (hj : j < 64) (hi : i = 64 * 1 + j) : Calls Tryd.prog 28 #[s.val, .int .i64 (i : Int)] w fun e w' => e = .returned (s.with' i).val ∧ Below w.heap.size w w' := by
  have e0 := Set4.word_with s 1 j 0 (by omega) hj (by omega)
  have e1 := Set4.word_with s 1 j 1 (by omega) hj (by omega)
  have e2 := Set4.word_with s 1 j 2 (by omega) hj (by omega)
  have e3 := Set4.word_with s 1 j 3 (by omega) hj (by omega)
  have hv := u64_or_nat (s.word 1) (2 ^ j) (s.word_lt 1) (pow_lt64 j hj)
  rw [← hi] at e0 e1 e2 e3
  have E : Hid ((s.with' i).val = .agg #[.int .u64 (s.a : Int), .int .u64 (bits .or .u64 (s.word 1 : Int) ((2 ^ j : Nat) : Int)), .int .u64 (s.c : Int), .int .u64 (s.d : Int)]) := by
    show Value.agg #[.int .u64 ((s.with' i).word 0 : Int), .int .u64 ((s.with' i).word 1 : Int), .int .u64 ((s.with' i).word 2 : Int), .int .u64 ((s.with' i).word 3 : Int)] = _
    rw [e0, e1, e2, e3]
    simp only [Nat.reduceEqDiff, if_false, if_true, ← hv]
    rfl
  have hlt : i < 256 := by omega
  have HI := Lib.hid hi
  clear e0 e1 e2 e3 hv hi
  go_enter Tryd.func28, Tryd.ntmps28
  go_wp2_with (go_at_call 52; refine (may_yes _ _ hlt).mono ?_; rintro e w' ⟨rfl, rfl⟩)
  refine Calls.pure_of (w.heap.size + 2) (by simp) (bit_any i 1 j _ HI.out (by omega) hj) ?_
  intro x
  go_wp2
  refine bodyPost_row rfl rfl (((((World.row.ext (World.row.new' (by simp)) x (by simp)).other _ _ (by simp)).set 0 _ |>.set 1 _).set 2 _).set 3 _) Tryd.underlying63 rfl (by kernel_rfl) rfl ⟨?_, (by repeat' (first | (with_reducible exact Below.refl _ _) | (with_reducible assumption) | (with_reducible refine Below.setCell ?_ ?_ _) | (with_reducible refine Below.ext ?_ _ ?_) | (with_reducible refine Below.alloc ?_ ?_ _) | (with_reducible refine Below.drew ?_) | (with_reducible refine Below.drewN ?_ _) | (with_reducible exact Nat.le_refl _) | (dsimp only; omega) | (simp <;> omega)))⟩
  rw [E.out]
  rfl

theorem With_2 (s : Set4) (i j : Nat) (w : World) (hj : j < 64) (hi : i = 64 * 2 + j) : Calls Tryd.prog 28 #[s.val, .int .i64 (i : Int)] w fun e w' => e = .returned (s.with' i).val ∧ Below w.heap.size w w' := by
  have e0 := Set4.word_with s 2 j 0 (by omega) hj (by omega)
  have e1 := Set4.word_with s 2 j 1 (by omega) hj (by omega)
  have e2 := Set4.word_with s 2 j 2 (by omega) hj (by omega)
  have e3 := Set4.word_with s 2 j 3 (by omega) hj (by omega)
  have hv := u64_or_nat (s.word 2) (2 ^ j) (s.word_lt 2) (pow_lt64 j hj)
  rw [← hi] at e0 e1 e2 e3
  have E : Hid ((s.with' i).val = .agg #[.int .u64 (s.a : Int), .int .u64 (s.b : Int), .int .u64 (bits .or .u64 (s.word 2 : Int) ((2 ^ j : Nat) : Int)), .int .u64 (s.d : Int)]) := by
    show Value.agg #[.int .u64 ((s.with' i).word 0 : Int), .int .u64 ((s.with' i).word 1 : Int), .int .u64 ((s.with' i).word 2 : Int), .int .u64 ((s.with' i).word 3 : Int)] = _
    rw [e0, e1, e2, e3]
    simp only [Nat.reduceEqDiff, if_false, if_true, ← hv]
    rfl
  have hlt : i < 256 := by omega
  have HI := Lib.hid hi
  clear e0 e1 e2 e3 hv hi
  go_enter Tryd.func28, Tryd.ntmps28
  go_wp2_with (go_at_call 52; refine (may_yes _ _ hlt).mono ?_; rintro e w' ⟨rfl, rfl⟩)
  refine Calls.pure_of (w.heap.size + 2) (by simp) (bit_any i 2 j _ HI.out (by omega) hj) ?_
  intro x
  go_wp2
  refine bodyPost_row rfl rfl (((((World.row.ext (World.row.new' (by simp)) x (by simp)).other _ _ (by simp)).set 0 _ |>.set 1 _).set 2 _).set 3 _) Tryd.underlying63 rfl (by kernel_rfl) rfl ⟨?_, (by repeat' (first | (with_reducible exact Below.refl _ _) | (with_reducible assumption) | (with_reducible refine Below.setCell ?_ ?_ _) | (with_reducible refine Below.ext ?_ _ ?_) | (with_reducible refine Below.alloc ?_ ?_ _) | (with_reducible refine Below.drew ?_) | (with_reducible refine Below.drewN ?_ _) | (with_reducible exact Nat.le_refl _) | (dsimp only; omega) | (simp <;> omega)))⟩
  rw [E.out]
  rfl

theorem With_3 (s : Set4) (i j : Nat) (w : World) (hj : j < 64) (hi : i = 64 * 3 + j) : Calls Tryd.prog 28 #[s.val, .int .i64 (i : Int)] w fun e w' => e = .returned (s.with' i).val ∧ Below w.heap.size w w' := by
  have e0 := Set4.word_with s 3 j 0 (by omega) hj (by omega)
  have e1 := Set4.word_with s 3 j 1 (by omega) hj (by omega)
  have e2 := Set4.word_with s 3 j 2 (by omega) hj (by omega)
  have e3 := Set4.word_with s 3 j 3 (by omega) hj (by omega)
  have hv := u64_or_nat (s.word 3) (2 ^ j) (s.word_lt 3) (pow_lt64 j hj)
  rw [← hi] at e0 e1 e2 e3
  have E : Hid ((s.with' i).val = .agg #[.int .u64 (s.a : Int), .int .u64 (s.b : Int), .int .u64 (s.c : Int), .int .u64 (bits .or .u64 (s.word 3 : Int) ((2 ^ j : Nat) : Int))]) := by
    show Value.agg #[.int .u64 ((s.with' i).word 0 : Int), .int .u64 ((s.with' i).word 1 : Int), .int .u64 ((s.with' i).word 2 : Int), .int .u64 ((s.with' i).word 3 : Int)] = _
    rw [e0, e1, e2, e3]
    simp only [Nat.reduceEqDiff, if_false, if_true, ← hv]
    rfl
  have hlt : i < 256 := by omega
  have HI := Lib.hid hi
  clear e0 e1 e2 e3 hv hi
  go_enter Tryd.func28, Tryd.ntmps28
  go_wp2_with (go_at_call 52; refine (may_yes _ _ hlt).mono ?_; rintro e w' ⟨rfl, rfl⟩)
  refine Calls.pure_of (w.heap.size + 2) (by simp) (bit_any i 3 j _ HI.out (by omega) hj) ?_
  intro x
  go_wp2
  refine bodyPost_row rfl rfl (((((World.row.ext (World.row.new' (by simp)) x (by simp)).other _ _ (by simp)).set 0 _ |>.set 1 _).set 2 _).set 3 _) Tryd.underlying63 rfl (by kernel_rfl) rfl ⟨?_, (by repeat' (first | (with_reducible exact Below.refl _ _) | (with_reducible assumption) | (with_reducible refine Below.setCell ?_ ?_ _) | (with_reducible refine Below.ext ?_ _ ?_) | (with_reducible refine Below.alloc ?_ ?_ _) | (with_reducible refine Below.drew ?_) | (with_reducible refine Below.drewN ?_ _) | (with_reducible exact Nat.le_refl _) | (dsimp only; omega) | (simp <;> omega)))⟩
  rw [E.out]
  rfl

theorem With_yes (s : Set4) (i : Nat) (w : World) (h : i < 256) : Calls Tryd.prog 28 #[s.val, .int .i64 (i : Int)] w fun e w' => e = .returned (s.with' i).val ∧ Below w.heap.size w w' := by
  obtain ⟨k, j, hk, hj, hi⟩ : ∃ k j, k < 4 ∧ j < 64 ∧ i = 64 * k + j := ⟨i / 64, i % 64, by omega, by omega, by omega⟩
  obtain rfl | rfl | rfl | rfl : k = 0 ∨ k = 1 ∨ k = 2 ∨ k = 3 := by omega
  · exact With_0 s i j w hj hi
  · exact With_1 s i j w hj hi
  · exact With_2 s i j w hj hi
  · exact With_3 s i j w hj hi

end Go.Proofs.YtijagdpkclghnaaDoor
namespace Go.Proofs.YtijagdpkclghnaaDoor
open Go Go.RowKit
set_option maxRecDepth 100000

end Go.Proofs.YtijagdpkclghnaaDoor
namespace Go.Proofs.YtijagdpkclghnaaDoor
open Go Go.RowKit
set_option maxRecDepth 100000
def ints (xs : List Int) : List Value := xs.map (Value.int .i64)
theorem ints_get {xs : List Int} {k : Nat} (h : k < xs.length) : (ints xs)[k]? = some (.int .i64 xs[k]) := by unfold ints; simp [h]
def Set4.ofInts (xs : List Int) : Set4 := Set4.of fun j => decide ((j : Int) ∈ xs)
theorem Set4.ofInts_snoc_no (xs : List Int) (i : Int) (h : i < 0 ∨ 256 ≤ i) : Set4.ofInts (xs ++ [i]) = Set4.ofInts xs :=
  Set4.of_congr fun j hj => decide_eq_decide.2 (by simp; omega)
theorem Set4.ofInts_snoc_yes (xs : List Int) (i : Nat) (h : i < 256) : Set4.ofInts (xs ++ [(i : Int)]) = (Set4.ofInts xs).with' i := by
  refine Set4.of_congr fun j hj => ?_
  rw [Set4.ofInts, Set4.has_of, ← Bool.decide_and, ← Bool.decide_or]
  refine decide_eq_decide.2 ⟨fun h => ?_, fun h => ?_⟩
  · rcases List.mem_append.1 h with h | h
    · exact .inr ⟨hj, h⟩
    · exact .inl (by have := List.mem_singleton.1 h; omega)
  · rcases h with h | h
    · subst h; simp
    · exact List.mem_append_left _ h.2
theorem Set4.ofInts_nil : Set4.ofInts [] = Set4.zero := (Set4.eq_of fun i _ => by rw [Set4.has_zero]; simp).symm
theorem take_snoc {α : Type} (xs : List α) (k : Nat) (h : k < xs.length) : xs.take (k + 1) = xs.take k ++ [xs[k]] := List.take_succ_eq_append_getElem h
end Go.Proofs.YtijagdpkclghnaaDoor
/- How many bits of a word are set: the way of math/bits.OnesCount64. Plain facts, no program in them. -/
namespace Go.Proofs.YtijagdpkclghnaaDoor
open Go
namespace Pop
theorem and_split (c a b m k : Nat) (hb : b < 2 ^ c) (hk : k < 2 ^ c) : (2 ^ c * a + b) &&& (2 ^ c * m + k) = 2 ^ c * (a &&& m) + (b &&& k) := by
  have h1 : ((2 ^ c * a + b) &&& (2 ^ c * m + k)) / 2 ^ c = a &&& m := by
    rw [Nat.and_div_two_pow, Nat.mul_add_div (Nat.two_pow_pos c), Nat.mul_add_div (Nat.two_pow_pos c), Nat.div_eq_of_lt hb, Nat.div_eq_of_lt hk]; simp
  have h2 : ((2 ^ c * a + b) &&& (2 ^ c * m + k)) % 2 ^ c = b &&& k := by
    rw [Nat.and_mod_two_pow, Nat.mul_add_mod, Nat.mul_add_mod, Nat.mod_eq_of_lt hb, Nat.mod_eq_of_lt hk]
  have h3 := Nat.div_add_mod ((2 ^ c * a + b) &&& (2 ^ c * m + k)) (2 ^ c)
  rw [h1, h2] at h3; exact h3.symm
/-- The masks of n digits. -/
def mask (B d : Nat) : Nat → Nat
  | 0 => 0
  | n + 1 => B * mask B d n + d
def F : Nat → Nat → Nat
  | 0, _ => 0
  | n + 1, x => 4 * F n (x / 4) + (x % 4 / 2 + x % 2)
theorem F_s (n x : Nat) : F (n + 1) x = 4 * F n (x / 4) + (x % 4 / 2 + x % 2) := rfl
def G : Nat → Nat → Nat
  | 0, _ => 0
  | n + 1, x => 16 * G n (x / 16) + (x % 16 / 4 + x % 4)
theorem G_s (n x : Nat) : G (n + 1) x = 16 * G n (x / 16) + (x % 16 / 4 + x % 4) := rfl
def K : Nat → Nat → Nat
  | 0, _ => 0
  | n + 1, x => 256 * K n (x / 256) + (x % 256 / 16 + x % 16)
theorem K_s (n x : Nat) : K (n + 1) x = 256 * K n (x / 256) + (x % 256 / 16 + x % 16) := rfl
theorem stageA : ∀ n x, (x / 2 &&& mask 4 1 n) + (x &&& mask 4 1 n) = F n x
  | 0, x => by simp [mask, F]
  | n + 1, x => by
    have ih := stageA n (x / 4)
    have e1 : x / 2 = 2 ^ 2 * (x / 4 / 2) + (2 * (x / 4 % 2) + x % 4 / 2) := by omega
    have e2 : x = 2 ^ 2 * (x / 4) + x % 4 := by omega
    have m : mask 4 1 (n + 1) = 2 ^ 2 * mask 4 1 n + 1 := rfl
    have p1 : (x / 2 &&& mask 4 1 (n + 1)) = 2 ^ 2 * (x / 4 / 2 &&& mask 4 1 n) + x % 4 / 2 := by
      rw [e1, m, and_split _ _ _ _ _ (by omega) (by omega), Nat.and_one_is_mod]; omega
    have p2 : (x &&& mask 4 1 (n + 1)) = 2 ^ 2 * (x / 4 &&& mask 4 1 n) + x % 2 := by
      rw [m]; conv => lhs; rw [e2]
      rw [and_split _ _ _ _ _ (by omega) (by omega), Nat.and_one_is_mod]; omega
    rw [p1, p2, F_s]; omega
theorem and_three (b : Nat) : b &&& 3 = b % 4 := Nat.and_two_pow_sub_one_eq_mod b 2
theorem and_fifteen (b : Nat) : b &&& 15 = b % 16 := Nat.and_two_pow_sub_one_eq_mod b 4
theorem stageB : ∀ n x, (x / 4 &&& mask 16 3 n) + (x &&& mask 16 3 n) = G n x
  | 0, x => by simp [mask, G]
  | n + 1, x => by
    have ih := stageB n (x / 16)
    have e1 : x / 4 = 2 ^ 4 * (x / 16 / 4) + (4 * (x / 16 % 4) + x % 16 / 4) := by omega
    have e2 : x = 2 ^ 4 * (x / 16) + x % 16 := by omega
    have m : mask 16 3 (n + 1) = 2 ^ 4 * mask 16 3 n + 3 := rfl
    have p1 : (x / 4 &&& mask 16 3 (n + 1)) = 2 ^ 4 * (x / 16 / 4 &&& mask 16 3 n) + x % 16 / 4 := by
      rw [e1, m, and_split _ _ _ _ _ (by omega) (by omega), and_three]; omega
    have p2 : (x &&& mask 16 3 (n + 1)) = 2 ^ 4 * (x / 16 &&& mask 16 3 n) + x % 4 := by
      rw [m]; conv => lhs; rw [e2]
      rw [and_split _ _ _ _ _ (by omega) (by omega), and_three]; omega
    rw [p1, p2, G_s]; omega
/-- All of n digits to the base 16 are 4 at most. -/
def Low : Nat → Nat → Prop
  | 0, x => x = 0
  | n + 1, x => x % 16 ≤ 4 ∧ Low n (x / 16)
theorem stageC : ∀ n x, Low (2 * n) x → (x / 16 + x) &&& mask 256 15 n = K n x
  | 0, x, _ => by simp [mask, K]
  | n + 1, x, h => by
    obtain ⟨h0, h1, h2⟩ : x % 16 ≤ 4 ∧ x / 16 % 16 ≤ 4 ∧ Low (2 * n) (x / 16 / 16) := h
    have h3 : x / 16 / 16 % 16 ≤ 4 := by
      cases n with
      | zero => have : x / 16 / 16 = 0 := h2; omega
      | succ n => exact h2.1
    have h4 : Low (2 * n) (x / 256) := by rw [show x / 256 = x / 16 / 16 by omega]; exact h2
    have ih := stageC n (x / 256) h4
    rw [show x / 16 / 16 = x / 256 by omega] at h3
    obtain ⟨q, c, l, hq, hc, hl, hx⟩ : ∃ q c l, q = x / 256 ∧ c = x / 16 % 16 ∧ l = x % 16 ∧ x = 256 * q + 16 * c + l := ⟨_, _, _, rfl, rfl, rfl, by omega⟩
    rw [← hq] at h3 ih
    rw [← hc] at h1
    rw [← hl] at h0
    clear hq hc hl h2 h4
    subst hx
    have d1 : (256 * q + 16 * c + l) / 256 = q := by omega
    have d2 : (256 * q + 16 * c + l) % 256 / 16 = c := by omega
    have d3 : (256 * q + 16 * c + l) % 16 = l := by omega
    have e : (256 * q + 16 * c + l) / 16 + (256 * q + 16 * c + l) = 2 ^ 8 * (q / 16 + q) + (16 * (q % 16) + c + 16 * c + l) := by omega
    have m : mask 256 15 (n + 1) = 2 ^ 8 * mask 256 15 n + 15 := rfl
    rw [e, m, and_split _ _ _ _ _ (by omega) (by omega), and_fifteen, ih, K_s, d1, d2, d3]; omega
def popR : Nat → Nat → Nat
  | 0, _ => 0
  | n + 1, x => x % 2 + popR n (x / 2)
theorem popR_s (n x : Nat) : popR (n + 1) x = x % 2 + popR n (x / 2) := rfl
theorem popR_le : ∀ n x, popR n x ≤ n
  | 0, _ => Nat.le_refl _
  | n + 1, x => by have := popR_le n (x / 2); rw [popR_s]; omega
theorem popR_add : ∀ m n x, popR (m + n) x = popR m x + popR n (x / 2 ^ m)
  | 0, n, x => by simp [popR]
  | m + 1, n, x => by
    have := popR_add m n (x / 2)
    rw [show m + 1 + n = (m + n) + 1 by omega]
    rw [popR_s, popR_s, this, Nat.div_div_eq_div_mul, Nat.pow_succ']; omega
theorem pop_eq (x : Nat) : ∀ n, Set4.pop x n = popR n x
  | 0 => rfl
  | n + 1 => by
    rw [popR_add n 1 x]
    show Set4.pop x n + (x.testBit n).toNat = _
    rw [pop_eq x n]
    have : (x.testBit n).toNat = x / 2 ^ n % 2 := by
      rw [Nat.testBit_eq_decide_div_mod_eq]
      by_cases h : x / 2 ^ n % 2 = 1
      · rw [decide_eq_true h]; show 1 = _; omega
      · rw [decide_eq_false h]; show 0 = _; omega
    rw [this, popR_s]; simp [popR]
/-- Nibble by nibble. -/
def H : Nat → Nat → Nat
  | 0, _ => 0
  | n + 1, x => 16 * H n (x / 16) + popR 4 (x % 16)
theorem H_s (n x : Nat) : H (n + 1) x = 16 * H n (x / 16) + popR 4 (x % 16) := rfl
theorem pop4 : ∀ r, r < 16 → popR 4 r = r % 4 / 2 + r % 2 + (r / 4 % 4 / 2 + r / 4 % 2) := by decide
theorem GF : ∀ n x, G n (F (2 * n) x) = H n x
  | 0, _ => rfl
  | n + 1, x => by
    have ih := GF n (x / 16)
    obtain ⟨q, a, b, hq, ha, hb, hx⟩ : ∃ q a b, q = x / 16 ∧ a < 4 ∧ b < 4 ∧ x = 16 * q + 4 * a + b := ⟨_, x / 4 % 4, x % 4, rfl, by omega, by omega, by omega⟩
    rw [← hq] at ih
    clear hq
    subst hx
    have d1 : (16 * q + 4 * a + b) / 4 = 4 * q + a := by omega
    have d2 : (16 * q + 4 * a + b) % 4 = b := by omega
    have d3 : (4 * q + a) / 4 = q := by omega
    have d4 : (4 * q + a) % 4 = a := by omega
    have d5 : (16 * q + 4 * a + b) % 2 = b % 2 := by omega
    have d6 : (4 * q + a) % 2 = a % 2 := by omega
    have d7 : (16 * q + 4 * a + b) / 16 = q := by omega
    have d8 : (16 * q + 4 * a + b) % 16 = 4 * a + b := by omega
    have e : F (2 * (n + 1)) (16 * q + 4 * a + b) = 16 * F (2 * n) q + (4 * (a / 2 + a % 2) + (b / 2 + b % 2)) := by
      show F (2 * n + 1 + 1) _ = _
      rw [F_s, F_s, d1, d2, d3, d4, d5, d6]; omega
    have hA : a / 2 + a % 2 ≤ 2 := by omega
    have hB : b / 2 + b % 2 ≤ 2 := by omega
    have p : popR 4 (4 * a + b) = (a / 2 + a % 2) + (b / 2 + b % 2) := by
      rw [pop4 _ (by omega), show (4 * a + b) % 4 = b by omega, show (4 * a + b) % 2 = b % 2 by omega, show (4 * a + b) / 4 = a by omega, show a % 4 = a by omega]; omega
    rw [e, G_s, H_s, d7, d8, p]
    generalize a / 2 + a % 2 = A at *
    generalize b / 2 + b % 2 = B at *
    rw [show (16 * F (2 * n) q + (4 * A + B)) / 16 = F (2 * n) q by omega, ih, show (16 * F (2 * n) q + (4 * A + B)) % 16 / 4 = A by omega, show (16 * F (2 * n) q + (4 * A + B)) % 4 = B by omega]
theorem low_H : ∀ n x, Low n (H n x)
  | 0, _ => rfl
  | n + 1, x => by
    have := popR_le 4 (x % 16)
    refine ⟨by rw [H_s]; omega, ?_⟩
    rw [show H (n + 1) x / 16 = H n (x / 16) by rw [H_s]; omega]
    exact low_H n _
def L : Nat → Nat → Nat
  | 0, _ => 0
  | n + 1, x => 256 * L n (x / 256) + popR 8 (x % 256)
theorem L_s (n x : Nat) : L (n + 1) x = 256 * L n (x / 256) + popR 8 (x % 256) := rfl
theorem pop8 (x : Nat) : popR 8 (x % 256) = popR 4 (x % 16) + popR 4 (x / 16 % 16) := by
  have h := popR_add 4 4 (x % 256)
  rw [show 4 + 4 = 8 by rfl] at h
  rw [h, show x % 256 / 2 ^ 4 = x / 16 % 16 by omega]
  have h2 := popR_add 4 0 (x % 256)
  have e : popR 4 (x % 256) = popR 4 (x % 16) := by
    simp only [popR]; omega
  rw [e]
theorem KH : ∀ n x, K n (H (2 * n) x) = L n x
  | 0, _ => rfl
  | n + 1, x => by
    have ih := KH n (x / 256)
    have l0 := popR_le 4 (x % 16)
    have l1 := popR_le 4 (x / 16 % 16)
    have e : H (2 * (n + 1)) x = 256 * H (2 * n) (x / 256) + (16 * popR 4 (x / 16 % 16) + popR 4 (x % 16)) := by
      show 16 * (16 * H (2 * n) (x / 16 / 16) + popR 4 (x / 16 % 16)) + popR 4 (x % 16) = _
      rw [show x / 16 / 16 = x / 256 by omega]; omega
    rw [e, K_s, L_s]
    rw [show (256 * H (2 * n) (x / 256) + (16 * popR 4 (x / 16 % 16) + popR 4 (x % 16))) / 256 = H (2 * n) (x / 256) by omega, ih, pop8]
    omega
theorem popR_bytes (n x : Nat) : popR (8 + n) x = popR 8 (x % 256) + popR n (x / 256) := by
  rw [popR_add 8 n x]
  have e : popR 8 (x % 256) = popR 8 x := by simp only [popR]; omega
  rw [e]
theorem div256 (X c : Nat) (h : c < 256) : (256 * X + c) / 256 = X := by omega
theorem mod128 (X c : Nat) (h : c < 128) : (256 * X + c) % 128 = c := by omega
theorem sumY (c0 c1 c2 c3 c4 c5 c6 c7 : Nat) : 256 * (256 * (256 * (256 * (256 * (256 * (256 * (c7) + (c6)) + (c5)) + (c4)) + (c3)) + (c2)) + (c1)) + (c0) + (256 * (256 * (256 * (256 * (256 * (256 * (c7) + (c6)) + (c5)) + (c4)) + (c3)) + (c2)) + (c1)) = 256 * (256 * (256 * (256 * (256 * (256 * (256 * (c7) + (c6+c7)) + (c5+c6)) + (c4+c5)) + (c3+c4)) + (c2+c3)) + (c1+c2)) + (c0+c1) := by omega
theorem sumZ (c0 c1 c2 c3 c4 c5 c6 c7 : Nat) : 256 * (256 * (256 * (256 * (256 * (256 * (256 * (c7) + (c6+c7)) + (c5+c6)) + (c4+c5)) + (c3+c4)) + (c2+c3)) + (c1+c2)) + (c0+c1) + (256 * (256 * (256 * (256 * (256 * (c7) + (c6+c7)) + (c5+c6)) + (c4+c5)) + (c3+c4)) + (c2+c3)) = 256 * (256 * (256 * (256 * (256 * (256 * (256 * (c7) + (c6+c7)) + (c5+c6+c7)) + (c4+c5+c6+c7)) + (c3+c4+c5+c6)) + (c2+c3+c4+c5)) + (c1+c2+c3+c4)) + (c0+c1+c2+c3) := by omega
theorem sumT (c0 c1 c2 c3 c4 c5 c6 c7 : Nat) : 256 * (256 * (256 * (256 * (256 * (256 * (256 * (c7) + (c6+c7)) + (c5+c6+c7)) + (c4+c5+c6+c7)) + (c3+c4+c5+c6)) + (c2+c3+c4+c5)) + (c1+c2+c3+c4)) + (c0+c1+c2+c3) + (256 * (256 * (256 * (c7) + (c6+c7)) + (c5+c6+c7)) + (c4+c5+c6+c7)) = 256 * (256 * (256 * (256 * (256 * (256 * (256 * (c7) + (c6+c7)) + (c5+c6+c7)) + (c4+c5+c6+c7)) + (c3+c4+c5+c6+c7)) + (c2+c3+c4+c5+c6+c7)) + (c1+c2+c3+c4+c5+c6+c7)) + (c0+c1+c2+c3+c4+c5+c6+c7) := by omega
theorem lt63 (a7 a6 a5 a4 a3 a2 a1 a0 : Nat) (h7 : a7 ≤ 64) (h6 : a6 ≤ 64) (h5 : a5 ≤ 64) (h4 : a4 ≤ 64) (h3 : a3 ≤ 64) (h2 : a2 ≤ 64) (h1 : a1 ≤ 64) (h0 : a0 ≤ 64) : 256 * (256 * (256 * (256 * (256 * (256 * (256 * (a7) + (a6)) + (a5)) + (a4)) + (a3)) + (a2)) + (a1)) + (a0) < 9223372036854775808 := by omega
theorem ends (c0 c1 c2 c3 c4 c5 c6 c7 : Nat) (h0 : c0 ≤ 8) (h1 : c1 ≤ 8) (h2 : c2 ≤ 8) (h3 : c3 ≤ 8) (h4 : c4 ≤ 8) (h5 : c5 ≤ 8) (h6 : c6 ≤ 8) (h7 : c7 ≤ 8) (w y z t : Nat)
    (hw : w = 256 * (256 * (256 * (256 * (256 * (256 * (256 * c7 + c6) + c5) + c4) + c3) + c2) + c1) + c0)
    (hy : y = w + w / 256) (hz : z = y + y / 65536) (ht : t = z + z / 4294967296) : t % 128 = c0 + c1 + c2 + c3 + c4 + c5 + c6 + c7 ∧ t < 9223372036854775808 ∧ z < 9223372036854775808 ∧ y < 9223372036854775808 ∧ w < 9223372036854775808 := by
  have e1 : w / 256 = 256 * (256 * (256 * (256 * (256 * (256 * (c7) + (c6)) + (c5)) + (c4)) + (c3)) + (c2)) + (c1) := by rw [hw, div256 _ _ (by clear hw hy hz ht; omega)]
  have y1 : y = 256 * (256 * (256 * (256 * (256 * (256 * (256 * (c7) + (c6+c7)) + (c5+c6)) + (c4+c5)) + (c3+c4)) + (c2+c3)) + (c1+c2)) + (c0+c1) := by rw [hy, e1, hw]; exact sumY _ _ _ _ _ _ _ _
  have e2 : y / 65536 = 256 * (256 * (256 * (256 * (256 * (c7) + (c6+c7)) + (c5+c6)) + (c4+c5)) + (c3+c4)) + (c2+c3) := by rw [y1, show 65536 = 256 * 256 by rfl, ← Nat.div_div_eq_div_mul, div256 _ _ (by clear hw hy hz ht e1 y1; omega), div256 _ _ (by clear hw hy hz ht e1 y1; omega)]
  have z1 : z = 256 * (256 * (256 * (256 * (256 * (256 * (256 * (c7) + (c6+c7)) + (c5+c6+c7)) + (c4+c5+c6+c7)) + (c3+c4+c5+c6)) + (c2+c3+c4+c5)) + (c1+c2+c3+c4)) + (c0+c1+c2+c3) := by rw [hz, e2, y1]; exact sumZ _ _ _ _ _ _ _ _
  have e3 : z / 4294967296 = 256 * (256 * (256 * (c7) + (c6+c7)) + (c5+c6+c7)) + (c4+c5+c6+c7) := by
    rw [z1, show 4294967296 = 256 * 256 * 256 * 256 by rfl, ← Nat.div_div_eq_div_mul, ← Nat.div_div_eq_div_mul, ← Nat.div_div_eq_div_mul]
    clear hw hy hz ht e1 y1 e2 z1
    rw [div256 _ _ (by omega), div256 _ _ (by omega), div256 _ _ (by omega), div256 _ _ (by omega)]
  have t1 : t = 256 * (256 * (256 * (256 * (256 * (256 * (256 * (c7) + (c6+c7)) + (c5+c6+c7)) + (c4+c5+c6+c7)) + (c3+c4+c5+c6+c7)) + (c2+c3+c4+c5+c6+c7)) + (c1+c2+c3+c4+c5+c6+c7)) + (c0+c1+c2+c3+c4+c5+c6+c7) := by rw [ht, e3, z1]; exact sumT _ _ _ _ _ _ _ _
  rw [t1, z1, y1, hw]
  clear e1 e2 e3 ht hz hy y1 z1 t1 hw
  exact ⟨mod128 _ _ (by omega), lt63 _ _ _ _ _ _ _ _ (by omega) (by omega) (by omega) (by omega) (by omega) (by omega) (by omega) (by omega), lt63 _ _ _ _ _ _ _ _ (by omega) (by omega) (by omega) (by omega) (by omega) (by omega) (by omega) (by omega), lt63 _ _ _ _ _ _ _ _ (by omega) (by omega) (by omega) (by omega) (by omega) (by omega) (by omega) (by omega), lt63 _ _ _ _ _ _ _ _ (by omega) (by omega) (by omega) (by omega) (by omega) (by omega) (by omega) (by omega)⟩
theorem mask0 : mask 4 1 32 = 6148914691236517205 := by decide
theorem mask1 : mask 16 3 16 = 3689348814741910323 := by decide
theorem mask2 : mask 256 15 8 = 1085102592571150095 := by decide
/-- The stages as the walk spells them. -/
def sA (x : Int) : Int := IntKind.u64.wrap (bits .and .u64 (x / 2) 6148914691236517205 + bits .and .u64 x 6148914691236517205)
def sB (x : Int) : Int := IntKind.u64.wrap (bits .and .u64 (x / 4) 3689348814741910323 + bits .and .u64 x 3689348814741910323)
def sC (x : Int) : Int := bits .and .u64 (IntKind.u64.wrap (x / 16 + x)) 1085102592571150095
def sD (k x : Int) : Int := IntKind.u64.wrap (x + x / k)
theorem F_le : ∀ n x, F n x < 4 ^ n
  | 0, _ => by simp [F]
  | n + 1, x => by have := F_le n (x / 4); rw [F_s, Nat.pow_succ]; omega
theorem G_le : ∀ n x, G n x < 16 ^ n
  | 0, _ => by simp [G]
  | n + 1, x => by have := G_le n (x / 16); rw [G_s, Nat.pow_succ]; omega
theorem sA_eq (x : Nat) (hx : x < 18446744073709551616) : sA (x : Int) = (F 32 x : Nat) := by
  unfold sA
  rw [show (x : Int) / 2 = ((x / 2 : Nat) : Int) by omega, show (6148914691236517205 : Int) = ((6148914691236517205 : Nat) : Int) by rfl, u64_and_nat _ _ (by omega) (by omega), u64_and_nat _ _ hx (by omega), ← mask0]
  have h := stageA 32 x
  have hl : F 32 x < 18446744073709551616 := F_le 32 x
  rw [IntKind.wrap_u64]
  omega
theorem sB_eq (x : Nat) (hx : x < 18446744073709551616) : sB (x : Int) = (G 16 x : Nat) := by
  unfold sB
  rw [show (x : Int) / 4 = ((x / 4 : Nat) : Int) by omega, show (3689348814741910323 : Int) = ((3689348814741910323 : Nat) : Int) by rfl, u64_and_nat _ _ (by omega) (by omega), u64_and_nat _ _ hx (by omega), ← mask1]
  have h := stageB 16 x
  have hl : G 16 x < 18446744073709551616 := G_le 16 x
  rw [IntKind.wrap_u64]
  omega
theorem low_lt : ∀ n x, Low n x → 2 * x < 16 ^ n ∨ x = 0
  | 0, x, h => .inr h
  | n + 1, x, h => by
    rcases low_lt n (x / 16) h.2 with h1 | h1
    · left; have := h.1; rw [Nat.pow_succ]; omega
    · by_cases hx : x = 0
      · exact .inr hx
      · left; have := h.1; have := Nat.one_le_pow n 16 (by omega); rw [Nat.pow_succ]; omega
theorem sC_eq (x : Nat) (h : Low 16 x) : sC (x : Int) = (K 8 x : Nat) := by
  have hl : 2 * x < 18446744073709551616 ∨ x = 0 := low_lt 16 x h
  unfold sC
  rw [show IntKind.u64.wrap ((x : Int) / 16 + x) = ((x / 16 + x : Nat) : Int) by rw [IntKind.wrap_u64]; omega, show (1085102592571150095 : Int) = ((1085102592571150095 : Nat) : Int) by rfl, u64_and_nat _ _ (by omega) (by omega), ← mask2, stageC 8 x h]
theorem sD_eq (k x : Nat) (h : x + x / k < 18446744073709551616) : sD (k : Int) (x : Int) = ((x + x / k : Nat) : Int) := by
  unfold sD; rw [IntKind.wrap_u64, show (x : Int) + (x : Int) / (k : Int) = ((x + x / k : Nat) : Int) by simp]
  generalize x + x / k = y at *
  omega
theorem ones (x : Nat) (hx : x < 18446744073709551616) : bits .and .i64 (RowKit.wrap64 (sD 4294967296 (sD 65536 (sD 256 (sC (sB (sA (x : Int)))))))) 127 = (Set4.pop x 64 : Int) := by
  rw [show ∀ n : Int, RowKit.wrap64 n = IntKind.i64.wrap n from fun n => by rw [IntKind.wrap_i64]; unfold RowKit.wrap64; rfl]
  have hl : F 32 x < 18446744073709551616 := F_le 32 x
  rw [sA_eq x hx, sB_eq _ hl, show F 32 x = F (2 * 16) x by rfl, GF, sC_eq _ (low_H 16 x), show H 16 x = H (2 * 8) x by rfl, KH]
  have lw : L 8 x = 256 * (256 * (256 * (256 * (256 * (256 * (256 * popR 8 (x / 256 / 256 / 256 / 256 / 256 / 256 / 256 % 256) + popR 8 (x / 256 / 256 / 256 / 256 / 256 / 256 % 256)) + popR 8 (x / 256 / 256 / 256 / 256 / 256 % 256)) + popR 8 (x / 256 / 256 / 256 / 256 % 256)) + popR 8 (x / 256 / 256 / 256 % 256)) + popR 8 (x / 256 / 256 % 256)) + popR 8 (x / 256 % 256)) + popR 8 (x % 256) := by simp only [L]; omega
  have pw : popR 64 x = popR 8 (x % 256) + (popR 8 (x / 256 % 256) + (popR 8 (x / 256 / 256 % 256) + (popR 8 (x / 256 / 256 / 256 % 256) + (popR 8 (x / 256 / 256 / 256 / 256 % 256) + (popR 8 (x / 256 / 256 / 256 / 256 / 256 % 256) + (popR 8 (x / 256 / 256 / 256 / 256 / 256 / 256 % 256) + popR 8 (x / 256 / 256 / 256 / 256 / 256 / 256 / 256 % 256))))))) := by
    rw [popR_bytes 56 x, popR_bytes 48, popR_bytes 40, popR_bytes 32, popR_bytes 24, popR_bytes 16, popR_bytes 8]
    have e := popR_bytes 0 (x / 256 / 256 / 256 / 256 / 256 / 256 / 256)
    simp only [popR, Nat.add_zero] at e ⊢
    omega
  have E := ends _ _ _ _ _ _ _ _ (popR_le 8 _) (popR_le 8 _) (popR_le 8 _) (popR_le 8 _) (popR_le 8 _) (popR_le 8 _) (popR_le 8 _) (popR_le 8 _) (L 8 x) _ _ _ lw rfl rfl rfl
  generalize L 8 x = v at *
  obtain ⟨e1, e2, e3, e4, e5⟩ := E
  rw [show (256 : Int) = ((256 : Nat) : Int) by rfl, sD_eq 256 v (by omega), show (65536 : Int) = ((65536 : Nat) : Int) by rfl, sD_eq 65536 _ (by omega), show (4294967296 : Int) = ((4294967296 : Nat) : Int) by rfl, sD_eq 4294967296 _ (by omega)]
  rw [pop_eq, pw]
  generalize (v + v / 256 + (v + v / 256) / 65536 + (v + v / 256 + (v + v / 256) / 65536) / 4294967296) = t at *
  rw [show IntKind.i64.wrap (t : Int) = (t : Int) by rw [IntKind.wrap_i64]; omega]
  have b := bits_mask .i64 63 (by decide) (fun n h0 h1 => by rw [IntKind.wrap_i64]; omega) 7 (by decide) (t : Int) (by omega) (by omega)
  rw [show ((2 : Int) ^ 7 - 1) = 127 by rfl] at b
  rw [b]
  omega
end Pop
end Go.Proofs.YtijagdpkclghnaaDoor
namespace Go.Proofs.YtijagdpkclghnaaDoor
open Go Go.RowKit
set_option maxRecDepth 100000
@[go_sem] theorem idx_set0 (w : World) (a0 a1 a2 a3 : Int) : (Instr.index 63 (.agg #[.int .u64 a0, .int .u64 a1, .int .u64 a2, .int .u64 a3]) (.int .i64 0)).run Tryd.prog w = .ok (.int .u64 a0) w := by kernel_rfl
@[go_sem] theorem idx_set1 (w : World) (a0 a1 a2 a3 : Int) : (Instr.index 63 (.agg #[.int .u64 a0, .int .u64 a1, .int .u64 a2, .int .u64 a3]) (.int .i64 1)).run Tryd.prog w = .ok (.int .u64 a1) w := by kernel_rfl
@[go_sem] theorem idx_set2 (w : World) (a0 a1 a2 a3 : Int) : (Instr.index 63 (.agg #[.int .u64 a0, .int .u64 a1, .int .u64 a2, .int .u64 a3]) (.int .i64 2)).run Tryd.prog w = .ok (.int .u64 a2) w := by kernel_rfl
@[go_sem] theorem idx_set3 (w : World) (a0 a1 a2 a3 : Int) : (Instr.index 63 (.agg #[.int .u64 a0, .int .u64 a1, .int .u64 a2, .int .u64 a3]) (.int .i64 3)).run Tryd.prog w = .ok (.int .u64 a3) w := by kernel_rfl
theorem beq_cast (a : Nat) : ((a : Int) == 0) = (a == 0) := by rw [Bool.eq_iff_iff]; simp
theorem Empty_any (s : Set4) (w : World) : Calls Tryd.prog 35 #[s.val] w fun e w' => e = .returned (.bool s.empty) ∧ Below w.heap.size w w' := by
  go_enter Tryd.func35, Tryd.ntmps35
  go_wp2
  go_ret
  refine ⟨congrArg (fun z => Ending.returned (.bool z)) ?_, (by repeat' (first | (with_reducible exact Below.refl _ _) | (with_reducible assumption) | (with_reducible refine Below.setCell ?_ ?_ _) | (with_reducible refine Below.ext ?_ _ ?_) | (with_reducible refine Below.alloc ?_ ?_ _) | (with_reducible refine Below.drew ?_) | (with_reducible refine Below.drewN ?_ _) | (with_reducible exact Nat.le_refl _) | (dsimp only; omega) | (simp <;> omega)))⟩
  unfold Set4.empty
  rw [beq_cast, beq_cast, beq_cast, beq_cast]
theorem tz_key (x a : Nat) (hx : x < 18446744073709551616) (hx0 : x ≠ 0) (hlow : x &&& (18446744073709551616 - x) = a) :
    IntKind.u64.wrap (bits BinOp.and IntKind.u64 (x : Int) (IntKind.u64.wrap (-(x : Int))) * 285870213051353865) / 288230376151711744 = ((a * 285870213051353865 % 18446744073709551616 / 288230376151711744 : Nat) : Int) := by
  have e1 : IntKind.u64.wrap (-(x : Int)) = ((18446744073709551616 - x : Nat) : Int) := by rw [IntKind.wrap_u64]; omega
  rw [e1, u64_and_nat x _ hx (by omega), hlow, IntKind.wrap_u64]
  omega
/-- The library's table, where its variable lies. -/
def Tab (w : World) : Prop := ∀ j, j < 64 → w.cell? ⟨0, j, none⟩ = some (.int .u8 (Lib.deBruijn64tab.getD j 0 : Nat))
theorem tz_core (x k idx : Nat) (w : World) (hx0 : ((x : Int) == 0) = false)
    (key : IntKind.u64.wrap (bits BinOp.and IntKind.u64 (x : Int) (IntKind.u64.wrap (-(x : Int))) * 285870213051353865) / 288230376151711744 = (idx : Int))
    (hi : idx < 64) (hk : k < 64) (hcell : w.cell? ⟨0, idx, none⟩ = some (.int .u8 (k : Nat))) :
    Calls Tryd.prog 55 #[.int .u64 (x : Int)] w fun e w' => e = .returned (.int .i64 (k : Int)) ∧ w = w' := by
  go_enter Tryd.func55, Tryd.ntmps55
  go_wp2_with (simp only [key])
  go_ret
  exact ⟨rfl, rfl⟩
theorem Trail_any (x : Nat) (w : World) (hx : x < 18446744073709551616) (h0 : x ≠ 0) (hT : Tab w) : Calls Tryd.prog 55 #[.int .u64 (x : Int)] w fun e w' => e = .returned (.int .i64 (Lib.ctz 64 x : Nat)) ∧ w = w' := by
  obtain ⟨hlow, hk⟩ := Lib.lowest_bit 64 x h0 hx
  obtain ⟨hi, htab⟩ := Lib.deBruijn64_at _ hk
  have hcell := hT _ hi
  rw [htab] at hcell
  exact tz_core x _ _ w (by simp; omega) (tz_key x _ hx h0 hlow) hi hk hcell
end Go.Proofs.YtijagdpkclghnaaDoor
/- More plain facts on sets: the first number, all numbers in order. -/
namespace Go.Proofs.YtijagdpkclghnaaDoor
open Go
theorem ctz_spec (x : Nat) (h0 : x ≠ 0) (hx : x < 18446744073709551616) : Lib.ctz 64 x < 64 ∧ x.testBit (Lib.ctz 64 x) = true ∧ ∀ j, j < Lib.ctz 64 x → x.testBit j = false := by
  have e : Lib.ctz 64 x = Lib.ctzFrom 64 x := by unfold Lib.ctz; rw [if_neg h0]
  obtain ⟨m, hm, hk⟩ := Lib.ctzFrom_spec 64 x (by omega) hx
  rw [e]
  generalize Lib.ctzFrom 64 x = c at *
  refine ⟨hk, ?_, fun j hj => ?_⟩
  · rw [hm, Nat.testBit_eq_decide_div_mod_eq, Nat.mul_div_cancel_left _ (Nat.two_pow_pos c)]
    exact decide_eq_true (by omega)
  · rw [hm, Nat.testBit_eq_decide_div_mod_eq, show c = j + 1 + (c - j - 1) by omega, Nat.pow_add, Nat.pow_succ, Nat.mul_assoc, Nat.mul_assoc, Nat.mul_div_cancel_left _ (Nat.two_pow_pos j)]
    exact decide_eq_false (by omega)
theorem testBit_clear (x j : Nat) (h0 : x ≠ 0) (hx : x < 18446744073709551616) : (x &&& (x - 1)).testBit j = (x.testBit j && decide (j ≠ Lib.ctz 64 x)) := by
  have e : Lib.ctz 64 x = Lib.ctzFrom 64 x := by unfold Lib.ctz; rw [if_neg h0]
  obtain ⟨m, hm, hk⟩ := Lib.ctzFrom_spec 64 x (by omega) hx
  rw [e]
  generalize Lib.ctzFrom 64 x = c at *
  have hp := Nat.two_pow_pos c
  have h1 : x - 1 = 2 ^ c * (2 * m) + (2 ^ c - 1) := by rw [hm, Nat.mul_add]; omega
  have h2 : x = 2 ^ c * (2 * m + 1) + 0 := by omega
  rw [Nat.testBit_and]
  have t1 : x.testBit j = if j < c then false else (2 * m + 1).testBit (j - c) := by
    rw [h2, Nat.testBit_two_pow_mul_add _ hp]; simp
  have t2 : (x - 1).testBit j = if j < c then (2 ^ c - 1).testBit j else (2 * m).testBit (j - c) := by
    rw [h1, Nat.testBit_two_pow_mul_add _ (by omega)]
  rw [t1, t2]
  by_cases hj : j < c
  · simp [hj]
  · rw [if_neg hj, if_neg hj]
    by_cases e2 : j = c
    · subst e2; simp
    · obtain ⟨r, hr⟩ : ∃ r, j - c = r + 1 := ⟨j - c - 1, by omega⟩
      rw [hr, Nat.testBit_succ, Nat.testBit_succ, show (2 * m + 1) / 2 = m by omega, show 2 * m / 2 = m by omega]
      simp [e2]
theorem clear_lt (x : Nat) (h0 : x ≠ 0) : x &&& (x - 1) < x := Nat.lt_of_le_of_lt Nat.and_le_right (by omega)
/-- The numbers of a word, rising, each with base added. -/
def bitsOf (base y : Nat) : List Nat := ((List.range 64).filter fun j => y.testBit j).map (base + ·)
theorem filter_first (f g : Nat → Bool) (c n : Nat) (hc : c < n) (h1 : f c = true) (h2 : ∀ j, j < c → f j = false) (h3 : ∀ j, g j = (f j && decide (j ≠ c))) : (List.range n).filter f = c :: (List.range n).filter g := by
  obtain ⟨r, rfl⟩ : ∃ r, n = c + (1 + r) := ⟨n - c - 1, by omega⟩
  have e : List.range (c + (1 + r)) = List.range c ++ ([c] ++ (List.range r).map (fun x => c + 1 + x)) := by
    rw [List.range_add, List.range_add, List.map_append, List.map_map]
    simp [Function.comp_def, Nat.add_assoc]
  rw [e, List.filter_append, List.filter_append, List.filter_append, List.filter_append]
  have a1 : (List.range c).filter f = [] := List.filter_eq_nil_iff.2 fun j hj => by rw [h2 j (List.mem_range.1 hj)]; simp
  have a2 : (List.range c).filter g = [] := List.filter_eq_nil_iff.2 fun j hj => by rw [h3, h2 j (List.mem_range.1 hj)]; simp
  have a3 : [c].filter f = [c] := by simp [h1]
  have a4 : [c].filter g = [] := by simp [h3]
  rw [a1, a2, a3, a4]
  simp only [List.nil_append, List.singleton_append, List.cons.injEq, true_and]
  refine List.filter_congr fun j hj => ?_
  obtain ⟨x, _, rfl⟩ := List.mem_map.1 hj
  rw [h3]; simp; omega
theorem bitsOf_step (base y : Nat) (h0 : y ≠ 0) (hy : y < 18446744073709551616) : bitsOf base y = (base + Lib.ctz 64 y) :: bitsOf base (y &&& (y - 1)) := by
  obtain ⟨h1, h2, h3⟩ := ctz_spec y h0 hy
  unfold bitsOf
  rw [filter_first _ _ _ 64 h1 h2 h3 (fun j => testBit_clear y j h0 hy)]; rfl
theorem bitsOf_zero (base : Nat) : bitsOf base 0 = [] := by unfold bitsOf; rw [List.filter_eq_nil_iff.2 (by simp)]; rfl
namespace Set4
theorem list_words (s : Set4) : s.list = bitsOf 0 s.a ++ (bitsOf 64 s.b ++ (bitsOf 128 s.c ++ bitsOf 192 s.d)) := by
  have part : ∀ k, k < 4 → ((List.range 64).map (fun j => 64 * k + j)).filter s.has = bitsOf (64 * k) (s.word k) := fun k hk => by
    unfold bitsOf
    rw [List.filter_map]
    congr 1
    refine List.filter_congr fun j hj => ?_
    exact has_at s k j hk (List.mem_range.1 hj)
  have e : List.range 256 = ((List.range 64).map (fun j => 64 * 0 + j)) ++ (((List.range 64).map (fun j => 64 * 1 + j)) ++ (((List.range 64).map (fun j => 64 * 2 + j)) ++ ((List.range 64).map (fun j => 64 * 3 + j)))) := by decide +kernel
  unfold list
  rw [e, List.filter_append, List.filter_append, List.filter_append, part 0 (by omega), part 1 (by omega), part 2 (by omega), part 3 (by omega)]
  rfl
/-- The least number. -/
def first (s : Set4) : Option Nat := s.list.head?
theorem first_at (s : Set4) (k : Nat) (hk : k < 4) (hz : ∀ m, m < k → s.word m = 0) (hn : s.word k ≠ 0) : s.first = some (64 * k + Lib.ctz 64 (s.word k)) := by
  unfold first
  rw [list_words]
  have hw := bitsOf_step (64 * k) (s.word k) hn (s.word_lt k)
  have : k = 0 ∨ k = 1 ∨ k = 2 ∨ k = 3 := by omega
  rcases this with rfl | rfl | rfl | rfl
  · rw [show s.a = s.word 0 by rfl, hw]; rfl
  · have z0 := hz 0 (by omega)
    rw [show s.a = s.word 0 by rfl, z0, bitsOf_zero, show s.b = s.word 1 by rfl, hw]; rfl
  · have z0 := hz 0 (by omega); have z1 := hz 1 (by omega)
    rw [show s.a = s.word 0 by rfl, z0, bitsOf_zero, show s.b = s.word 1 by rfl, z1, bitsOf_zero, show s.c = s.word 2 by rfl, hw]; rfl
  · have z0 := hz 0 (by omega); have z1 := hz 1 (by omega); have z2 := hz 2 (by omega)
    rw [show s.a = s.word 0 by rfl, z0, bitsOf_zero, show s.b = s.word 1 by rfl, z1, bitsOf_zero, show s.c = s.word 2 by rfl, z2, bitsOf_zero, show s.d = s.word 3 by rfl, hw]; rfl
theorem first_none (s : Set4) (hz : ∀ m, m < 4 → s.word m = 0) : s.first = none := by
  unfold first
  rw [list_words, show s.a = s.word 0 by rfl, hz 0 (by omega), show s.b = s.word 1 by rfl, hz 1 (by omega), show s.c = s.word 2 by rfl, hz 2 (by omega), show s.d = s.word 3 by rfl, hz 3 (by omega)]
  simp [bitsOf_zero]
def next (s : Set4) (from' : Int) : Option Nat := (s.less (upto from'.toNat)).first
end Set4
end Go.Proofs.YtijagdpkclghnaaDoor
namespace Go.Proofs.YtijagdpkclghnaaDoor
open Go Go.RowKit
set_option maxRecDepth 100000
theorem Tab.below {w w' : World} {B : Nat} (h : Tab w) (hb : Below B w w') (hB : 0 < B) : Tab w' := fun j hj => by rw [hb.cell (p := ⟨0, j, none⟩) hB]; exact h j hj
theorem Tab.ext {w : World} {B : Nat} (h : Tab w) (x : Ext B w) (hB : 0 < B) : Tab (w.ext B x) := h.below x.below hB
theorem Tab.lt {w : World} (h : Tab w) : 0 < w.heap.size := block_lt_of_cell (h 0 (by omega))
theorem Tab.alloc {w : World} (h : Tab w) (o : Obj) : Tab (w.alloc o) := fun j hj => by rw [World.cell?_alloc_lt (w := w) (a := ⟨0, j, none⟩) (o := o) h.lt]; exact h j hj
/-- What Next answers. -/
abbrev nextV (o : Option Nat) : Value := .tuple #[.int .i64 (o.getD 0 : Nat), .bool o.isSome]
end Go.Proofs.YtijagdpkclghnaaDoor
namespace Go.Proofs.YtijagdpkclghnaaDoor
open Go Go.ChangeShapes Go.WideShapes Go.ChangeAt Go.RowKit
set_option maxRecDepth 100000
theorem own : ownKnob Tryd.prog.godebug = none := by kernel_rfl
theorem laidOut : laidOutB Tryd.prog = true := by kernel_rfl
theorem tabName : Tryd.prog.globalNamed "math/bits.deBruijn64tab" = some 0 := by kernel_rfl
theorem tabType : (Tryd.prog.globals[0]?).map (·.type) = some 121 := by kernel_rfl
/-- The table's numbers. -/
def tab64 : List Int := Lib.deBruijn64tab.map fun n : Nat => (n : Int)
theorem laid_tab {H : Type} : (Rows.laid_math_bits_deBruijn64tab : DataW H) = Lib.tabData .u8 tab64 := rfl
theorem tabIs_of {W : World} (h : laidMet Tryd.prog [("math/bits.deBruijn64tab", Rows.laid_math_bits_deBruijn64tab)] W) : Lib.TabIs Tryd.prog W "math/bits.deBruijn64tab" .u8 tab64 :=
  Lib.tabIs_of_head tabName tabType Tryd.underlying121 Tryd.underlying5 (by kernel_rfl) (by kernel_rfl) h
theorem Tab.of {W : World} (h : Lib.TabIs Tryd.prog W "math/bits.deBruijn64tab" .u8 tab64) : Tab W := fun j hj => by
  have := h.cell tabName j (by unfold tab64; rw [List.length_map]; exact hj)
  rw [this]
  unfold tab64
  have e : j < Lib.deBruijn64tab.length := hj
  simp [List.getD, e]
/-- A set that came in. -/
theorem open_set {H : Type} {enc : TypeId × Value → H} {W : World} {base : Nat} {sp : Nat → Bool} {held : Bool} {v : Value} {d : DataW H} {p : List MemPlace} {r : Reach} (hv : Value.okWide Tryd.prog W r base 62 v)
    (h : DataW.Trod enc Tryd.prog W 0 sp held 62 v d p) : ∃ s : Set4, v = s.val := by
  obtain ⟨zs, hl, rfl, hw⟩ := open_array_ints Tryd.underlying62 Tryd.underlying61 (by kernel_rfl) (by kernel_rfl) hv h
  match zs, hl, hw with
  | [a, b, c, d], _, hw =>
    have ha := bounds_u64 (hw a (by simp)); have hb := bounds_u64 (hw b (by simp)); have hc := bounds_u64 (hw c (by simp)); have hd := bounds_u64 (hw d (by simp))
    refine ⟨⟨a.toNat, b.toNat, c.toNat, d.toNat, by omega, by omega, by omega, by omega⟩, ?_⟩
    show Value.agg #[.int .u64 a, .int .u64 b, .int .u64 c, .int .u64 d] = .agg #[.int .u64 (a.toNat : Int), .int .u64 (b.toNat : Int), .int .u64 (c.toNat : Int), .int .u64 (d.toNat : Int)]
    rw [Int.toNat_of_nonneg ha.1, Int.toNat_of_nonneg hb.1, Int.toNat_of_nonneg hc.1, Int.toNat_of_nonneg hd.1]
/-- A world in which the variable holds what the program's text lays. -/
noncomputable def laidWorld (os : Os) : World :=
  { World.holding Tryd.prog os ⟨#[], #[], []⟩ with heap := (World.holding Tryd.prog os ⟨#[], #[], []⟩).heap.modify 0 fun
      | .cells _ t frozen => .cells (tab64.map (Value.int .u8)).toArray t frozen
      | o => o }
theorem laidWorld_met (os : Os) (args : Array Value) : laidMet Tryd.prog [("math/bits.deBruijn64tab", Rows.laid_math_bits_deBruijn64tab)] ((laidWorld os).forCall (fun _ _ => 0) ⟨#[], args, []⟩).memory :=
  laidMet_of_run' 8 (by kernel_rfl) (by kernel_rfl)
/-- Rows of laws that list the table: from the walk to the row. -/
theorem law_row {spec : ChangeSpec} {n : Nat} {fn : Func} (hf : Tryd.prog.funcs[n]? = some fn) (hvars : spec.vars = []) (hres : fn.resultTypes = #[4]) (hin : Tryd.prog.inits.idxOf? n = none)
    (hr : ∀ t ∈ fn.params.toList, Tryd.prog.readableRec t = true ∧ t < Tryd.prog.types.size) (os : Os) (started : os.Started) (H : Type) (enc : TypeId × Value → H) (zeros : Array Value)
    (hv : ((laidWorld os).forCall (fun _ _ => 0) ⟨#[], zeros, []⟩).variablesB Tryd.prog = true)
    (hrr : (((laidWorld os).forCall (fun _ _ => 0) ⟨#[], zeros, []⟩).heap.toList.drop Tryd.prog.globals.size).take ((begin Tryd.prog (fun _ _ => 0) default).world.heap.size - Tryd.prog.globals.size) =
      (begin Tryd.prog (fun _ _ => 0) default).world.heap.toList.drop Tryd.prog.globals.size)
    (hok : Input.okWideB Tryd.prog ((laidWorld os).forCall (fun _ _ => 0) ⟨#[], zeros, []⟩) n ⟨#[], zeros, []⟩ = true)
    (hpre : spec.preB enc Tryd.prog fn [] false ((laidWorld os).forCall (fun _ _ => 0) ⟨#[], zeros, []⟩).memory zeros 8 = true)
    (hsz : spec.sizedB enc Tryd.prog fn false ((laidWorld os).forCall (fun _ _ => 0) ⟨#[], zeros, []⟩).memory zeros 8 = true)
    (walk : ∀ (W : World) (base : Nat) (args : Array Value) (ds : List (DataW H)) (p : List MemPlace), (∀ (j : Nat) t v, fn.params[j]? = some t → args[j]? = some v → Value.okWide Tryd.prog W .any base t v) →
      DataW.TrodAll enc Tryd.prog W 0 (fun _ => true) true fn.params.toList args.toList ds p → (DataW.weightsEach Tryd.prog (fn.params.toList ++ spec.plain.varTypes Tryd.prog) (ds ++ [])).all (· ≤ reachBytes) = true → Tab W →
      spec.fn H (ds ++ []) = { results := [.lit (.bool true)], args := ds } ∧ Calls Tryd.prog n args W fun e W' => e = .returned (.bool true) ∧ Below W.heap.size W W') :
    ReturnsInHanded {} Tryd.checked os n .any (fun w args => (spec.pre enc Tryd.prog fn [] false w args ∧ laidMet Tryd.prog [("math/bits.deBruijn64tab", Rows.laid_math_bits_deBruijn64tab)] w) ∧ sizedMet enc Tryd.prog fn (OpenSpec.ofChange spec) false w args)
      (spec.post enc Tryd.prog fn false true false false) := by
  refine returnsInHanded_of_change_and (C := Tryd.checked) (X := fun w _ => laidMet Tryd.prog [("math/bits.deBruijn64tab", Rows.laid_math_bits_deBruijn64tab)] w) (fun _ _ _ hh h => h.of_heap hh) own started hin hf
    (ChangeSpec.witness_at (enc := enc) (C := Tryd.checked) (os := os) (X := fun w _ => laidMet Tryd.prog [("math/bits.deBruijn64tab", Rows.laid_math_bits_deBruijn64tab)] w) false (laidWorld os) zeros 8 rfl hv hrr hok hpre hsz (laidWorld_met os _)) ?_
  intro W base args ds gs before hval hW _ hsz0 hL _
  have hW' := hW
  obtain ⟨p, q, hA, hV, rfl, hfz, hnd⟩ := hW
  rw [hvars] at hV
  obtain ⟨rfl, rfl⟩ := trodVars_none hV
  obtain ⟨h1, h2⟩ := walk W base args ds p hval hA hsz0 (Tab.of (tabIs_of hL))
  exact h2.mono fun e W' ⟨he, bel⟩ => ⟨_, he, law_post laidOut hr hW' hvars hres Tryd.underlying4 h1 bel⟩
end Go.Proofs.YtijagdpkclghnaaDoor
/- Structs of four integers among the arguments, and slices of such: laws of my own, no program in them. -/
namespace Go
open Go.ChangeShapes Go.WideShapes Go.ChangeAt Go.RowKit
section
variable {H : Type} {enc : TypeId × Value → H} {P : Program} {W : World} {held : Bool} {base : Nat} {sp : Nat → Bool}
/-- Four integers of kind i64, as cells. -/
abbrev int4 (x : Int × Int × Int × Int) : List Value := [.int .i64 x.1, .int .i64 x.2.1, .int .i64 x.2.2.1, .int .i64 x.2.2.2]
def In64 (z : Int) : Prop := -9223372036854775808 ≤ z ∧ z ≤ 9223372036854775807
def In4 (x : Int × Int × Int × Int) : Prop := In64 x.1 ∧ In64 x.2.1 ∧ In64 x.2.2.1 ∧ In64 x.2.2.2
theorem in64_of {z : Int} (h : (Lit.int .i64 z).wf = true) : In64 z := by
  exact bounds_i64 h
theorem wf_in64 {z : Int} (h : In64 z) : (Lit.int .i64 z).wf = true := by
  unfold In64 at h
  simp [Lit.wf, IntKind.min, IntKind.max, IntKind.signed, IntKind.bits]
  omega
theorem trod_int4 {t : TypeId} {f0 f1 f2 f3 : Field} {fuel : Nat} {cs : List Value} {x : DataW H × List MemPlace} (ht : P.underlying t = some (.struct #[f0, f1, f2, f3])) (hct : P.cellsOf t = 4)
    (o0 : f0.offset = 0) (o1 : f1.offset = 1) (o2 : f2.offset = 2) (o3 : f3.offset = 3) (c0 : P.cellsOf f0.type = 1) (c1 : P.cellsOf f1.type = 1) (c2 : P.cellsOf f2.type = 1) (c3 : P.cellsOf f3.type = 1)
    (e0 : P.underlying f0.type = some (.int .i64)) (e1 : P.underlying f1.type = some (.int .i64)) (e2 : P.underlying f2.type = some (.int .i64)) (e3 : P.underlying f3.type = some (.int .i64))
    (h : DataW.trod enc P W base sp held fuel t cs = some x) : ∃ y, cs = int4 y ∧ In4 y := by
  obtain ⟨xs, n, _, rfl, hl, hlen, hf⟩ := DataW.trod_struct ht h
  rw [hct] at hl
  match cs, hl, xs, hlen with
  | [v0, v1, v2, v3], _, [y0, y1, y2, y3], _ =>
    have g0 := hf 0 f0 rfl
    have g1 := hf 1 f1 rfl
    have g2 := hf 2 f2 rfl
    have g3 := hf 3 f3 rfl
    rw [o0, c0] at g0; rw [o1, c1] at g1; rw [o2, c2] at g2; rw [o3, c3] at g3
    obtain ⟨z0, h0, _, w0⟩ := DataW.trod_int (x := y0) e0 (by simpa using g0)
    obtain ⟨z1, h1, _, w1⟩ := DataW.trod_int (x := y1) e1 (by simpa using g1)
    obtain ⟨z2, h2, _, w2⟩ := DataW.trod_int (x := y2) e2 (by simpa using g2)
    obtain ⟨z3, h3, _, w3⟩ := DataW.trod_int (x := y3) e3 (by simpa using g3)
    simp at h0 h1 h2 h3
    subst h0; subst h1; subst h2; subst h3
    exact ⟨(z0, z1, z2, z3), rfl, in64_of w0, in64_of w1, in64_of w2, in64_of w3⟩
theorem rows_int4 : ∀ rs : List (List Value), (∀ r ∈ rs, ∃ y, r = int4 y ∧ In4 y) → ∃ l : List (Int × Int × Int × Int), rs = l.map int4 ∧ ∀ x ∈ l, In4 x
  | [], _ => ⟨[], rfl, fun x hx => by cases hx⟩
  | r :: rs, h => by
    obtain ⟨y, rfl, hy⟩ := h r (by simp)
    obtain ⟨l, rfl, hl⟩ := rows_int4 rs fun r' hr' => h r' (by simp [hr'])
    refine ⟨y :: l, rfl, fun x hx => ?_⟩
    rcases List.mem_cons.1 hx with rfl | hx
    · exact hy
    · exact hl x hx
theorem addr_add' (b o j : Nat) : (⟨b, o, none⟩ : Addr).add j = ⟨b, o + j, none⟩ := by
  unfold Addr.add
  split
  · rename_i h; subst h; rfl
  · rfl
/-- A slice of rows of m cells that came in. -/
theorem open_slice_rows {t e : TypeId} {m : Nat} (Q : List Value → Prop) {a : Option Addr} {len cap : Nat} {d : DataW H} {p : List MemPlace} (ht : P.underlying t = some (.slice e)) (hce : P.cellsOf e = m) (hm : 0 < m)
    (hQ : ∀ n cs x, DataW.trod enc P W 0 (fun _ => true) held n e cs = some x → Q cs) (h : DataW.Trod enc P W 0 (fun _ => true) held t (.slice a len cap) d p) :
    ∃ rs : List (List Value), rs.length = len ∧ len ≤ cap ∧ cap ≤ maxLen ∧ (a = none → len = 0 ∧ cap = 0) ∧ (∀ r ∈ rs, Q r) ∧
      (rs = [] ∨ ∃ b o, a = some ⟨b, o, none⟩ ∧ ∀ i r, rs[i]? = some r → ∀ j u, r[j]? = some u → W.cell? ⟨b, o + i * m + j, none⟩ = some u) := by
  obtain ⟨fuel, hf⟩ := h
  rcases Go.Deep.open_slice ht hf with ⟨hcs, _⟩ | ⟨x, l, c, mm, n, D, Pl, hcs, _, hl, hmx, hmm, _, hx⟩
  · simp [Value.cells] at hcs
    obtain ⟨rfl, rfl, rfl⟩ := hcs
    exact ⟨[], rfl, Nat.le_refl _, Nat.zero_le _, fun _ => ⟨rfl, rfl⟩, (fun r hr => by cases hr), .inl rfl⟩
  · simp [Value.cells] at hcs
    obtain ⟨rfl, rfl, rfl⟩ := hcs
    have hmm' : mm = cap := by simpa using hmm
    subst hmm'
    have each : ∀ i, i < len → ∃ r : List Value, Q r ∧ r.length = m ∧ ∀ j u, r[j]? = some u → W.cell? ((x.add (i * m)).add j) = some u := fun i hi => by
      obtain ⟨cs', h1, h2⟩ := hx i (by omega)
      rw [hce] at h1
      obtain ⟨_, hlen, hcell⟩ := World.cells?_some h1
      refine ⟨cs', hQ _ _ _ h2, by simpa using hlen, fun j u hj => ?_⟩
      have hj2 : j < m := by
        have := (List.getElem?_eq_some_iff.1 hj).1
        omega
      rw [hcell j hj2]
      exact hj
    have hch : ∀ k, k ≤ len → ∃ rs : List (List Value), rs.length = k ∧ (∀ r ∈ rs, Q r) ∧ (∀ r ∈ rs, r.length = m) ∧ ∀ i r, rs[i]? = some r → ∀ j u, r[j]? = some u → W.cell? ((x.add (i * m)).add j) = some u := by
      intro k
      induction k with
      | zero => intro _; exact ⟨[], rfl, (fun r hr => by cases hr), (fun r hr => by cases hr), fun i r hr => by simp at hr⟩
      | succ k ih =>
        intro hk
        obtain ⟨rs, h1, h2, h2', h3⟩ := ih (by omega)
        obtain ⟨r, q1, q2, q3⟩ := each k (by omega)
        refine ⟨rs ++ [r], by simp [h1], fun r' hr' => ?_, fun r' hr' => ?_, fun i r' hi => ?_⟩
        · rcases List.mem_append.1 hr' with h | h
          · exact h2 r' h
          · rw [List.mem_singleton.1 h]; exact q1
        · rcases List.mem_append.1 hr' with h | h
          · exact h2' r' h
          · rw [List.mem_singleton.1 h]; exact q2
        · by_cases e : i < k
          · rw [List.getElem?_append_left (by omega)] at hi
            exact h3 i r' hi
          · rw [List.getElem?_append_right (by omega)] at hi
            have e2 : i = k := by
              have := (List.getElem?_eq_some_iff.1 hi).1
              simp at this
              omega
            subst e2
            rw [h1, Nat.sub_self] at hi
            simp at hi
            subst hi
            exact q3
    obtain ⟨rs, h1, h2, h2', h3⟩ := hch len (Nat.le_refl _)
    refine ⟨rs, h1, hl, hmx, (fun h => by cases h), h2, ?_⟩
    by_cases h0 : len = 0
    · left; exact List.length_eq_zero_iff.1 (by omega)
    · right
      obtain ⟨b, o, sp'⟩ := x
      obtain ⟨r0, hr0⟩ : ∃ r0, rs[0]? = some r0 := ⟨rs[0]'(by omega), by rw [List.getElem?_eq_getElem (by omega)]⟩
      have hr0l := h2' r0 (List.mem_of_getElem? hr0)
      have hc0 := h3 0 r0 hr0 0 (r0[0]'(by omega)) (by rw [List.getElem?_eq_getElem (by omega)])
      rw [Nat.zero_mul] at hc0
      have e0 : ((⟨b, o, sp'⟩ : Addr).add 0).add 0 = ⟨b, o, sp'⟩ := rfl
      rw [e0] at hc0
      have h3' : sp' = none := by
        cases sp' with
        | none => rfl
        | some q =>
          unfold World.cell? at hc0
          split at hc0 <;> simp at hc0
      subst h3'
      refine ⟨b, o, rfl, fun i r hi j u hj => ?_⟩
      have := h3 i r hi j u hj
      rw [addr_add', addr_add'] at this
      exact this
end
end Go
/- Maps from integers to Booleans in which true alone is stored: laws of my own over the kit's, no program in them. -/
namespace Go
open Go.Maps (Keyed)
open Go.RowKit
theorem plainElem_bool_inv {H : Type} {P : Program} {e : TypeId} (he : P.underlying e = some .bool) {v : Value} {z : DataW H × List MemPlace} (h : plainElem P e v = some z) : ∃ x, v = .bool x ∧ z = (.lit (.bool x), []) := by
  unfold plainElem at h
  rw [he] at h
  split at h
  · simp at h; exact ⟨_, rfl, h.symm⟩
  · simp_all
  · simp_all
  · cases h
/-- The datum D holds true at just the keys of L. -/
structure BM (D : DataW Unit) (L : List Int) : Prop where
  tidy : Maps.Tidy D
  has : ∀ x, Maps.has D (.int .i64 x) = L.contains x
  at_ : ∀ x, D.atKey (.int .i64 x) (.lit (.bool false)) = .lit (.bool (L.contains x))
  size : Maps.size D = L.length
  nodup : L.Nodup
theorem BM.empty : BM (.map []) [] := ⟨Maps.tidy_empty, fun _ => rfl, fun _ => rfl, rfl, List.nodup_nil⟩
theorem litne {x y : Int} (h : x ≠ y) : Lit.int .i64 x ≠ Lit.int .i64 y := fun e => by cases e; exact h rfl
theorem keyLit (x : Int) : WideAt.IsKeyLit (.int .i64 x) := by trivial
def addTo (L : List Int) (x : Int) : List Int := if L.contains x then L else L ++ [x]
theorem addTo_has (L : List Int) (x y : Int) : (addTo L x).contains y = (L.contains y || x == y) := by
  unfold addTo
  split
  · next h =>
    by_cases e : x = y
    · subst e; rw [h]; simp
    · rw [show (x == y) = false from beq_eq_false_iff_ne.2 e, Bool.or_false]
  · rw [List.contains_eq_mem, List.contains_eq_mem]
    by_cases e : x = y
    · subst e; simp
    · rw [show (x == y) = false from beq_eq_false_iff_ne.2 e]
      simp [Ne.symm e]
theorem BM.put {D : DataW Unit} {L : List Int} (h : BM D L) (x : Int) : BM (D.put (.int .i64 x) (.lit (.bool true))) (addTo L x) := by
  refine ⟨h.tidy.put (keyLit x) _, fun y => ?_, fun y => ?_, ?_, ?_⟩
  · rw [addTo_has]
    by_cases e : y = x
    · subst e; rw [Maps.has_put_same h.tidy.isMap (keyLit y)]; simp
    · rw [Maps.has_put_other (litne e), h.has, show (x == y) = false from beq_eq_false_iff_ne.2 (Ne.symm e), Bool.or_false]
  · rw [addTo_has]
    by_cases e : y = x
    · subst e; rw [Maps.atKey_put_same h.tidy.isMap (keyLit y)]; simp
    · rw [Maps.atKey_put_other (litne e), h.at_, show (x == y) = false from beq_eq_false_iff_ne.2 (Ne.symm e), Bool.or_false]
  · rw [Maps.size_put h.tidy, h.has, h.size]
    unfold addTo
    split <;> simp
  · unfold addTo
    split
    · exact h.nodup
    · next hn => exact List.nodup_append.2 ⟨h.nodup, by simp, fun a ha b hb => by
        rw [List.mem_singleton.1 hb]
        intro e; subst e
        exact hn (by simpa using ha)⟩
theorem erase_has {L : List Int} (hn : L.Nodup) (x y : Int) : (L.erase x).contains y = (L.contains y && !(x == y)) := by
  rw [List.contains_eq_mem, List.contains_eq_mem]
  by_cases e : x = y
  · subst e
    simp [List.Nodup.mem_erase_iff hn]
  · rw [show (x == y) = false from beq_eq_false_iff_ne.2 e]
    simp [List.Nodup.mem_erase_iff hn, Ne.symm e]
theorem BM.del {D : DataW Unit} {L : List Int} (h : BM D L) (x : Int) : BM (D.del (.int .i64 x)) (L.erase x) := by
  refine ⟨h.tidy.del _, fun y => ?_, fun y => ?_, ?_, h.nodup.erase x⟩
  · rw [erase_has h.nodup]
    by_cases e : y = x
    · subst e; rw [Maps.has_del_same]; simp
    · rw [Maps.has_del_other (litne e), h.has, show (x == y) = false from beq_eq_false_iff_ne.2 (Ne.symm e)]; simp
  · rw [erase_has h.nodup]
    by_cases e : y = x
    · subst e; rw [Maps.atKey_del_same]; simp
    · rw [Maps.atKey_del_other (litne e), h.at_, show (x == y) = false from beq_eq_false_iff_ne.2 (Ne.symm e)]; simp
  · have := Maps.size_del (k := .int .i64 x) h.tidy
    rw [h.has, h.size] at this
    by_cases e : L.contains x
    · rw [if_pos e] at this
      rw [List.length_erase_of_mem (by simpa using e)]
      omega
    · rw [if_neg e] at this
      rw [List.erase_of_not_mem (by simpa using e)]
      omega
/-- Block b is such a map, of at most n entries, true at the keys of L. -/
def World.bmap (w : World) (P : Program) (k e : TypeId) (b n : Nat) (L : List Int) : Prop := ∃ D : DataW Unit, w.ownsMap P k (plainElem P e) b n D ∧ BM D L
namespace World
variable {w w' : World} {P : Program} {k e : TypeId} {b n : Nat} {L : List Int}
theorem bmap.lt (h : w.bmap P k e b n L) : b < w.heap.size := by obtain ⟨D, h1, _⟩ := h; exact h1.lt
theorem bmap.kept {row : Option Nat} (h : w.bmap P k e b n L) (hg : w.grownBy w' row) (hne : some b ≠ row) : w'.bmap P k e b n L := by obtain ⟨D, h1, h2⟩ := h; exact ⟨D, h1.kept hg hne, h2⟩
theorem bmap.alloc (h : w.bmap P k e b n L) (o : Obj) : (w.alloc o).bmap P k e b n L := by obtain ⟨D, h1, h2⟩ := h; exact ⟨D, h1.alloc o, h2⟩
theorem bmap.mono {m : Nat} (h : w.bmap P k e b n L) (hm : n ≤ m) : w.bmap P k e b m L := by obtain ⟨D, h1, h2⟩ := h; exact ⟨D, h1.mono hm, h2⟩
theorem bmap.len_le (h : w.bmap P k e b n L) : L.length ≤ n := by obtain ⟨D, h1, h2⟩ := h; rw [← h2.size]; exact h1.size_le
theorem bmap_made (w : World) (P : Program) (k e : TypeId) : (w.alloc (.map #[] 0)).bmap P k e w.heap.size 0 [] := ⟨_, World.ownsMap_made _ _ _ _, BM.empty⟩
/-- It stays what it is where its block has not turned. -/
theorem bmap.same (h : w.bmap P k e b n L) (hb : w'.heap[b]? = w.heap[b]?) : w'.bmap P k e b n L := by
  obtain ⟨D, ⟨es, clock, h1, h2⟩, h3⟩ := h
  exact ⟨D, ⟨es, clock, hb.trans h1, h2⟩, h3⟩
end World
section
variable {P : Program} {w : World} {ops : Array Oper} {rest : List Oper} {o : Oper} {a : Act} {Q : Exit → Act → World → Prop} {k e : TypeId} {b n : Nat} {L : List Int}
theorem wpList_lookup_bm (hg : o.guard = none) (m x : Operand) (t : TypeId) (hop : o.op = Op.lookup t m x false) (hk : P.underlying k = some (.int .i64)) (ht : P.underlying t = some (.map k e)) (he : P.underlying e = some .bool) (hz : ∀ w, (zeroValue e).run P w = .ok (.bool false) w)
    (hm : a.eval m = .map (some b)) (h : w.bmap P k e b n L) (i : Int) (hx : a.eval x = .int .i64 i) (hi : In64 i)
    (hK : wpList P ops Q rest (a.put o.dst (.bool (L.contains i))) w) : wpList P ops Q (o :: rest) a w := by
  refine wpList_plain hg fun K' hK' => ?_
  obtain ⟨D, hown, hB⟩ := h
  obtain ⟨v, ps, hrun, hv⟩ := hown.lookup (Maps.int_keyed hk) ht (hz w) (plainElem_bool he false) (Maps.keyOf_int_mk hk (a := i) (wf_in64 hi))
  obtain ⟨y, rfl, hy⟩ := plainElem_bool_inv he hv
  have e1 := congrArg Prod.fst hy
  simp only at e1
  rw [hB.at_] at e1
  have e2 : y = L.contains i := by simpa using e1.symm
  subst e2
  unfold Oper.wp
  simp [execOp, hop, hm, hx, hrun, Result.andThen]
  exact hK' _ _ (by simpa using hK)
theorem wpList_lookup_bmr (hg : o.guard = none) (m x : Operand) (t : TypeId) (hop : o.op = Op.lookup t m x false) (hk : P.underlying k = some (.int .i64)) (ht : P.underlying t = some (.map k e)) (he : P.underlying e = some .bool) (hz : ∀ w, (zeroValue e).run P w = .ok (.bool false) w)
    (hm : a.eval m = .map (some b)) (h : w.bmap P k e b n L) (i : Int) (hx : a.eval x = .int .i64 i) (hi : In64 i) (r : Bool) (hr : L.contains i = r)
    (hK : wpList P ops Q rest (a.put o.dst (.bool r)) w) : wpList P ops Q (o :: rest) a w :=
  wpList_lookup_bm hg m x t hop hk ht he hz hm h i hx hi (by rw [hr]; exact hK)
theorem wpList_mapUpdate_bm (hg : o.guard = none) (m x v : Operand) (t : TypeId) (hop : o.op = Op.mapUpdate t m x v) (hk : P.underlying k = some (.int .i64)) (ht : P.underlying t = some (.map k e)) (he : P.underlying e = some .bool)
    (hm : a.eval m = .map (some b)) (h : w.bmap P k e b n L) (hn : n < 100000) (i : Int) (hx : a.eval x = .int .i64 i) (hi : In64 i) (hv : a.eval v = .bool true)
    (hK : ∀ w', w'.bmap P k e b (n + 1) (addTo L i) → w.grownBy w' (some b) → wpList P ops Q rest (a.put o.dst undef) w') : wpList P ops Q (o :: rest) a w := by
  obtain ⟨D, hown, hB⟩ := h
  refine wpList_mapUpdate_own w hg m x v t hop k e (Maps.int_keyed hk) ht _ b n D hm hown (by unfold maxLen; omega) _ _ _ hx hv (Maps.keyOf_int_mk hk (a := i) (wf_in64 hi)) _ [] (plainElem_bool he true) ?_
  intro w' h1 h2
  exact hK w' ⟨_, h1, hB.put i⟩ h2
theorem wpList_delete_bm (hg : o.guard = none) (m x : Operand) (t : TypeId) (hop : o.op = Op.call { callee := Callee.builtin Builtin.delete, args := #[m, x], argTypes := #[t, k] }) (hk : P.underlying k = some (.int .i64)) (ht : P.underlying t = some (.map k e))
    (hm : a.eval m = .map (some b)) (h : w.bmap P k e b n L) (i : Int) (hx : a.eval x = .int .i64 i) (hi : In64 i)
    (hK : ∀ w', w'.bmap P k e b n (L.erase i) → w.grownBy w' (some b) → wpList P ops Q rest (a.put o.dst (.tuple #[])) w') : wpList P ops Q (o :: rest) a w := by
  obtain ⟨D, hown, hB⟩ := h
  refine wpList_delete_own w hg m x t k hop e (Maps.int_keyed hk) ht _ b n D hm hown _ _ hx (Maps.keyOf_int_mk hk (a := i) (wf_in64 hi)) ?_
  intro w' h1 h2
  exact hK w' ⟨_, h1, hB.del i⟩ h2.grown
theorem wpList_len_bm (hg : o.guard = none) (m : Operand) (t : TypeId) (hop : o.op = Op.call { callee := Callee.builtin Builtin.len, args := #[m], argTypes := #[t] }) (ht : P.underlying t = some (.map k e))
    (hm : a.eval m = .map (some b)) (h : w.bmap P k e b n L) (hK : wpList P ops Q rest (a.put o.dst (.int .i64 (L.length : Int))) w) : wpList P ops Q (o :: rest) a w := by
  obtain ⟨D, hown, hB⟩ := h
  refine wpList_len_own w hg m t hop k e ht _ b n D hm hown ?_
  rw [hB.size]; exact hK
end
end Go
