/- Part of the tally where the product fits one word: contracts. -/
import Derived.Shelf.Bits.Mul64
import Derived.Test.YtnndoajflimkmaaDoorTName
namespace Go.Proofs.YtnndoajflimkmaaDoor
open Go Go.RowKit Go.Shelf
set_option maxRecDepth 100000
shelf_lay Lays.n264 Nm 264 at Tryd as lays264
theorem Mul_any (x y : Nat) (w : World) (hx : x < 18446744073709551616) (hy : y < 18446744073709551616) :
    Calls Tryd.prog 24 #[.int .u64 x, .int .u64 y] w fun e w' => e = .returned (.tuple #[.int .u64 ((x * y / 18446744073709551616 : Nat) : Int), .int .u64 ((x * y % 18446744073709551616 : Nat) : Int)]) ∧ w = w' := by
  refine (Any.bits_Mul64 lays264 x y hx hy w).mono ?_
  rintro e w' ⟨h1, h2⟩
  exact ⟨h1, h2.symm⟩
theorem Div_small (x y : Nat) (w : World) (hx : x < 18446744073709551616) (hy : y < 18446744073709551616) (h0 : 0 < y) :
    Calls Tryd.prog 25 #[.int .u64 0, .int .u64 x, .int .u64 y] w fun e w' => e = .returned (.tuple #[.int .u64 ((x / y : Nat) : Int), .int .u64 ((x % y : Nat) : Int)]) ∧ Below w.heap.size w w' := by
  go_enter Tryd.func25, Tryd.ntmps25
  have e0 : ((y : Int) == 0) = false := by simp; omega
  have e1 : ((y : Int) ≤ 0) = False := eq_false (by omega)
  have e2 : ((x : Int).tdiv y) = ((x / y : Nat) : Int) := by rw [Int.tdiv_eq_ediv_of_nonneg (by omega)]; rfl
  have e3 : ((x : Int).tmod y) = ((x % y : Nat) : Int) := by rw [Int.tmod_eq_emod_of_nonneg (by omega)]; rfl
  go_wp2_with fail
  have n0 : (y = 0) = False := eq_false (by omega)
  go_quiet (fail)
  go_wp2
  go_ret2
  have ew : IntKind.u64.wrap ((x : Int) / (y : Int)) = ((x / y : Nat) : Int) := by
    have hle : x / y ≤ x := Nat.div_le_self _ _
    rw [show (x : Int) / (y : Int) = ((x / y : Nat) : Int) from rfl]
    obtain ⟨q, hq⟩ : ∃ q, q = x / y := ⟨_, rfl⟩
    rw [← hq] at hle ⊢
    exact IntWalk.u64_in _ (by omega)
  refine ⟨?_, (by repeat' (first | (with_reducible exact Below.refl _ _) | (with_reducible assumption) | (with_reducible refine Below.setCell ?_ ?_ _) | (with_reducible refine Below.ext ?_ _ ?_) | (with_reducible refine Below.alloc ?_ ?_ _) | (with_reducible refine Below.drew ?_) | (with_reducible refine Below.drewN ?_ _) | (with_reducible exact Nat.le_refl _) | (dsimp only; omega) | (simp <;> omega)))⟩
  show Ending.returned (.tuple #[.int .u64 (IntKind.u64.wrap ((x : Int) / (y : Int))), .int .u64 ((x : Int) % (y : Int))]) = _
  rw [ew]
  rfl
/-- Both counts' share. -/
def shareS (f : Nat → Int) (k o : Int) : Int := if 0 ≤ k ∧ k < 9 ∧ 0 ≤ o ∧ o < 9 ∧ 0 < f k.toNat + f o.toNat then f k.toNat * 1000 / (f k.toNat + f o.toNat) else 0
theorem Part_bad (p : Value) (k o : Int) (w : World) (h : ¬ (0 ≤ k ∧ k < 9 ∧ 0 ≤ o ∧ o < 9)) :
    Calls Tryd.prog 10 #[p, .int .i64 k, .int .i64 o] w fun e w' => e = .returned (.int .i64 0) ∧ Below w.heap.size w w' := by
  go_enter Tryd.func10, Tryd.ntmps10
  by_cases h1 : 0 ≤ k ∧ k < 9
  · have h2 : ¬ (0 ≤ o ∧ o < 9) := fun h3 => h ⟨h1.1, h1.2, h3.1, h3.2⟩
    have e1 : decide (0 ≤ k ∧ k < 9) = true := decide_eq_true h1
    have e2 : decide (0 ≤ o ∧ o < 9) = false := decide_eq_false h2
    clear h h1 h2
    go_wp2_with (first | (go_at_call 22; refine (is_any _ _).mono ?_; rintro e w' ⟨rfl, rfl⟩))
    go_returns
    exact ⟨rfl, (by repeat' (first | (with_reducible exact Below.refl _ _) | (with_reducible assumption) | (with_reducible refine Below.setCell ?_ ?_ _) | (with_reducible refine Below.ext ?_ _ ?_) | (with_reducible refine Below.alloc ?_ ?_ _) | (with_reducible refine Below.drew ?_) | (with_reducible refine Below.drewN ?_ _) | (with_reducible exact Nat.le_refl _) | (dsimp only; omega) | (simp <;> omega)))⟩
  · have e1 : decide (0 ≤ k ∧ k < 9) = false := decide_eq_false h1
    clear h h1
    go_wp2_with (first | (go_at_call 22; refine (is_any _ _).mono ?_; rintro e w' ⟨rfl, rfl⟩))
    go_returns
    exact ⟨rfl, (by repeat' (first | (with_reducible exact Below.refl _ _) | (with_reducible assumption) | (with_reducible refine Below.setCell ?_ ?_ _) | (with_reducible refine Below.ext ?_ _ ?_) | (with_reducible refine Below.alloc ?_ ?_ _) | (with_reducible refine Below.drew ?_) | (with_reducible refine Below.drewN ?_ _) | (with_reducible exact Nat.le_refl _) | (dsimp only; omega) | (simp <;> omega)))⟩
theorem Part_nil (w : World) :
    Calls Tryd.prog 10 #[.pointer none, .int .i64 0, .int .i64 1] w fun e w' => e = .returned (.int .i64 0) ∧ Below w.heap.size w w' := by
  go_enter Tryd.func10, Tryd.ntmps10
  go_wp2_with (first | (go_at_call 22; refine (is_any _ _).mono ?_; rintro e w' ⟨rfl, rfl⟩) | (go_at_call 18; refine (Get_nil _ _).mono ?_; rintro e w' ⟨rfl, rfl⟩))
  go_returns
  exact ⟨rfl, (by repeat' (first | (with_reducible exact Below.refl _ _) | (with_reducible assumption) | (with_reducible refine Below.setCell ?_ ?_ _) | (with_reducible refine Below.ext ?_ _ ?_) | (with_reducible refine Below.alloc ?_ ?_ _) | (with_reducible refine Below.drew ?_) | (with_reducible refine Below.drewN ?_ _) | (with_reducible exact Nat.le_refl _) | (dsimp only; omega) | (simp <;> omega)))⟩
set_option maxHeartbeats 1000000 in
theorem Part_small (g : Nat) (a b p : Nat) (k o : Int) (f : Nat → Int) (w : World) (hr : w.row g (cel f) tT) (hk0 : 0 ≤ k) (hk1 : k < 9) (ho0 : 0 ≤ o) (ho1 : o < 9) (ha : f k.toNat = a) (hb : f o.toNat = b) (hp : 0 < a + b) (hs : a + b < 18446744073709551616) (hap : a * 1000 = p) (ht : p < 18446744073709551616) :
    Calls Tryd.prog 10 #[pt g, .int .i64 k, .int .i64 o] w fun e w' => e = .returned (.int .i64 ((p / (a + b) : Nat) : Int)) ∧ Below w.heap.size w w' := by
  go_enter Tryd.func10, Tryd.ntmps10
  have e1 : decide (0 ≤ k ∧ k < 9) = true := decide_eq_true ⟨hk0, hk1⟩
  have e2 : decide (0 ≤ o ∧ o < 9) = true := decide_eq_true ⟨ho0, ho1⟩
  have hga := (Get_any g k f w hr)
  rw [if_pos ⟨hk0, hk1⟩, ha] at hga
  have hgb := (Get_any g o f w hr)
  rw [if_pos ⟨ho0, ho1⟩, hb] at hgb
  have HG := Lib.hid (And.intro hga hgb)
  have HN := Lib.hid (And.intro hp (And.intro hs ht))
  have HA := Lib.hid hap
  clear hap
  clear hga hgb hr ha hb hp hs ht hk0 hk1 ho0 ho1
  go_wp2_with (go_at_call 22; refine (is_any _ _).mono ?_; rintro e w' ⟨rfl, rfl⟩)
  refine HG.out.1.mono ?_
  rintro e w' ⟨rfl, rfl⟩
  go_wp2_with fail
  refine HG.out.2.mono ?_
  rintro e w' ⟨rfl, rfl⟩
  have hs := HN.out.2.1
  have hp := HN.out.1
  have hw : IntKind.u64.wrap (a : Int) = (a : Int) := IntWalk.u64_in _ (by omega)
  have hw2 : IntKind.u64.wrap (b : Int) = (b : Int) := IntWalk.u64_in _ (by omega)
  go_wp2_with fail
  have hm := fun w => Mul_any a 1000 w (by omega) (by decide)
  have hpl := HN.out.2.2
  simp only [HA.out, Nat.div_eq_of_lt hpl, Nat.mod_eq_of_lt hpl] at hm
  refine (hm _).mono ?_
  rintro e w' ⟨rfl, rfl⟩
  have hd := fun w => Div_small p (a + b) w hpl hs hp
  clear hm
  simp only [Int.natCast_add] at hd
  go_wp2_with fail
  refine Calls.pure_to (hd _) ?_
  intro w1 hb1
  go_wp2_with fail
  have hq : p / (a + b) ≤ 1000 := Nat.div_le_of_le_mul (by have := HA.out; omega)
  have ew : wrap64 ((p : Int) / ((a : Int) + (b : Int))) = ((p / (a + b) : Nat) : Int) := by
    rw [show (p : Int) / ((a : Int) + (b : Int)) = ((p / (a + b) : Nat) : Int) by rw [Int.natCast_ediv, Int.natCast_add]]
    obtain ⟨q, hq2⟩ : ∃ q, q = p / (a + b) := ⟨_, rfl⟩
    rw [← hq2] at hq ⊢
    unfold wrap64
    omega
  go_returns
  refine ⟨?_, hb1⟩
  show Ending.returned (.int .i64 (wrap64 ((p : Int) / ((a : Int) + (b : Int))))) = _
  rw [ew]
end Go.Proofs.YtnndoajflimkmaaDoor
