/- Last: contracts of math/bits.LeadingZeros64 (off the shelf) and of Last. -/
import Derived.Shelf.Lay
import Derived.Shelf.Small.Bits
import Derived.Lib.ItoaNum
import Derived.Test.YtdgeobofpnbenaaDoorMList
namespace Go.Proofs.YtdgeobofpnbenaaDoor
open Go Go.RowKit Go.Shelf
set_option maxRecDepth 100000
shelf_lay Lays.n134 Nm 134 at Tryd as lays134
theorem Lead_any (x : Nat) (w : World) (hx : x < 18446744073709551616) : Calls Tryd.prog 42 #[.int .u64 (x : Int)] w fun e w' => e = .returned (.int .i64 (64 - (Lib.bitLen x : Int))) ∧ w = w' := by
  have h := Any.bits_LeadingZeros64 lays134 (x : Int) w (by omega) (by omega)
  refine h.mono ?_
  rintro e w' ⟨h1, h2⟩
  exact ⟨h1, h2.symm⟩
/-- The number of the last bit, by words. -/
def lastW (s : Set4) : Option Nat :=
  if s.d = 0 then if s.c = 0 then if s.b = 0 then if s.a = 0 then none else some (64 * 0 + (Lib.bitLen s.a - 1)) else some (64 * 1 + (Lib.bitLen s.b - 1)) else some (64 * 2 + (Lib.bitLen s.c - 1)) else some (64 * 3 + (Lib.bitLen s.d - 1))
theorem bitLen_bounds (x : Nat) (hx : x < 18446744073709551616) (h0 : x ≠ 0) : 1 ≤ Lib.bitLen x ∧ Lib.bitLen x ≤ 64 :=
  ⟨(Lib.bitLenAux_bounds 64 x hx h0).1, Lib.bitLen_le x 64 (by omega) hx⟩
set_option maxHeartbeats 1000000 in
theorem Last_any (s : Set4) (w : World) : Calls Tryd.prog 29 #[s.val] w fun e w' => e = .returned (nextV (lastW s)) ∧ Below w.heap.size w w' := by
  have hA := s.ha; have hB := s.hb; have hC := s.hc; have hD := s.hd
  go_enter Tryd.func29, Tryd.ntmps29
  rcases (Decidable.em (s.d = 0)).symm with zd | zd
  ·
    have ed : ((s.d : Int) == 0) = false := by rw [beq_cast]; exact beq_eq_false_iff_ne.2 zd
    have F : Hid (lastW s = some (64 * 3 + (Lib.bitLen s.d - 1))) := Lib.hid (by unfold lastW; simp [zd])
    have hk := bitLen_bounds s.d (by assumption) zd
    clear zd
    go_wp2
    refine wp_loop_rounds 5 ?_
    repeat (rw [rounds_succ]; go_wp2_with (go_at_call 42; refine (Lead_any _ _ (by assumption)).mono ?_; rintro e w' ⟨rfl, rfl⟩))
    go_ret2
    refine ⟨?_, (by repeat' (first | (with_reducible exact Below.refl _ _) | (with_reducible assumption) | (with_reducible refine Below.setCell ?_ ?_ _) | (with_reducible refine Below.ext ?_ _ ?_) | (with_reducible refine Below.alloc ?_ ?_ _) | (with_reducible refine Below.drew ?_) | (with_reducible refine Below.drewN ?_ _) | (with_reducible exact Nat.le_refl _) | (dsimp only; omega) | (simp <;> omega)))⟩
    rw [F.out]
    unfold nextV
    refine congrArg (fun z => Ending.returned (.tuple #[.int .i64 z, .bool true])) (?_ : _ = ((64 * 3 + (Lib.bitLen s.d - 1) : Nat) : Int))
    omega
  rcases (Decidable.em (s.c = 0)).symm with zc | zc
  ·
    have ed : ((s.d : Int) == 0) = true := by rw [zd]; rfl
    have ec : ((s.c : Int) == 0) = false := by rw [beq_cast]; exact beq_eq_false_iff_ne.2 zc
    have F : Hid (lastW s = some (64 * 2 + (Lib.bitLen s.c - 1))) := Lib.hid (by unfold lastW; simp [zd, zc])
    have hk := bitLen_bounds s.c (by assumption) zc
    clear zd zc
    go_wp2
    refine wp_loop_rounds 5 ?_
    repeat (rw [rounds_succ]; go_wp2_with (go_at_call 42; refine (Lead_any _ _ (by assumption)).mono ?_; rintro e w' ⟨rfl, rfl⟩))
    go_ret2
    refine ⟨?_, (by repeat' (first | (with_reducible exact Below.refl _ _) | (with_reducible assumption) | (with_reducible refine Below.setCell ?_ ?_ _) | (with_reducible refine Below.ext ?_ _ ?_) | (with_reducible refine Below.alloc ?_ ?_ _) | (with_reducible refine Below.drew ?_) | (with_reducible refine Below.drewN ?_ _) | (with_reducible exact Nat.le_refl _) | (dsimp only; omega) | (simp <;> omega)))⟩
    rw [F.out]
    unfold nextV
    refine congrArg (fun z => Ending.returned (.tuple #[.int .i64 z, .bool true])) (?_ : _ = ((64 * 2 + (Lib.bitLen s.c - 1) : Nat) : Int))
    omega
  rcases (Decidable.em (s.b = 0)).symm with zb | zb
  ·
    have ed : ((s.d : Int) == 0) = true := by rw [zd]; rfl
    have ec : ((s.c : Int) == 0) = true := by rw [zc]; rfl
    have eb : ((s.b : Int) == 0) = false := by rw [beq_cast]; exact beq_eq_false_iff_ne.2 zb
    have F : Hid (lastW s = some (64 * 1 + (Lib.bitLen s.b - 1))) := Lib.hid (by unfold lastW; simp [zd, zc, zb])
    have hk := bitLen_bounds s.b (by assumption) zb
    clear zd zc zb
    go_wp2
    refine wp_loop_rounds 5 ?_
    repeat (rw [rounds_succ]; go_wp2_with (go_at_call 42; refine (Lead_any _ _ (by assumption)).mono ?_; rintro e w' ⟨rfl, rfl⟩))
    go_ret2
    refine ⟨?_, (by repeat' (first | (with_reducible exact Below.refl _ _) | (with_reducible assumption) | (with_reducible refine Below.setCell ?_ ?_ _) | (with_reducible refine Below.ext ?_ _ ?_) | (with_reducible refine Below.alloc ?_ ?_ _) | (with_reducible refine Below.drew ?_) | (with_reducible refine Below.drewN ?_ _) | (with_reducible exact Nat.le_refl _) | (dsimp only; omega) | (simp <;> omega)))⟩
    rw [F.out]
    unfold nextV
    refine congrArg (fun z => Ending.returned (.tuple #[.int .i64 z, .bool true])) (?_ : _ = ((64 * 1 + (Lib.bitLen s.b - 1) : Nat) : Int))
    omega
  rcases (Decidable.em (s.a = 0)).symm with za | za
  ·
    have ed : ((s.d : Int) == 0) = true := by rw [zd]; rfl
    have ec : ((s.c : Int) == 0) = true := by rw [zc]; rfl
    have eb : ((s.b : Int) == 0) = true := by rw [zb]; rfl
    have ea : ((s.a : Int) == 0) = false := by rw [beq_cast]; exact beq_eq_false_iff_ne.2 za
    have F : Hid (lastW s = some (64 * 0 + (Lib.bitLen s.a - 1))) := Lib.hid (by unfold lastW; simp [zd, zc, zb, za])
    have hk := bitLen_bounds s.a (by assumption) za
    clear zd zc zb za
    go_wp2
    refine wp_loop_rounds 5 ?_
    repeat (rw [rounds_succ]; go_wp2_with (go_at_call 42; refine (Lead_any _ _ (by assumption)).mono ?_; rintro e w' ⟨rfl, rfl⟩))
    go_ret2
    refine ⟨?_, (by repeat' (first | (with_reducible exact Below.refl _ _) | (with_reducible assumption) | (with_reducible refine Below.setCell ?_ ?_ _) | (with_reducible refine Below.ext ?_ _ ?_) | (with_reducible refine Below.alloc ?_ ?_ _) | (with_reducible refine Below.drew ?_) | (with_reducible refine Below.drewN ?_ _) | (with_reducible exact Nat.le_refl _) | (dsimp only; omega) | (simp <;> omega)))⟩
    rw [F.out]
    unfold nextV
    refine congrArg (fun z => Ending.returned (.tuple #[.int .i64 z, .bool true])) (?_ : _ = ((64 * 0 + (Lib.bitLen s.a - 1) : Nat) : Int))
    omega
  have ed : ((s.d : Int) == 0) = true := by rw [zd]; rfl
  have ec : ((s.c : Int) == 0) = true := by rw [zc]; rfl
  have eb : ((s.b : Int) == 0) = true := by rw [zb]; rfl
  have ea : ((s.a : Int) == 0) = true := by rw [za]; rfl
  have F : Hid (lastW s = none) := Lib.hid (by unfold lastW; simp [zd, zc, zb, za])
  clear zd zc zb za
  go_wp2
  refine wp_loop_rounds 5 ?_
  repeat (rw [rounds_succ]; go_wp2)
  go_ret2
  refine ⟨?_, (by repeat' (first | (with_reducible exact Below.refl _ _) | (with_reducible assumption) | (with_reducible refine Below.setCell ?_ ?_ _) | (with_reducible refine Below.ext ?_ _ ?_) | (with_reducible refine Below.alloc ?_ ?_ _) | (with_reducible refine Below.drew ?_) | (with_reducible refine Below.drewN ?_ _) | (with_reducible exact Nat.le_refl _) | (dsimp only; omega) | (simp <;> omega)))⟩
  rw [F.out]
  rfl
end Go.Proofs.YtdgeobofpnbenaaDoor
