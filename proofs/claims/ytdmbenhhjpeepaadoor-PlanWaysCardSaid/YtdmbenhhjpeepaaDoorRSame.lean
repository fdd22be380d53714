/- The document's count and names; the law's samePlan: contracts. -/
import Derived.Test.YtdmbenhhjpeepaaDoorRPlan
import Derived.Laws.Entries
namespace Go.Proofs.YtdmbenhhjpeepaaDoor
open Go Go.RowKit
set_option maxRecDepth 100000
theorem refCount_any (x : Int) (f : Nat → Bool) (w : World) : Calls Tryd.prog 32 #[qv x f] w fun e w' => e = .returned (.int .i64 (cnt f 32 : Nat)) ∧ Below w.heap.size w w' := by
  go_enter Tryd.func32, Tryd.ntmps32
  go_upto_region 1 with fail
  refine wp_world (fun w1 => w1.row w.heap.size (qcs x f) tQ ∧ Below w.heap.size w w1) ⟨World.row.new' rfl, (by repeat' (first | (with_reducible exact Below.refl _ _) | (with_reducible assumption) | (with_reducible refine Below.setCell ?_ ?_ _) | (with_reducible refine Below.ext ?_ _ ?_) | (with_reducible refine Below.alloc ?_ ?_ _) | (with_reducible refine Below.drew ?_) | (with_reducible refine Below.drewN ?_ _) | (with_reducible exact Nat.le_refl _) | (dsimp only; omega) | (simp <;> omega)))⟩ ?_
  rintro w1 ⟨r1, B1⟩
  have HS := Lib.hid (And.intro r1 B1)
  clear r1 B1
  go_wp2_with fail
  go_loopw [3, 4] (fun n i wr => ∃ (k : Nat), k ≤ 32 ∧ n = .int .i64 (cnt f k : Nat) ∧ i = .int .i64 k ∧ wr.row w.heap.size (qcs x f) tQ ∧ Below w.heap.size w wr) (fun _ i _ => 32 - (intOf i).toNat)
  case atStart => exact ⟨0, by omega, rfl, rfl, HS.out.1, HS.out.2⟩
  case round =>
    obtain ⟨k, hk, rfl, rfl, hr, hB⟩ := hrel
    by_cases hlt : k < 32
    · have cq := hr.cell _ (qcs_at x f hlt)
      have lc := cnt_le f k
      have ec := cnt_succ f k
      generalize f k = b at *
      generalize cnt f k = c at *
      have HR := Lib.hid (And.intro hr (And.intro hB ec))
      clear hr hB ec
      cases b
      · go_wp2_with fail
        go_roundw
        case rel => exact ⟨k + 1, by omega, by rw [HR.out.2.2]; go_num, by go_num, HR.out.1, HR.out.2.1⟩
        case measure => simp [intOf] <;> omega
      · go_wp2_with fail
        go_roundw
        case rel => exact ⟨k + 1, by omega, by rw [HR.out.2.2]; go_num, by go_num, HR.out.1, HR.out.2.1⟩
        case measure => simp [intOf] <;> omega
    · obtain rfl : k = 32 := by omega
      go_wp2_with fail
      go_returns
      exact ⟨rfl, hB⟩
theorem refName_any (k : Int) (w : World) : Calls Tryd.prog 14 #[.int .i64 k] w fun e w' => e = .returned (strV (nmOf k)) ∧ Below w.heap.size w w' := by
  go_enter Tryd.func14, Tryd.ntmps14
  go_upto_region 2 with fail
  refine wp_world (fun w1 => w1.row w.heap.size (nmS.map strV) 9 ∧ Below w.heap.size w w1) ⟨World.row.new' rfl, (by repeat' (first | (with_reducible exact Below.refl _ _) | (with_reducible assumption) | (with_reducible refine Below.setCell ?_ ?_ _) | (with_reducible refine Below.ext ?_ _ ?_) | (with_reducible refine Below.alloc ?_ ?_ _) | (with_reducible refine Below.drew ?_) | (with_reducible refine Below.drewN ?_ _) | (with_reducible exact Nat.le_refl _) | (dsimp only; omega) | (simp <;> omega)))⟩ ?_
  rintro w1 ⟨r1, B1⟩
  by_cases hk : 0 ≤ k ∧ k < 4
  · have h0 := hk.1
    have h1 := hk.2
    have hc := r1.cell k.toNat (v := strV (nmS.getD k.toNat [])) (by rw [List.getElem?_map, nmS_at k.toNat (by omega)]; rfl)
    have hx : nmOf k = nmS.getD k.toNat [] := by unfold nmOf; rw [if_pos hk]
    have e1 : (k < 0) = False := eq_false (by omega)
    have e2 : (4 ≤ k) = False := eq_false (by omega)
    have HX := Lib.hid (And.intro hx B1)
    clear hk hx r1 B1
    go_wp2_with fail
    all_goals (try (exfalso; omega))
    go_returns
    exact ⟨by rw [HX.out.1]; rfl, HX.out.2⟩
  · have hx : nmOf k = [] := by unfold nmOf; rw [if_neg hk]
    have HX := Lib.hid (And.intro hx B1)
    clear hx r1 B1
    by_cases h0 : k < 0
    · have e1 : (k < 0) = True := eq_true h0
      clear hk h0
      go_wp2_with fail
      go_returns
      exact ⟨by rw [HX.out.1]; rfl, HX.out.2⟩
    · have e1 : (k < 0) = False := eq_false h0
      have e2 : (4 ≤ k) = True := eq_true (by omega)
      clear hk h0
      go_wp2_with fail
      go_returns
      exact ⟨by rw [HX.out.1]; rfl, HX.out.2⟩
/-- The bits of a function, as a number. -/
def natOf (f : Nat → Bool) : Nat → Nat
  | 0 => 0
  | k + 1 => if f k = true then natOf f k ||| 2 ^ k else natOf f k
theorem natOf_lt (f : Nat → Bool) : ∀ k, natOf f k < 2 ^ k
  | 0 => by simp [natOf]
  | k + 1 => by
    have := natOf_lt f k
    unfold natOf
    have h2 : natOf f k < 2 ^ (k + 1) := Nat.lt_of_lt_of_le this (Nat.pow_le_pow_right (by decide) (Nat.le_succ _))
    split
    · exact Nat.or_lt_two_pow h2 (Nat.pow_lt_pow_right (by decide) (Nat.lt_succ_self _))
    · exact h2
theorem natOf_bit (f : Nat → Bool) : ∀ k i, (natOf f k).testBit i = (decide (i < k) && f i)
  | 0, i => by simp [natOf]
  | k + 1, i => by
    unfold natOf
    by_cases e : i = k
    · subst e
      have h1 : (natOf f i).testBit i = false := by rw [natOf_bit f i i]; simp
      split
      · rename_i h
        rw [Nat.testBit_or, h1, Nat.testBit_two_pow_self, h]; simp
      · rename_i h
        rw [h1]; simp [h]
    · have h2 : decide (i < k + 1) = decide (i < k) := decide_eq_decide.2 (by omega)
      rw [h2]
      split
      · rw [Nat.testBit_or, natOf_bit f k i, Nat.testBit_two_pow_of_ne (Ne.symm e), Bool.or_false]
      · exact natOf_bit f k i
theorem natOf_64 (f : Nat → Bool) {k : Nat} (h : k ≤ 32) : natOf f k < 18446744073709551616 := Nat.lt_of_lt_of_le (natOf_lt f k) (Nat.le_trans (Nat.pow_le_pow_right (n := 2) (by decide) h) (by decide))
def toSet (f : Nat → Bool) : Set4 := Set4.ofNat (natOf f 32) (natOf_64 f (Nat.le_refl _))
theorem index_B (f : Nat → Bool) (k : Nat) (h : k < 32) (w : World) : (Instr.index tB (.agg (blist 32 f).toArray) (.int .i64 (k : Int))).run Tryd.prog w = .ok (.bool (f k)) w := by
  have h1 : (blist 32 f).toArray[k]? = some (.bool (f k)) := by rw [List.getElem?_toArray, blist_get f h]
  have h2 : (part 4 (blist 32 f).toArray k).run Tryd.prog w = .ok (.bool (f k)) w := by
    have ha : (isAgg 4).run Tryd.prog w = .ok false w := rfl
    simp [part, Sem.run_bind, ha, h1]
  have h3 : (sizeOf 4).run Tryd.prog w = .ok 1 w := rfl
  have hu : (underlying tB).run Tryd.prog w = .ok (.array 32 4) w := run_underlying Tryd.underlying31 w
  have h4 : (0 : Int) ≤ (k : Int) ∧ (k : Int) < ((32 : Nat) : Int) := by omega
  simp only [Instr.index, asIntOf, Sem.run_bind, Sem.run_pure, Result.andThen_ok, hu]
  rw [if_pos h4]
  simp only [Sem.run_bind, h3, Result.andThen_ok, Int.toNat_natCast, Nat.mul_one, h2]
end Go.Proofs.YtdmbenhhjpeepaaDoor
