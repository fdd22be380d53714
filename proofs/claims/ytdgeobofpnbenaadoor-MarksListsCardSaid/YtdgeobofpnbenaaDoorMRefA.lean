import Derived.Test.YtdgeobofpnbenaaDoorMRuns
import Derived.Test.YtdgeobofpnbenaaDoorArr
namespace Go.Proofs.YtdgeobofpnbenaaDoor
open Go Go.RowKit
set_option maxRecDepth 100000
/-- 256 answers as cells. -/
def bools (f : Nat → Bool) : List Value := (List.range 256).map fun i => Value.bool (f i)
theorem bools_len (f : Nat → Bool) : (bools f).length = 256 := by unfold bools; simp
theorem bools_get (f : Nat → Bool) (i : Nat) (h : i < 256) : (bools f)[i]? = some (.bool (f i)) := by unfold bools; simp [h]
theorem bools_set (f : Nat → Bool) (k : Nat) (b : Bool) : (bools f).set k (.bool b) = bools fun j => if j = k then b else f j := by
  refine List.ext_getElem? fun i => ?_
  rw [List.getElem?_set]
  by_cases h : i < 256
  · rw [bools_get _ i h, bools_get _ i h]
    by_cases e : k = i
    · subst e; simp [bools_len, h]
    · rw [if_neg e, if_neg (Ne.symm e)]
  · have h1 : (bools f)[i]? = none := by rw [List.getElem?_eq_none_iff, bools_len]; omega
    have h2 : ∀ g, (bools g)[i]? = none := fun g => by rw [List.getElem?_eq_none_iff, bools_len]; omega
    rw [h1, h2]
    by_cases e : k = i
    · subst e; simp [bools_len]; omega
    · rw [if_neg e]
theorem bools_congr {f g : Nat → Bool} (h : ∀ i, i < 256 → f i = g i) : bools f = bools g := by
  unfold bools; exact List.map_congr_left fun i hi => by rw [h i (List.mem_range.1 hi)]
theorem bools_one (f : Nat → Bool) : (bools f).toArray.all (·.oneCell') = true := by
  unfold bools; simp [Value.oneCell']
theorem infoBools : (Tryd.prog.info? 54).map (·.zero) = some (some (.agg (bools fun _ => false).toArray)) := by kernel_rfl
theorem sizeBools (f : Nat → Bool) : (Tryd.prog.info? 54).map (·.size) = some (bools f).length := by rw [bools_len]; kernel_rfl
theorem sizeBools' (f : Nat → Bool) : (Tryd.prog.info? 54).map (·.size) = some (bools f).toArray.size := by rw [List.size_toArray]; exact sizeBools f
theorem refHas_no (s : Set4) (i : Int) (w : World) (h : i < 0 ∨ 255 < i) : Calls Tryd.prog 19 #[s.val, .int .i64 i] w fun e w' => e = .returned (.bool false) ∧ Below w.heap.size w w' := by
  rcases h with h | h
  · have h0 : decide (i < 0) = true := by simp; omega
    go_enter Tryd.func19, Tryd.ntmps19
    go_wp2
    go_ret
    exact ⟨rfl, (by repeat' (first | (with_reducible exact Below.refl _ _) | (with_reducible assumption) | (with_reducible refine Below.setCell ?_ ?_ _) | (with_reducible refine Below.ext ?_ _ ?_) | (with_reducible refine Below.alloc ?_ ?_ _) | (with_reducible refine Below.drew ?_) | (with_reducible refine Below.drewN ?_ _) | (with_reducible exact Nat.le_refl _) | (dsimp only; omega) | (simp <;> omega)))⟩
  · have h0 : decide (i < 0) = false := by simp; omega
    have h1 : decide (255 < i) = true := by simp; omega
    go_enter Tryd.func19, Tryd.ntmps19
    go_wp2
    go_ret
    exact ⟨rfl, (by repeat' (first | (with_reducible exact Below.refl _ _) | (with_reducible assumption) | (with_reducible refine Below.setCell ?_ ?_ _) | (with_reducible refine Below.ext ?_ _ ?_) | (with_reducible refine Below.alloc ?_ ?_ _) | (with_reducible refine Below.drew ?_) | (with_reducible refine Below.drewN ?_ _) | (with_reducible exact Nat.le_refl _) | (dsimp only; omega) | (simp <;> omega)))⟩
theorem half_word (x k : Nat) : (x / 2 ^ k) / 2 = x / 2 ^ (k + 1) := by rw [Nat.div_div_eq_div_mul, Nat.pow_succ]
theorem odd_bit (x j : Nat) : (((x / 2 ^ j : Nat) : Int) % 2 == 1) = x.testBit j := by
  rw [Nat.testBit_eq_decide_div_mod_eq]
  generalize x / 2 ^ j = y
  by_cases h : y % 2 = 1
  · simp [h]; omega
  · simp [h]; omega
set_option maxHeartbeats 2000000 in
theorem refHas_yes (s : Set4) (i : Nat) (w : World) (h : i < 256) : Calls Tryd.prog 19 #[s.val, .int .i64 (i : Int)] w fun e w' => e = .returned (.bool (s.has i)) ∧ Below w.heap.size w w' := by
  have h0 : decide ((i : Int) < 0) = false := by simp
  have h1 : decide (255 < (i : Int)) = false := by simp; omega
  obtain ⟨k, j, hk, hj, hi⟩ : ∃ k j, k < 4 ∧ j < 64 ∧ i = 64 * k + j := ⟨i / 64, i % 64, by omega, by omega, by omega⟩
  have hv := Set4.has_at s k j hk hj
  rw [← hi] at hv
  have HV := Lib.hid hv
  have hq : (i : Int) / 64 = k := by omega
  have hr : (i : Int) % 64 = j := by omega
  have HW := Lib.hid (show s.word (i / 64) = s.word k by rw [show i / 64 = k by omega])
  clear hv hi
  obtain rfl | rfl | rfl | rfl : k = 0 ∨ k = 1 ∨ k = 2 ∨ k = 3 := by omega
  all_goals
    go_enter Tryd.func19, Tryd.ntmps19
    go_wp2
    go_loop [5, 6] (fun v t => ∃ (m X : Nat), m ≤ j ∧ t = .int .i64 m ∧ v = .int .u64 X ∧ X < 18446744073709551616 ∧ Hid (X = s.word (i / 64) / 2 ^ m)) (fun _ t => j - (intOf t).toNat)
    case atStart => exact ⟨0, _, by omega, rfl, rfl, by first | exact s.ha | exact s.hb | exact s.hc | exact s.hd, Lib.hid (by rw [HW.out]; simp [Set4.word])⟩
    case round =>
      obtain ⟨m, X, hm, rfl, rfl, hX, hXe⟩ := hrel
      by_cases hlt : m < j
      · go_wp2
        go_round
        case rel => exact ⟨m + 1, X / 2, by omega, by go_num, by go_num, by omega, Lib.hid (by rw [hXe.out, half_word])⟩
        case measure => simp [intOf]; omega
      · go_wp2
        go_ret
        obtain rfl : m = j := by omega
        have e : (((X : Nat) : Int) % 2 == 1) = s.has i := by rw [HV.out, hXe.out, odd_bit, HW.out]
        exact ⟨congrArg (fun z => Ending.returned (.bool z)) e, (by repeat' (first | (with_reducible exact Below.refl _ _) | (with_reducible assumption) | (with_reducible refine Below.setCell ?_ ?_ _) | (with_reducible refine Below.ext ?_ _ ?_) | (with_reducible refine Below.alloc ?_ ?_ _) | (with_reducible refine Below.drew ?_) | (with_reducible refine Below.drewN ?_ _) | (with_reducible exact Nat.le_refl _) | (dsimp only; omega) | (simp <;> omega)))⟩
end Go.Proofs.YtdgeobofpnbenaaDoor
