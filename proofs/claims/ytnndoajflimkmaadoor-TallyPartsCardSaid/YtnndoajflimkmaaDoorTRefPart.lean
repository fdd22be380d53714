/- Part of the document, digit by digit: its contract. -/
import Derived.Test.YtnndoajflimkmaaDoorTPartB
namespace Go.Proofs.YtnndoajflimkmaaDoor
open Go Go.RowKit
set_option maxRecDepth 100000
/-- c times a is n times the sum y, and a rest. -/
structure Digs (a y c n r : Nat) : Prop where
  eq : c * a = n * y + r
  lt : r < y
/-- One digit more. -/
theorem Digs.next {a y c n r d l : Nat} (h : Digs a y c n r) (h2 : Digs r y 10 d l) : Digs a y (10 * c) (10 * n + d) l := by
  refine ⟨?_, h2.lt⟩
  have e1 := h.eq
  have e2 := h2.eq
  rw [Nat.mul_assoc, e1, Nat.add_mul, Nat.mul_add, Nat.mul_assoc, e2]
  omega
theorem Digs.stepA {r y j d l : Nat} (h : Digs r y j d l) (hr : r < y) (hc : y - r ≤ l) : Digs r y (j + 1) (d + 1) (l - (y - r)) := by
  have e := h.eq
  refine ⟨?_, by have := h.lt; omega⟩
  rw [Nat.succ_mul, Nat.succ_mul, e]; omega
theorem Digs.stepB {r y j d l : Nat} (h : Digs r y j d l) (hc : l < y - r) : Digs r y (j + 1) d (l + r) := by
  have e := h.eq
  refine ⟨?_, by omega⟩
  rw [Nat.succ_mul, e]; omega
theorem Digs.le {a y c n r : Nat} (h : Digs a y c n r) (ha : a ≤ y) : n ≤ c := by
  have e := h.eq
  have hy : 0 < y := Nat.lt_of_le_of_lt (Nat.zero_le _) h.lt
  have h1 : n * y ≤ c * y := Nat.le_trans (by omega) (Nat.mul_le_mul_left c ha)
  exact Nat.le_of_mul_le_mul_right h1 hy
theorem Digs.quot {a y c n r : Nat} (h : Digs a y c n r) : n = c * a / y := by
  have hy : 0 < y := Nat.lt_of_le_of_lt (Nat.zero_le _) h.lt
  rw [h.eq, Nat.add_comm, Nat.add_mul_div_right _ _ hy, Nat.div_eq_of_lt h.lt, Nat.zero_add]
set_option maxHeartbeats 2000000 in
theorem refPart_yes (g a b : Nat) (k o : Int) (f : Nat → Int) (w : World) (hr : w.row g (cel f) tR) (hk0 : 0 ≤ k) (hk1 : k < 9) (ho0 : 0 ≤ o) (ho1 : o < 9) (ha : f k.toNat = a) (hb : f o.toNat = b) (h1 : (a : Int) ≤ 4611686018427387904) (h2 : (b : Int) ≤ 4611686018427387904) (hp : (0 : Int) < (a : Int) + (b : Int)) :
    Calls Tryd.prog 11 #[pt g, .int .i64 k, .int .i64 o] w fun e w' => e = .returned (.int .i64 ((1000 * a / (a + b) : Nat) : Int)) ∧ w = w' := by
  have ca := hr.cell k.toNat (cel_get f _ (by omega))
  have cb := hr.cell o.toNat (cel_get f _ (by omega))
  rw [ha] at ca
  rw [hb] at cb
  have e1 : (k < 0) = False := eq_false (by omega)
  have e2 : (9 ≤ k) = False := eq_false (by omega)
  have e3 : (o < 0) = False := eq_false (by omega)
  have e4 : (9 ≤ o) = False := eq_false (by omega)
  obtain ⟨y, hy⟩ : ∃ y, y = a + b := ⟨_, rfl⟩
  rw [← hy]
  have ey : (a : Int) + (b : Int) = (y : Int) := by omega
  have hy0 : (0 : Int) < (y : Int) := by omega
  have hy1 : (y : Int) ≤ 9223372036854775808 := by omega
  have hne : ((y : Int) == 0) = false := beq_eq_false_iff_ne.2 (by omega)
  have hay : (a : Int) ≤ (y : Int) := by omega
  clear ha hb hr hy
  go_enter Tryd.func11, Tryd.ntmps11
  have HEY := Lib.hid ey
  have D0 : Hid (∃ n r : Nat, Digs a y 1 n r ∧ (n : Int) = (if (y : Int) ≤ (a : Int) then 1 else 0) ∧ (r : Int) = (if (y : Int) ≤ (a : Int) then (a : Int) - (y : Int) else (a : Int))) := Lib.hid (by
    by_cases hge : (y : Int) ≤ (a : Int)
    · exact ⟨1, a - y, ⟨by omega, by omega⟩, by rw [if_pos hge]; rfl, by rw [if_pos hge]; omega⟩
    · exact ⟨0, a, ⟨by omega, by omega⟩, by rw [if_neg hge]; rfl, by rw [if_neg hge]⟩)
  by_cases hge : (y : Int) ≤ (a : Int)
  all_goals (
    obtain ⟨n0, r0, HD, hn0, hr0⟩ := D0.out
    first | simp only [if_pos hge] at hn0 hr0 | simp only [if_neg hge] at hn0 hr0
    have HDD := Lib.hid HD
    have HN0 := Lib.hid hn0
    have HR0 := Lib.hid hr0
    clear HD hn0 hr0 D0
    go_wp2_with fail
    go_loopw [10, 11, 12] (fun n r i wr => ∃ (m c n1 r1 : Nat), m ≤ 3 ∧ c = 10 ^ m ∧ n = .int .i64 n1 ∧ r = .int .u64 r1 ∧ i = .int .i64 m ∧ Digs a y c n1 r1 ∧ w = wr) (fun _ _ i _ => 3 - (intOf i).toNat)
    case atStart => exact ⟨0, 1, n0, r0, by omega, rfl, by rw [HN0.out], by rw [HR0.out], rfl, HDD.out, rfl⟩
    case round =>
      obtain ⟨m, c, n1, r1, hm, hc, rfl, rfl, rfl, hD, rfl⟩ := hrel
      have HC := Lib.hid hc
      have hcb : c ≤ 1000 := by
        rw [hc]
        exact Nat.le_trans (Nat.pow_le_pow_right (by decide) hm) (by decide)
      have hn1 := hD.le (by omega)
      have in1 : (n1 : Int) ≤ 1000 := by omega
      have ir1 : (r1 : Int) < (y : Int) := by have := hD.lt; omega
      have HD1 := Lib.hid hD
      clear hc hcb hn1 hD
      by_cases hlt : m < 3
      · go_wp2_with fail
        go_loopw [13, 14, 15] (fun d l j wr => ∃ (j1 d1 l1 : Nat), j1 ≤ 10 ∧ d = .int .i64 d1 ∧ l = .int .u64 l1 ∧ j = .int .i64 j1 ∧ Digs r1 y j1 d1 l1 ∧ w = wr) (fun _ _ j _ => 10 - (intOf j).toNat)
        case atStart => exact ⟨0, 0, 0, by omega, rfl, rfl, rfl, ⟨by omega, by omega⟩, rfl⟩
        case round =>
          obtain ⟨j1, d1, l1, hj, rfl, rfl, rfl, hG, rfl⟩ := hrel
          have hd1 := hG.le (by omega)
          have id1 : (d1 : Int) ≤ 10 := by omega
          have il1 : (l1 : Int) < (y : Int) := by have := hG.lt; omega
          have HG := Lib.hid hG
          clear hG hd1
          by_cases hj10 : j1 < 10
          · by_cases hcc : (y : Int) - (r1 : Int) ≤ (l1 : Int)
            · go_wp2_with fail
              go_roundw
              case rel => exact ⟨j1 + 1, d1 + 1, l1 - (y - r1), by omega, by go_num, by go_num, by go_num, HG.out.stepA HD1.out.lt (by omega), trivial⟩
              case measure => simp [intOf] <;> omega
            · go_wp2_with fail
              go_roundw
              case rel => exact ⟨j1 + 1, d1, l1 + r1, by omega, by go_num, by go_num, by go_num, HG.out.stepB (by omega), trivial⟩
              case measure => simp [intOf] <;> omega
          · have ej : j1 = 10 := by omega
            have HG2 := Lib.hid (HD1.out.next (ej ▸ HG.out))
            clear ej HG
            go_wp2_with fail
            go_roundw
            case rel => exact ⟨m + 1, 10 * c, 10 * n1 + d1, l1, by omega, by rw [HC.out, Nat.pow_succ, Nat.mul_comm], by go_num, by go_num, by go_num, HG2.out, trivial⟩
            case measure => simp [intOf] <;> omega
      · go_wp2_with fail
        go_returns
        have em : m = 3 := by omega
        have e := HD1.out.quot
        rw [HC.out, em] at e
        refine ⟨?_, rfl⟩
        rw [show (1000 : Nat) = 10 ^ 3 from rfl, ← e]
        rfl)
end Go.Proofs.YtnndoajflimkmaaDoor
