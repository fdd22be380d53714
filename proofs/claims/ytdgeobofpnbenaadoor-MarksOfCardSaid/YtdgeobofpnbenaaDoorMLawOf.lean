import Derived.Test.YtdgeobofpnbenaaDoorMEq
import Derived.Test.YtdgeobofpnbenaaDoorMWakes
namespace Go.Proofs.YtdgeobofpnbenaaDoor
open Go Go.RowKit
set_option maxRecDepth 100000
set_option maxHeartbeats 4000000 in
theorem of_walk (a : Option Addr) (m c : Nat) (xs : List Int) (s : Set4) (i : Int) (w : World) (hT : Tab w) (hrd : w.rd (.slice a m c) (ints xs)) (hlen : xs.length = m) (hm : m ≤ c) (hc : c ≤ 9223372036854775807) (hnil : a = none → m = 0 ∧ c = 0) :
    Calls Tryd.prog 5 #[.slice a m c, s.val, .int .i64 i] w fun e w' => e = .returned (.bool true) ∧ Below w.heap.size w w' := by
  have hlt := hT.lt
  have HT := Lib.hid hT
  clear hT
  obtain ⟨k2, hk2⟩ : ∃ k2, bits .and .i64 i 255 = k2 := ⟨_, rfl⟩
  have HR : Hid (w.rd (.slice a (min m 300) c) (ints (xs.take 300))) := by
    have e : (ints xs).take (min m 300) = ints (xs.take 300) := by
      unfold ints
      rw [← List.map_take, ← hlen]
      congr 1
      by_cases h : xs.length ≤ 300
      · rw [Nat.min_eq_left h, List.take_length, List.take_of_length_le h]
      · rw [Nat.min_eq_right (by omega)]
    rw [← e]
    exact hrd.cut (min m 300) (by unfold ints; simp; omega) rfl
  obtain ⟨n, hn⟩ : ∃ n, n = min m 300 := ⟨_, rfl⟩
  rw [← hn] at HR
  have hnm : n ≤ m := by omega
  have hmin : (if 300 < (m : Int) then (300 : Int) else (m : Int)) = (n : Int) := by split <;> omega
  have hxs : (xs.take 300).length ≤ 300 := by rw [List.length_take]; omega
  have HX := Lib.hid hxs
  clear hrd hxs
  cases a
  case' none =>
    obtain ⟨rfl, rfl⟩ := hnil rfl
    obtain rfl : n = 0 := by omega
    clear hn hmin hnm hm hc hlen hnil
    go_enter Tryd.func5, Tryd.ntmps5
    go_wp2
  case' some ad =>
    clear hn hlen hnil
    go_enter Tryd.func5, Tryd.ntmps5
    go_wp2
  all_goals
    refine wp_world (fun wr => Below w.heap.size w wr ∧ wr.row w.heap.size s.cells 23 ∧ wr.row (w.heap.size + 1) [.int .i64 i, .int .i64 k2] 3) ⟨(by repeat' (first | (with_reducible exact Below.refl _ _) | (with_reducible assumption) | (with_reducible refine Below.setCell ?_ ?_ _) | (with_reducible refine Below.ext ?_ _ ?_) | (with_reducible refine Below.alloc ?_ ?_ _) | (with_reducible refine Below.drew ?_) | (with_reducible refine Below.drewN ?_ _) | (with_reducible exact Nat.le_refl _) | (dsimp only; omega) | (simp <;> omega))), (by repeat' (first | (with_reducible exact World.row.new' (by simp)) | (with_reducible refine World.row.alloc ?_ _) | (with_reducible refine World.row.drew ?_) | (with_reducible refine World.row.drewN ?_ _))), (by repeat' (first | (with_reducible exact World.row.new' (by simp)) | (with_reducible refine World.row.alloc ?_ _) | (with_reducible refine World.row.drew ?_) | (with_reducible refine World.row.drewN ?_ _)))⟩ ?_
    intro wr ⟨hB, r0, r1⟩
    refine wp_loop_rounds 3 ?_
    rw [rounds_succ]
    obtain ⟨c0, c1, c2, c3, z0⟩ := r0.four
    obtain ⟨d0, d1, z1⟩ := r1.two
    have l0 := r0.lt
    go_wp2
    refine wp_region_ext wr.heap.size (Nat.le_refl _) (by kernel_rfl) (by kernel_rfl) ?_
    intro _
    repeat (go_big_quiet_step (first | with_reducible exact Calls.ext_of (Upto_any i _) | with_reducible exact Calls.ext_of (refUpto_any i _) | with_reducible exact Calls.ext_of (Has_any s i _) | with_reducible exact Calls.ext_of (refHas_any s i _) | with_reducible exact Calls.ext_of (With_any s i _) | with_reducible exact Calls.ext_of (Without_any s i _) | with_reducible exact Calls.ext_of (refChange_any s i _ _)))
    refine wpQuiet_nil ?_
    intro x
    go_wp2
    refine rounds_world (fun wr => Below w.heap.size w wr ∧ wr.row w.heap.size s.cells 23 ∧ wr.row (w.heap.size + 1) [.int .i64 i, .int .i64 k2] 3) ⟨hB.ext x hB.size, r0.ext x l0, r1.ext x r1.lt⟩ ?_
    clear x c0 c1 c2 c3 z0 d0 d1 z1 l0 hB r0 r1
    rename_i _inst
    clear _inst
    intro wq ⟨hB, r0, r1⟩
    rw [rounds_succ]
    obtain ⟨c0, c1, c2, c3, z0⟩ := r0.four
    obtain ⟨d0, d1, z1⟩ := r1.two
    have l0 := r0.lt
    go_wp2
    refine wp_region_ext wq.heap.size (Nat.le_refl _) (by kernel_rfl) (by kernel_rfl) ?_
    intro _
    repeat (go_big_quiet_step (first | with_reducible exact Calls.ext_of (Upto_any k2 _) | with_reducible exact Calls.ext_of (refUpto_any k2 _) | with_reducible exact Calls.ext_of (Has_any s k2 _) | with_reducible exact Calls.ext_of (refHas_any s k2 _) | with_reducible exact Calls.ext_of (With_any s k2 _) | with_reducible exact Calls.ext_of (Without_any s k2 _) | with_reducible exact Calls.ext_of (refChange_any s k2 _ _)))
    refine wpQuiet_nil ?_
    intro x
    go_wp2
    refine rounds_world (fun wr => Below w.heap.size w wr) (hB.ext x hB.size) ?_
    clear x c0 c1 c2 c3 z0 d0 d1 z1 l0 hB r0 r1
    rename_i _inst
    clear _inst
    intro wq2 hB
    rw [rounds_succ]
    go_wp2_with fail
    refine Calls.pure_to (wakes_any _ (HT.out.below hB hlt)) ?_
    intro w3 hb3
    have hB3 := hB.trans (hb3.mono hB.size)
    have R3 := Lib.hid (HR.out.below hB3 (Nat.le_refl _))
    go_wp2_with fail
    refine Calls.pure_to (Of_rd _ _ _ R3.out HX.out) ?_
    intro w4 hb4
    have hB4 := hB3.trans (hb4.mono hB3.size)
    have R4 := Lib.hid (HR.out.below hB4 (Nat.le_refl _))
    go_wp2_with fail
    refine Calls.pure_to (refOf_rd _ _ _ R4.out HX.out) ?_
    intro w5 hb5
    have hB5 := hB4.trans (hb5.mono hB4.size)
    go_wp2
    go_ret
    exact ⟨rfl, hB5⟩
end Go.Proofs.YtdgeobofpnbenaaDoor
