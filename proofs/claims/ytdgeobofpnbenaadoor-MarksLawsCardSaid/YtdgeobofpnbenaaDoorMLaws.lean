import Derived.Test.YtdgeobofpnbenaaDoorMWakes
import Derived.Test.YtdgeobofpnbenaaDoorSetD
import Derived.Deep.DeepCutAuto
namespace Go.Proofs.YtdgeobofpnbenaaDoor
open Go Go.RowKit
set_option maxRecDepth 100000
set_option maxHeartbeats 4000000 in
theorem laws_walk (s t u : Set4) (w : World) (hT : Tab w) : Calls Tryd.prog 4 #[s.val, t.val, u.val] w fun e w' => e = .returned (.bool true) ∧ Below w.heap.size w w' := by
  have hlt := hT.lt
  have HT := Lib.hid hT
  clear hT
  go_enter Tryd.func4, Tryd.ntmps4
  go_wp2
  go_upto_region 1 with fail
  go_cut [7, 8, 9] (fun x y z wc => ∃ b0 b1 b2, x = .pointer (some ⟨b0, 0, none⟩) ∧ y = .pointer (some ⟨b1, 0, none⟩) ∧ z = .pointer (some ⟨b2, 0, none⟩) ∧ wc.row b0 s.cells 24 ∧ wc.row b1 t.cells 24 ∧ wc.row b2 u.cells 24 ∧ Below w.heap.size w wc)
  case first =>
    go_region
    all_goals
      go_wp2_with fail
      go_meet
      case rel => exact ⟨_, _, _, rfl, rfl, rfl, (by repeat' (first | (with_reducible exact World.row.new' (by simp)) | (with_reducible refine World.row.alloc ?_ _) | (with_reducible refine World.row.drew ?_) | (with_reducible refine World.row.drewN ?_ _))), (by repeat' (first | (with_reducible exact World.row.new' (by simp)) | (with_reducible refine World.row.alloc ?_ _) | (with_reducible refine World.row.drew ?_) | (with_reducible refine World.row.drewN ?_ _))), (by repeat' (first | (with_reducible exact World.row.new' (by simp)) | (with_reducible refine World.row.alloc ?_ _) | (with_reducible refine World.row.drew ?_) | (with_reducible refine World.row.drewN ?_ _))), (by repeat' (first | (with_reducible exact Below.refl _ _) | (with_reducible assumption) | (with_reducible refine Below.setCell ?_ ?_ _) | (with_reducible refine Below.ext ?_ _ ?_) | (with_reducible refine Below.alloc ?_ ?_ _) | (with_reducible refine Below.drew ?_) | (with_reducible refine Below.drewN ?_ _) | (with_reducible exact Nat.le_refl _) | (dsimp only; omega) | (simp <;> omega)))⟩
  case rest =>
    obtain ⟨b0, b1, b2, rfl, rfl, rfl, r0, r1, r2, hB⟩ := hcut
    obtain ⟨c0, c1, c2, c3, z0⟩ := r0.four
    obtain ⟨d0, d1, d2, d3, z1⟩ := r1.four
    obtain ⟨e0, e1, e2, e3, z2⟩ := r2.four
    have l0 := r0.lt; have l1 := r1.lt; have l2 := r2.lt
    have HT2 := Lib.hid (HT.out.below hB hlt)
    have h1 := Set4.or_comm t s
    have h2 := Set4.and_comm t s
    have h3 := Set4.or_assoc s t u
    have h4 := Set4.and_or s t u
    have h5 := Set4.less_or_and s t
    have h6 := Set4.less_and s t
    have k0 := Set4.count_le s; have k1 := Set4.count_le t; have k2 := Set4.count_le (s.or t); have k3 := Set4.count_le (s.and t)
    have h7 : ((s.or t).count : Int) + ((s.and t).count : Int) = (s.count : Int) + (t.count : Int) := by have := Set4.count_add s t; omega
    go_wp2
    simp only [List.append_eq, List.cons_append, List.nil_append]
    refine wp_region_ext wc.heap.size (Nat.le_refl _) (by kernel_rfl) (by kernel_rfl) ?_
    intro _
    repeat (go_big_quiet_step (first | exact Calls.ext_of (wakes_any _ (HT2.out.ext _ (by omega))) | exact Calls.ext_of (or_any _ _ _) | exact Calls.ext_of (and_any _ _ _) | exact Calls.ext_of (less_any _ _ _) | exact Calls.ext_of (Count_any _ _) | exact Calls.ext_of (Empty_any _ _)))
    refine wpQuiet_nil ?_
    intro x
    go_wp2
    go_ret
    exact ⟨rfl, hB.ext x hB.size⟩
end Go.Proofs.YtdgeobofpnbenaaDoor
