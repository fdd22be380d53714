import Derived.Test.YtdgeobofpnbenaaDoorMBoth
import Derived.Test.YtdgeobofpnbenaaDoorMRefL
import Derived.Test.YtdgeobofpnbenaaDoorMWakes
import Derived.Deep.DeepCutAuto
namespace Go.Proofs.YtdgeobofpnbenaaDoor
open Go Go.RowKit
set_option maxRecDepth 100000
/-- The length of an owned row. -/
theorem own_slice {w : World} {B : Nat} {E : TypeId} {v : Value} {n : Nat} {xs : List Value} (h : w.ownsRow B E 1 v n xs) : ∃ a c, v = .slice a n c := by
  rcases h.2 with ⟨h1, rfl⟩ | ⟨g, cap, cur, h1, _⟩
  · exact ⟨_, _, h1⟩
  · exact ⟨_, _, h1⟩
theorem empty_count (s : Set4) : s.empty = ((s.count : Int) == 0) := by
  rw [← list_count]
  cases h : s.empty with
  | true =>
    have := (Set4.empty_iff s).1 h
    subst this
    have e : Set4.zero.list = [] := List.filter_eq_nil_iff.2 fun i _ => by rw [Set4.has_zero]; simp
    rw [e]; rfl
  | false =>
    cases hl : s.list with
    | nil =>
      exfalso
      have e : s = Set4.zero := Set4.ext_has fun i hi => by
        rw [Set4.has_zero]
        have := List.filter_eq_nil_iff.1 hl i (List.mem_range.2 hi)
        simpa using this
      rw [(Set4.empty_iff s).2 e] at h; cases h
    | cons a l =>
      symm
      exact beq_eq_false_iff_ne.2 (by simp; omega)
set_option maxHeartbeats 4000000 in
theorem both_walk (s t : Set4) (w : World) (hT : Tab w) : Calls Tryd.prog 3 #[s.val, t.val] w fun e w' => e = .returned (.bool true) ∧ Below w.heap.size w w' := by
  have hlt := hT.lt
  have HT := Lib.hid hT
  clear hT
  go_enter Tryd.func3, Tryd.ntmps3
  go_wp2
  go_upto_region 1 with fail
  go_cut [5, 6] (fun x y wc => ∃ b0 b1, x = .pointer (some ⟨b0, 0, none⟩) ∧ y = .pointer (some ⟨b1, 0, none⟩) ∧ wc.row w.heap.size s.cells 23 ∧ wc.row (w.heap.size + 1) t.cells 23 ∧ wc.row b0 s.cells 24 ∧ wc.row b1 t.cells 24 ∧ Below w.heap.size w wc)
  case first =>
    go_region
    all_goals
      go_wp2_with fail
      go_meet
      case rel => exact ⟨_, _, rfl, rfl, (by repeat' (first | (with_reducible exact World.row.new' (by simp)) | (with_reducible refine World.row.alloc ?_ _) | (with_reducible refine World.row.drew ?_) | (with_reducible refine World.row.drewN ?_ _))), (by repeat' (first | (with_reducible exact World.row.new' (by simp)) | (with_reducible refine World.row.alloc ?_ _) | (with_reducible refine World.row.drew ?_) | (with_reducible refine World.row.drewN ?_ _))), (by repeat' (first | (with_reducible exact World.row.new' (by simp)) | (with_reducible refine World.row.alloc ?_ _) | (with_reducible refine World.row.drew ?_) | (with_reducible refine World.row.drewN ?_ _))), (by repeat' (first | (with_reducible exact World.row.new' (by simp)) | (with_reducible refine World.row.alloc ?_ _) | (with_reducible refine World.row.drew ?_) | (with_reducible refine World.row.drewN ?_ _))), (by repeat' (first | (with_reducible exact Below.refl _ _) | (with_reducible assumption) | (with_reducible refine Below.setCell ?_ ?_ _) | (with_reducible refine Below.ext ?_ _ ?_) | (with_reducible refine Below.alloc ?_ ?_ _) | (with_reducible refine Below.drew ?_) | (with_reducible refine Below.drewN ?_ _) | (with_reducible exact Nat.le_refl _) | (dsimp only; omega) | (simp <;> omega)))⟩
  case rest =>
    obtain ⟨b0, b1, rfl, rfl, q0, q1, r0, r1, hB⟩ := hcut
    obtain ⟨a0, a1, a2, a3, y0⟩ := q0.four
    go_wp2_with fail
    refine (refList_any s _).mono ?_
    rintro e w1 ⟨⟨v, rfl, ho⟩, hb1⟩
    obtain ⟨a, c, rfl⟩ := own_slice ho
    have hB1 := hB.trans (hb1.mono hB.size)
    have p0 := q0.below hb1 q0.lt; have p1 := q1.below hb1 q1.lt; have s0 := r0.below hb1 r0.lt; have s1 := r1.below hb1 r1.lt
    clear q0 q1 r0 r1 hB hb1 ho a0 a1 a2 a3 y0
    obtain ⟨a0, a1, a2, a3, y0⟩ := p0.four
    obtain ⟨b0', b1', b2, b3, y1⟩ := p1.four
    obtain ⟨c0, c1, c2, c3, z0⟩ := s0.four
    obtain ⟨d0, d1, d2, d3, z1⟩ := s1.four
    have l0 := p0.lt; have l1 := p1.lt; have l2 := s0.lt; have l3 := s1.lt
    have HT2 := Lib.hid (HT.out.below hB1 hlt)
    rw [list_count]
    have h1 : (s.empty == ((s.count : Int) == 0)) = true := by rw [empty_count]; exact beq_self_eq_true _
    have e0 : both 0 s t = s.or t := rfl
    have e1 : both 1 s t = s.and t := rfl
    have e2 : both 2 s t = s.less t := rfl
    go_wp2
    refine wp_region_ext w1.heap.size (Nat.le_refl _) (by kernel_rfl) (by kernel_rfl) ?_
    intro _
    repeat (go_big_quiet_step (first | with_reducible exact Calls.ext_of (wakes_any _ (HT2.out.ext _ (by omega))) | with_reducible exact Calls.ext_of (or_any _ _ _) | with_reducible exact Calls.ext_of (and_any _ _ _) | with_reducible exact Calls.ext_of (less_any _ _ _) | with_reducible exact Calls.ext_of (Count_any _ _) | with_reducible exact Calls.ext_of (Empty_any _ _) | with_reducible exact Calls.ext_of (Both_any _ _ _ _ (by decide))))
    refine wpQuiet_nil ?_
    intro x
    go_wp2
    go_ret
    exact ⟨rfl, hB1.ext x hB1.size⟩
end Go.Proofs.YtdgeobofpnbenaaDoor
