import Derived.Test.YtdgeobofpnbenaaDoorMCnt
import Derived.Test.YtdgeobofpnbenaaDoorSetB
namespace Go.Proofs.YtdgeobofpnbenaaDoor
open Go Go.RowKit
set_option maxRecDepth 100000
theorem Tab.below {w w' : World} {B : Nat} (h : Tab w) (hb : Below B w w') (hB : 0 < B) : Tab w' := fun j hj => by rw [hb.cell (p := ⟨0, j, none⟩) hB]; exact h j hj
theorem Tab.ext {w : World} {B : Nat} (h : Tab w) (x : Ext B w) (hB : 0 < B) : Tab (w.ext B x) := h.below x.below hB
theorem Tab.lt {w : World} (h : Tab w) : 0 < w.heap.size := block_lt_of_cell (h 0 (by omega))
theorem Tab.alloc {w : World} (h : Tab w) (o : Obj) : Tab (w.alloc o) := fun j hj => by rw [World.cell?_alloc_lt (w := w) (a := ⟨0, j, none⟩) (o := o) h.lt]; exact h j hj
/-- What Next answers. -/
abbrev nextV (o : Option Nat) : Value := .tuple #[.int .i64 (o.getD 0 : Nat), .bool o.isSome]
set_option maxHeartbeats 1000000 in
theorem Next_any (s : Set4) (n : Int) (w : World) (hT : Tab w) : Calls Tryd.prog 27 #[s.val, .int .i64 n] w fun e w' => e = .returned (nextV (s.next n)) ∧ Below w.heap.size w w' := by
  have hlt := hT.lt
  obtain ⟨u, hu⟩ : ∃ u, u = s.less (Set4.upto n.toNat) := ⟨_, rfl⟩
  have HU := Lib.hid hu
  have HT := Lib.hid hT
  clear hu hT
  have e : s.next n = u.first := by unfold Set4.next; rw [HU.out]
  rw [e]
  clear e
  go_enter Tryd.func27, Tryd.ntmps27
  go_wp2
  refine wp_region_ext (w.heap.size + 1) (by simp) (by kernel_rfl) (by kernel_rfl) ?_
  intro _
  repeat (go_big_quiet_step (first | exact Calls.ext_of (Upto_any n _) | exact Calls.ext_of (v := u.val) (by rw [HU.out]; exact less_any s _ _)))
  refine wpQuiet_nil ?_
  intro x
  have hA := u.ha; have hB := u.hb; have hC := u.hc; have hD := u.hd
  have HT1 := Lib.hid ((HT.out.alloc (.cells s.cells.toArray 24)).ext x (by omega))
  rcases (Decidable.em (u.word 0 = 0)).symm with z0 | z0
  ·
    have e0 : ((u.a : Int) == 0) = false := by rw [beq_cast]; exact beq_eq_false_iff_ne.2 z0
    have F := Lib.hid (Set4.first_at u 0 (by omega) (fun m hm => by omega) z0)
    have hk := (ctz_spec (u.word 0) z0 (u.word_lt 0)).1
    have Z := Lib.hid z0
    clear z0
    go_wp2
    refine wp_loop_rounds 5 ?_
    repeat (rw [rounds_succ]; go_wp2_with (go_at_call 41; refine (Trail_any _ _ (by assumption) Z.out HT1.out).mono ?_; rintro e w' ⟨rfl, rfl⟩))
    go_ret2
    refine ⟨?_, (by repeat' (first | (with_reducible exact Below.refl _ _) | (with_reducible assumption) | (with_reducible refine Below.setCell ?_ ?_ _) | (with_reducible refine Below.ext ?_ _ ?_) | (with_reducible refine Below.alloc ?_ ?_ _) | (with_reducible refine Below.drew ?_) | (with_reducible refine Below.drewN ?_ _) | (with_reducible exact Nat.le_refl _) | (dsimp only; omega) | (simp <;> omega)))⟩
    rw [F.out]
    unfold nextV
    refine congrArg (fun z => Ending.returned (.tuple #[.int .i64 z, .bool true])) (?_ : _ = ((64 * 0 + Lib.ctz 64 (u.word 0) : Nat) : Int))
    omega
  rcases (Decidable.em (u.word 1 = 0)).symm with z1 | z1
  ·
    have e0 : ((u.a : Int) == 0) = true := by rw [show u.a = 0 from z0]; rfl
    have e1 : ((u.b : Int) == 0) = false := by rw [beq_cast]; exact beq_eq_false_iff_ne.2 z1
    have F := Lib.hid (Set4.first_at u 1 (by omega) (fun m hm => by have hm2 : m = 0 := (by omega); subst hm2; assumption) z1)
    have hk := (ctz_spec (u.word 1) z1 (u.word_lt 1)).1
    have Z := Lib.hid z1
    clear z0 z1
    go_wp2
    refine wp_loop_rounds 5 ?_
    repeat (rw [rounds_succ]; go_wp2_with (go_at_call 41; refine (Trail_any _ _ (by assumption) Z.out HT1.out).mono ?_; rintro e w' ⟨rfl, rfl⟩))
    go_ret2
    refine ⟨?_, (by repeat' (first | (with_reducible exact Below.refl _ _) | (with_reducible assumption) | (with_reducible refine Below.setCell ?_ ?_ _) | (with_reducible refine Below.ext ?_ _ ?_) | (with_reducible refine Below.alloc ?_ ?_ _) | (with_reducible refine Below.drew ?_) | (with_reducible refine Below.drewN ?_ _) | (with_reducible exact Nat.le_refl _) | (dsimp only; omega) | (simp <;> omega)))⟩
    rw [F.out]
    unfold nextV
    refine congrArg (fun z => Ending.returned (.tuple #[.int .i64 z, .bool true])) (?_ : _ = ((64 * 1 + Lib.ctz 64 (u.word 1) : Nat) : Int))
    omega
  rcases (Decidable.em (u.word 2 = 0)).symm with z2 | z2
  ·
    have e0 : ((u.a : Int) == 0) = true := by rw [show u.a = 0 from z0]; rfl
    have e1 : ((u.b : Int) == 0) = true := by rw [show u.b = 0 from z1]; rfl
    have e2 : ((u.c : Int) == 0) = false := by rw [beq_cast]; exact beq_eq_false_iff_ne.2 z2
    have F := Lib.hid (Set4.first_at u 2 (by omega) (fun m hm => by have hm2 : m = 0 ∨ m = 1 := (by omega); rcases hm2 with rfl | rfl <;> assumption) z2)
    have hk := (ctz_spec (u.word 2) z2 (u.word_lt 2)).1
    have Z := Lib.hid z2
    clear z0 z1 z2
    go_wp2
    refine wp_loop_rounds 5 ?_
    repeat (rw [rounds_succ]; go_wp2_with (go_at_call 41; refine (Trail_any _ _ (by assumption) Z.out HT1.out).mono ?_; rintro e w' ⟨rfl, rfl⟩))
    go_ret2
    refine ⟨?_, (by repeat' (first | (with_reducible exact Below.refl _ _) | (with_reducible assumption) | (with_reducible refine Below.setCell ?_ ?_ _) | (with_reducible refine Below.ext ?_ _ ?_) | (with_reducible refine Below.alloc ?_ ?_ _) | (with_reducible refine Below.drew ?_) | (with_reducible refine Below.drewN ?_ _) | (with_reducible exact Nat.le_refl _) | (dsimp only; omega) | (simp <;> omega)))⟩
    rw [F.out]
    unfold nextV
    refine congrArg (fun z => Ending.returned (.tuple #[.int .i64 z, .bool true])) (?_ : _ = ((64 * 2 + Lib.ctz 64 (u.word 2) : Nat) : Int))
    omega
  rcases (Decidable.em (u.word 3 = 0)).symm with z3 | z3
  ·
    have e0 : ((u.a : Int) == 0) = true := by rw [show u.a = 0 from z0]; rfl
    have e1 : ((u.b : Int) == 0) = true := by rw [show u.b = 0 from z1]; rfl
    have e2 : ((u.c : Int) == 0) = true := by rw [show u.c = 0 from z2]; rfl
    have e3 : ((u.d : Int) == 0) = false := by rw [beq_cast]; exact beq_eq_false_iff_ne.2 z3
    have F := Lib.hid (Set4.first_at u 3 (by omega) (fun m hm => by have hm2 : m = 0 ∨ m = 1 ∨ m = 2 := (by omega); rcases hm2 with rfl | rfl | rfl <;> assumption) z3)
    have hk := (ctz_spec (u.word 3) z3 (u.word_lt 3)).1
    have Z := Lib.hid z3
    clear z0 z1 z2 z3
    go_wp2
    refine wp_loop_rounds 5 ?_
    repeat (rw [rounds_succ]; go_wp2_with (go_at_call 41; refine (Trail_any _ _ (by assumption) Z.out HT1.out).mono ?_; rintro e w' ⟨rfl, rfl⟩))
    go_ret2
    refine ⟨?_, (by repeat' (first | (with_reducible exact Below.refl _ _) | (with_reducible assumption) | (with_reducible refine Below.setCell ?_ ?_ _) | (with_reducible refine Below.ext ?_ _ ?_) | (with_reducible refine Below.alloc ?_ ?_ _) | (with_reducible refine Below.drew ?_) | (with_reducible refine Below.drewN ?_ _) | (with_reducible exact Nat.le_refl _) | (dsimp only; omega) | (simp <;> omega)))⟩
    rw [F.out]
    unfold nextV
    refine congrArg (fun z => Ending.returned (.tuple #[.int .i64 z, .bool true])) (?_ : _ = ((64 * 3 + Lib.ctz 64 (u.word 3) : Nat) : Int))
    omega
  have e0 : ((u.a : Int) == 0) = true := by rw [show u.a = 0 from z0]; rfl
  have e1 : ((u.b : Int) == 0) = true := by rw [show u.b = 0 from z1]; rfl
  have e2 : ((u.c : Int) == 0) = true := by rw [show u.c = 0 from z2]; rfl
  have e3 : ((u.d : Int) == 0) = true := by rw [show u.d = 0 from z3]; rfl
  have F := Lib.hid (Set4.first_none u (fun m hm => by have hm2 : m = 0 ∨ m = 1 ∨ m = 2 ∨ m = 3 := (by omega); rcases hm2 with rfl | rfl | rfl | rfl <;> assumption))
  clear z0 z1 z2 z3
  go_wp2
  refine wp_loop_rounds 5 ?_
  repeat (rw [rounds_succ]; go_wp2)
  go_ret2
  refine ⟨?_, (by repeat' (first | (with_reducible exact Below.refl _ _) | (with_reducible assumption) | (with_reducible refine Below.setCell ?_ ?_ _) | (with_reducible refine Below.ext ?_ _ ?_) | (with_reducible refine Below.alloc ?_ ?_ _) | (with_reducible refine Below.drew ?_) | (with_reducible refine Below.drewN ?_ _) | (with_reducible exact Nat.le_refl _) | (dsimp only; omega) | (simp <;> omega)))⟩
  rw [F.out]
  rfl
end Go.Proofs.YtdgeobofpnbenaaDoor
