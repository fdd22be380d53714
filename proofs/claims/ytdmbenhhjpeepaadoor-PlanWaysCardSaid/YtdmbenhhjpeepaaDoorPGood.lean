/- The plan's state: may it be? -/
import Derived.Test.YtdmbenhhjpeepaaDoorPSt
namespace Go.Proofs.YtdmbenhhjpeepaaDoor
open Go Go.RowKit
set_option maxRecDepth 100000
def PS.good (p : PS) : Bool :=
  decide (2 ≤ p.data ∧ p.data ≤ 30) && (!p.D.empty && (p.D.less p.H).empty && ((p.H.less p.all).empty && (p.K.less p.all).empty) && ((p.L.less (p.all.or p.ends)).empty && decide (p.L.count ≤ 2)))
set_option maxHeartbeats 1000000 in
theorem good_any (p : PS) (w : World) : Calls Tryd.prog 21 #[p.v] w fun e w' => e = .returned (.bool p.good) ∧ Below w.heap.size w w' := by
  by_cases hd : 2 ≤ p.data ∧ p.data ≤ 30
  · obtain ⟨hd1, hd2⟩ := hd
    have hg : p.good = (!p.D.empty && (p.D.less p.H).empty && ((p.H.less p.all).empty && (p.K.less p.all).empty) && ((p.L.less (p.all.or p.ends)).empty && decide (p.L.count ≤ 2))) := by unfold PS.good; rw [decide_eq_true ⟨hd1, hd2⟩, Bool.true_and]
    rw [hg]
    clear hg
    have he := fun w => ends_any p w (by omega) (by omega)
    have h1 := fun w => Empty_v p.D w
    have h2 := fun w => within_any p.D p.H w
    have h3 := fun w => within_any p.H p.all w
    have h4 := fun w => within_any p.K p.all w
    have h5 := fun w => within_any p.L (p.all.or p.ends) w
    have h6 := fun w => Count_v p.L w
    generalize p.D.empty = b1 at *
    generalize (p.D.less p.H).empty = b2 at *
    generalize (p.H.less p.all).empty = b3 at *
    generalize (p.K.less p.all).empty = b4 at *
    generalize (p.L.less (p.all.or p.ends)).empty = b5 at *
    generalize p.L.count = c at *
    have HH := Lib.hid (And.intro he (And.intro h1 (And.intro h2 (And.intro h3 (And.intro h4 (And.intro h5 h6))))))
    clear he h1 h2 h3 h4 h5 h6
    go_enter Tryd.func21, Tryd.ntmps21
    go_upto_region 1 with fail
    refine wp_world (fun w1 => w1.row w.heap.size p.cs tP ∧ Below w.heap.size w w1) ⟨World.row.new' rfl, (by repeat' (first | (with_reducible exact Below.refl _ _) | (with_reducible assumption) | (with_reducible refine Below.setCell ?_ ?_ _) | (with_reducible refine Below.ext ?_ _ ?_) | (with_reducible refine Below.alloc ?_ ?_ _) | (with_reducible refine Below.drew ?_) | (with_reducible refine Below.drewN ?_ _) | (with_reducible exact Nat.le_refl _) | (dsimp only; omega) | (simp <;> omega)))⟩ ?_
    rintro w1 ⟨r1, B1⟩
    obtain ⟨k0, m0, m1, m2, m3, m4, gl⟩ := PS.parts r1
    go_wp2_with ((refine wpList_ld (by rfl) rfl rfl (by assumption) (by first | exact rtS _ | exact rtP _ | exact rtPl _ _) ?_; simp only [Act.put, List.setIfInBounds_toArray, List.set_cons_zero, List.set_cons_succ]))
    refine Calls.pure_to (HH.out.2.1 _) ?_
    intro w2 b2
    have r2 := r1.below b2 r1.lt
    have B2 := B1.trans (b2.mono B1.size)
    clear k0 m0 m1 m2 m3 m4 gl r1 B1 b2
    obtain ⟨k0, m0, m1, m2, m3, m4, gl⟩ := PS.parts r2
    cases b1
    · go_wp2_with ((refine wpList_ld (by rfl) rfl rfl (by assumption) (by first | exact rtS _ | exact rtP _ | exact rtPl _ _) ?_; simp only [Act.put, List.setIfInBounds_toArray, List.set_cons_zero, List.set_cons_succ]))
      refine Calls.pure_to (HH.out.2.2.1 _) ?_
      intro w3 b3'
      have r3 := r2.below b3' r2.lt
      have B3 := B2.trans (b3'.mono B2.size)
      clear k0 m0 m1 m2 m3 m4 gl r2 B2 b3'
      obtain ⟨k0, m0, m1, m2, m3, m4, gl⟩ := PS.parts r3
      have hB0 : w3.heap.size ≤ w3.heap.size := Nat.le_refl _
      cases b2
      · go_wp2_with fail
        go_returns
        exact ⟨rfl, B3⟩
      · go_wp2_with fail
        cases b3
        · refine wp_region_ext w3.heap.size hB0 (by kernel_rfl) (by kernel_rfl) ?_
          intro _
          repeat (first | (refine wpQuiet_ld (by rfl) rfl rfl (by assumption) (by assumption) (by first | exact rtS _ | exact rtP _) ?_; simp only [Act.put, List.setIfInBounds_toArray, List.set_cons_zero, List.set_cons_succ]) | go_big_quiet_step ((first | with_reducible exact Calls.ext_of (data_any p _) | with_reducible exact Calls.ext_of (HH.out.2.2.2.1 _))))
          refine wpQuiet_nil ?_
          intro x
          go_wp2_with fail
          go_returns
          exact ⟨rfl, B3.ext x B3.size⟩
        · cases b4
          · refine wp_region_ext w3.heap.size hB0 (by kernel_rfl) (by kernel_rfl) ?_
            intro _
            repeat (first | (refine wpQuiet_ld (by rfl) rfl rfl (by assumption) (by assumption) (by first | exact rtS _ | exact rtP _) ?_; simp only [Act.put, List.setIfInBounds_toArray, List.set_cons_zero, List.set_cons_succ]) | go_big_quiet_step ((first | with_reducible exact Calls.ext_of (data_any p _) | with_reducible exact Calls.ext_of (HH.out.2.2.2.1 _) | with_reducible exact Calls.ext_of (HH.out.2.2.2.2.1 _))))
            refine wpQuiet_nil ?_
            intro x
            go_wp2_with fail
            go_returns
            exact ⟨rfl, B3.ext x B3.size⟩
          · refine wp_region_ext w3.heap.size hB0 (by kernel_rfl) (by kernel_rfl) ?_
            intro _
            repeat (first | (refine wpQuiet_ld (by rfl) rfl rfl (by assumption) (by assumption) (by first | exact rtS _ | exact rtP _) ?_; simp only [Act.put, List.setIfInBounds_toArray, List.set_cons_zero, List.set_cons_succ]) | go_big_quiet_step ((first | with_reducible exact Calls.ext_of (data_any p _) | with_reducible exact Calls.ext_of (HH.out.2.2.2.1 _) | with_reducible exact Calls.ext_of (HH.out.2.2.2.2.1 _))))
            refine wpQuiet_nil ?_
            intro x
            go_wp2_with fail
            refine wp_world (fun wd => wd.row w.heap.size p.cs tP ∧ Below w.heap.size w wd) ⟨r3.ext x gl, B3.ext x B3.size⟩ ?_
            clear x k0 m0 m1 m2 m3 m4 gl r3 B3 hB0
            rintro w4 ⟨r4, B4⟩
            obtain ⟨k0, m0, m1, m2, m3, m4, gl⟩ := PS.parts r4
            have hB0 : w4.heap.size ≤ w4.heap.size := Nat.le_refl _
            cases b5
            · refine wp_region_ext w4.heap.size hB0 (by kernel_rfl) (by kernel_rfl) ?_
              intro _
              repeat (first | (refine wpQuiet_ld (by rfl) rfl rfl (by assumption) (by assumption) (by first | exact rtS _ | exact rtP _) ?_; simp only [Act.put, List.setIfInBounds_toArray, List.set_cons_zero, List.set_cons_succ]) | go_big_quiet_step ((first | with_reducible exact Calls.ext_of (data_any p _) | with_reducible exact Calls.ext_of (HH.out.1 _) | with_reducible exact Calls.ext_of (Or_v _ _ _) | with_reducible exact Calls.ext_of (HH.out.2.2.2.2.2.1 _))))
              refine wpQuiet_nil ?_
              intro x
              go_wp2_with fail
              go_returns
              exact ⟨rfl, B4.ext x B4.size⟩
            · refine wp_region_ext w4.heap.size hB0 (by kernel_rfl) (by kernel_rfl) ?_
              intro _
              repeat (first | (refine wpQuiet_ld (by rfl) rfl rfl (by assumption) (by assumption) (by first | exact rtS _ | exact rtP _) ?_; simp only [Act.put, List.setIfInBounds_toArray, List.set_cons_zero, List.set_cons_succ]) | go_big_quiet_step ((first | with_reducible exact Calls.ext_of (data_any p _) | with_reducible exact Calls.ext_of (HH.out.1 _) | with_reducible exact Calls.ext_of (Or_v _ _ _) | with_reducible exact Calls.ext_of (HH.out.2.2.2.2.2.1 _) | with_reducible exact Calls.ext_of (HH.out.2.2.2.2.2.2 _))))
              refine wpQuiet_nil ?_
              intro x
              go_wp2_with fail
              go_returns
              exact ⟨by simp; omega, B4.ext x B4.size⟩
    · go_wp2_with fail
      go_returns
      exact ⟨rfl, B2⟩
  · have hg : p.good = false := by unfold PS.good; rw [decide_eq_false hd, Bool.false_and]
    rw [hg]
    clear hg
    by_cases h1 : p.data < 2
    · clear hd
      go_enter Tryd.func21, Tryd.ntmps21
      go_upto_region 1 with fail
      refine wp_world (fun w1 => w1.row w.heap.size p.cs tP ∧ Below w.heap.size w w1) ⟨World.row.new' rfl, (by repeat' (first | (with_reducible exact Below.refl _ _) | (with_reducible assumption) | (with_reducible refine Below.setCell ?_ ?_ _) | (with_reducible refine Below.ext ?_ _ ?_) | (with_reducible refine Below.alloc ?_ ?_ _) | (with_reducible refine Below.drew ?_) | (with_reducible refine Below.drewN ?_ _) | (with_reducible exact Nat.le_refl _) | (dsimp only; omega) | (simp <;> omega)))⟩ ?_
      rintro w1 ⟨r1, B1⟩
      obtain ⟨k0, _⟩ := PS.parts r1
      go_wp2_with fail
      go_returns
      exact ⟨rfl, B1⟩
    · have h2 : 30 < p.data := by omega
      clear hd
      go_enter Tryd.func21, Tryd.ntmps21
      go_upto_region 1 with fail
      refine wp_world (fun w1 => w1.row w.heap.size p.cs tP ∧ Below w.heap.size w w1) ⟨World.row.new' rfl, (by repeat' (first | (with_reducible exact Below.refl _ _) | (with_reducible assumption) | (with_reducible refine Below.setCell ?_ ?_ _) | (with_reducible refine Below.ext ?_ _ ?_) | (with_reducible refine Below.alloc ?_ ?_ _) | (with_reducible refine Below.drew ?_) | (with_reducible refine Below.drewN ?_ _) | (with_reducible exact Nat.le_refl _) | (dsimp only; omega) | (simp <;> omega)))⟩ ?_
      rintro w1 ⟨r1, B1⟩
      obtain ⟨k0, _⟩ := PS.parts r1
      go_wp2_with fail
      go_returns
      exact ⟨rfl, B1⟩
end Go.Proofs.YtdmbenhhjpeepaaDoor
