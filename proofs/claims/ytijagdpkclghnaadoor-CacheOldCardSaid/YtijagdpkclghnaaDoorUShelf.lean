/- slices.Index, Contains, Delete off the shelf, and the row's 'out': contracts over owned rows. -/
import Derived.Shelf.SlGeneric
import Derived.Ground.SlgnProg
import Derived.Shelf.SlicesG.Turned
import Derived.Test.YtijagdpkclghnaaDoorRows
import Derived.Test.YtijagdpkclghnaaDoorProg
import Derived.Test.YtijagdpkclghnaaDoorURow
import Derived.Handy
import Derived.Lib.Hide
namespace Go.Proofs.YtijagdpkclghnaaDoor
open Go Go.RowKit Go.Shelf
set_option maxRecDepth 100000
shelf_lay_g SlLaysN.n29 Slgn 29 at Tryd 69 as idxL
shelf_lay_g SlLaysN.n31 Slgn 31 at Tryd 68 as conL
shelf_lay_g SlLaysN.n45 Slgn 45 at Tryd 70 as delL
variable {w : World} {B : Nat}
abbrev tI : TypeId := 3
theorem idx_any {v : Value} {xs : List Int} (x : Int) (h : w.irow B tI v xs) : Calls Tryd.prog 69 #[v, .int .i64 x] w fun e w' => e = .returned (.int .i64 (Lib.idxOf xs x)) ∧ w = w' := by
  rcases h.form with ⟨rfl, rfl⟩ | ⟨g, cap, rfl, _⟩
  · exact (AnyG.slices_Index_int_empty idxL none 0 x w).mono fun e w' ⟨h1, h2⟩ => ⟨h1, h2.symm⟩
  · obtain ⟨_, h1, h2, _, _, hc, _⟩ := h.cellD
    have := AnyG.slices_Index_int idxL g 0 xs.length cap xs x w (Nat.le_refl _) (by unfold maxLen at h2; omega) hc
    rw [List.take_of_length_le (Nat.le_refl _)] at this
    exact this.mono fun e w' ⟨h1, h2⟩ => ⟨h1, h2.symm⟩
theorem con_any {v : Value} {xs : List Int} (x : Int) (h : w.irow B tI v xs) : Calls Tryd.prog 68 #[v, .int .i64 x] w fun e w' => e = .returned (.bool (xs.contains x)) ∧ w = w' := by
  rcases h.form with ⟨rfl, rfl⟩ | ⟨g, cap, rfl, _⟩
  · exact (AnyG.slices_Contains_int_empty conL none 0 x w).mono fun e w' ⟨h1, h2⟩ => ⟨h1, h2.symm⟩
  · obtain ⟨_, h1, h2, _, _, hc, _⟩ := h.cellD
    have := AnyG.slices_Contains_int conL g 0 xs.length cap xs x w (Nat.le_refl _) (by unfold maxLen at h2; omega) hc
    rw [List.take_of_length_le (Nat.le_refl _)] at this
    exact this.mono fun e w' ⟨h1, h2⟩ => ⟨h1, h2.symm⟩
theorem del_any {g n cap : Nat} {xs : List Int} (i j : Nat) (h : w.irow B tI (.slice (some ⟨g, 0, none⟩) n cap) xs) (hi : i < xs.length) (hj : j = i + 1) :
    Calls Tryd.prog 70 #[.slice (some ⟨g, 0, none⟩) n cap, .int .i64 (i : Int), .int .i64 (j : Int)] w fun e w' => e = .returned (.slice (some ⟨g, 0, none⟩) (n - 1) cap) ∧ w'.irow B tI (.slice (some ⟨g, 0, none⟩) (n - 1) cap) (xs.eraseIdx i) ∧ w.grownBy w' (some g) := by
  subst hj
  obtain ⟨rfl, h1, h2, _, _, hc, hz⟩ := h.cellD
  have hH : Sort.Holds (Value.int .i64) w g 0 xs.toArray := fun j hj => by
    have hj' : j < xs.length := by simpa using hj
    refine ⟨?_, hz (0 + j)⟩
    rw [hc j hj']
    congr 2
    rw [getElem!_def]
    simp [List.getD, hj']
  refine (AnyG.slices_Delete_int delL g 0 cap i (i + 1) xs w hH h1 (by unfold maxLen at h2; omega) (by omega) (by omega)).mono ?_
  rintro e w' ⟨he, q, rfl⟩
  have e1 : xs.length - (i + 1 - i) = xs.length - 1 := by omega
  obtain ⟨c1, c2⟩ := h.cut hi q
  rw [e1] at he c1
  exact ⟨he, c1, c2⟩
theorem idxFrom_spec (x : Int) : ∀ (zs : List Int) (i : Nat), (zs.contains x = false ∧ Lib.idxFrom zs x i = -1) ∨ ∃ k, k < zs.length ∧ Lib.idxFrom zs x i = ((i + k : Nat) : Int) ∧ zs.eraseIdx k = zs.erase x ∧ zs.contains x = true
  | [], i => .inl ⟨rfl, rfl⟩
  | z :: zs, i => by
    by_cases e : z = x
    · subst e
      exact .inr ⟨0, by simp, by simp [Lib.idxFrom], by simp, by simp⟩
    · have e2 : (z == x) = false := beq_eq_false_iff_ne.2 e
      have e3 : (x == z) = false := beq_eq_false_iff_ne.2 (Ne.symm e)
      have e4 : Lib.idxFrom (z :: zs) x i = Lib.idxFrom zs x (i + 1) := by simp [Lib.idxFrom, e]
      rcases idxFrom_spec x zs (i + 1) with ⟨h1, h2⟩ | ⟨k, h1, h2, h3, h4⟩
      · exact .inl ⟨by rw [List.contains_cons, e3, h1]; rfl, by rw [e4, h2]⟩
      · refine .inr ⟨k + 1, by simp; omega, by rw [e4, h2]; congr 1; omega, ?_, by rw [List.contains_cons, h4]; simp⟩
        rw [List.eraseIdx_cons_succ, h3, List.erase_cons, e2]
        simp
theorem out_any {v : Value} {xs : List Int} (x : Int) (h : w.irow B tI v xs) (hb : xs.length ≤ 1000) :
    Calls Tryd.prog 56 #[v, .int .i64 x] w fun e w' => ∃ v', e = .returned (.tuple #[v', .bool (xs.contains x)]) ∧ w'.irow B tI v' (xs.erase x) ∧ v'.ownBlock = v.ownBlock ∧ w.grownBy w' v.ownBlock := by
  rcases idxFrom_spec x xs 0 with ⟨h1, h2⟩ | ⟨k, h1, h2, h3, h4⟩
  · have hx : xs.erase x = xs := List.erase_of_not_mem (by simpa using h1)
    rw [hx, h1]
    go_enter Tryd.func56, Tryd.ntmps56
    go_wp2_with fail
    refine (idx_any x h).mono ?_
    rintro e w' ⟨rfl, rfl⟩
    rw [show Lib.idxOf xs x = -1 from h2]
    go_wp2_with fail
    go_ret2
    exact ⟨v, rfl, h, rfl, World.grownBy.refl _ _⟩
  · rw [h4, ← h3]
    rcases h.form with ⟨_, rfl⟩ | ⟨g, cap, rfl, _⟩
    · simp at h1
    obtain ⟨j, hj⟩ : ∃ j, j = k + 1 := ⟨_, rfl⟩
    have ej : (k : Int) + 1 = (j : Int) := by omega
    have hk : k < 1000 := by omega
    have HJ := Go.Lib.hid hj
    clear hj
    go_enter Tryd.func56, Tryd.ntmps56
    go_wp2_with fail
    refine (idx_any x h).mono ?_
    rintro e w' ⟨rfl, rfl⟩
    rw [show Lib.idxOf xs x = (k : Int) by rw [show Lib.idxOf xs x = Lib.idxFrom xs x 0 from rfl, h2, Nat.zero_add]]
    go_wp2_with fail
    refine (del_any k j h h1 HJ.out).mono ?_
    rintro e w' ⟨rfl, c1, c2⟩
    go_wp2_with fail
    go_ret2
    exact ⟨_, rfl, c1, rfl, c2⟩
end Go.Proofs.YtijagdpkclghnaaDoor
