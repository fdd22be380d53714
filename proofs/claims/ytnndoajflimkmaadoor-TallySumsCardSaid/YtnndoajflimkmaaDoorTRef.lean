/- Add and Note of the document: contracts. -/
import Derived.Test.YtnndoajflimkmaaDoorTBars
namespace Go.Proofs.YtnndoajflimkmaaDoor
open Go Go.RowKit
set_option maxRecDepth 100000
theorem refAdd_any (g : Nat) (k n : Int) (f : Nat → Int) (w : World) (hr : w.row g (cel f) tR) (hf : Fine f) (hn : n ≤ 9223372036854775807) :
    Calls Tryd.prog 9 #[pt g, .int .i64 k, .int .i64 n] w fun e w' => e = .returned (.tuple #[]) ∧ Turned w w' g (cel (addS f k n)) tR := by
  go_enter Tryd.func9, Tryd.ntmps9
  by_cases hk : 0 ≤ k ∧ k < 9
  · have h0 := hk.1
    have h1 := hk.2
    have e1 : (k < 0) = False := eq_false (by omega)
    have e2 : (9 ≤ k) = False := eq_false (by omega)
    by_cases hp : 0 < n
    · have e3 : (n ≤ 0) = False := eq_false (by omega)
      have hc := hr.cell k.toNat (cel_get f k.toNat (by omega))
      have hfz := hr.free k.toNat
      have hlo := hf.lo k.toNat
      have hhi : f k.toNat ≤ 4611686018427387904 := hf.hi k.toNat (by omega)
      have hw4 : wrap64 (4611686018427387904 - f k.toNat) = 4611686018427387904 - f k.toNat := by unfold wrap64; omega
      have HA : Hid (addS f k n = put f k.toNat (upS (f k.toNat) n)) := Lib.hid (by unfold addS; rw [if_pos ⟨hk.1, hk.2, hp⟩])
      by_cases hg : 4611686018427387904 - f k.toNat < n
      · have e4 : decide (4611686018427387904 - f k.toNat < n) = true := decide_eq_true hg
        go_wp2
        all_goals (try (exfalso; omega))
        go_returns
        refine ⟨rfl, ?_⟩
        rw [HA.out, show upS (f k.toNat) n = 4611686018427387904 by unfold upS GR; omega, ← cel_set]
        exact Turned.set hr _ _
      · have e4 : decide (4611686018427387904 - f k.toNat < n) = false := decide_eq_false hg
        go_upto_region 3 with fail
        refine wp_region_ext_head 13 w.heap.size (Nat.le_refl _) (by kernel_rfl) (by kernel_rfl) ?_
        intro _
        simp only [List.take_succ_cons, List.take_zero, List.drop_succ_cons, List.drop_zero]
        have hlt := hr.lt
        repeat (go_big_quiet_step (fail))
        refine wpQuiet_nil ?_
        intro x
        have hrx := hr.ext x hr.lt
        have T0 : Turned w (w.ext w.heap.size x) g (cel f) tR := Turned.of_below hr (World.ext_below x)
        go_wp2_with fail
        go_returns
        refine ⟨rfl, ?_⟩
        rw [HA.out, show upS (f k.toNat) n = f k.toNat + n by unfold upS GR; omega, ← cel_set]
        exact T0.trans (Turned.set hrx _ _)
    · have e3 : (n ≤ 0) = True := eq_true (by omega)
      go_wp2
      go_returns
      rw [show addS f k n = f by unfold addS; rw [if_neg (by omega)]]
      exact ⟨rfl, Turned.same hr⟩
  · have hx : addS f k n = f := by unfold addS; rw [if_neg (by omega)]
    by_cases h0 : k < 0
    · go_wp2
      go_returns
      exact ⟨rfl, by first | exact Turned.same hr | (rw [hx]; exact Turned.same hr)⟩
    · have e2 : (9 ≤ k) = True := eq_true (by omega)
      go_wp2
      go_returns
      exact ⟨rfl, by first | exact Turned.same hr | (rw [hx]; exact Turned.same hr)⟩
theorem bl_half (n : Int) (h : 0 < n) (h1 : n ≤ 9223372036854775807) : bl n = 1 + bl (n / 2) := by
  unfold bl
  rw [Lib.bitLen_half (max 0 n).toNat (by omega) (by omega)]
  congr 2
  omega
theorem refNote_any (g : Nat) (s : Int) (f : Nat → Int) (w : World) (hr : w.row g (cel f) tR) (hf : Fine f) (hs : s ≤ 9223372036854775807) (hb : f (9 + bl s) < 4611686018427387904) :
    Calls Tryd.prog 19 #[pt g, .int .i64 s] w fun e w' => e = .returned (.tuple #[]) ∧ Turned w w' g (cel (noteS f s)) tR := by
  have hbl := bl_lt s hs
  go_enter Tryd.func19, Tryd.ntmps19
  go_wp2_with fail
  go_loopw [4, 5] (fun b x wr => ∃ (i : Nat) (n : Int), b = .int .i64 i ∧ x = .int .i64 n ∧ w = wr ∧ i + bl n = bl s ∧ n ≤ 9223372036854775807) (fun _ x _ => (intOf x).toNat)
  case atStart => exact ⟨0, s, rfl, rfl, rfl, by omega, hs⟩
  case round =>
    obtain ⟨i, n, rfl, rfl, rfl, hi, hn⟩ := hrel
    by_cases hp : 0 < n
    · have e1 : decide (0 < n) = true := decide_eq_true hp
      have hh := bl_half n hp hn
      have ed : n.tdiv 2 = n / 2 := by rw [Int.tdiv_eq_ediv_of_nonneg (by omega)]
      go_wp2_with fail
      go_roundw
      case rel => exact ⟨i + 1, n / 2, by go_num, by go_num, trivial, by omega, by omega⟩
      case measure => simp [intOf] <;> omega
    · have e1 : decide (0 < n) = false := decide_eq_false hp
      have e0 : bl n = 0 := by
        unfold bl
        rw [show (max 0 n).toNat = 0 by omega]
        rfl
      have ei : i = bl s := by omega
      subst ei
      have hlt := hr.lt
      have hc := hr.cell (9 + bl s) (cel_get f (9 + bl s) (by omega))
      have hlo := hf.lo (9 + bl s)
      have HN : Hid (noteS f s = put (put f (9 + bl s) (f (9 + bl s) + 1)) 73 (max (f 73) s)) := Lib.hid (by unfold noteS; rw [show upS (f (9 + bl s)) 1 = f (9 + bl s) + 1 by unfold upS GR; omega])
      have hh73 := hf.top
      have hl73 := hf.lo 73
      clear hi e0
      go_upto_region 5 with fail
      refine wp_region_ext_head 12 w.heap.size (Nat.le_refl _) (by kernel_rfl) (by kernel_rfl) ?_
      intro _
      simp only [List.take_succ_cons, List.take_zero, List.drop_succ_cons, List.drop_zero]
      repeat (go_big_quiet_step (fail))
      refine wpQuiet_nil ?_
      intro x
      have hrx := hr.ext x hr.lt
      have hfz := hrx.free (9 + bl s)
      have T0 : Turned w (w.ext w.heap.size x) g (cel f) tR := Turned.of_below hr (World.ext_below x)
      have T1 := T0.trans (Turned.set hrx (9 + bl s) (.int .i64 (f (9 + bl s) + 1)))
      rw [cel_set] at T1
      have r1 := T1.rowOf
      have c73 := r1.cell 73 (cel_get _ 73 (by omega))
      rw [put_ne f _ 73 _ (by omega)] at c73
      have z73 := r1.free 73
      by_cases hg : f 73 < s
      · have e4 : decide (f 73 < s) = true := decide_eq_true hg
        go_wp2_with fail
        go_returns
        refine ⟨rfl, ?_⟩
        rw [HN.out, show max (f 73) s = s by omega, ← cel_set]
        exact T1.trans (Turned.set r1 _ _)
      · have e4 : decide (f 73 < s) = false := decide_eq_false hg
        go_wp2_with fail
        go_returns
        refine ⟨rfl, ?_⟩
        rw [HN.out, show max (f 73) s = f 73 by omega]
        have := T1.trans (Turned.set r1 73 (.int .i64 (f 73)))
        rw [List.set_getElem?_self' (by rw [cel_get _ 73 (by omega), put_ne f _ 73 _ (by omega)])] at this
        rw [show put (put f (9 + bl s) (f (9 + bl s) + 1)) 73 (f 73) = put f (9 + bl s) (f (9 + bl s) + 1) from by
          have e := put_same (put f (9 + bl s) (f (9 + bl s) + 1)) 73
          rwa [put_ne f _ 73 _ (by omega)] at e]
        exact T1
end Go.Proofs.YtnndoajflimkmaaDoor
