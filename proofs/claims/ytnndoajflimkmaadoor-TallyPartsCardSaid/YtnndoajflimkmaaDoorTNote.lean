/- Note and Reset of the tally: contracts. -/
import Derived.Test.YtnndoajflimkmaaDoorTGet
import Derived.Deep.DeepCutAuto
import Derived.Deep.LoopGhost
namespace Go.Proofs.YtnndoajflimkmaaDoor
open Go Go.RowKit
set_option maxRecDepth 100000
theorem Note_any (g : Nat) (s : Int) (f : Nat → Int) (w : World) (hr : w.row g (cel f) tT) (hf : Fine f) (hs : s ≤ 9223372036854775807) :
    Calls Tryd.prog 15 #[pt g, .int .i64 s] w fun e w' => e = .returned (.tuple #[]) ∧ Turned w w' g (cel (noteS f s)) tT := by
  have hb := bl_lt s hs
  go_enter Tryd.func15, Tryd.ntmps15
  by_cases hp : 0 ≤ s
  · have hm : max 0 s = s := by omega
    have hbl : Lib.bitLen s.toNat = bl s := by unfold bl; rw [hm]
    go_upto_region 1 with fail
    refine wp_region_ext_head 8 w.heap.size (Nat.le_refl _) (by kernel_rfl) (by kernel_rfl) ?_
    intro _
    simp only [List.take_succ_cons, List.take_zero, List.drop_succ_cons, List.drop_zero]
    repeat (go_big_quiet_step (first | with_reducible exact Calls.ext_of_same (Len_any _ _ (by first | assumption | decide) (by first | omega | decide))))
    refine wpQuiet_nil ?_
    intro x
    have hrx := hr.ext x hr.lt
    have T0 : Turned w (w.ext w.heap.size x) g (cel f) tT := Turned.of_below hr (World.ext_below x)
    go_wp2_with fail
    refine Calls.turn_to (up_any g (9 + bl s) (f (9 + bl s)) 1 (cel f) tT _ hrx (cel_get f _ (by omega)) (hf.lo _) (hf.hi _ (by omega)) (by decide) (by decide)) ?_
    intro w1 h1
    have h1' := T0.trans h1
    have r1 := h1.rowOf
    rw [cel_set] at r1
    clear T0 hrx h1
    go_wp2_with fail
    refine Calls.turn_to (raise_any g 73 (put f (9 + bl s) (upS (f (9 + bl s)) 1) 73) s _ tT _ r1 (cel_get _ 73 (by omega))) ?_
    intro w2 h2
    have h2' := h1'.trans h2
    rw [cel_set, put_ne f _ 73 _ (by omega)] at h2'
    go_wp2_with fail
    go_returns
    exact ⟨rfl, h2'⟩
  · have hm : max 0 s = 0 := by omega
    have hm2 : (0 < s) = False := eq_false (by omega)
    have hbl : Lib.bitLen 0 = bl s := by unfold bl; rw [hm]; rfl
    go_upto_region 1 with fail
    refine wp_region_ext_head 8 w.heap.size (Nat.le_refl _) (by kernel_rfl) (by kernel_rfl) ?_
    intro _
    simp only [List.take_succ_cons, List.take_zero, List.drop_succ_cons, List.drop_zero]
    repeat (go_big_quiet_step (first | with_reducible exact Calls.ext_of_same (Len_any _ _ (by first | assumption | decide) (by first | omega | decide))))
    refine wpQuiet_nil ?_
    intro x
    have hrx := hr.ext x hr.lt
    have T0 : Turned w (w.ext w.heap.size x) g (cel f) tT := Turned.of_below hr (World.ext_below x)
    go_wp2_with fail
    refine Calls.turn_to (up_any g (9 + bl s) (f (9 + bl s)) 1 (cel f) tT _ hrx (cel_get f _ (by omega)) (hf.lo _) (hf.hi _ (by omega)) (by decide) (by decide)) ?_
    intro w1 h1
    have h1' := T0.trans h1
    have r1 := h1.rowOf
    rw [cel_set] at r1
    clear T0 hrx h1
    go_wp2_with fail
    refine Calls.turn_to (raise_any g 73 (put f (9 + bl s) (upS (f (9 + bl s)) 1) 73) s _ tT _ r1 (cel_get _ 73 (by omega))) ?_
    intro w2 h2
    have h2' := h1'.trans h2
    rw [cel_set, put_ne f _ 73 _ (by omega)] at h2'
    go_wp2_with fail
    go_returns
    exact ⟨rfl, h2'⟩
theorem Reset_any (g : Nat) (f : Nat → Int) (w : World) (hr : w.row g (cel f) tT) :
    Calls Tryd.prog 20 #[pt g] w fun e w' => e = .returned (.tuple #[]) ∧ Turned w w' g (cel zeroF) tT := by
  go_enter Tryd.func20, Tryd.ntmps20
  go_wp2_with fail
  go_loopw [6] (fun x wr => ∃ (k : Nat) (h : Nat → Int), k ≤ 9 ∧ x = .int .i64 k ∧ Turned w wr g (cel h) tT ∧ (∀ i, i < k → h i = 0) ∧ (∀ i, k ≤ i → h i = f i)) (fun x _ => 9 - (intOf x).toNat)
  case atStart => exact ⟨0, f, by omega, rfl, Turned.same hr, fun i hi => by omega, fun i _ => rfl⟩
  case round =>
    obtain ⟨k, h, hk, rfl, hT, hz, ho⟩ := hrel
    have hrow := hT.rowOf
    by_cases hlt : k < 9
    · have hc := hrow.cell k (cel_get h k (by omega))
      have hfz := hrow.free k
      go_wp2_with (go_at_call 29; refine (store_any _ _ _ _ _ hc hfz).mono ?_; rintro e w' ⟨rfl, rfl⟩)
      go_roundw
      case rel =>
        refine ⟨k + 1, put h k 0, by omega, by go_num, ?_, ?_, ?_⟩
        · have := hT.trans (Turned.set hrow k (.int .i64 0))
          rwa [cel_set] at this
        · intro i hi
          by_cases e : i = k
          · subst e; exact put_at _ _ _
          · rw [put_ne _ _ _ _ e]; exact hz i (by omega)
        · intro i hi
          rw [put_ne _ _ _ _ (by omega)]; exact ho i (by omega)
      case measure => simp [intOf] <;> omega
    · have hw := hT
      have hz9 : ∀ i, i < 9 → h i = 0 := fun i hi => hz i (by omega)
      clear hT hrow hz ho
      go_wp2_with fail
      go_loopw [17] (fun x wq => ∃ (k : Nat) (h' : Nat → Int), k ≤ 64 ∧ x = .int .i64 k ∧ Turned w wq g (cel h') tT ∧ (∀ i, i < 9 + k → h' i = 0)) (fun x _ => 64 - (intOf x).toNat)
      case atStart => exact ⟨0, h, by omega, rfl, hw, fun i hi => hz9 i (by omega)⟩
      case round =>
        obtain ⟨k, h', hk, rfl, hT, hz'⟩ := hrel
        have hrow := hT.rowOf
        by_cases hlt : k < 64
        · have hc := hrow.cell (9 + k) (cel_get h' (9 + k) (by omega))
          have hfz := hrow.free (9 + k)
          go_wp2_with (go_at_call 29; refine (store_any _ _ _ _ _ hc hfz).mono ?_; rintro e w' ⟨rfl, rfl⟩)
          go_roundw
          case rel =>
            refine ⟨k + 1, put h' (9 + k) 0, by omega, by go_num, ?_, ?_⟩
            · have := hT.trans (Turned.set hrow (9 + k) (.int .i64 0))
              rwa [cel_set] at this
            · intro i hi
              by_cases e : i = 9 + k
              · subst e; exact put_at _ _ _
              · rw [put_ne _ _ _ _ e]; exact hz' i (by omega)
          case measure => simp [intOf] <;> omega
        · have hc := hrow.cell 73 (cel_get h' 73 (by omega))
          have hfz := hrow.free 73
          go_wp2_with (go_at_call 29; refine (store_any _ _ _ _ _ hc hfz).mono ?_; rintro e w' ⟨rfl, rfl⟩)
          go_returns
          refine ⟨rfl, ?_⟩
          have := hT.trans (Turned.set hrow 73 (.int .i64 0))
          rw [cel_set] at this
          have e : cel (put h' 73 0) = cel zeroF := cel_ext fun i hi => by
            by_cases e : i = 73
            · subst e; exact put_at _ _ _
            · rw [put_ne _ _ _ _ e]; exact hz' i (by omega)
          rwa [e] at this
end Go.Proofs.YtnndoajflimkmaaDoor
