/- The law's 'same' at a tally and the document's that hold the same counts: a contract. -/
import Derived.Test.YtnndoajflimkmaaDoorTPart
import Derived.Deep.RegionWith
namespace Go.Proofs.YtnndoajflimkmaaDoor
open Go Go.RowKit
set_option maxRecDepth 100000
set_option maxHeartbeats 2000000 in
theorem same_any (g h : Nat) (f : Nat → Int) (w : World) (hr : w.row g (cel f) tT) (hq : w.row h (cel f) tR) :
    Calls Tryd.prog 21 #[pt g, pt h] w fun e w' => e = .returned (.bool true) ∧ Below w.heap.size w w' := by
  have hg := hr.lt
  have hh := hq.lt
  go_enter Tryd.func21, Tryd.ntmps21
  go_wp2_with fail
  go_loopw [5] (fun x wr => ∃ (k : Int), -1 ≤ k ∧ k ≤ 10 ∧ x = .int .i64 k ∧ w = wr) (fun x _ => (10 - intOf x).toNat)
  case atStart => exact ⟨-1, by omega, by omega, rfl, rfl⟩
  case round =>
    obtain ⟨k, hk0, hk1, rfl, rfl⟩ := hrel
    by_cases hlt : k < 10
    · by_cases hin : 0 ≤ k ∧ k < 9
      · have h0 := hin.1
        have h1 := hin.2
        have hc := hq.cell k.toNat (cel_get f k.toNat (by omega))
        have hG := Get_any g k f w hr
        rw [if_pos hin] at hG
        go_wp2_with (go_at_call 18; refine hG.mono ?_; rintro e w' ⟨rfl, rfl⟩)
        all_goals (try (exfalso; omega))
        go_roundw
        case rel => exact ⟨k + 1, by omega, by omega, by go_num, trivial⟩
        case measure => simp [intOf] <;> omega
      · have hG := Get_any g k f w hr
        rw [if_neg hin] at hG
        have h2 : k = -1 ∨ k = 9 := by omega
        clear hin
        rcases h2 with rfl | rfl
        · go_wp2_with (go_at_call 18; refine hG.mono ?_; rintro e w' ⟨rfl, rfl⟩)
          go_roundw
          case rel => exact ⟨0, by omega, by omega, by go_num, trivial⟩
          case measure => simp [intOf] <;> omega
        · go_wp2_with (go_at_call 18; refine hG.mono ?_; rintro e w' ⟨rfl, rfl⟩)
          go_roundw
          case rel => exact ⟨10, by omega, by omega, by go_num, trivial⟩
          case measure => simp [intOf] <;> omega
    · clear hk0
      go_wp2_with fail
      refine (Bars_any g f w hr).mono ?_
      rintro e w1 ⟨⟨v1, rfl, hv1⟩, hb1⟩
      have q1 := hq.below hb1 hh
      have r1 := hr.below hb1 hg
      go_wp2_with fail
      refine (refBars_any h f w1 q1).mono ?_
      rintro e w2 ⟨⟨v2, rfl, hv2⟩, hb2⟩
      have q2 := q1.below hb2 q1.lt
      have r2 := r1.below hb2 r1.lt
      have hv1' := hv1.below hb2 (Nat.le_refl _)
      have B2 : Below w.heap.size w w2 := hb1.trans (hb2.mono hb1.size)
      obtain ⟨m, hm⟩ : ∃ m, m = lastTo f 64 := ⟨_, rfl⟩
      have hmle : m ≤ 64 := by rw [hm]; exact lastTo_le f 64
      rw [← hm] at hv1' hv2
      clear hv1 hm hb1 hb2 q1 r1
      obtain ⟨a1, c1, e1, hc1⟩ := hv1'
      rw [barsL_len] at e1
      subst e1
      obtain ⟨a2, c2, e2, hc2⟩ := hv2
      rw [barsL_len] at e2
      subst e2
      have HC := Lib.hid (And.intro hc1 hc2)
      clear hc1 hc2
      have hc73 := q2.cell 73 (cel_get f 73 (by omega))
      have hq2lt := q2.lt
      go_upto_region 10 with fail
      refine wp_region_ext w2.heap.size (Nat.le_refl _) (by kernel_rfl) (by kernel_rfl) ?_
      intro _
      repeat (go_big_quiet_step (first | with_reducible exact Calls.ext_of_same (Most_any g f _ (r2.ext _ r2.lt))))
      refine wpQuiet_nil ?_
      intro x
      go_wp2_with fail
      clear hc73 q2 r2 hr hq
      go_loopw [51] (fun y wr => ∃ (i : Nat), i ≤ m ∧ y = .int .i64 i ∧ Below w2.heap.size w2 wr) (fun y _ => m - (intOf y).toNat)
      case atStart => exact ⟨0, by omega, rfl, World.ext_below x⟩
      case round =>
        obtain ⟨i, him, rfl, hB⟩ := hrel
        by_cases hlt2 : i < m
        · have ne : barsL f m ≠ [] := by intro e; have := barsL_len f m; rw [e] at this; simp at this; omega
          obtain ⟨b1, o1, rfl, d1⟩ := HC.out.1.resolve_left ne
          obtain ⟨b2, o2, rfl, d2⟩ := HC.out.2.resolve_left ne
          have g1 := d1 i _ (barsL_get f m i hlt2)
          have g2 := d2 i _ (barsL_get f m i hlt2)
          have k1 : wr.cell? ⟨b1, o1 + i, none⟩ = _ := (hB.cell (p := ⟨b1, o1 + i, none⟩) (block_lt_of_cell g1)).trans g1
          have k2 : wr.cell? ⟨b2, o2 + i, none⟩ = _ := (hB.cell (p := ⟨b2, o2 + i, none⟩) (block_lt_of_cell g2)).trans g2
          clear g1 g2 d1 d2 ne
          go_wp2_with fail
          go_quiet (fail)
          go_wp2_with fail
          go_roundw
          case rel => exact ⟨i + 1, by omega, by go_num, hB.drewN _⟩
          case measure => simp [intOf] <;> omega
        · go_wp2_with fail
          go_returns
          exact ⟨rfl, B2.trans (hB.mono B2.size)⟩
end Go.Proofs.YtnndoajflimkmaaDoor
