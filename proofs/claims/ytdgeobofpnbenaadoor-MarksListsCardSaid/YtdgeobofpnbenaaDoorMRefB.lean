import Derived.Test.YtdgeobofpnbenaaDoorMRefA
namespace Go.Proofs.YtdgeobofpnbenaaDoor
open Go Go.RowKit
set_option maxRecDepth 100000
abbrev onv (f : Nat → Bool) : Value := .agg (bools f).toArray
set_option maxHeartbeats 2000000 in
theorem Numbers_any (s : Set4) (w : World) : Calls Tryd.prog 34 #[s.val] w fun e w' => e = .returned (onv s.has) ∧ Below w.heap.size w w' := by
  go_enter Tryd.func34, Tryd.ntmps34
  go_wp2_with (refine wpList_alloc_row rfl 54 rfl _ infoBools ?_)
  go_loopw [4] (fun t wr => ∃ (i : Nat), i ≤ 256 ∧ t = .int .i64 i ∧ Below w.heap.size w wr ∧ wr.row w.heap.size s.cells 23 ∧ wr.row (w.heap.size + 1) (bools fun _ => false) 54 ∧ wr.row (w.heap.size + 1 + 1) (bools fun j => decide (j < i) && s.has j) 54) (fun t _ => 256 - (intOf t).toNat)
  case atStart =>
    refine ⟨0, by omega, rfl, (by repeat' (first | (with_reducible exact Below.refl _ _) | (with_reducible assumption) | (with_reducible refine Below.setCell ?_ ?_ _) | (with_reducible refine Below.ext ?_ _ ?_) | (with_reducible refine Below.alloc ?_ ?_ _) | (with_reducible refine Below.drew ?_) | (with_reducible refine Below.drewN ?_ _) | (with_reducible exact Nat.le_refl _) | (dsimp only; omega) | (simp <;> omega))), ((World.row.new w s.cells _).alloc _).alloc _, ?_, ?_⟩
    · exact (World.row.new' (by simp)).alloc _
    · rw [bools_congr (g := fun _ => false) (fun i _ => by simp)]; exact World.row.new' (by simp)
  case round =>
    obtain ⟨i, hi, rfl, hB, r0, r1, r2⟩ := hrel
    obtain ⟨c0, c1, c2, c3, z0⟩ := r0.four
    by_cases hlt : i < 256
    · go_wp2_with fail
      refine Calls.pure_to (refHas_yes s i _ hlt) ?_
      intro w1 hb
      have q0 := r0.below hb r0.lt
      have q1 := r1.below hb r1.lt
      have q2 := r2.below hb r2.lt
      have hB1 := hB.trans (hb.mono hB.size)
      clear r0 r1 r2 hb hB c0 c1 c2 c3 z0
      have hc := q2.cell i (bools_get _ i hlt)
      have hz := q2.free i
      go_wp2
      go_roundw
      case rel =>
        refine ⟨i + 1, by omega, by go_num, (by repeat' (first | (with_reducible exact Below.refl _ _) | (with_reducible assumption) | (with_reducible refine Below.setCell ?_ ?_ _) | (with_reducible refine Below.ext ?_ _ ?_) | (with_reducible refine Below.alloc ?_ ?_ _) | (with_reducible refine Below.drew ?_) | (with_reducible refine Below.drewN ?_ _) | (with_reducible exact Nat.le_refl _) | (dsimp only; omega) | (simp <;> omega))), q0.other _ _ (by first | (dsimp only; omega) | simp), q1.other _ _ (by first | (dsimp only; omega) | simp), ?_⟩
        have e := q2.set i (.bool (s.has i))
        rw [bools_set] at e
        rw [bools_congr (g := fun j => if j = i then s.has i else decide (j < i) && s.has j)]
        · exact e
        · intro j _
          by_cases h1 : j = i
          · subst h1; simp
          · rw [if_neg h1]; congr 1; exact decide_eq_decide.2 (by omega)
      case measure => simp [intOf]; omega
    · obtain rfl : i = 256 := by omega
      rw [bools_congr (g := s.has) (fun j hj => by simp [hj])] at r2
      go_wp2_with (first | (refine wpList_load_row rfl 54 _ rfl (w.heap.size + 1 + 1) rfl 54 _ (0, 0) _ r2 Tryd.underlying54 rfl (sizeBools' _) ?_) | (refine wpList_store_row rfl 54 _ _ rfl (w.heap.size + 1) (bools s.has).toArray rfl rfl 54 _ r1 (sizeBools' _) (by simp [bools_len]) (bools_one _) ?_))
      exact bodyPost_row rfl rfl r1.setRow Tryd.underlying54 rfl (sizeBools _) rfl ⟨rfl, hB.setRow (by omega) _⟩
end Go.Proofs.YtdgeobofpnbenaaDoor
