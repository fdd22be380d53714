import Derived.Test.YtdgeobofpnbenaaDoorMRefC
namespace Go.Proofs.YtdgeobofpnbenaaDoor
open Go Go.RowKit
set_option maxRecDepth 100000
/-- What Both makes of two answers. -/
def mix (kind : Nat) (a b : Bool) : Bool := if kind = 0 then a || b else if kind = 1 then a && b else a && !b
theorem bools_step (f g : Nat → Bool) (kind i : Nat) : (bools fun j => if j < i then mix kind (f j) (g j) else f j).set i (.bool (mix kind (f i) (g i))) = bools fun j => if j < i + 1 then mix kind (f j) (g j) else f j := by
  rw [bools_set]
  refine bools_congr fun j _ => ?_
  by_cases e : j = i
  · subst e; simp
  · rw [if_neg e]
    by_cases h : j < i
    · rw [if_pos h, if_pos (by omega)]
    · rw [if_neg h, if_neg (by omega)]

set_option maxHeartbeats 4000000 in
theorem Both_or (s t : Set4) (w : World) : Calls Tryd.prog 11 #[s.val, t.val, .int .i64 0] w fun e w' => e = .returned (s.or t).val ∧ Below w.heap.size w w' := by
  go_enter Tryd.func11, Tryd.ntmps11
  go_wp2_with fail
  refine Calls.pure_to (Numbers_any s _) ?_
  intro w1 hb1
  have r1 : w1.row (w.heap.size + 1) t.cells 23 := (World.row.alloc (World.row.new' (by simp)) _).below hb1 (by simp)
  have r2 : w1.row (w.heap.size + 1 + 1) Set4.zero.cells 23 := (World.row.new' (cs := Set4.zero.cells) (by simp)).below hb1 (by simp)
  have hB1 : Below w.heap.size w w1 := ((((Below.refl _ _).alloc (Nat.le_refl _) _).alloc (by simp) _).alloc (by simp; omega) _).trans (hb1.mono (by simp; omega))
  have hs1 := r2.lt
  clear hb1
  go_wp2_with (first | (refine wpList_alloc_row rfl 54 rfl _ infoBools ?_) | (refine wpList_store_row rfl 54 _ _ rfl w1.heap.size (bools s.has).toArray rfl rfl 54 _ (World.row.new w1 _ _) (sizeBools' _) (by simp [bools_len]) (bools_one _) ?_) | (refine wpList_load_row rfl 23 _ rfl (w.heap.size + 1) rfl 23 _ (0, 0) _ ((r1.alloc _).setRow_other (by omega)) Tryd.underlying23 rfl (by kernel_rfl) ?_))
  refine Calls.pure_to (Numbers_any t _) ?_
  intro w2 hb2
  have q2 : w2.row (w.heap.size + 1 + 1) Set4.zero.cells 23 := ((r2.alloc _).setRow_other (by omega)).below hb2 (by simp; omega)
  have q3 : w2.row w1.heap.size (bools s.has) 54 := (World.row.setRow (World.row.new w1 _ _)).below hb2 (by simp)
  have hB2 : Below w.heap.size w w2 := ((hB1.alloc (by omega) _).setRow (by omega) _).trans (hb2.mono (by simp; omega))
  have hs2 := q3.lt
  clear hb2 r1 r2 hB1
  obtain ⟨b1, hb1⟩ : ∃ b, b = w1.heap.size := ⟨_, rfl⟩
  rw [← hb1] at hs1 hs2 q3 ⊢
  clear hb1
  go_wp2_with (first | (refine wpList_alloc_row rfl 54 rfl _ infoBools ?_) | (refine wpList_store_row rfl 54 _ _ rfl w2.heap.size (bools t.has).toArray rfl rfl 54 _ (World.row.new w2 _ _) (sizeBools' _) (by simp [bools_len]) (bools_one _) ?_))
  have p2 := (q2.alloc (.cells (bools fun _ => false).toArray 54)).setRow_other (g := w2.heap.size) (ds := bools t.has) (by omega)
  have p3 := (q3.alloc (.cells (bools fun _ => false).toArray 54)).setRow_other (g := w2.heap.size) (ds := bools t.has) (by omega)
  have p4 := World.row.setRow (ds := bools t.has) (World.row.new w2 (bools fun _ => false) 54)
  have hB3 := (hB2.alloc (by omega) (.cells (bools fun _ => false).toArray 54)).setRow (show w.heap.size ≤ w2.heap.size by omega) (bools t.has).toArray
  clear q2 q3 hB2
  obtain ⟨b2, hb2⟩ : ∃ b, b = w2.heap.size := ⟨_, rfl⟩
  rw [← hb2] at hs2 p2 p3 p4 hB3 ⊢
  clear hb2
  go_loopw [9] (fun x wr => ∃ (i : Nat), i ≤ 256 ∧ x = .int .i64 i ∧ Below w.heap.size w wr ∧ wr.row (w.heap.size + 1 + 1) Set4.zero.cells 23 ∧ wr.row b1 (bools fun j => if j < i then mix 0 (s.has j) (t.has j) else s.has j) 54 ∧ wr.row b2 (bools t.has) 54) (fun x _ => 256 - (intOf x).toNat)
  case atStart => exact ⟨0, by omega, rfl, hB3, p2, by rw [bools_congr (f := fun j => if j < 0 then mix 0 (s.has j) (t.has j) else s.has j) (g := s.has) (fun j _ => by simp)]; exact p3, p4⟩
  case round =>
    clear hB3 p2 p3 p4
    obtain ⟨i, hi, rfl, hB, p2, p3, p4⟩ := hrel
    by_cases hlt : i < 256
    · have hc := p3.cell i (bools_get _ i hlt)
      have hz := p3.free i
      have hd := p4.cell i (bools_get _ i hlt)
      rw [if_neg (by omega)] at hc
      have P3 := Lib.hid (p3.set i (.bool (mix 0 (s.has i) (t.has i))))
      cases ha : s.has i <;> cases hb : t.has i
      all_goals
        rw [ha] at hc
        rw [hb] at hd
        have HA := Lib.hid (show s.has i = _ ∧ t.has i = _ from ⟨ha, hb⟩)
        clear ha hb
        go_wp2
        go_roundw
        case rel =>
          refine ⟨i + 1, by omega, by go_num, (by repeat' (first | (with_reducible exact Below.refl _ _) | (with_reducible assumption) | (with_reducible refine Below.setCell ?_ ?_ _) | (with_reducible refine Below.ext ?_ _ ?_) | (with_reducible refine Below.alloc ?_ ?_ _) | (with_reducible refine Below.drew ?_) | (with_reducible refine Below.drewN ?_ _) | (with_reducible exact Nat.le_refl _) | (dsimp only; omega) | (simp <;> omega))), p2.other _ _ (by first | (dsimp only; omega) | simp), ?_, p4.other _ _ (by first | (dsimp only; omega) | simp)⟩
          rw [← bools_step]
          have e := P3.out
          rw [HA.out.1, HA.out.2] at e ⊢
          exact e
        case measure => simp [intOf] <;> omega
    · obtain rfl : i = 256 := by omega
      rw [bools_congr (g := fun j => mix 0 (s.has j) (t.has j)) (fun j hj => if_pos hj)] at p3
      go_wp2_with (refine wpList_load_row rfl 54 _ rfl b1 rfl 54 _ (0, 0) _ p3 Tryd.underlying54 rfl (sizeBools' _) ?_)
      refine Calls.pure_to (Words_any (fun j => mix 0 (s.has j) (t.has j)) _) ?_
      intro w3 hb3
      have r2 := p2.below hb3 p2.lt
      have hB4 := hB.trans (hb3.mono hB.size)
      obtain ⟨c0, c1, c2, c3, z0⟩ := r2.four
      go_wp2
      have e : Set4.of (fun j => mix 0 (s.has j) (t.has j)) = s.or t := (Set4.eq_of fun j _ => by rw [Set4.has_or]; rfl).symm
      refine bodyPost_row rfl rfl ((((r2.set 0 _).set 1 _).set 2 _).set 3 _) Tryd.underlying23 rfl (by kernel_rfl) rfl ⟨?_, (by repeat' (first | (with_reducible exact Below.refl _ _) | (with_reducible assumption) | (with_reducible refine Below.setCell ?_ ?_ _) | (with_reducible refine Below.ext ?_ _ ?_) | (with_reducible refine Below.alloc ?_ ?_ _) | (with_reducible refine Below.drew ?_) | (with_reducible refine Below.drewN ?_ _) | (with_reducible exact Nat.le_refl _) | (dsimp only; omega) | (simp <;> omega)))⟩
      rw [← e]; rfl

set_option maxHeartbeats 4000000 in
theorem Both_and (s t : Set4) (w : World) : Calls Tryd.prog 11 #[s.val, t.val, .int .i64 1] w fun e w' => e = .returned (s.and t).val ∧ Below w.heap.size w w' := by
  go_enter Tryd.func11, Tryd.ntmps11
  go_wp2_with fail
  refine Calls.pure_to (Numbers_any s _) ?_
  intro w1 hb1
  have r1 : w1.row (w.heap.size + 1) t.cells 23 := (World.row.alloc (World.row.new' (by simp)) _).below hb1 (by simp)
  have r2 : w1.row (w.heap.size + 1 + 1) Set4.zero.cells 23 := (World.row.new' (cs := Set4.zero.cells) (by simp)).below hb1 (by simp)
  have hB1 : Below w.heap.size w w1 := ((((Below.refl _ _).alloc (Nat.le_refl _) _).alloc (by simp) _).alloc (by simp; omega) _).trans (hb1.mono (by simp; omega))
  have hs1 := r2.lt
  clear hb1
  go_wp2_with (first | (refine wpList_alloc_row rfl 54 rfl _ infoBools ?_) | (refine wpList_store_row rfl 54 _ _ rfl w1.heap.size (bools s.has).toArray rfl rfl 54 _ (World.row.new w1 _ _) (sizeBools' _) (by simp [bools_len]) (bools_one _) ?_) | (refine wpList_load_row rfl 23 _ rfl (w.heap.size + 1) rfl 23 _ (0, 0) _ ((r1.alloc _).setRow_other (by omega)) Tryd.underlying23 rfl (by kernel_rfl) ?_))
  refine Calls.pure_to (Numbers_any t _) ?_
  intro w2 hb2
  have q2 : w2.row (w.heap.size + 1 + 1) Set4.zero.cells 23 := ((r2.alloc _).setRow_other (by omega)).below hb2 (by simp; omega)
  have q3 : w2.row w1.heap.size (bools s.has) 54 := (World.row.setRow (World.row.new w1 _ _)).below hb2 (by simp)
  have hB2 : Below w.heap.size w w2 := ((hB1.alloc (by omega) _).setRow (by omega) _).trans (hb2.mono (by simp; omega))
  have hs2 := q3.lt
  clear hb2 r1 r2 hB1
  obtain ⟨b1, hb1⟩ : ∃ b, b = w1.heap.size := ⟨_, rfl⟩
  rw [← hb1] at hs1 hs2 q3 ⊢
  clear hb1
  go_wp2_with (first | (refine wpList_alloc_row rfl 54 rfl _ infoBools ?_) | (refine wpList_store_row rfl 54 _ _ rfl w2.heap.size (bools t.has).toArray rfl rfl 54 _ (World.row.new w2 _ _) (sizeBools' _) (by simp [bools_len]) (bools_one _) ?_))
  have p2 := (q2.alloc (.cells (bools fun _ => false).toArray 54)).setRow_other (g := w2.heap.size) (ds := bools t.has) (by omega)
  have p3 := (q3.alloc (.cells (bools fun _ => false).toArray 54)).setRow_other (g := w2.heap.size) (ds := bools t.has) (by omega)
  have p4 := World.row.setRow (ds := bools t.has) (World.row.new w2 (bools fun _ => false) 54)
  have hB3 := (hB2.alloc (by omega) (.cells (bools fun _ => false).toArray 54)).setRow (show w.heap.size ≤ w2.heap.size by omega) (bools t.has).toArray
  clear q2 q3 hB2
  obtain ⟨b2, hb2⟩ : ∃ b, b = w2.heap.size := ⟨_, rfl⟩
  rw [← hb2] at hs2 p2 p3 p4 hB3 ⊢
  clear hb2
  go_loopw [9] (fun x wr => ∃ (i : Nat), i ≤ 256 ∧ x = .int .i64 i ∧ Below w.heap.size w wr ∧ wr.row (w.heap.size + 1 + 1) Set4.zero.cells 23 ∧ wr.row b1 (bools fun j => if j < i then mix 1 (s.has j) (t.has j) else s.has j) 54 ∧ wr.row b2 (bools t.has) 54) (fun x _ => 256 - (intOf x).toNat)
  case atStart => exact ⟨0, by omega, rfl, hB3, p2, by rw [bools_congr (f := fun j => if j < 0 then mix 1 (s.has j) (t.has j) else s.has j) (g := s.has) (fun j _ => by simp)]; exact p3, p4⟩
  case round =>
    clear hB3 p2 p3 p4
    obtain ⟨i, hi, rfl, hB, p2, p3, p4⟩ := hrel
    by_cases hlt : i < 256
    · have hc := p3.cell i (bools_get _ i hlt)
      have hz := p3.free i
      have hd := p4.cell i (bools_get _ i hlt)
      rw [if_neg (by omega)] at hc
      have P3 := Lib.hid (p3.set i (.bool (mix 1 (s.has i) (t.has i))))
      cases ha : s.has i <;> cases hb : t.has i
      all_goals
        rw [ha] at hc
        rw [hb] at hd
        have HA := Lib.hid (show s.has i = _ ∧ t.has i = _ from ⟨ha, hb⟩)
        clear ha hb
        go_wp2
        go_roundw
        case rel =>
          refine ⟨i + 1, by omega, by go_num, (by repeat' (first | (with_reducible exact Below.refl _ _) | (with_reducible assumption) | (with_reducible refine Below.setCell ?_ ?_ _) | (with_reducible refine Below.ext ?_ _ ?_) | (with_reducible refine Below.alloc ?_ ?_ _) | (with_reducible refine Below.drew ?_) | (with_reducible refine Below.drewN ?_ _) | (with_reducible exact Nat.le_refl _) | (dsimp only; omega) | (simp <;> omega))), p2.other _ _ (by first | (dsimp only; omega) | simp), ?_, p4.other _ _ (by first | (dsimp only; omega) | simp)⟩
          rw [← bools_step]
          have e := P3.out
          rw [HA.out.1, HA.out.2] at e ⊢
          exact e
        case measure => simp [intOf] <;> omega
    · obtain rfl : i = 256 := by omega
      rw [bools_congr (g := fun j => mix 1 (s.has j) (t.has j)) (fun j hj => if_pos hj)] at p3
      go_wp2_with (refine wpList_load_row rfl 54 _ rfl b1 rfl 54 _ (0, 0) _ p3 Tryd.underlying54 rfl (sizeBools' _) ?_)
      refine Calls.pure_to (Words_any (fun j => mix 1 (s.has j) (t.has j)) _) ?_
      intro w3 hb3
      have r2 := p2.below hb3 p2.lt
      have hB4 := hB.trans (hb3.mono hB.size)
      obtain ⟨c0, c1, c2, c3, z0⟩ := r2.four
      go_wp2
      have e : Set4.of (fun j => mix 1 (s.has j) (t.has j)) = s.and t := (Set4.eq_of fun j _ => by rw [Set4.has_and]; rfl).symm
      refine bodyPost_row rfl rfl ((((r2.set 0 _).set 1 _).set 2 _).set 3 _) Tryd.underlying23 rfl (by kernel_rfl) rfl ⟨?_, (by repeat' (first | (with_reducible exact Below.refl _ _) | (with_reducible assumption) | (with_reducible refine Below.setCell ?_ ?_ _) | (with_reducible refine Below.ext ?_ _ ?_) | (with_reducible refine Below.alloc ?_ ?_ _) | (with_reducible refine Below.drew ?_) | (with_reducible refine Below.drewN ?_ _) | (with_reducible exact Nat.le_refl _) | (dsimp only; omega) | (simp <;> omega)))⟩
      rw [← e]; rfl

set_option maxHeartbeats 4000000 in
theorem Both_less (s t : Set4) (w : World) : Calls Tryd.prog 11 #[s.val, t.val, .int .i64 2] w fun e w' => e = .returned (s.less t).val ∧ Below w.heap.size w w' := by
  go_enter Tryd.func11, Tryd.ntmps11
  go_wp2_with fail
  refine Calls.pure_to (Numbers_any s _) ?_
  intro w1 hb1
  have r1 : w1.row (w.heap.size + 1) t.cells 23 := (World.row.alloc (World.row.new' (by simp)) _).below hb1 (by simp)
  have r2 : w1.row (w.heap.size + 1 + 1) Set4.zero.cells 23 := (World.row.new' (cs := Set4.zero.cells) (by simp)).below hb1 (by simp)
  have hB1 : Below w.heap.size w w1 := ((((Below.refl _ _).alloc (Nat.le_refl _) _).alloc (by simp) _).alloc (by simp; omega) _).trans (hb1.mono (by simp; omega))
  have hs1 := r2.lt
  clear hb1
  go_wp2_with (first | (refine wpList_alloc_row rfl 54 rfl _ infoBools ?_) | (refine wpList_store_row rfl 54 _ _ rfl w1.heap.size (bools s.has).toArray rfl rfl 54 _ (World.row.new w1 _ _) (sizeBools' _) (by simp [bools_len]) (bools_one _) ?_) | (refine wpList_load_row rfl 23 _ rfl (w.heap.size + 1) rfl 23 _ (0, 0) _ ((r1.alloc _).setRow_other (by omega)) Tryd.underlying23 rfl (by kernel_rfl) ?_))
  refine Calls.pure_to (Numbers_any t _) ?_
  intro w2 hb2
  have q2 : w2.row (w.heap.size + 1 + 1) Set4.zero.cells 23 := ((r2.alloc _).setRow_other (by omega)).below hb2 (by simp; omega)
  have q3 : w2.row w1.heap.size (bools s.has) 54 := (World.row.setRow (World.row.new w1 _ _)).below hb2 (by simp)
  have hB2 : Below w.heap.size w w2 := ((hB1.alloc (by omega) _).setRow (by omega) _).trans (hb2.mono (by simp; omega))
  have hs2 := q3.lt
  clear hb2 r1 r2 hB1
  obtain ⟨b1, hb1⟩ : ∃ b, b = w1.heap.size := ⟨_, rfl⟩
  rw [← hb1] at hs1 hs2 q3 ⊢
  clear hb1
  go_wp2_with (first | (refine wpList_alloc_row rfl 54 rfl _ infoBools ?_) | (refine wpList_store_row rfl 54 _ _ rfl w2.heap.size (bools t.has).toArray rfl rfl 54 _ (World.row.new w2 _ _) (sizeBools' _) (by simp [bools_len]) (bools_one _) ?_))
  have p2 := (q2.alloc (.cells (bools fun _ => false).toArray 54)).setRow_other (g := w2.heap.size) (ds := bools t.has) (by omega)
  have p3 := (q3.alloc (.cells (bools fun _ => false).toArray 54)).setRow_other (g := w2.heap.size) (ds := bools t.has) (by omega)
  have p4 := World.row.setRow (ds := bools t.has) (World.row.new w2 (bools fun _ => false) 54)
  have hB3 := (hB2.alloc (by omega) (.cells (bools fun _ => false).toArray 54)).setRow (show w.heap.size ≤ w2.heap.size by omega) (bools t.has).toArray
  clear q2 q3 hB2
  obtain ⟨b2, hb2⟩ : ∃ b, b = w2.heap.size := ⟨_, rfl⟩
  rw [← hb2] at hs2 p2 p3 p4 hB3 ⊢
  clear hb2
  go_loopw [9] (fun x wr => ∃ (i : Nat), i ≤ 256 ∧ x = .int .i64 i ∧ Below w.heap.size w wr ∧ wr.row (w.heap.size + 1 + 1) Set4.zero.cells 23 ∧ wr.row b1 (bools fun j => if j < i then mix 2 (s.has j) (t.has j) else s.has j) 54 ∧ wr.row b2 (bools t.has) 54) (fun x _ => 256 - (intOf x).toNat)
  case atStart => exact ⟨0, by omega, rfl, hB3, p2, by rw [bools_congr (f := fun j => if j < 0 then mix 2 (s.has j) (t.has j) else s.has j) (g := s.has) (fun j _ => by simp)]; exact p3, p4⟩
  case round =>
    clear hB3 p2 p3 p4
    obtain ⟨i, hi, rfl, hB, p2, p3, p4⟩ := hrel
    by_cases hlt : i < 256
    · have hc := p3.cell i (bools_get _ i hlt)
      have hz := p3.free i
      have hd := p4.cell i (bools_get _ i hlt)
      rw [if_neg (by omega)] at hc
      have P3 := Lib.hid (p3.set i (.bool (mix 2 (s.has i) (t.has i))))
      cases ha : s.has i <;> cases hb : t.has i
      all_goals
        rw [ha] at hc
        rw [hb] at hd
        have HA := Lib.hid (show s.has i = _ ∧ t.has i = _ from ⟨ha, hb⟩)
        clear ha hb
        go_wp2
        go_roundw
        case rel =>
          refine ⟨i + 1, by omega, by go_num, (by repeat' (first | (with_reducible exact Below.refl _ _) | (with_reducible assumption) | (with_reducible refine Below.setCell ?_ ?_ _) | (with_reducible refine Below.ext ?_ _ ?_) | (with_reducible refine Below.alloc ?_ ?_ _) | (with_reducible refine Below.drew ?_) | (with_reducible refine Below.drewN ?_ _) | (with_reducible exact Nat.le_refl _) | (dsimp only; omega) | (simp <;> omega))), p2.other _ _ (by first | (dsimp only; omega) | simp), ?_, p4.other _ _ (by first | (dsimp only; omega) | simp)⟩
          rw [← bools_step]
          have e := P3.out
          rw [HA.out.1, HA.out.2] at e ⊢
          exact e
        case measure => simp [intOf] <;> omega
    · obtain rfl : i = 256 := by omega
      rw [bools_congr (g := fun j => mix 2 (s.has j) (t.has j)) (fun j hj => if_pos hj)] at p3
      go_wp2_with (refine wpList_load_row rfl 54 _ rfl b1 rfl 54 _ (0, 0) _ p3 Tryd.underlying54 rfl (sizeBools' _) ?_)
      refine Calls.pure_to (Words_any (fun j => mix 2 (s.has j) (t.has j)) _) ?_
      intro w3 hb3
      have r2 := p2.below hb3 p2.lt
      have hB4 := hB.trans (hb3.mono hB.size)
      obtain ⟨c0, c1, c2, c3, z0⟩ := r2.four
      go_wp2
      have e : Set4.of (fun j => mix 2 (s.has j) (t.has j)) = s.less t := (Set4.eq_of fun j _ => by rw [Set4.has_less]; rfl).symm
      refine bodyPost_row rfl rfl ((((r2.set 0 _).set 1 _).set 2 _).set 3 _) Tryd.underlying23 rfl (by kernel_rfl) rfl ⟨?_, (by repeat' (first | (with_reducible exact Below.refl _ _) | (with_reducible assumption) | (with_reducible refine Below.setCell ?_ ?_ _) | (with_reducible refine Below.ext ?_ _ ?_) | (with_reducible refine Below.alloc ?_ ?_ _) | (with_reducible refine Below.drew ?_) | (with_reducible refine Below.drewN ?_ _) | (with_reducible exact Nat.le_refl _) | (dsimp only; omega) | (simp <;> omega)))⟩
      rw [← e]; rfl
/-- Both, by its kind. -/
def both (k : Int) (s t : Set4) : Set4 := if k = 0 then s.or t else if k = 1 then s.and t else s.less t
theorem Both_any (k : Int) (s t : Set4) (w : World) (hk : k = 0 ∨ k = 1 ∨ k = 2) : Calls Tryd.prog 11 #[s.val, t.val, .int .i64 k] w fun e w' => e = .returned (both k s t).val ∧ Below w.heap.size w w' := by
  rcases hk with rfl | rfl | rfl
  · exact Both_or s t w
  · exact Both_and s t w
  · exact Both_less s t w
end Go.Proofs.YtdgeobofpnbenaaDoor
