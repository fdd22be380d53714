import Derived.Test.YtdgeobofpnbenaaDoorMRefB
namespace Go.Proofs.YtdgeobofpnbenaaDoor
open Go Go.RowKit
set_option maxRecDepth 100000
theorem tot63 (f : Nat → Bool) (base n : Nat) (h : n ≤ 63) : Set4.tot f base n < 9223372036854775808 :=
  Nat.lt_of_lt_of_le (Set4.tot_lt f n base) (Nat.pow_le_pow_right (by omega) h : 2 ^ n ≤ 2 ^ 63)
/-- The words of f as far as they are made: all below k. -/
def part4 (f : Nat → Bool) (k : Nat) : List Value := (List.range 4).map fun m => Value.int .u64 ((if m < k then Set4.tot f (64 * m) 64 else 0 : Nat) : Int)
set_option maxHeartbeats 8000000 in
theorem Words_any (f : Nat → Bool) (w : World) : Calls Tryd.prog 35 #[onv f] w fun e w' => e = .returned (Set4.of f).val ∧ Below w.heap.size w w' := by
  go_enter Tryd.func35, Tryd.ntmps35
  go_wp2_with (refine wpList_box_row rfl 54 _ rfl (bools f) rfl ?_)
  go_loopw [4] (fun t wr => ∃ (k : Nat), k ≤ 4 ∧ t = .int .i64 k ∧ Below w.heap.size w wr ∧ wr.row w.heap.size (bools f) 54 ∧ wr.row (w.heap.size + 1) (part4 f 0) 23 ∧ wr.row (w.heap.size + 1 + 1) (part4 f k) 23) (fun t _ => 4 - (intOf t).toNat)
  case atStart =>
    refine ⟨0, by omega, rfl, (by repeat' (first | (with_reducible exact Below.refl _ _) | (with_reducible assumption) | (with_reducible refine Below.setCell ?_ ?_ _) | (with_reducible refine Below.ext ?_ _ ?_) | (with_reducible refine Below.alloc ?_ ?_ _) | (with_reducible refine Below.drew ?_) | (with_reducible refine Below.drewN ?_ _) | (with_reducible exact Nat.le_refl _) | (dsimp only; omega) | (simp <;> omega))), ((World.row.new w (bools f) _).alloc _).alloc _, ?_, ?_⟩
    · exact (World.row.new' (cs := part4 f 0) (by simp)).alloc _
    · exact World.row.new' (cs := part4 f 0) (by simp)
  case round =>
    obtain ⟨k, hk, rfl, hB, r0, r1, r2⟩ := hrel
    by_cases h4 : k = 4
    · subst h4
      obtain ⟨d0, d1, d2, d3, y0⟩ := World.row.four (show wr.row (w.heap.size + 1 + 1) [.int .u64 (Set4.tot f 0 64 : Nat), .int .u64 (Set4.tot f 64 64 : Nat), .int .u64 (Set4.tot f 128 64 : Nat), .int .u64 (Set4.tot f 192 64 : Nat)] 23 from r2)
      obtain ⟨c0, c1, c2, c3, z0⟩ := World.row.four (show wr.row (w.heap.size + 1) [.int .u64 (0 : Nat), .int .u64 (0 : Nat), .int .u64 (0 : Nat), .int .u64 (0 : Nat)] 23 from r1)
      go_wp2
      exact bodyPost_row rfl rfl ((((r1.set 0 _).set 1 _).set 2 _).set 3 _) Tryd.underlying23 rfl (by kernel_rfl) rfl ⟨rfl, (by repeat' (first | (with_reducible exact Below.refl _ _) | (with_reducible assumption) | (with_reducible refine Below.setCell ?_ ?_ _) | (with_reducible refine Below.ext ?_ _ ?_) | (with_reducible refine Below.alloc ?_ ?_ _) | (with_reducible refine Below.drew ?_) | (with_reducible refine Below.drewN ?_ _) | (with_reducible exact Nat.le_refl _) | (dsimp only; omega) | (simp <;> omega)))⟩
    · obtain rfl | rfl | rfl | rfl : k = 0 ∨ k = 1 ∨ k = 2 ∨ k = 3 := by omega
      · go_wp2
        obtain ⟨wo, rfl⟩ : ∃ wo : World, wo = wr := ⟨_, rfl⟩
        go_loopw [5] (fun t wr => ∃ (t' : Int) (x : Nat), t = .int .i64 t' ∧ -1 ≤ t' ∧ t' ≤ 63 ∧ Below w.heap.size w wr ∧ wr.row w.heap.size (bools f) 54 ∧ wr.row (w.heap.size + 1) (part4 f 0) 23 ∧ wr.row (w.heap.size + 1 + 1) [.int .u64 (x : Nat), .int .u64 (0 : Nat), .int .u64 (0 : Nat), .int .u64 (0 : Nat)] 23 ∧ Hid (x = Set4.tot f (64 * 0 + (t' + 1).toNat) (63 - t').toNat)) (fun t _ => (intOf t + 1).toNat)
        case atStart => exact ⟨63, 0, rfl, by omega, by omega, hB, r0, r1, r2, Lib.hid rfl⟩
        case round =>
          clear hB r0 r1 r2
          obtain ⟨t', x, rfl, h1, h2, hB, r0, r1, r2, hx⟩ := hrel
          by_cases h0 : 0 ≤ t'
          · obtain ⟨j, rfl⟩ : ∃ j : Nat, t' = (j : Int) := ⟨t'.toNat, by omega⟩
            have hx3 : x < 9223372036854775808 := by rw [hx.out]; exact tot63 f _ _ (by omega)
            obtain ⟨c0, c1, c2, c3, z0⟩ := r2.four
            have hc := r0.cell j (bools_get f j (by omega))
            have HE := Lib.hid (show j = 0 * 64 + j by omega)
            have r3 := r2.set 0 (.int .u64 (2 * (x : Int)))
            have hc2 := (r0.other ⟨w.heap.size + 1 + 1, 0, none⟩ (.int .u64 (2 * (x : Int))) (by first | (dsimp only; omega) | simp)).cell j (bools_get f j (by omega))
            have hc3 := r3.cell 0 rfl
            have he3 : j < 256 := by omega
            have HX : Hid (Set4.tot f (64 * 0 + (j : Int).toNat) (63 - ((j : Int) - 1)).toNat = (f j).toNat + 2 * x) := by
              rw [hx.out, show (63 - ((j : Int) - 1)).toNat = (63 - (j : Int)).toNat + 1 by omega]
              show (f _).toNat + 2 * Set4.tot f _ _ = _
              rw [show 64 * 0 + (j : Int).toNat = j by omega, show j + 1 = 64 * 0 + ((j : Int) + 1).toNat by omega]
            cases hf : f j with
            | false =>
              rw [hf] at hc hc2
              have HF := Lib.hid hf
              clear hf
              go_wp2
              go_roundw
              case rel =>
                refine ⟨(j : Int) - 1, 2 * x, rfl, by omega, by omega, (by repeat' (first | (with_reducible exact Below.refl _ _) | (with_reducible assumption) | (with_reducible refine Below.setCell ?_ ?_ _) | (with_reducible refine Below.ext ?_ _ ?_) | (with_reducible refine Below.alloc ?_ ?_ _) | (with_reducible refine Below.drew ?_) | (with_reducible refine Below.drewN ?_ _) | (with_reducible exact Nat.le_refl _) | (dsimp only; omega) | (simp <;> omega))), r0.other _ _ (by first | (dsimp only; omega) | simp), r1.other _ _ (by first | (dsimp only; omega) | simp), r3, ?_⟩
                exact Lib.hid (by rw [show (j : Int) - 1 + 1 = (j : Int) by omega, HX.out, HF.out]; simp)
              case measure => simp [intOf] <;> omega
            | true =>
              rw [hf] at hc hc2
              have HF := Lib.hid hf
              clear hf
              go_wp2
              go_roundw
              case rel =>
                refine ⟨(j : Int) - 1, 2 * x + 1, rfl, by omega, by omega, (by repeat' (first | (with_reducible exact Below.refl _ _) | (with_reducible assumption) | (with_reducible refine Below.setCell ?_ ?_ _) | (with_reducible refine Below.ext ?_ _ ?_) | (with_reducible refine Below.alloc ?_ ?_ _) | (with_reducible refine Below.drew ?_) | (with_reducible refine Below.drewN ?_ _) | (with_reducible exact Nat.le_refl _) | (dsimp only; omega) | (simp <;> omega))), (r0.other _ _ (by first | (dsimp only; omega) | simp)).other _ _ (by first | (dsimp only; omega) | simp), (r1.other _ _ (by first | (dsimp only; omega) | simp)).other _ _ (by first | (dsimp only; omega) | simp), r3.set 0 _, ?_⟩
                exact Lib.hid (by rw [show (j : Int) - 1 + 1 = (j : Int) by omega, HX.out, HF.out]; simp; omega)
              case measure => simp [intOf] <;> omega
          · obtain rfl : t' = -1 := by omega
            go_wp2
            go_roundw
            case rel =>
              refine ⟨0 + 1, by omega, by go_num, hB, r0, r1, ?_⟩
              have hxe := hx.out
              rw [show 64 * 0 + ((-1 : Int) + 1).toNat = 0 by rfl, show (63 - (-1 : Int)).toNat = 64 by rfl] at hxe
              rw [hxe] at r2
              exact r2
            case measure => simp [intOf] <;> omega
      · go_wp2
        obtain ⟨wo, rfl⟩ : ∃ wo : World, wo = wr := ⟨_, rfl⟩
        go_loopw [5] (fun t wr => ∃ (t' : Int) (x : Nat), t = .int .i64 t' ∧ -1 ≤ t' ∧ t' ≤ 63 ∧ Below w.heap.size w wr ∧ wr.row w.heap.size (bools f) 54 ∧ wr.row (w.heap.size + 1) (part4 f 0) 23 ∧ wr.row (w.heap.size + 1 + 1) [.int .u64 (Set4.tot f 0 64 : Nat), .int .u64 (x : Nat), .int .u64 (0 : Nat), .int .u64 (0 : Nat)] 23 ∧ Hid (x = Set4.tot f (64 * 1 + (t' + 1).toNat) (63 - t').toNat)) (fun t _ => (intOf t + 1).toNat)
        case atStart => exact ⟨63, 0, rfl, by omega, by omega, hB, r0, r1, r2, Lib.hid rfl⟩
        case round =>
          clear hB r0 r1 r2
          obtain ⟨t', x, rfl, h1, h2, hB, r0, r1, r2, hx⟩ := hrel
          by_cases h0 : 0 ≤ t'
          · obtain ⟨j, rfl⟩ : ∃ j : Nat, t' = (j : Int) := ⟨t'.toNat, by omega⟩
            have hx3 : x < 9223372036854775808 := by rw [hx.out]; exact tot63 f _ _ (by omega)
            obtain ⟨c0, c1, c2, c3, z0⟩ := r2.four
            obtain ⟨e, he⟩ : ∃ e, e = 1 * 64 + j := ⟨_, rfl⟩
            have hc := r0.cell e (bools_get f e (by omega))
            have hidx : 64 + (j : Int) = (e : Int) := by omega
            have HE := Lib.hid he
            have r3 := r2.set 1 (.int .u64 (2 * (x : Int)))
            have hc2 := (r0.other ⟨w.heap.size + 1 + 1, 1, none⟩ (.int .u64 (2 * (x : Int))) (by first | (dsimp only; omega) | simp)).cell e (bools_get f e (by omega))
            have hc3 := r3.cell 1 rfl
            have he3 : e < 256 := by omega
            clear he
            have HX : Hid (Set4.tot f (64 * 1 + (j : Int).toNat) (63 - ((j : Int) - 1)).toNat = (f e).toNat + 2 * x) := by
              rw [hx.out, HE.out, show (63 - ((j : Int) - 1)).toNat = (63 - (j : Int)).toNat + 1 by omega]
              show (f _).toNat + 2 * Set4.tot f _ _ = _
              rw [show 64 * 1 + (j : Int).toNat = 1 * 64 + j by omega, show 1 * 64 + j + 1 = 64 * 1 + ((j : Int) + 1).toNat by omega]
            cases hf : f e with
            | false =>
              rw [hf] at hc hc2
              have HF := Lib.hid hf
              clear hf
              go_wp2
              go_roundw
              case rel =>
                refine ⟨(j : Int) - 1, 2 * x, rfl, by omega, by omega, (by repeat' (first | (with_reducible exact Below.refl _ _) | (with_reducible assumption) | (with_reducible refine Below.setCell ?_ ?_ _) | (with_reducible refine Below.ext ?_ _ ?_) | (with_reducible refine Below.alloc ?_ ?_ _) | (with_reducible refine Below.drew ?_) | (with_reducible refine Below.drewN ?_ _) | (with_reducible exact Nat.le_refl _) | (dsimp only; omega) | (simp <;> omega))), r0.other _ _ (by first | (dsimp only; omega) | simp), r1.other _ _ (by first | (dsimp only; omega) | simp), r3, ?_⟩
                exact Lib.hid (by rw [show (j : Int) - 1 + 1 = (j : Int) by omega, HX.out, HF.out]; simp)
              case measure => simp [intOf] <;> omega
            | true =>
              rw [hf] at hc hc2
              have HF := Lib.hid hf
              clear hf
              go_wp2
              go_roundw
              case rel =>
                refine ⟨(j : Int) - 1, 2 * x + 1, rfl, by omega, by omega, (by repeat' (first | (with_reducible exact Below.refl _ _) | (with_reducible assumption) | (with_reducible refine Below.setCell ?_ ?_ _) | (with_reducible refine Below.ext ?_ _ ?_) | (with_reducible refine Below.alloc ?_ ?_ _) | (with_reducible refine Below.drew ?_) | (with_reducible refine Below.drewN ?_ _) | (with_reducible exact Nat.le_refl _) | (dsimp only; omega) | (simp <;> omega))), (r0.other _ _ (by first | (dsimp only; omega) | simp)).other _ _ (by first | (dsimp only; omega) | simp), (r1.other _ _ (by first | (dsimp only; omega) | simp)).other _ _ (by first | (dsimp only; omega) | simp), r3.set 1 _, ?_⟩
                exact Lib.hid (by rw [show (j : Int) - 1 + 1 = (j : Int) by omega, HX.out, HF.out]; simp; omega)
              case measure => simp [intOf] <;> omega
          · obtain rfl : t' = -1 := by omega
            go_wp2
            go_roundw
            case rel =>
              refine ⟨1 + 1, by omega, by go_num, hB, r0, r1, ?_⟩
              have hxe := hx.out
              rw [show 64 * 1 + ((-1 : Int) + 1).toNat = 64 by rfl, show (63 - (-1 : Int)).toNat = 64 by rfl] at hxe
              rw [hxe] at r2
              exact r2
            case measure => simp [intOf] <;> omega
      · go_wp2
        obtain ⟨wo, rfl⟩ : ∃ wo : World, wo = wr := ⟨_, rfl⟩
        go_loopw [5] (fun t wr => ∃ (t' : Int) (x : Nat), t = .int .i64 t' ∧ -1 ≤ t' ∧ t' ≤ 63 ∧ Below w.heap.size w wr ∧ wr.row w.heap.size (bools f) 54 ∧ wr.row (w.heap.size + 1) (part4 f 0) 23 ∧ wr.row (w.heap.size + 1 + 1) [.int .u64 (Set4.tot f 0 64 : Nat), .int .u64 (Set4.tot f 64 64 : Nat), .int .u64 (x : Nat), .int .u64 (0 : Nat)] 23 ∧ Hid (x = Set4.tot f (64 * 2 + (t' + 1).toNat) (63 - t').toNat)) (fun t _ => (intOf t + 1).toNat)
        case atStart => exact ⟨63, 0, rfl, by omega, by omega, hB, r0, r1, r2, Lib.hid rfl⟩
        case round =>
          clear hB r0 r1 r2
          obtain ⟨t', x, rfl, h1, h2, hB, r0, r1, r2, hx⟩ := hrel
          by_cases h0 : 0 ≤ t'
          · obtain ⟨j, rfl⟩ : ∃ j : Nat, t' = (j : Int) := ⟨t'.toNat, by omega⟩
            have hx3 : x < 9223372036854775808 := by rw [hx.out]; exact tot63 f _ _ (by omega)
            obtain ⟨c0, c1, c2, c3, z0⟩ := r2.four
            obtain ⟨e, he⟩ : ∃ e, e = 2 * 64 + j := ⟨_, rfl⟩
            have hc := r0.cell e (bools_get f e (by omega))
            have hidx : 128 + (j : Int) = (e : Int) := by omega
            have HE := Lib.hid he
            have r3 := r2.set 2 (.int .u64 (2 * (x : Int)))
            have hc2 := (r0.other ⟨w.heap.size + 1 + 1, 2, none⟩ (.int .u64 (2 * (x : Int))) (by first | (dsimp only; omega) | simp)).cell e (bools_get f e (by omega))
            have hc3 := r3.cell 2 rfl
            have he3 : e < 256 := by omega
            clear he
            have HX : Hid (Set4.tot f (64 * 2 + (j : Int).toNat) (63 - ((j : Int) - 1)).toNat = (f e).toNat + 2 * x) := by
              rw [hx.out, HE.out, show (63 - ((j : Int) - 1)).toNat = (63 - (j : Int)).toNat + 1 by omega]
              show (f _).toNat + 2 * Set4.tot f _ _ = _
              rw [show 64 * 2 + (j : Int).toNat = 2 * 64 + j by omega, show 2 * 64 + j + 1 = 64 * 2 + ((j : Int) + 1).toNat by omega]
            cases hf : f e with
            | false =>
              rw [hf] at hc hc2
              have HF := Lib.hid hf
              clear hf
              go_wp2
              go_roundw
              case rel =>
                refine ⟨(j : Int) - 1, 2 * x, rfl, by omega, by omega, (by repeat' (first | (with_reducible exact Below.refl _ _) | (with_reducible assumption) | (with_reducible refine Below.setCell ?_ ?_ _) | (with_reducible refine Below.ext ?_ _ ?_) | (with_reducible refine Below.alloc ?_ ?_ _) | (with_reducible refine Below.drew ?_) | (with_reducible refine Below.drewN ?_ _) | (with_reducible exact Nat.le_refl _) | (dsimp only; omega) | (simp <;> omega))), r0.other _ _ (by first | (dsimp only; omega) | simp), r1.other _ _ (by first | (dsimp only; omega) | simp), r3, ?_⟩
                exact Lib.hid (by rw [show (j : Int) - 1 + 1 = (j : Int) by omega, HX.out, HF.out]; simp)
              case measure => simp [intOf] <;> omega
            | true =>
              rw [hf] at hc hc2
              have HF := Lib.hid hf
              clear hf
              go_wp2
              go_roundw
              case rel =>
                refine ⟨(j : Int) - 1, 2 * x + 1, rfl, by omega, by omega, (by repeat' (first | (with_reducible exact Below.refl _ _) | (with_reducible assumption) | (with_reducible refine Below.setCell ?_ ?_ _) | (with_reducible refine Below.ext ?_ _ ?_) | (with_reducible refine Below.alloc ?_ ?_ _) | (with_reducible refine Below.drew ?_) | (with_reducible refine Below.drewN ?_ _) | (with_reducible exact Nat.le_refl _) | (dsimp only; omega) | (simp <;> omega))), (r0.other _ _ (by first | (dsimp only; omega) | simp)).other _ _ (by first | (dsimp only; omega) | simp), (r1.other _ _ (by first | (dsimp only; omega) | simp)).other _ _ (by first | (dsimp only; omega) | simp), r3.set 2 _, ?_⟩
                exact Lib.hid (by rw [show (j : Int) - 1 + 1 = (j : Int) by omega, HX.out, HF.out]; simp; omega)
              case measure => simp [intOf] <;> omega
          · obtain rfl : t' = -1 := by omega
            go_wp2
            go_roundw
            case rel =>
              refine ⟨2 + 1, by omega, by go_num, hB, r0, r1, ?_⟩
              have hxe := hx.out
              rw [show 64 * 2 + ((-1 : Int) + 1).toNat = 128 by rfl, show (63 - (-1 : Int)).toNat = 64 by rfl] at hxe
              rw [hxe] at r2
              exact r2
            case measure => simp [intOf] <;> omega
      · go_wp2
        obtain ⟨wo, rfl⟩ : ∃ wo : World, wo = wr := ⟨_, rfl⟩
        go_loopw [5] (fun t wr => ∃ (t' : Int) (x : Nat), t = .int .i64 t' ∧ -1 ≤ t' ∧ t' ≤ 63 ∧ Below w.heap.size w wr ∧ wr.row w.heap.size (bools f) 54 ∧ wr.row (w.heap.size + 1) (part4 f 0) 23 ∧ wr.row (w.heap.size + 1 + 1) [.int .u64 (Set4.tot f 0 64 : Nat), .int .u64 (Set4.tot f 64 64 : Nat), .int .u64 (Set4.tot f 128 64 : Nat), .int .u64 (x : Nat)] 23 ∧ Hid (x = Set4.tot f (64 * 3 + (t' + 1).toNat) (63 - t').toNat)) (fun t _ => (intOf t + 1).toNat)
        case atStart => exact ⟨63, 0, rfl, by omega, by omega, hB, r0, r1, r2, Lib.hid rfl⟩
        case round =>
          clear hB r0 r1 r2
          obtain ⟨t', x, rfl, h1, h2, hB, r0, r1, r2, hx⟩ := hrel
          by_cases h0 : 0 ≤ t'
          · obtain ⟨j, rfl⟩ : ∃ j : Nat, t' = (j : Int) := ⟨t'.toNat, by omega⟩
            have hx3 : x < 9223372036854775808 := by rw [hx.out]; exact tot63 f _ _ (by omega)
            obtain ⟨c0, c1, c2, c3, z0⟩ := r2.four
            obtain ⟨e, he⟩ : ∃ e, e = 3 * 64 + j := ⟨_, rfl⟩
            have hc := r0.cell e (bools_get f e (by omega))
            have hidx : 192 + (j : Int) = (e : Int) := by omega
            have HE := Lib.hid he
            have r3 := r2.set 3 (.int .u64 (2 * (x : Int)))
            have hc2 := (r0.other ⟨w.heap.size + 1 + 1, 3, none⟩ (.int .u64 (2 * (x : Int))) (by first | (dsimp only; omega) | simp)).cell e (bools_get f e (by omega))
            have hc3 := r3.cell 3 rfl
            have he3 : e < 256 := by omega
            clear he
            have HX : Hid (Set4.tot f (64 * 3 + (j : Int).toNat) (63 - ((j : Int) - 1)).toNat = (f e).toNat + 2 * x) := by
              rw [hx.out, HE.out, show (63 - ((j : Int) - 1)).toNat = (63 - (j : Int)).toNat + 1 by omega]
              show (f _).toNat + 2 * Set4.tot f _ _ = _
              rw [show 64 * 3 + (j : Int).toNat = 3 * 64 + j by omega, show 3 * 64 + j + 1 = 64 * 3 + ((j : Int) + 1).toNat by omega]
            cases hf : f e with
            | false =>
              rw [hf] at hc hc2
              have HF := Lib.hid hf
              clear hf
              go_wp2
              go_roundw
              case rel =>
                refine ⟨(j : Int) - 1, 2 * x, rfl, by omega, by omega, (by repeat' (first | (with_reducible exact Below.refl _ _) | (with_reducible assumption) | (with_reducible refine Below.setCell ?_ ?_ _) | (with_reducible refine Below.ext ?_ _ ?_) | (with_reducible refine Below.alloc ?_ ?_ _) | (with_reducible refine Below.drew ?_) | (with_reducible refine Below.drewN ?_ _) | (with_reducible exact Nat.le_refl _) | (dsimp only; omega) | (simp <;> omega))), r0.other _ _ (by first | (dsimp only; omega) | simp), r1.other _ _ (by first | (dsimp only; omega) | simp), r3, ?_⟩
                exact Lib.hid (by rw [show (j : Int) - 1 + 1 = (j : Int) by omega, HX.out, HF.out]; simp)
              case measure => simp [intOf] <;> omega
            | true =>
              rw [hf] at hc hc2
              have HF := Lib.hid hf
              clear hf
              go_wp2
              go_roundw
              case rel =>
                refine ⟨(j : Int) - 1, 2 * x + 1, rfl, by omega, by omega, (by repeat' (first | (with_reducible exact Below.refl _ _) | (with_reducible assumption) | (with_reducible refine Below.setCell ?_ ?_ _) | (with_reducible refine Below.ext ?_ _ ?_) | (with_reducible refine Below.alloc ?_ ?_ _) | (with_reducible refine Below.drew ?_) | (with_reducible refine Below.drewN ?_ _) | (with_reducible exact Nat.le_refl _) | (dsimp only; omega) | (simp <;> omega))), (r0.other _ _ (by first | (dsimp only; omega) | simp)).other _ _ (by first | (dsimp only; omega) | simp), (r1.other _ _ (by first | (dsimp only; omega) | simp)).other _ _ (by first | (dsimp only; omega) | simp), r3.set 3 _, ?_⟩
                exact Lib.hid (by rw [show (j : Int) - 1 + 1 = (j : Int) by omega, HX.out, HF.out]; simp; omega)
              case measure => simp [intOf] <;> omega
          · obtain rfl : t' = -1 := by omega
            go_wp2
            go_roundw
            case rel =>
              refine ⟨3 + 1, by omega, by go_num, hB, r0, r1, ?_⟩
              have hxe := hx.out
              rw [show 64 * 3 + ((-1 : Int) + 1).toNat = 192 by rfl, show (63 - (-1 : Int)).toNat = 64 by rfl] at hxe
              rw [hxe] at r2
              exact r2
            case measure => simp [intOf] <;> omega
end Go.Proofs.YtdgeobofpnbenaaDoor
