/- The law's samePlan: contract. -/
import Derived.Test.YtdmbenhhjpeepaaDoorRSame
import Derived.Test.YtdmbenhhjpeepaaDoorPLeast
namespace Go.Proofs.YtdmbenhhjpeepaaDoor
open Go Go.RowKit
set_option maxRecDepth 100000
theorem qcs_range {w : World} {g : Nat} {x : Int} {f : Nat → Bool} {t : TypeId} (h : w.row g (qcs x f) t) : w.rangeAt g 1 (blist 32 f) := by
  have := h.range.part 1 32
  rw [Nat.zero_add] at this
  have e : List.take 32 (List.drop 1 (qcs x f)) = blist 32 f := List.take_of_length_le (by simp [qcs, blist_len])
  rw [e] at this
  exact this
theorem samePlan_yes (x : Int) (s : Set4) (f : Nat → Bool) (h : s = toSet f) (w : World) : Calls Tryd.prog 11 #[pv x s, qv x f] w fun e w' => e = .returned (.bool true) ∧ Below w.heap.size w w' := by
  have HH := Lib.hid h
  clear h
  go_enter Tryd.func11, Tryd.ntmps11
  go_upto_region 1 with fail
  refine wp_world (fun w1 => w1.row w.heap.size (pcs x s) tPl ∧ w1.row (w.heap.size + 1) (qcs x f) tQ ∧ Below w.heap.size w w1) ⟨World.row.alloc (World.row.new' rfl) _, World.row.new' (by simp), (by repeat' (first | (with_reducible exact Below.refl _ _) | (with_reducible assumption) | (with_reducible refine Below.setCell ?_ ?_ _) | (with_reducible refine Below.ext ?_ _ ?_) | (with_reducible refine Below.alloc ?_ ?_ _) | (with_reducible refine Below.drew ?_) | (with_reducible refine Below.drewN ?_ _) | (with_reducible exact Nat.le_refl _) | (dsimp only; omega) | (simp <;> omega)))⟩ ?_
  rintro w1 ⟨r1, r2, B1⟩
  have mq := qcs_range r2
  have HS := Lib.hid (And.intro r1 (And.intro r2 B1))
  clear r1 r2 B1
  go_wp2_with ((with_reducible apply op_ld); (case hw => rfl); (case hx => rfl); (case hc => assumption); (case ht => exact rtB _); simp only [Act.put, List.setIfInBounds_toArray, List.set_cons_zero, List.set_cons_succ])
  clear mq
  go_loopw [5, 10] (fun n i wr => ∃ (k : Nat), k ≤ 32 ∧ n = .int .u64 (natOf f k : Nat) ∧ i = .int .i64 k ∧ wr.row w.heap.size (pcs x s) tPl ∧ wr.row (w.heap.size + 1) (qcs x f) tQ ∧ Below w.heap.size w wr) (fun _ i => fun _ => 32 - (intOf i).toNat)
  case atStart => exact ⟨0, by omega, rfl, rfl, HS.out.1, HS.out.2.1, HS.out.2.2⟩
  case round =>
    obtain ⟨k, hk, rfl, rfl, h1, h2, hB⟩ := hrel
    by_cases hlt : k < 32
    · have hi := index_B f k hlt
      have HW := Lib.hid (And.intro (natOf_lt f k) (natOf_64 f hk))
      have HP : Hid (natOf f (k + 1) = if f k = true then natOf f k ||| 2 ^ k else natOf f k) := Lib.hid rfl
      generalize f k = b at *
      generalize natOf f k = l at *
      have HR := Lib.hid (And.intro h1 (And.intro h2 hB))
      clear h1 h2 hB
      cases b
      · go_wp2_with fail
        go_roundw
        case rel => exact ⟨k + 1, by omega, by rw [HP.out, if_neg (by simp)], by go_num, HR.out.1, HR.out.2.1, HR.out.2.2⟩
        case measure => simp [intOf] <;> omega
      · go_wp2_with fail
        go_roundw
        case rel => exact ⟨k + 1, by omega, by rw [HP.out, pow_wrap k (by omega), u64_or_nat l (2 ^ k) HW.out.2 (Nat.pow_lt_pow_right (n := 64) (by decide) (by omega)), if_pos rfl], by go_num, HR.out.1, HR.out.2.1, HR.out.2.2⟩
        case measure => simp [intOf] <;> omega
    · obtain rfl : k = 32 := by omega
      have hb : s.beq (Set4.ofNat (natOf f 32) (natOf_64 f (Nat.le_refl _))) = true := by rw [HH.out]; exact (Set4.beq_iff _ _).2 rfl
      have hset := fun w => set_any (natOf f 32) (natOf_64 f (Nat.le_refl _)) w
      generalize Set4.ofNat (natOf f 32) (natOf_64 f (Nat.le_refl _)) = t at hb hset
      generalize natOf f 32 = n at *
      have HT := Lib.hid hset
      have c1 := h1.cell 0 rfl
      have c2 := h2.cell 0 (v := .int .i64 x) rfl
      have n1 : wr.rangeAt w.heap.size 1 s.cs := by have := h1.range.part 1 4; rw [Nat.zero_add] at this; exact this
      have l1 := h1.lt
      have l2 := h2.lt
      have hB0 : wr.heap.size ≤ wr.heap.size := Nat.le_refl _
      clear hset h1 h2
      go_wp2_with fail
      refine wp_region_ext wr.heap.size hB0 (by kernel_rfl) (by kernel_rfl) ?_
      intro _
      repeat (first | ((with_reducible apply q_ld); (case hw => rfl); (case hx => rfl); (case hc => assumption); (case hb => assumption); (case ht => first | exact rtS _ | exact rtP _ | exact rtPl _ _); simp only [Act.put, List.setIfInBounds_toArray, List.set_cons_zero, List.set_cons_succ]) | ((with_reducible apply q_eqs rfl); (case hw => rfl); (case hx => rfl); (case hy => rfl); (case hb => exact hb); simp only [Act.put, List.setIfInBounds_toArray, List.set_cons_zero, List.set_cons_succ]) | go_big_quiet_step (first | with_reducible exact Calls.ext_of (HT.out _)))
      refine wpQuiet_nil ?_
      intro z
      have bwy := World.ext_below z
      generalize World.ext wr wr.heap.size z = wy at *
      clear z
      clear c1 c2 n1 l1 l2
      go_wp2_with fail
      go_returns
      exact ⟨rfl, hB.trans (bwy.mono hB.size)⟩
end Go.Proofs.YtdmbenhhjpeepaaDoor
