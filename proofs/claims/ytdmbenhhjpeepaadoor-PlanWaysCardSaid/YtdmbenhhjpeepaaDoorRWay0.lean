/- The document's Way of kind 0: contract. -/
import Derived.Test.YtdmbenhhjpeepaaDoorRPlan
namespace Go.Proofs.YtdmbenhhjpeepaaDoor
open Go Go.RowKit
set_option maxRecDepth 100000
set_option maxHeartbeats 4000000 in
theorem Way_0 (r : RSt) (w : World) (hd : 2 ≤ r.data ∧ r.data ≤ 30) : Calls Tryd.prog 29 #[r.v, .int .i64 0] w fun e w' => e = .returned (.tuple #[qv (r.plan 0).1 (r.plan 0).2, .bool (r.may 0)]) ∧ Below w.heap.size w w' := by
  obtain ⟨m, hm⟩ : ∃ m : Nat, r.data = (m : Int) := ⟨r.data.toNat, by omega⟩
  have hm1 : 2 ≤ m := by omega
  have hm2 : m ≤ 30 := by omega
  have hn2 : r.n2 = m + 2 := by unfold RSt.n2; omega
  have HN := Lib.hid (And.intro hm hn2)
  obtain ⟨pl, hpl⟩ : ∃ pl, pl = r.plan 0 := ⟨_, rfl⟩
  obtain ⟨my, hmy⟩ : ∃ my, my = r.may 0 := ⟨_, rfl⟩
  rw [← hpl, ← hmy]
  have HP := Lib.hid (And.intro hpl hmy)
  clear hd hm hn2 hpl hmy
  go_enter Tryd.func29, Tryd.ntmps29
  go_upto_region 1 with ((with_reducible apply op_alloc); (case hw => rfl); (case hz => exact zeroQ); (case hzs => rfl); simp only [Act.put, List.setIfInBounds_toArray, List.set_cons_zero, List.set_cons_succ])
  obtain ⟨g, hg⟩ : ∃ g, g = w.heap.size := ⟨_, rfl⟩
  refine wp_world (fun w1 => w1.row g r.cs tR ∧ w1.row (g + 1) (qcs 0 zB) tQ ∧ Below g w w1 ∧ w1.heap.size = g + 1 + 1) ⟨by rw [hg]; exact World.row.alloc (World.row.new' rfl) _, by rw [hg]; exact World.row.new' (by simp), by rw [hg]; exact (by repeat' (first | (with_reducible exact Below.refl _ _) | (with_reducible assumption) | (with_reducible refine Below.setCell ?_ ?_ _) | (with_reducible refine Below.ext ?_ _ ?_) | (with_reducible refine Below.alloc ?_ ?_ _) | (with_reducible refine Below.drew ?_) | (with_reducible refine Below.drewN ?_ _) | (with_reducible exact Nat.le_refl _) | (dsimp only; omega) | (simp <;> omega))), by rw [hg]; simp⟩ ?_
  simp only [World.size_alloc, ← hg]
  rintro w1 ⟨r1, r2, B1, hs⟩
  go_upto_region 2 with (first | ((with_reducible apply op_build1); (case hw => rfl); (case hx => rfl); (case hb => exact build_Q 0); simp only [Act.put, List.setIfInBounds_toArray, List.set_cons_zero, List.set_cons_succ]) | ((with_reducible apply op_alloc); (case hw => rfl); (case hz => exact zeroQ); (case hzs => rfl); simp only [Act.put, List.setIfInBounds_toArray, List.set_cons_zero, List.set_cons_succ]) | (((with_reducible apply op_st); (case hw => rfl); (case hx => rfl); (case hy => rfl); (case hr => exact World.row.new' (cs := qcs 0 zB) rfl); (case ht => exact rtQ 0 zB); (case hn => rfl); (case hold => rfl); (case h1 => exact qcs_one _ _); simp only [Act.put])))
  have hgw : w.heap.size ≤ g := Nat.le_of_eq hg.symm
  refine wp_world (fun w2 => w2.row g r.cs tR ∧ w2.row (g + 1) (qcs 0 zB) tQ ∧ w2.row (g + 1 + 1) (qcs 0 zB) tQ ∧ Below w.heap.size w w2) ⟨(r1.alloc _).setRow_other (by rw [hs]; omega), (r2.alloc _).setRow_other (by rw [hs]; omega), by rw [hs]; exact (World.row.new' (cs := qcs 0 zB) hs).setRow, by rw [← hg]; exact ((B1.alloc (by omega) _).setRow (by omega) _)⟩ ?_
  simp only [hs]
  clear r1 r2 B1 hs hg w1
  rintro w2 ⟨r1, r2, r3, B2⟩
  have HS := Lib.hid (And.intro r1 (And.intro r2 (And.intro r3 B2)))
  clear r1 r2 r3 B2
  go_wp2_with fail
  go_loopw [7, 8] (fun c i wr => ∃ (k : Nat), k ≤ r.n2 ∧ c = .int .i64 (cnt (r.rd 0) k) ∧ i = .int .i64 k ∧ (∀ i, i < k → r.ba 0 i = false) ∧ wr.row g r.cs tR ∧ wr.row (g + 1) (qcs 0 zB) tQ ∧ wr.row (g + 1 + 1) (qcs 0 (upTo (r.rd 0) k)) tQ ∧ Below w.heap.size w wr) (fun _ i _ => r.n2 - (intOf i).toNat)
  case atStart => exact ⟨0, Nat.zero_le _, rfl, rfl, fun i hi => absurd hi (Nat.not_lt_zero _), HS.out.1, HS.out.2.1, by rw [upTo_zero]; exact HS.out.2.2.1, HS.out.2.2.2⟩
  case round =>
    obtain ⟨k, hk, rfl, rfl, hok, h1, h2, h3, hB⟩ := hrel
    rw [HN.out.2] at hk
    have c0 := h1.cell 0 r.at0
    rw [HN.out.1] at c0
    have lc := cnt_le (r.rd 0) k
    by_cases hlt : k < m + 2
    · have hk32 : k < 32 := by omega
      have hkI : (k : Int) < (m : Int) + 2 := by omega
      have cD := h1.cell _ (r.atD hk32)
      have cH := h1.cell _ (r.atH hk32)
      have cK := h1.cell _ (r.atK hk32)
      have cL := h1.cell _ (r.atL hk32)
      have cq := h3.cell _ (qcs_at 0 (upTo (r.rd 0) k) hk32)
      have zq := h3.free (1 + k)
      have hkn : k < r.n2 := by rw [HN.out.2]; exact hlt
      have HX := Lib.hid (And.intro (cnt_succ (r.rd 0) k) (And.intro (fun b => qcs_set 0 (r.rd 0) k b) (And.intro (qcs_same 0 (r.rd 0) k) hkn)))
      have hrd := r.rd_0 k
      have hba := r.ba_0 k
      try rw [HN.out.1] at hrd
      try rw [HN.out.1] at hba
      have hup : upTo (r.rd 0) k k = false := by simp [upTo]
      rw [hup] at cq
      clear hup
      generalize r.D k = bd at *
      generalize r.H k = bh at *
      generalize r.K k = bk at *
      generalize r.L k = bl at *
      generalize cnt (r.rd 0) k = c at *
      have HR := Lib.hid (And.intro h1 (And.intro h2 (And.intro h3 (And.intro hB (And.intro hok (And.intro hrd hba))))))
      clear h1 h2 h3 hB hok hrd hba hkn
      by_cases e1 : (m : Int) ≤ (k : Int)
      · have HF := Lib.hid (decide_eq_true e1)
        (go_wp2_with (first | ((with_reducible apply op_build0); (case hw => rfl); (case hb => exact build_Q0); simp only [Act.put, List.setIfInBounds_toArray, List.set_cons_zero, List.set_cons_succ]) | ((with_reducible apply op_st); (case hw => rfl); (case hx => rfl); (case hy => rfl); (case hr => first | exact HR.out.2.1 | exact HR.out.2.1.other _ _ (by simp)); (case ht => exact rtQ 0 zB); (case hn => rfl); (case hold => rfl); (case h1 => exact qcs_one _ _); simp only [Act.put])); first | (go_roundw; (case rel => exact ⟨k + 1, by rw [HN.out.2]; omega, (by first | (rw [HX.out.1, HR.out.2.2.2.2.2.1, HF.out]; go_num) | (rw [HX.out.1, HR.out.2.2.2.2.2.1]; go_num)), by go_num, (fun i hi => by rcases Nat.lt_succ_iff_lt_or_eq.1 hi with h | rfl; exact HR.out.2.2.2.2.1 i h; exact (by first | (rw [HR.out.2.2.2.2.2.2, HF.out] <;> rfl) | (rw [HR.out.2.2.2.2.2.2] <;> rfl))), (by first | exact HR.out.1 | exact HR.out.1.other _ _ (by simp; omega)), (by first | exact HR.out.2.1 | exact HR.out.2.1.other _ _ (by simp)), (by first | (rw [← HX.out.2.2.1 (by first | (rw [HR.out.2.2.2.2.2.1, HF.out] <;> rfl) | (rw [HR.out.2.2.2.2.2.1] <;> rfl))]; exact HR.out.2.2.1) | (rw [← HX.out.2.1 _ (by first | (rw [HR.out.2.2.2.2.2.1, HF.out] <;> rfl) | (rw [HR.out.2.2.2.2.2.1] <;> rfl))]; exact HR.out.2.2.1.set _ _)), (by first | exact HR.out.2.2.2.1 | exact HR.out.2.2.2.1.setCell (by dsimp only; omega) _)⟩); (case measure => have := HN.out.2; simp [intOf] <;> omega)) | (exact bodyPost_ct rfl rfl (by first | exact HR.out.2.1.setRow | exact (HR.out.2.1.other _ _ (by simp)).setRow) (rtQ _ _) rfl ⟨(by rw [HP.out.1, HP.out.2, RSt.plan_not (RSt.may_not (RSt.notAll HX.out.2.2.2 (by first | (rw [HR.out.2.2.2.2.2.2, HF.out] <;> rfl) | (rw [HR.out.2.2.2.2.2.2] <;> rfl)))), RSt.may_not (RSt.notAll HX.out.2.2.2 (by first | (rw [HR.out.2.2.2.2.2.2, HF.out] <;> rfl) | (rw [HR.out.2.2.2.2.2.2] <;> rfl)))] <;> rfl), (by first | exact HR.out.2.2.2.1.setRow (by omega) _ | exact (HR.out.2.2.2.1.setCell (by dsimp only; omega) _).setRow (by omega) _)⟩))
      · have HF := Lib.hid (decide_eq_false e1)
        cases bh
        · (go_wp2_with (first | ((with_reducible apply op_build0); (case hw => rfl); (case hb => exact build_Q0); simp only [Act.put, List.setIfInBounds_toArray, List.set_cons_zero, List.set_cons_succ]) | ((with_reducible apply op_st); (case hw => rfl); (case hx => rfl); (case hy => rfl); (case hr => first | exact HR.out.2.1 | exact HR.out.2.1.other _ _ (by simp)); (case ht => exact rtQ 0 zB); (case hn => rfl); (case hold => rfl); (case h1 => exact qcs_one _ _); simp only [Act.put])); first | (go_roundw; (case rel => exact ⟨k + 1, by rw [HN.out.2]; omega, (by first | (rw [HX.out.1, HR.out.2.2.2.2.2.1, HF.out]; go_num) | (rw [HX.out.1, HR.out.2.2.2.2.2.1]; go_num)), by go_num, (fun i hi => by rcases Nat.lt_succ_iff_lt_or_eq.1 hi with h | rfl; exact HR.out.2.2.2.2.1 i h; exact (by first | (rw [HR.out.2.2.2.2.2.2, HF.out] <;> rfl) | (rw [HR.out.2.2.2.2.2.2] <;> rfl))), (by first | exact HR.out.1 | exact HR.out.1.other _ _ (by simp; omega)), (by first | exact HR.out.2.1 | exact HR.out.2.1.other _ _ (by simp)), (by first | (rw [← HX.out.2.2.1 (by first | (rw [HR.out.2.2.2.2.2.1, HF.out] <;> rfl) | (rw [HR.out.2.2.2.2.2.1] <;> rfl))]; exact HR.out.2.2.1) | (rw [← HX.out.2.1 _ (by first | (rw [HR.out.2.2.2.2.2.1, HF.out] <;> rfl) | (rw [HR.out.2.2.2.2.2.1] <;> rfl))]; exact HR.out.2.2.1.set _ _)), (by first | exact HR.out.2.2.2.1 | exact HR.out.2.2.2.1.setCell (by dsimp only; omega) _)⟩); (case measure => have := HN.out.2; simp [intOf] <;> omega)) | (exact bodyPost_ct rfl rfl (by first | exact HR.out.2.1.setRow | exact (HR.out.2.1.other _ _ (by simp)).setRow) (rtQ _ _) rfl ⟨(by rw [HP.out.1, HP.out.2, RSt.plan_not (RSt.may_not (RSt.notAll HX.out.2.2.2 (by first | (rw [HR.out.2.2.2.2.2.2, HF.out] <;> rfl) | (rw [HR.out.2.2.2.2.2.2] <;> rfl)))), RSt.may_not (RSt.notAll HX.out.2.2.2 (by first | (rw [HR.out.2.2.2.2.2.2, HF.out] <;> rfl) | (rw [HR.out.2.2.2.2.2.2] <;> rfl)))] <;> rfl), (by first | exact HR.out.2.2.2.1.setRow (by omega) _ | exact (HR.out.2.2.2.1.setCell (by dsimp only; omega) _).setRow (by omega) _)⟩))
        · (go_wp2_with (first | ((with_reducible apply op_build0); (case hw => rfl); (case hb => exact build_Q0); simp only [Act.put, List.setIfInBounds_toArray, List.set_cons_zero, List.set_cons_succ]) | ((with_reducible apply op_st); (case hw => rfl); (case hx => rfl); (case hy => rfl); (case hr => first | exact HR.out.2.1 | exact HR.out.2.1.other _ _ (by simp)); (case ht => exact rtQ 0 zB); (case hn => rfl); (case hold => rfl); (case h1 => exact qcs_one _ _); simp only [Act.put])); first | (go_roundw; (case rel => exact ⟨k + 1, by rw [HN.out.2]; omega, (by first | (rw [HX.out.1, HR.out.2.2.2.2.2.1, HF.out]; go_num) | (rw [HX.out.1, HR.out.2.2.2.2.2.1]; go_num)), by go_num, (fun i hi => by rcases Nat.lt_succ_iff_lt_or_eq.1 hi with h | rfl; exact HR.out.2.2.2.2.1 i h; exact (by first | (rw [HR.out.2.2.2.2.2.2, HF.out] <;> rfl) | (rw [HR.out.2.2.2.2.2.2] <;> rfl))), (by first | exact HR.out.1 | exact HR.out.1.other _ _ (by simp; omega)), (by first | exact HR.out.2.1 | exact HR.out.2.1.other _ _ (by simp)), (by first | (rw [← HX.out.2.2.1 (by first | (rw [HR.out.2.2.2.2.2.1, HF.out] <;> rfl) | (rw [HR.out.2.2.2.2.2.1] <;> rfl))]; exact HR.out.2.2.1) | (rw [← HX.out.2.1 _ (by first | (rw [HR.out.2.2.2.2.2.1, HF.out] <;> rfl) | (rw [HR.out.2.2.2.2.2.1] <;> rfl))]; exact HR.out.2.2.1.set _ _)), (by first | exact HR.out.2.2.2.1 | exact HR.out.2.2.2.1.setCell (by dsimp only; omega) _)⟩); (case measure => have := HN.out.2; simp [intOf] <;> omega)) | (exact bodyPost_ct rfl rfl (by first | exact HR.out.2.1.setRow | exact (HR.out.2.1.other _ _ (by simp)).setRow) (rtQ _ _) rfl ⟨(by rw [HP.out.1, HP.out.2, RSt.plan_not (RSt.may_not (RSt.notAll HX.out.2.2.2 (by first | (rw [HR.out.2.2.2.2.2.2, HF.out] <;> rfl) | (rw [HR.out.2.2.2.2.2.2] <;> rfl)))), RSt.may_not (RSt.notAll HX.out.2.2.2 (by first | (rw [HR.out.2.2.2.2.2.2, HF.out] <;> rfl) | (rw [HR.out.2.2.2.2.2.2] <;> rfl)))] <;> rfl), (by first | exact HR.out.2.2.2.1.setRow (by omega) _ | exact (HR.out.2.2.2.1.setCell (by dsimp only; omega) _).setRow (by omega) _)⟩))
    · have hkI : ¬ (k : Int) < (m : Int) + 2 := by omega
      have hkn : k = r.n2 := by rw [HN.out.2]; omega
      have hA : r.allOk 0 = true := RSt.allOk_of (by rw [← hkn]; exact hok)
      have hm3 := h3.range
      have hmay : r.may 0 = true := hA
      have HZ := Lib.hid (And.intro (HP.out.1.trans ((RSt.plan_yes hmay).trans (by rw [← hkn]))) (HP.out.2.trans hmay))
      clear hmay hkn hA hok HP
      go_wp2_with (first | ((with_reducible apply op_ld); (case hw => rfl); (case hx => rfl); (case hc => exact hm3); (case ht => exact rtQ _ _); simp only [Act.put, List.setIfInBounds_toArray, List.set_cons_zero, List.set_cons_succ]) | (((with_reducible apply op_st); (case hw => rfl); (case hx => rfl); (case hy => rfl); (case hr => exact h2); (case ht => exact rtQ 0 zB); (case hn => rfl); (case hold => rfl); (case h1 => exact qcs_one _ _); simp only [Act.put])))
      exact bodyPost_ct rfl rfl h2.setRow (rtQ _ _) rfl ⟨(by rw [HZ.out.1, HZ.out.2] <;> rfl), hB.setRow (by omega) _⟩
end Go.Proofs.YtdmbenhhjpeepaaDoor
