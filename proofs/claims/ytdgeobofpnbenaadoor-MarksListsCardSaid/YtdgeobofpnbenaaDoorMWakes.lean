import Derived.Test.YtdgeobofpnbenaaDoorMRuns
namespace Go.Proofs.YtdgeobofpnbenaaDoor
open Go Go.RowKit
set_option maxRecDepth 100000
def s0 : Set4 := Set4.ofInts [3, 1, 2, 70]
theorem s0_next : s0.next 4 = some 70 := by decide +kernel
theorem s0_runs : s0.runsFrom 0 = [(1, 3), (70, 1)] := by decide +kernel
theorem s0_count : s0.count = 4 := by decide +kernel
theorem s0_has : s0.has 70 = true := by decide +kernel
theorem run_eq_array2 {P : Program} (d : Nat) (t e : TypeId) (i : TypeInfo) (k : IntKind) (w : World) (ht : P.underlying t = some (.array 2 e)) (he : P.underlying e = some (.int k)) (hi : P.info? e = some i) (hs : i.size = 1) (a0 a1 b0 b1 : Int) :
   (Op.equalIn (d + 2) t (.agg #[.int k a0, .int k a1]) (.agg #[.int k b0, .int k b1])).run P w = .ok (a0 == b0 && a1 == b1) w := by
  have hsz : ∀ w, (sizeOf e).run P w = .ok 1 w := fun w => by simp [sizeOf, typeInfo, hi, hs]
  have heq : ∀ (a b : Int) (w : World), (Op.equalIn (d + 1) e (.int k a) (.int k b)).run P w = .ok (a == b) w := fun a b w => run_equalIn_int w d e k k a b he
  rw [show d + 2 = (d + 1) + 1 by rfl, Op.equalIn]
  simp only [Sem.run_bind, run_underlying ht, Result.andThen_ok, hsz]
  simp only [Std.Legacy.Range.forIn_eq_forIn_range', Std.Legacy.Range.size, List.range'_succ, List.range'_zero, List.forIn_cons, List.forIn_nil]
  cases h0 : (a0 == b0) <;> cases h1 : (a1 == b1) <;> simp [part, isAgg, run_underlying he, heq, h0, h1]
@[go_sem] theorem eq_pair (w : World) (a0 a1 b0 b1 : Int) :
    (Op.equalIn 10000 44 (.agg #[.int .i64 a0, .int .i64 a1]) (.agg #[.int .i64 b0, .int .i64 b1])).run Tryd.prog w = .ok (a0 == b0 && a1 == b1) w := by
  obtain ⟨i, hi, hs⟩ : ∃ i, Tryd.prog.info? 3 = some i ∧ i.size = 1 := by
    have h : (Tryd.prog.info? 3).map (·.size) = some 1 := by kernel_rfl
    cases e : Tryd.prog.info? 3 with
    | none => rw [e] at h; cases h
    | some i => rw [e] at h; exact ⟨i, rfl, by simpa using h⟩
  exact run_eq_array2 9998 44 3 i .i64 w Tryd.underlying44 Tryd.underlying3 hi hs a0 a1 b0 b1
/-- An owned row of two pairs, cell by cell. -/
theorem own_two_pairs {w : World} {B : Nat} {E : TypeId} {v : Value} {x0 x1 x2 x3 : Value} (h : w.ownsRow B E 2 v 2 [x0, x1, x2, x3]) :
    ∃ g cap, v = .slice (some ⟨g, 0, none⟩) 2 cap ∧ w.cell? ⟨g, 0, none⟩ = some x0 ∧ w.cell? ⟨g, 1, none⟩ = some x1 ∧ w.cell? ⟨g, 2, none⟩ = some x2 ∧ w.cell? ⟨g, 3, none⟩ = some x3 := by
  rcases h.2 with ⟨_, h2⟩ | ⟨g, cap, cur, hv, h3⟩
  · omega
  · subst hv
    have h' : w.ownsRow B E 2 (.slice (some ⟨g, 0, none⟩) 2 cap) 2 [x0, x1, x2, x3] := h
    exact ⟨g, cap, rfl, h'.cellAt 0 (by omega), h'.cellAt 1 (by omega), h'.cellAt 2 (by omega), h'.cellAt 3 (by omega)⟩
set_option maxHeartbeats 2000000 in
theorem wakes_any (w : World) (hT : Tab w) : Calls Tryd.prog 9 #[] w fun e w' => e = .returned (.bool true) ∧ Below w.heap.size w w' := by
  have hlt := hT.lt
  have HT := Lib.hid hT
  clear hT
  go_enter Tryd.func9, Tryd.ntmps9
  go_wp2_with fail
  refine Calls.pure_to (Of_any [3, 1, 2, 70] w.heap.size 0 4 _ (fun j u h => by
    rcases j with _ | _ | _ | _ | j <;> simp [ints] at h <;> subst h <;> simp) (by decide)) ?_
  intro w1 hb1
  rw [show Set4.ofInts [3, 1, 2, 70] = s0 from rfl]
  have hB1 : Below w.heap.size w w1 := ((Below.refl _ _).alloc (Nat.le_refl _) _).trans (hb1.mono (by simp))
  have hs1 : w.heap.size < w1.heap.size := by have := hb1.size; simp at this; omega
  clear hb1
  go_wp2_with fail
  refine Calls.pure_to (Next_any s0 4 _ ((HT.out.below hB1 hlt).alloc _)) ?_
  intro w2 hb2
  rw [s0_next]
  have r2 := (World.row.new w1 s0.cells 24).below hb2 (by simp)
  have hB2 : Below w.heap.size w w2 := (hB1.alloc (by omega) _).trans (hb2.mono (by simp; omega))
  have hs2 : w1.heap.size < w2.heap.size := r2.lt
  clear hb2 hB1
  obtain ⟨c0, c1, c2, c3, z0⟩ := r2.four
  go_wp2_with fail
  refine (Runs_any s0 _ (HT.out.below hB2 hlt)).mono ?_
  rintro e w3 ⟨⟨v, rfl, ho⟩, hb3⟩
  rw [s0_runs] at ho
  obtain ⟨g, cap, rfl, g0, g1, g2, g3⟩ := own_two_pairs (show w3.ownsRow _ _ 2 v 2 [.int .i64 (1 : Int), .int .i64 (3 : Int), .int .i64 (70 : Int), .int .i64 (1 : Int)] from ho)
  have r3 := r2.below hb3 r2.lt
  have hB3 := hB2.trans (hb3.mono hB2.size)
  have hg := block_lt_of_cell g0
  clear c0 c1 c2 c3 z0 r2 ho hb3 hB2
  obtain ⟨c0, c1, c2, c3, z0⟩ := r3.four
  go_wp2_with fail
  refine Calls.pure_to (Count_any s0 _) ?_
  intro w4 hb4
  rw [s0_count]
  have r4 := r3.below hb4 r3.lt
  have q0 := (hb4.cell (p := ⟨g, 0, none⟩) hg).trans g0
  have q1 := (hb4.cell (p := ⟨g, 1, none⟩) hg).trans g1
  have q2 := (hb4.cell (p := ⟨g, 2, none⟩) hg).trans g2
  have q3 := (hb4.cell (p := ⟨g, 3, none⟩) hg).trans g3
  have hB4 := hB3.trans (hb4.mono hB3.size)
  clear c0 c1 c2 c3 z0 r3 hb4 hB3 g0 g1 g2 g3
  obtain ⟨c0, c1, c2, c3, z0⟩ := r4.four
  go_wp2_with fail
  refine Calls.pure_to (Has_yes s0 70 _ (by decide)) ?_
  intro w5 hb5
  rw [s0_has]
  have hB5 := hB4.trans (hb5.mono hB4.size)
  go_wp2
  go_ret
  exact ⟨rfl, hB5⟩
end Go.Proofs.YtdgeobofpnbenaaDoor
