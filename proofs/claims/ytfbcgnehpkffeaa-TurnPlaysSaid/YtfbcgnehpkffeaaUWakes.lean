/- The laws' 'equal' and signs of life: contracts. -/
import Derived.Test.YtfbcgnehpkffeaaUConcat
namespace Go.Proofs.Ytfbcgnehpkffeaa
open Go Go.RowKit
set_option maxRecDepth 100000
variable {B n : Nat} {w : World} {M : TM} {T : TS}
theorem irow_rd {v : Value} {xs : List Int} (h : w.irow B tI v xs) : w.rd v (ints xs) := World.ownsRow.rd h
theorem lit_rd {b c : Nat} {t : TypeId} (xs : List Int) (h : w.row b (ints xs) t) : w.rd (.slice (some ⟨b, 0, none⟩) xs.length c) (ints xs) :=
  ⟨some ⟨b, 0, none⟩, c, by rw [ints_len], .inr ⟨b, 0, rfl, fun j u hj => by rw [Nat.zero_add]; exact h.cell j hj⟩⟩
theorem equal_any {v u : Value} {xs : List Int} (w : World) (h1 : w.rd v (ints xs)) (h2 : w.rd u (ints xs)) (hl : xs.length ≤ 1000) :
    Calls Try.prog 25 #[v, u] w fun e w' => e = .returned (.bool true) ∧ Below w.heap.size w w' := by
  obtain ⟨a1, c1, e1, hc1⟩ := h1
  obtain ⟨a2, c2, e2, hc2⟩ := h2
  rw [ints_len] at e1 e2
  subst e1
  subst e2
  have HC := Lib.hid (And.intro hc1 hc2)
  obtain ⟨m, hm⟩ : ∃ m, m = xs.length := ⟨_, rfl⟩
  rw [← hm] at hl ⊢
  have HM := Lib.hid hm
  clear hc1 hc2 hm
  go_enter Try.func25, Try.ntmps25
  go_wp2_with fail
  go_loopw [13] (fun y wr => ∃ (i : Nat), i ≤ m ∧ y = .int .i64 i ∧ Below w.heap.size w wr) (fun y _ => m - (intOf y).toNat)
  case atStart => exact ⟨0, by omega, rfl, Below.refl _ _⟩
  case round =>
    obtain ⟨i, him, rfl, hB⟩ := hrel
    by_cases hlt2 : i < m
    · have hil : i < xs.length := by rw [← HM.out]; exact hlt2
      have ne : ints xs ≠ [] := by intro e; have := ints_len xs; rw [e] at this; simp at this; omega
      obtain ⟨b1, o1, rfl, d1⟩ := HC.out.1.resolve_left ne
      obtain ⟨b2, o2, rfl, d2⟩ := HC.out.2.resolve_left ne
      have hx := ints_get xs i (List.getElem?_eq_getElem hil)
      have g1 := d1 i _ hx
      have g2 := d2 i _ hx
      obtain ⟨y, hy⟩ : ∃ y, y = xs[i] := ⟨_, rfl⟩
      rw [← hy] at g1 g2
      have k1 : wr.cell? ⟨b1, o1 + i, none⟩ = _ := (hB.cell (p := ⟨b1, o1 + i, none⟩) (block_lt_of_cell g1)).trans g1
      have k2 : wr.cell? ⟨b2, o2 + i, none⟩ = _ := (hB.cell (p := ⟨b2, o2 + i, none⟩) (block_lt_of_cell g2)).trans g2
      clear g1 g2 d1 d2 ne hx hil hy
      go_wp2_with fail
      go_quiet (fail)
      go_wp2_with fail
      go_roundw
      case rel => exact ⟨i + 1, by omega, by go_num, hB.drewN _⟩
      case measure => simp [intOf] <;> omega
    · go_wp2_with fail
      go_returns
      exact ⟨rfl, hB⟩
def wk0 : TS := ⟨4, 2, [], [], []⟩
def wk1 : TS := ((wk0.addT 1).addT 2).addT 3
def wk2 : TS := wk1.touchT 1
def wk3 : TS := (wk2.touchT 2).touchT 3
theorem in64_small {x : Int} (h : 0 ≤ x) (h2 : x ≤ 1000) : In64 x := ⟨by omega, by omega⟩
theorem good0 : Good wk0 := ⟨by decide, by decide, by decide, by decide, by decide, by simp [wk0], fun k hk => by simp [wk0] at hk⟩
theorem good1 : Good wk1 := ((good0.add 1 (in64_small (by decide) (by decide))).add 2 (in64_small (by decide) (by decide))).add 3 (in64_small (by decide) (by decide))
theorem good2 : Good wk2 := good1.touch 1
theorem good3 : Good wk3 := (good2.touch 2).touch 3
set_option maxHeartbeats 1000000 in
theorem wakes_any (w : World) : Calls Try.prog 9 #[] w fun e w' => e = .returned (.bool true) ∧ Below w.heap.size w w' := by
  go_enter Try.func9, Try.ntmps9
  go_wp2_with fail
  refine (New_ok 4 2 w (Nat.le_refl _) (by decide) (by decide) (by decide)).mono ?_
  rintro e w1 ⟨M, rfl, h1, hb1, hf1⟩
  have h1' : TurnAt w.heap.size 0 w1 M wk0 := h1
  clear h1 hf1
  go_wp2_with fail
  have T0 := h1'.below' (w' := w1.alloc (.cells #[.int .i64 1, .int .i64 2, .int .i64 3] tI)) (by repeat' (first | (with_reducible exact Below.refl _ _) | (with_reducible assumption) | (with_reducible refine Below.setCell ?_ ?_ _) | (with_reducible refine Below.ext ?_ _ ?_) | (with_reducible refine Below.alloc ?_ ?_ _) | (with_reducible refine Below.drew ?_) | (with_reducible refine Below.drewN ?_ _) | (with_reducible exact Nat.le_refl _) | (dsimp only; omega) | (simp <;> omega)))
  have r0 := World.row.new w1 [.int .i64 1, .int .i64 2, .int .i64 3] tI
  have B0 : Below w.heap.size w (w1.alloc (.cells #[.int .i64 1, .int .i64 2, .int .i64 3] tI)) := hb1.alloc hb1.size _
  have f0 : ¬ M.foot w1.heap.size := fun hf => by have := (h1'.lts _ hf).2; omega
  obtain ⟨g, hgM⟩ : ∃ g, M.g = g := ⟨_, rfl⟩
  obtain ⟨L, hL⟩ : ∃ L, L = w1.heap.size := ⟨_, rfl⟩
  obtain ⟨wa, hwa⟩ : ∃ wa, wa = w1.alloc (.cells #[.int .i64 1, .int .i64 2, .int .i64 3] tI) := ⟨_, rfl⟩
  rw [← hwa] at T0 r0 B0 ⊢
  rw [← hL] at r0 f0 ⊢
  rw [hgM]
  clear hwa hL h1' hb1
  refine wp_loop_rounds 4 ?_
  rw [rounds_succ]
  obtain ⟨c0, c1, c2⟩ := (⟨r0.cell 0 rfl, r0.cell 1 rfl, r0.cell 2 rfl⟩ : wa.cell? ⟨L, 0, none⟩ = some (.int .i64 1) ∧ wa.cell? ⟨L, 1, none⟩ = some (.int .i64 2) ∧ wa.cell? ⟨L, 2, none⟩ = some (.int .i64 3))
  have a1 := Add_any 1 wa T0 good0
  rw [hgM, show TS.addE wk0 1 = 0 from by decide] at a1
  go_wp2_with fail
  refine a1.mono ?_
  rintro e v1 ⟨rfl, M1, P1, S1⟩
  have B1 := S1.under T0 T0.le B0
  have r1 := S1.row r0 f0
  have f1 := S1.out r0.lt f0
  have g1 := S1.g.trans hgM
  clear a1 c0 c1 c2 S1 T0 r0 B0 f0 hgM
  go_wp2_with fail
  rw [rounds_succ]
  obtain ⟨c0, c1, c2⟩ := (⟨r1.cell 0 rfl, r1.cell 1 rfl, r1.cell 2 rfl⟩ : v1.cell? ⟨L, 0, none⟩ = some (.int .i64 1) ∧ v1.cell? ⟨L, 1, none⟩ = some (.int .i64 2) ∧ v1.cell? ⟨L, 2, none⟩ = some (.int .i64 3))
  have a2 := Add_any 2 v1 P1 (good0.add 1 (in64_small (by decide) (by decide)))
  rw [g1, show TS.addE (wk0.addT 1) 2 = 0 from by decide] at a2
  go_wp2_with fail
  refine a2.mono ?_
  rintro e v2 ⟨rfl, M2, P2, S2⟩
  have B2 := S2.under P1 P1.le B1
  have r2 := S2.row r1 f1
  have f2 := S2.out r1.lt f1
  have g2 := S2.g.trans g1
  clear a2 c0 c1 c2 S2 P1 r1 B1 f1 g1
  go_wp2_with fail
  rw [rounds_succ]
  obtain ⟨c0, c1, c2⟩ := (⟨r2.cell 0 rfl, r2.cell 1 rfl, r2.cell 2 rfl⟩ : v2.cell? ⟨L, 0, none⟩ = some (.int .i64 1) ∧ v2.cell? ⟨L, 1, none⟩ = some (.int .i64 2) ∧ v2.cell? ⟨L, 2, none⟩ = some (.int .i64 3))
  have a3 := Add_any 3 v2 P2 ((good0.add 1 (in64_small (by decide) (by decide))).add 2 (in64_small (by decide) (by decide)))
  rw [g2, show TS.addE ((wk0.addT 1).addT 2) 3 = 0 from by decide] at a3
  go_wp2_with fail
  refine a3.mono ?_
  rintro e v3 ⟨rfl, M3, P3, S3⟩
  have B3 := S3.under P2 P2.le B2
  have r3 := S3.row r2 f2
  have f3 := S3.out r2.lt f2
  have g3 := S3.g.trans g2
  clear a3 c0 c1 c2 S3 P2 r2 B2 f2 g2
  go_wp2_with fail
  rw [rounds_succ]
  clear r3 f3
  have Q0 : TurnAt w.heap.size 0 v3 M3 wk1 := P3
  clear P3
  have a4 := Touch_any 1 _ Q0 good1
  rw [g3, show TS.has wk1 1 = true from by decide] at a4
  go_wp2_with fail
  refine a4.mono ?_
  rintro e v4 ⟨rfl, M4, P4, S4⟩
  have B4 := S4.under Q0 Q0.le B3
  have g4 := S4.g.trans g3
  clear a4 S4 Q0 B3 g3
  have Q4 : TurnAt w.heap.size 0 v4 M4 wk2 := P4
  clear P4
  have a5 := Order_any _ Q4 good2
  rw [g4] at a5
  go_wp2_with fail
  refine a5.mono ?_
  rintro e v5 ⟨⟨u, rfl, hu⟩, hb5⟩
  have Q5 := Q4.below' hb5
  have B5 := B4.trans (hb5.mono Q4.le)
  have hu' := irow_rd hu
  clear a5 Q4 B4 hb5 hu
  go_wp2_with fail
  have lr := World.row.new v5 (ints [2, 3, 1]) tI
  have lb : Below v5.heap.size v5 (v5.alloc (.cells (ints [2, 3, 1]).toArray tI)) := (Below.refl _ _).alloc (Nat.le_refl _) _
  refine Calls.pure_to (equal_any (xs := [2, 3, 1]) _ (hu'.below lb (Nat.le_refl _)) (lit_rd [2, 3, 1] lr) (by decide)) ?_
  intro v6 hb6
  have B6 := (B5.trans (lb.mono Q5.le)).trans (hb6.mono (Nat.le_trans Q5.le lb.size))
  have Q6 := (Q5.below' lb).below' hb6
  clear hu' lr lb hb6 Q5 B5
  have a7 := Touch_any 2 _ Q6 good2
  rw [g4, show TS.has wk2 2 = true from by decide] at a7
  go_wp2_with fail
  refine a7.mono ?_
  rintro e v7 ⟨rfl, M7, P7, S7⟩
  have B7 := S7.under Q6 Q6.le B6
  have g7 := S7.g.trans g4
  clear a7 S7 Q6 B6 g4
  have a8 := Touch_any 3 _ P7 (good2.touch 2)
  rw [g7, show TS.has (wk2.touchT 2) 3 = true from by decide] at a8
  go_wp2_with fail
  refine a8.mono ?_
  rintro e v8 ⟨rfl, M8, P8, S8⟩
  have B8 := S8.under P7 P7.le B7
  have g8 := S8.g.trans g7
  have Q8 : TurnAt w.heap.size 0 v8 M8 wk3 := P8
  clear a8 S8 P7 P8 B7 g7
  have a9 := Len_any _ Q8 good3
  rw [g8] at a9
  go_wp2_with fail
  refine Calls.pure_to a9 ?_
  intro v9 hb9
  have Q9 := Q8.below' hb9
  have B9 := B8.trans (hb9.mono Q8.le)
  rw [show wk3.plain.length + wk3.dear.length = 3 from by decide, show wk3.dear.length = 2 from by decide]
  clear a9 hb9 Q8 B8
  have a10 := Order_any _ Q9 good3
  rw [g8] at a10
  go_wp2_with fail
  refine a10.mono ?_
  rintro e v10 ⟨⟨u, rfl, hu⟩, hb10⟩
  have hu' := irow_rd hu
  have B10 := B9.trans (hb10.mono Q9.le)
  have hw10 := B10.size
  clear a10 Q9 B9 hb10 hu
  go_wp2_with fail
  have lr := World.row.new v10 (ints [1, 2, 3]) tI
  have lb : Below v10.heap.size v10 (v10.alloc (.cells (ints [1, 2, 3]).toArray tI)) := (Below.refl _ _).alloc (Nat.le_refl _) _
  refine Calls.pure_to (equal_any (xs := [1, 2, 3]) _ (hu'.below lb (Nat.le_refl _)) (lit_rd [1, 2, 3] lr) (by decide)) ?_
  intro v11 hb11
  have B11 := (B10.trans (lb.mono hw10)).trans (hb11.mono (Nat.le_trans hw10 lb.size))
  clear hu' lr lb hb11
  go_wp2_with fail
  go_returns
  exact ⟨rfl, B11⟩
end Go.Proofs.Ytfbcgnehpkffeaa
