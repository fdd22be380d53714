/- TallyParts: its walk. -/
import Derived.Test.YtnndoajflimkmaaDoorTRefPart
import Derived.Test.YtnndoajflimkmaaDoorTLawPlays
namespace Go.Proofs.YtnndoajflimkmaaDoor
open Go Go.RowKit
set_option maxRecDepth 100000
theorem refPart_no (g : Nat) (k o : Int) (f : Nat → Int) (w : World) (hr : w.row g (cel f) tR) (hf : Fine f) (h : ¬ (0 ≤ k ∧ k < 9 ∧ 0 ≤ o ∧ o < 9 ∧ 0 < f k.toNat + f o.toNat)) :
    Calls Tryd.prog 11 #[pt g, .int .i64 k, .int .i64 o] w fun e w' => e = .returned (.int .i64 0) ∧ w = w' := by
  go_enter Tryd.func11, Tryd.ntmps11
  by_cases h0 : k < 0
  · go_wp2_with fail
    go_returns
    exact ⟨rfl, rfl⟩
  by_cases h1 : 9 ≤ k
  · go_wp2_with fail
    go_returns
    exact ⟨rfl, rfl⟩
  by_cases h2 : o < 0
  · go_wp2_with fail
    go_returns
    exact ⟨rfl, rfl⟩
  by_cases h3 : 9 ≤ o
  · go_wp2_with fail
    go_returns
    exact ⟨rfl, rfl⟩
  have ca := hr.cell k.toNat (cel_get f _ (by omega))
  have cb := hr.cell o.toNat (cel_get f _ (by omega))
  have l1 := hf.lo k.toNat
  have l2 := hf.lo o.toNat
  have z1 : f k.toNat = 0 := by omega
  have z2 : f o.toNat = 0 := by omega
  rw [z1] at ca
  rw [z2] at cb
  clear z1 z2 l1 l2 h
  go_wp2_with fail
  go_returns
  exact ⟨rfl, rfl⟩
theorem refPart_any (g : Nat) (k o : Int) (f : Nat → Int) (w : World) (hr : w.row g (cel f) tR) (hf : Fine f) :
    Calls Tryd.prog 11 #[pt g, .int .i64 k, .int .i64 o] w fun e w' => e = .returned (.int .i64 (shareS f k o)) ∧ w = w' := by
  unfold shareS
  by_cases hv : 0 ≤ k ∧ k < 9 ∧ 0 ≤ o ∧ o < 9 ∧ 0 < f k.toNat + f o.toNat
  · rw [if_pos hv]
    obtain ⟨hk0, hk1, ho0, ho1, hp⟩ := hv
    obtain ⟨a, ha⟩ : ∃ a : Nat, f k.toNat = a := ⟨(f k.toNat).toNat, (Int.toNat_of_nonneg (hf.lo _)).symm⟩
    obtain ⟨b, hb⟩ : ∃ b : Nat, f o.toNat = b := ⟨(f o.toNat).toNat, (Int.toNat_of_nonneg (hf.lo _)).symm⟩
    have h1 : (a : Int) ≤ 4611686018427387904 := ha ▸ hf.hi k.toNat (by omega)
    have h2 : (b : Int) ≤ 4611686018427387904 := hb ▸ hf.hi o.toNat (by omega)
    rw [ha, hb] at hp ⊢
    rw [show (a : Int) * 1000 / ((a : Int) + (b : Int)) = ((1000 * a / (a + b) : Nat) : Int) by rw [Int.natCast_ediv, Int.natCast_mul, Int.natCast_add, Int.mul_comm]; rfl]
    exact refPart_yes g a b k o f w hr hk0 hk1 ho0 ho1 ha hb h1 h2 hp
  · rw [if_neg hv]
    exact refPart_no g k o f w hr hf hv
set_option maxHeartbeats 4000000 in
theorem parts_walk (n0 n1 k0 k1 k : Int) (w : World) (hN : Nam w) (h0 : In64 n0) (h1 : In64 n1) (h2 : In64 k0) (h3 : In64 k1) :
    Calls Tryd.prog 3 #[.agg #[.int .i64 n0, .int .i64 n1], .agg #[.int .i64 k0, .int .i64 k1], .int .i64 k] w fun e w' => e = .returned (.bool true) ∧ Below w.heap.size w w' := by
  have hlt := hN.lt
  have HN := Lib.hid hN
  clear hN
  have hz := fun w => run_zeroValue (P := Tryd.prog) (T := tR) (v := .agg (cel zeroF).toArray) (by kernel_rfl) w
  obtain ⟨z0, hz0⟩ : ∃ z0, max 0 k0 = z0 := ⟨_, rfl⟩
  obtain ⟨z1, hz1⟩ : ∃ z1, max 0 k1 = z1 := ⟨_, rfl⟩
  go_enter Tryd.func3, Tryd.ntmps3
  have hzz0 : 0 ≤ z0 := by omega
  have hzz1 : 0 ≤ z1 := by omega
  go_wp2_with fail
  refine wp_world (fun wc => Below w.heap.size w wc ∧ wc.row w.heap.size [.int .i64 n0, .int .i64 n1] 22 ∧ wc.row (w.heap.size + 1 + 1) [.int .i64 k0, .int .i64 k1, .int .i64 (z0 % 9), .int .i64 (z1 % 9)] 23)
    ⟨(by repeat' (first | (with_reducible exact Below.refl _ _) | (with_reducible assumption) | (with_reducible refine Below.setCell ?_ ?_ _) | (with_reducible refine Below.ext ?_ _ ?_) | (with_reducible refine Below.alloc ?_ ?_ _) | (with_reducible refine Below.drew ?_) | (with_reducible refine Below.drewN ?_ _) | (with_reducible exact Nat.le_refl _) | (dsimp only; omega) | (simp <;> omega))), ((World.row.new w _ _).alloc _).alloc _, World.row.new' (by simp)⟩ ?_
  intro wc ⟨hB, hA, hS⟩
  obtain ⟨A, hAe⟩ : ∃ A, A = w.heap.size := ⟨_, rfl⟩
  obtain ⟨S, hSe⟩ : ∃ S, S = w.heap.size + 1 + 1 := ⟨_, rfl⟩
  rw [← hSe] at hS ⊢
  rw [← hAe] at hA ⊢
  have hAw : w.heap.size ≤ A := by omega
  clear hSe hAe hz0 hz1
  go_loopw [24] (fun x wr => ∃ (i : Nat), i ≤ 2 ∧ x = .int .i64 i ∧ Below wc.heap.size wc wr) (fun x _ => 2 - (intOf x).toNat)
  case atStart => exact ⟨0, by omega, rfl, Below.refl _ _⟩
  case round =>
    obtain ⟨i, hi, rfl, hBr⟩ := hrel
    have rA := hA.below hBr hA.lt
    have rS := hS.below hBr hS.lt
    have B1 := hB.trans (hBr.mono hB.size)
    by_cases hlt2 : i < 2
    · obtain ⟨u, v, hu, hv, hcu, hcv⟩ : ∃ u v : Int, In64 u ∧ In64 v ∧ wr.cell? ⟨S, i * 2, none⟩ = some (.int .i64 u) ∧ wr.cell? ⟨S, i * 2 + 1, none⟩ = some (.int .i64 v) := by
        obtain rfl | rfl : i = 0 ∨ i = 1 := by omega
        · exact ⟨k0, k1, h2, h3, rS.cell 0 rfl, rS.cell 1 rfl⟩
        · exact ⟨z0 % 9, z1 % 9, ⟨by omega, by omega⟩, ⟨by omega, by omega⟩, rS.cell 2 rfl, rS.cell 3 rfl⟩
      clear rS hzz0 hzz1
      go_wp2_with fail
      have rX := World.row.new wr [.int .i64 u, .int .i64 v] 23
      have rA1 := rA.alloc (.cells #[.int .i64 u, .int .i64 v] 23)
      have B2 : Below w.heap.size w (wr.alloc (.cells #[.int .i64 u, .int .i64 v] 23)) := B1.alloc B1.size _
      refine (New_any _).mono ?_
      rintro e w0 ⟨rfl, hw0⟩
      obtain ⟨X, hX⟩ : ∃ X, X = wr.heap.size := ⟨_, rfl⟩
      obtain ⟨wx, hwx⟩ : ∃ wx, wx = wr.alloc (.cells #[.int .i64 u, .int .i64 v] 23) := ⟨_, rfl⟩
      have hBr2 : Below wc.heap.size wc wx := by rw [hwx]; exact hBr.alloc hBr.size _
      rw [← hX] at rX ⊢
      rw [← hwx] at rX rA1 B2 hw0 ⊢
      clear hX hwx hcu hcv rA B1 hBr
      have r0 : w0.row wx.heap.size (cel zeroF) tT := by rw [hw0]; exact World.row.new _ _ _
      have B0 : Below w.heap.size w w0 := by rw [hw0]; exact B2.alloc B2.size _
      have hBr0 : Below wc.heap.size wc w0 := by rw [hw0]; exact hBr2.alloc hBr2.size _
      have rX0 : w0.row X [.int .i64 u, .int .i64 v] 23 := by rw [hw0]; exact rX.alloc _
      have rA0 : w0.row A [.int .i64 n0, .int .i64 n1] 22 := by rw [hw0]; exact rA1.alloc _
      have s0 : wx.heap.size < w0.heap.size := by rw [hw0]; simp
      have sX := rX.lt
      have sA := rA1.lt
      have sB := B2.size
      have sC := hBr2.size
      clear hw0 rX rA1 B2 hBr2
      obtain ⟨g, hg⟩ : ∃ g, g = wx.heap.size := ⟨_, rfl⟩
      rw [← hg] at r0 s0 sX sA sB sC ⊢
      clear hg
      go_wp2_with (refine wpList_box_row rfl _ _ rfl (cel zeroF) (by simp) ?_)
      have P1 : PlayAt w.heap.size w (w0.alloc (.cells (cel zeroF).toArray tR)) g w0.heap.size 0 zeroF :=
        ⟨r0.alloc _, World.row.new _ _ _, by omega, sB, by omega, fine_zero, fun j _ _ => Int.le_refl _, B0.alloc B0.size _⟩
      have rX1 := rX0.alloc (.cells (cel zeroF).toArray tR)
      have rA2 := rA0.alloc (.cells (cel zeroF).toArray tR)
      have hBr1 := hBr0.alloc hBr0.size (.cells (cel zeroF).toArray tR)
      have sh : g < w0.heap.size := s0
      have hgc : wc.heap.size ≤ g := sC
      obtain ⟨h, hh⟩ : ∃ h, h = w0.heap.size := ⟨_, rfl⟩
      obtain ⟨wy, hwy⟩ : ∃ wy, wy = w0.alloc (.cells (cel zeroF).toArray tR) := ⟨_, rfl⟩
      rw [← hwy] at P1 rX1 rA2 hBr1 ⊢
      rw [← hh] at P1 sh ⊢
      clear hh hwy r0 B0 hBr0 rX0 rA0 s0
      go_loopw [31] (fun x wq => ∃ (j : Nat) (f : Nat → Int), j ≤ 2 ∧ x = .int .i64 j ∧ PlayAt w.heap.size w wq g h j f ∧ wq.row X [.int .i64 u, .int .i64 v] 23 ∧ wq.row A [.int .i64 n0, .int .i64 n1] 22 ∧ Below wc.heap.size wc wq) (fun x _ => 2 - (intOf x).toNat)
      case atStart => exact ⟨0, zeroF, by omega, rfl, P1, rX1, rA2, hBr1⟩
      case round =>
        clear P1 rX1 rA2 hBr1
        obtain ⟨j, f, hj, rfl, P, rX, rA, hBq⟩ := hrel
        have rlt := P.rt.lt
        have qlt := P.rr.lt
        by_cases hlt3 : j < 2
        · obtain ⟨uu, nn, hnn, hcx, hca⟩ : ∃ uu nn : Int, In64 nn ∧ wr.cell? ⟨X, j, none⟩ = some (.int .i64 uu) ∧ wr.cell? ⟨A, j, none⟩ = some (.int .i64 nn) := by
            obtain rfl | rfl : j = 0 ∨ j = 1 := by omega
            · exact ⟨u, n0, h0, rX.cell 0 rfl, rA.cell 0 rfl⟩
            · exact ⟨v, n1, h1, rX.cell 1 rfl, rA.cell 1 rfl⟩
          have xlt := rX.lt
          have alt := rA.lt
          go_upto_region 8 with fail
          refine wp_region_ext_head 7 wr.heap.size (Nat.le_refl _) (by kernel_rfl) (by kernel_rfl) ?_
          intro _
          simp only [List.take_succ_cons, List.take_zero, List.drop_succ_cons, List.drop_zero]
          repeat (go_big_quiet_step (fail))
          refine wpQuiet_nil ?_
          intro x
          go_wp2_with fail
          have P1 := P.below' (World.ext_below x)
          refine Calls.turn_to (Add_any g uu nn f _ P1.rt P.fine hnn.2) ?_
          intro w1 t1
          have xlt1 := Nat.lt_of_lt_of_le xlt (World.ext_size x)
          have rX1 := t1.other (rX.ext x xlt) (by omega)
          have rA1 := t1.other (rA.ext x alt) (by omega)
          have hBq1 : Below wc.heap.size wc w1 := t1.below (hBq.ext x (Nat.le_of_lt (Nat.lt_of_le_of_lt (Nat.le_of_lt_succ (Nat.lt_succ_of_le hgc)) rlt))) (by have := World.ext_size x; omega) hgc
          have T1 := (Turned.of_below P.rt (World.ext_below x)).trans t1
          have q1 := t1.other P1.rr P.ne.symm
          have hcx1 : w1.cell? ⟨X, j, none⟩ = some (.int .i64 uu) := by
            obtain rfl | rfl : j = 0 ∨ j = 1 := by omega
            · rw [← hcx, rX1.cell 0 rfl, rX.cell 0 rfl]
            · rw [← hcx, rX1.cell 1 rfl, rX.cell 1 rfl]
          have hca1 : w1.cell? ⟨A, j, none⟩ = some (.int .i64 nn) := by
            obtain rfl | rfl : j = 0 ∨ j = 1 := by omega
            · rw [← hca, rA1.cell 0 rfl, rA.cell 0 rfl]
            · rw [← hca, rA1.cell 1 rfl, rA.cell 1 rfl]
          have xl := rX1.lt
          have al := rA1.lt
          have ql := q1.lt
          have gl := t1.rowOf.lt
          have sz1 : wr.heap.size ≤ w1.heap.size := Nat.le_trans (World.ext_size x) t1.size
          clear hcx hca rX rA hBq P1 xlt1 t1 xlt alt rlt qlt
          go_upto_region 9 with fail
          refine wp_region_ext_head 7 w1.heap.size (Nat.le_refl _) (by kernel_rfl) (by kernel_rfl) ?_
          intro _
          simp only [List.take_succ_cons, List.take_zero, List.drop_succ_cons, List.drop_zero]
          repeat (go_big_quiet_step (fail))
          refine wpQuiet_nil ?_
          intro x2
          go_wp2_with fail
          refine Calls.turn_to (refAdd_any h uu nn f _ (q1.ext x2 ql) P.fine hnn.2) ?_
          intro w2 t2
          have hhc : wc.heap.size ≤ h := Nat.le_trans hgc (Nat.le_of_lt sh)
          have rX2 := t2.other (rX1.ext x2 xl) (by omega)
          have rA2 := t2.other (rA1.ext x2 al) (by omega)
          have hBq2 : Below wc.heap.size wc w2 := t2.below (hBq1.ext x2 (by omega)) (by have := World.ext_size x2; omega) hhc
          have T2 := (Turned.of_below q1 (World.ext_below x2)).trans t2
          have P2 := P.step T1 T2 (P.fine.add uu nn) (bars_add P.bars uu nn)
          clear T1 T2 q1 hcx1 hca1 xl al ql gl sz1 t2 rX1 rA1 hBq1 P
          go_wp2_with fail
          go_roundw
          case rel => exact ⟨j + 1, _, by omega, by go_num, P2, rX2, rA2, hBq2⟩
          case measure => simp [intOf] <;> omega
        · have xlt := rX.lt
          obtain ⟨x0, x1, xz⟩ := rX.two
          go_upto_region 11 with fail
          refine wp_region_ext wr.heap.size (Nat.le_refl _) (by kernel_rfl) (by kernel_rfl) ?_
          intro _
          repeat (go_big_quiet_step (first | with_reducible exact Calls.ext_of (Part_any g _ _ f _ (P.rt.ext _ P.rt.lt) P.fine) | with_reducible exact Calls.ext_of_same (refPart_any h _ _ f _ (P.rr.ext _ P.rr.lt) P.fine)))
          refine wpQuiet_nil ?_
          intro x
          go_wp2_with fail
          go_roundw
          case rel => exact ⟨i + 1, by omega, by go_num, hBq.ext x (by omega)⟩
          case measure => simp [intOf] <;> omega
    · clear rS rA
      go_wp2_with fail
      refine Calls.pure_to (wakes_any _ (HN.out.below B1 hlt)) ?_
      intro w1 hb1
      have B2 := B1.trans (hb1.mono B1.size)
      clear hb1 B1 hB hBr
      go_wp2_with fail
      refine (Name_any k _ (HN.out.below B2 hlt)).mono ?_
      rintro e w' ⟨rfl, rfl⟩
      go_wp2_with fail
      refine Calls.pure_to (refName_any k _) ?_
      intro w2 hb2
      have B3 := B2.trans (hb2.mono B2.size)
      clear hb2 B2
      obtain ⟨s1, hs1⟩ : ∃ s1, s1 = nmOf k := ⟨_, rfl⟩
      rw [← hs1]
      clear hs1
      go_wp2_with fail
      obtain ⟨z, hz15⟩ : ∃ z, z = bits .and .i64 k 15 := ⟨_, rfl⟩
      rw [← hz15]
      refine (Name_any z _ (HN.out.below B3 hlt)).mono ?_
      rintro e w' ⟨rfl, rfl⟩
      go_wp2_with fail
      rw [← hz15]
      refine Calls.pure_to (refName_any z _) ?_
      intro w3 hb3
      have B4 := B3.trans (hb3.mono B3.size)
      clear hb3 B3
      obtain ⟨s2, hs2⟩ : ∃ s2, s2 = nmOf z := ⟨_, rfl⟩
      rw [← hs2]
      clear hs2
      go_wp2_with fail
      go_returns
      exact ⟨rfl, B4⟩
end Go.Proofs.YtnndoajflimkmaaDoor
