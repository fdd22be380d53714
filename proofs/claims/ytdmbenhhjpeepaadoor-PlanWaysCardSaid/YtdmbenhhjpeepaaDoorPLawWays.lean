/- PlanWays: the walk. -/
import Derived.Test.YtdmbenhhjpeepaaDoorPFitW
namespace Go.Proofs.YtdmbenhhjpeepaaDoor
open Go Go.RowKit
set_option maxRecDepth 100000
def eno (b : Bool) : Int := if b then 0 else 4
def PS.waysU (p : PS) : List (Int × Set4) := if p.good then p.ways else []
def PS.chooseU (p : PS) : Int × Set4 := if p.good then p.choose else (0, Set4.zero)
def RSt.waysU (r : RSt) : List (Int × (Nat → Bool)) := if r.good then r.ways else []
def RSt.chooseU (r : RSt) : Int × (Nat → Bool) := if r.good then r.choose else (0, zB)
theorem Ways_u (p : PS) (w : World) : Calls Tryd.prog 7 #[p.v] w fun e w' => (∃ l, e = .returned (.tuple #[l, .int .i64 (eno p.good)]) ∧ prow w' w.heap.size l p.waysU) ∧ Below w.heap.size w w' := by
  unfold PS.waysU
  cases hg : p.good
  · refine (Ways_no p w hg).mono ?_
    rintro e w' ⟨rfl, b⟩
    exact ⟨⟨_, rfl, World.ownsRow_nil w' w.heap.size tPl 5⟩, b⟩
  · exact Ways_yes p w hg
theorem Choose_u (p : PS) (w : World) : Calls Tryd.prog 9 #[p.v] w fun e w' => e = .returned (.tuple #[pv p.chooseU.1 p.chooseU.2, .int .i64 (eno p.good)]) ∧ Below w.heap.size w w' := by
  unfold PS.chooseU
  cases hg : p.good
  · exact Choose_no p w hg
  · exact Choose_yes p w hg
theorem refWays_u (r : RSt) (w : World) : Calls Tryd.prog 8 #[r.v] w fun e w' => (∃ l, e = .returned (.tuple #[l, .int .i64 (eno r.good)]) ∧ qrow w' w.heap.size l r.waysU) ∧ Below w.heap.size w w' := by
  unfold RSt.waysU
  cases hg : r.good
  · refine (refWays_no r w hg).mono ?_
    rintro e w' ⟨rfl, b⟩
    exact ⟨⟨_, rfl, World.ownsRow_nil w' w.heap.size tQ 33⟩, b⟩
  · exact refWays_yes r w hg
theorem refChoose_u (r : RSt) (w : World) : Calls Tryd.prog 10 #[r.v] w fun e w' => e = .returned (.tuple #[qv r.chooseU.1 r.chooseU.2, .int .i64 (eno r.good)]) ∧ Below w.heap.size w w' := by
  unfold RSt.chooseU
  cases hg : r.good
  · exact refChoose_no r w hg
  · exact refChoose_yes r w hg
theorem Raw.waysU_same (y : Raw) : y.ps.waysU = y.rs.waysU.map conv := by
  unfold PS.waysU RSt.waysU
  rw [← y.good_same]
  cases hg : y.ps.good
  · rfl
  · obtain ⟨m, h⟩ := y.fit hg
    exact h.ways
theorem Raw.chooseU_same (y : Raw) : y.ps.chooseU = conv y.rs.chooseU := by
  unfold PS.chooseU RSt.chooseU
  rw [← y.good_same]
  cases hg : y.ps.good
  · show ((0 : Int), Set4.zero) = (0, toSet zB)
    rw [toSet_zero]
  · obtain ⟨m, h⟩ := y.fit hg
    exact conv_choose h.ways
theorem RSt.waysU_len (r : RSt) : r.waysU.length ≤ 4 := by
  unfold RSt.waysU
  split
  · exact r.wl_len 4
  · simp
theorem own_len {w : World} {B : Nat} {e : TypeId} {size n : Nat} {v : Value} {xs : List Value} (h : w.ownsRow B e size v n xs) : ∃ a c, v = .slice a n c := by
  rcases own_form h with ⟨h1, h2⟩ | ⟨g, cap, h1, _⟩
  · exact ⟨none, 0, by rw [h1, h2]⟩
  · exact ⟨_, _, h1⟩
theorem build_raws (x y : Raw) (w : World) : (Instr.buildSlice 26 2 #[(0, x.val), (1, y.val)]).run Tryd.prog w = .ok (.slice (some ⟨w.heap.size, 0, none⟩) 2 2) (w.alloc (.cells (x.cells ++ y.cells).toArray 24)) := by kernel_rfl
theorem w_bs2 {P : Program} {Q : Exit → Act → World → Prop} {d : Option Tmp} {tt : TypeId} {ps : String} {af : Array Edge} {gd : Option (Nat × Bool)} {a : Act} {w : World} {K : Act → World → Prop} {t e : TypeId} {n : Nat} {x y : Operand} {u v s : Value} {cs : Array Value} (hx : a.eval x = u) (hy : a.eval y = v)
    (hb : (Instr.buildSlice t n #[(0, u), (1, v)]).run P w = .ok s (w.alloc (.cells cs e)))
    (h : K (a.put d s) (w.alloc (.cells cs e))) : Oper.wp P ⟨d, .buildSlice t n #[(0, x), (1, y)], tt, ps, af, gd⟩ a w K Q := by
  unfold Oper.wp execOp
  simp only [Sem.run_bind, List.map_toArray, List.map_cons, List.map_nil, hx, hy, hb]
  exact h
def zW : List Value := [.int .i64 0, .int .u64 0, .int .u64 0, .int .u64 0, .int .u64 0]
theorem zeroW : (Tryd.prog.info? 24).map (·.zero) = some (some (.agg zW.toArray)) := by kernel_rfl
/-- What the round takes: the first or the second. -/
def pickR (x : Raw) (k : Nat) : Raw := if k = 0 then x else x.gd
theorem pick_range {w : World} {g : Nat} {x : Raw} {t : TypeId} (h : w.row g (x.cells ++ x.gd.cells) t) {k : Nat} (hk : k < 2) : w.rangeAt g (k * 5) (pickR x k).cells := by
  match k, hk with
  | 0, _ => exact h.range.part 0 5
  | 1, _ => exact h.range.part 5 5
set_option maxHeartbeats 4000000 in
theorem ways_walk (x : Raw) (z : Int) (w : World) (hN : Nam w) : Calls Tryd.prog 3 #[x.val, .int .i64 z] w fun e w' => e = .returned (.bool true) ∧ Below w.heap.size w w' := by
  have HN := Lib.hid hN
  clear hN
  go_enter Tryd.func3, Tryd.ntmps3
  go_upto_region 1 with fail
  obtain ⟨g, hg⟩ : ∃ g, g = w.heap.size := ⟨_, rfl⟩
  refine wp_world (fun w1 => w1.row g x.cells 24 ∧ Below w.heap.size w w1) ⟨World.row.new' hg.symm, (by repeat' (first | (with_reducible exact Below.refl _ _) | (with_reducible assumption) | (with_reducible refine Below.setCell ?_ ?_ _) | (with_reducible refine Below.ext ?_ _ ?_) | (with_reducible refine Below.alloc ?_ ?_ _) | (with_reducible refine Below.drew ?_) | (with_reducible refine Below.drewN ?_ _) | (with_reducible exact Nat.le_refl _) | (dsimp only; omega) | (simp <;> omega)))⟩ ?_
  rintro w1 ⟨r1, B1⟩
  simp only [← hg]
  have hgl : w.heap.size ≤ g := Nat.le_of_eq hg.symm
  clear hg
  have m1 := r1.range
  refine wp_region_mix_exts (· = g) [] false (by kernel_rfl) (by kernel_rfl) ?_
  intro _
  repeat ((with_reducible refine wpMix_light ?hh ?_); (case hh => rfl); (first | ((with_reducible apply q_lds); (case hw => rfl); (case hx => rfl); (case hc => exact m1); (case hb => rfl); (case ht => exact rtW); simp only [Act.put, List.setIfInBounds_toArray, List.set_cons_zero, List.set_cons_succ]) | go_big_quiet_step (fail)); (with_reducible refine wpQuiet_nil ?_))
  (with_reducible refine wpMix_heavy ?hh ?hw (fun K hK => ?_)); (case hh => rfl); (case hw => rfl)
  go_simp
  refine (gd_any x _).mono ?_
  rintro e w2 ⟨rfl, bx⟩
  have b2 : Below w1.heap.size w1 w2 := ((Below.refl _ _).drew).trans (bx.mono (Nat.le_refl _))
  clear bx
  refine hK.out _ _ (toExtS (fun k hk => by cases hk; exact b2.block _ r1.lt)) ?_
  clear hK K
  try simp only [Act.put, List.setIfInBounds_toArray, List.set_cons_zero, List.set_cons_succ]
  repeat ((with_reducible refine wpMix_light ?hh ?_); (case hh => rfl); (first | ((with_reducible apply q_lds); (case hw => rfl); (case hx => rfl); (case hc => exact m1); (case hb => rfl); (case ht => exact rtW); simp only [Act.put, List.setIfInBounds_toArray, List.set_cons_zero, List.set_cons_succ]) | go_big_quiet_step (fail)); (with_reducible refine wpQuiet_nil ?_))
  (with_reducible refine wpMix_heavy ?hh ?hw (fun K hK => ?_)); (case hh => rfl); (case hw => rfl)
  with_reducible apply w_bs2
  (case hx => rfl)
  (case hy => rfl)
  (case hb => exact build_raws x x.gd _)
  refine hK.out _ _ (toExtS (fun k hk => by cases hk; exact (Below.heap_alloc _ _ _ (Nat.lt_of_lt_of_le r1.lt b2.size)).trans (b2.block _ r1.lt))) ?_
  clear hK K
  simp only [Act.put, List.setIfInBounds_toArray, List.set_cons_zero, List.set_cons_succ]
  repeat ((with_reducible refine wpMix_light ?hh ?_); (case hh => rfl); go_big_quiet_step (fail); (with_reducible refine wpQuiet_nil ?_))
  refine wpMix_nil ?_
  go_wp2_with fail
  obtain ⟨gs, hgs⟩ : ∃ g, g = w2.heap.size := ⟨_, rfl⟩
  have HS : Hid ((w2.alloc (.cells (x.cells ++ x.gd.cells).toArray 24)).row gs (x.cells ++ x.gd.cells) 24 ∧ Below w.heap.size w (w2.alloc (.cells (x.cells ++ x.gd.cells).toArray 24))) := Lib.hid ⟨World.row.new' hgs.symm, (B1.trans (b2.mono B1.size)).alloc (B1.trans (b2.mono B1.size)).size _⟩
  simp only [← hgs]
  clear hgs b2 B1 r1 m1
  go_loopw [23] (fun i wr => ∃ (k : Nat), k ≤ 2 ∧ i = .int .i64 k ∧ wr.row gs (x.cells ++ x.gd.cells) 24 ∧ Below w.heap.size w wr) (fun i _ => 2 - (intOf i).toNat)
  case atStart => exact ⟨0, by omega, rfl, HS.out.1, HS.out.2⟩
  case round =>
    obtain ⟨k, hk, rfl, hr, hB⟩ := hrel
    by_cases hlt : k < 2
    · have hy := pick_range hr hlt
      generalize pickR x k = y at hy
      have HR := Lib.hid (And.intro hr hB)
      clear hr hB
      go_upto_region 4 with (first | ((with_reducible apply op_ld); (case hw => rfl); (case hx => rfl); (case hc => exact hy); (case ht => exact rtW); simp only [Act.put, List.setIfInBounds_toArray, List.set_cons_zero, List.set_cons_succ]) | ((with_reducible apply op_alloc); (case hw => rfl); (case hz => exact zeroW); (case hzs => rfl); simp only [Act.put, List.setIfInBounds_toArray, List.set_cons_zero, List.set_cons_succ]) | ((with_reducible apply op_st); (case hw => rfl); (case hx => rfl); (case hy => rfl); (case hr => exact World.row.new' (cs := zW) rfl); (case ht => exact rtW); (case hn => rfl); (case hold => rfl); (case h1 => exact y.cells_one); simp only [Act.put]))
      obtain ⟨g6, hg6⟩ : ∃ g, g = wr.heap.size := ⟨_, rfl⟩
      refine wp_world (fun w4 => w4.row g6 y.cells 24 ∧ w4.row gs (x.cells ++ x.gd.cells) 24 ∧ Below w.heap.size w w4) ⟨by rw [hg6]; exact (World.row.new' (cs := zW) rfl).setRow, (HR.out.1.alloc _).setRow_other (by have := HR.out.1.lt; omega), (HR.out.2.alloc HR.out.2.size _).setRow HR.out.2.size _⟩ ?_
      simp only [← hg6]
      clear hg6 hy HR
      rintro w4 ⟨r6, rs4, B4⟩
      have m6 := r6.range
      go_wp2_with ((with_reducible apply op_ld); (case hw => rfl); (case hx => rfl); (case hc => exact m6); (case ht => exact rtW); simp only [Act.put, List.setIfInBounds_toArray, List.set_cons_zero, List.set_cons_succ])
      refine Calls.pure_to (states_any y w4) ?_
      intro w5 b5
      have rs5 := rs4.below b5 rs4.lt
      have B5 := B4.trans (b5.mono B4.size)
      clear r6 rs4 B4 b5 m6
      have hW1 := fun w => Ways_u y.ps w
      have hW2 := fun w => refWays_u y.rs w
      have hC1 := fun w => Choose_u y.ps w
      have hC2 := fun w => refChoose_u y.rs w
      rw [y.good_same, y.waysU_same] at hW1
      rw [y.good_same, y.chooseU_same] at hC1
      have hql := y.rs.waysU_len
      generalize eno y.rs.good = E at hW1 hW2 hC1 hC2
      generalize y.rs.waysU = qs at hW1 hW2 hql
      generalize y.rs.chooseU = ch at hC1 hC2
      obtain ⟨ck, cf⟩ := ch
      have HF := Lib.hid (And.intro hW1 (And.intro hW2 (And.intro hC1 hC2)))
      clear hW1 hW2 hC1 hC2
      generalize y.ps = p at HF ⊢
      generalize y.rs = r at HF ⊢
      go_upto_region 5 with (first | ((with_reducible apply op_alloc); (case hw => rfl); (case hz => first | exact zeroP | exact zeroR); (case hzs => rfl); simp only [Act.put, List.setIfInBounds_toArray, List.set_cons_zero, List.set_cons_succ]) | (((with_reducible apply op_st); (case hw => rfl); (case hx => rfl); (case hy => rfl); (case hr => exact (World.row.new' (cs := PS.zero.cs) rfl).alloc _); (case ht => exact rtP PS.zero); (case hn => rfl); (case hold => rfl); (case h1 => exact PS.one _); simp only [Act.put])) | (((with_reducible apply op_st); (case hw => rfl); (case hx => rfl); (case hy => rfl); (case hr => exact (World.row.new' (cs := RSt.zero.cs) rfl).setRow_other (by simp)); (case ht => exact rtR RSt.zero); (case hn => rfl); (case hold => rfl); (case h1 => exact RSt.one _); simp only [Act.put])))
      obtain ⟨g7, hg7⟩ : ∃ g, g = w5.heap.size := ⟨_, rfl⟩
      refine wp_world (fun w6 => w6.row g7 p.cs tP ∧ w6.row (g7 + 1) r.cs tR ∧ w6.row gs (x.cells ++ x.gd.cells) 24 ∧ Below w.heap.size w w6) ⟨by rw [hg7]; exact (((World.row.new' (cs := PS.zero.cs) rfl).alloc _).setRow).setRow_other (by simp), (by rw [hg7]; have e : (w5.alloc (.cells PS.zero.cs.toArray tP)).heap.size = w5.heap.size + 1 := (by simp); rw [← e]; exact World.row.setRow (cs := RSt.zero.cs) (World.row.setRow_other (World.row.new' rfl) (by rw [e]; omega))), ((((rs5.alloc _).alloc _).setRow_other (by have := rs5.lt; omega)).setRow_other (by have := rs5.lt; simp; omega)), (((B5.alloc B5.size _).alloc (by have := B5.size; simp; omega) _).setRow B5.size _).setRow (by have := B5.size; simp; omega) _⟩ ?_
      simp only [World.size_alloc, ← hg7]
      clear hg7 B5 rs5
      rintro w6 ⟨rp6, rr6, rs6, B6⟩
      have mp := rp6.range
      go_wp2_with (((with_reducible apply op_ld); (case hw => rfl); (case hx => rfl); (case hc => assumption); (case ht => first | exact rtS _ | exact rtP _ | exact rtPl _ _); simp only [Act.put, List.setIfInBounds_toArray, List.set_cons_zero, List.set_cons_succ]))
      refine (HF.out.1 w6).mono ?_
      rintro e w7 ⟨⟨l, rfl, pl⟩, b7⟩
      have rp7 := rp6.below b7 rp6.lt
      have rr7 := rr6.below b7 rr6.lt
      have rs7 := rs6.below b7 rs6.lt
      have B7 := B6.trans (b7.mono B6.size)
      have PL := Lib.hid pl
      clear rp6 rr6 rs6 B6 b7 mp pl
      have mr := rr7.range
      go_wp2_with ((with_reducible apply op_ld); (case hw => rfl); (case hx => rfl); (case hc => exact mr); (case ht => exact rtR _); simp only [Act.put, List.setIfInBounds_toArray, List.set_cons_zero, List.set_cons_succ])
      refine (HF.out.2.1 w7).mono ?_
      rintro e w8 ⟨⟨lm, rfl, pm⟩, b8⟩
      have rp8 := rp7.below b8 rp7.lt
      have rr8 := rr7.below b8 rr7.lt
      have rs8 := rs7.below b8 rs7.lt
      have B8 := B7.trans (b8.mono B7.size)
      replace PL := Lib.hid (World.ownsRow.below PL.out b8)
      have PM := Lib.hid pm
      clear rp7 rr7 rs7 B7 b8 mr pm
      have mp := rp8.range
      go_wp2_with (((with_reducible apply op_ld); (case hw => rfl); (case hx => rfl); (case hc => assumption); (case ht => first | exact rtS _ | exact rtP _ | exact rtPl _ _); simp only [Act.put, List.setIfInBounds_toArray, List.set_cons_zero, List.set_cons_succ]))
      refine Calls.pure_to (HF.out.2.2.1 w8) ?_
      intro w9 b9
      have rr9 := rr8.below b9 rr8.lt
      have rs9 := rs8.below b9 rs8.lt
      have B9 := B8.trans (b9.mono B8.size)
      replace PL := Lib.hid (World.ownsRow.below PL.out b9)
      replace PM := Lib.hid (World.ownsRow.below PM.out b9)
      clear rp8 rr8 rs8 B8 b9 mp
      go_upto_region 8 with (first | ((with_reducible apply op_alloc); (case hw => rfl); (case hz => exact zeroPl); (case hzs => rfl); simp only [Act.put, List.setIfInBounds_toArray, List.set_cons_zero, List.set_cons_succ]) | (((with_reducible apply op_st); (case hw => rfl); (case hx => rfl); (case hy => rfl); (case hr => exact World.row.new' (cs := pcs 0 Set4.zero) rfl); (case ht => exact rtPl 0 Set4.zero); (case hn => rfl); (case hold => rfl); (case h1 => exact pcs_one _ _); simp only [Act.put])))
      obtain ⟨g13, hg13⟩ : ∃ g, g = w9.heap.size := ⟨_, rfl⟩
      have b10 : ∀ cs, Below w9.heap.size w9 ((w9.alloc (.cells (pcs 0 Set4.zero).toArray tPl)).setRow w9.heap.size cs) := fun cs => ((Below.refl _ _).alloc (Nat.le_refl _) _).setRow (Nat.le_refl _) _
      refine wp_world (fun w10 => w10.row g13 (pcs ck (toSet cf)) tPl ∧ w10.row (g7 + 1) r.cs tR ∧ w10.row gs (x.cells ++ x.gd.cells) 24 ∧ Below w.heap.size w w10 ∧ prow w10 w6.heap.size l (qs.map conv) ∧ qrow w10 w7.heap.size lm qs) ⟨by rw [hg13]; exact (World.row.new' (cs := pcs 0 Set4.zero) rfl).setRow, rr9.below (b10 _) rr9.lt, rs9.below (b10 _) rs9.lt, B9.trans ((b10 _).mono B9.size), World.ownsRow.below PL.out (b10 _), World.ownsRow.below PM.out (b10 _)⟩ ?_
      simp only [← hg13]
      clear hg13 rr9 rs9 B9 PL PM b10
      rintro w10 ⟨r13, rr10, rs10, B10, pl, pm⟩
      have PL := Lib.hid pl
      have PM := Lib.hid pm
      clear pl pm
      have mr := rr10.range
      go_wp2_with ((with_reducible apply op_ld); (case hw => rfl); (case hx => rfl); (case hc => exact mr); (case ht => exact rtR _); simp only [Act.put, List.setIfInBounds_toArray, List.set_cons_zero, List.set_cons_succ])
      refine Calls.pure_to (HF.out.2.2.2 w10) ?_
      intro w11 b11
      have r13b := r13.below b11 r13.lt
      have rs11 := rs10.below b11 rs10.lt
      have B11 := B10.trans (b11.mono B10.size)
      replace PL := Lib.hid (World.ownsRow.below PL.out b11)
      replace PM := Lib.hid (World.ownsRow.below PM.out b11)
      clear r13 rr10 rs10 B10 b11 mr
      go_upto_region 9 with (first | ((with_reducible apply op_alloc); (case hw => rfl); (case hz => exact zeroQ); (case hzs => rfl); simp only [Act.put, List.setIfInBounds_toArray, List.set_cons_zero, List.set_cons_succ]) | (((with_reducible apply op_st); (case hw => rfl); (case hx => rfl); (case hy => rfl); (case hr => exact World.row.new' (cs := qcs 0 zB) rfl); (case ht => exact rtQ 0 zB); (case hn => rfl); (case hold => rfl); (case h1 => exact qcs_one _ _); simp only [Act.put])))
      obtain ⟨g15, hg15⟩ : ∃ g, g = w11.heap.size := ⟨_, rfl⟩
      have b12 : ∀ cs, Below w11.heap.size w11 ((w11.alloc (.cells (qcs 0 zB).toArray tQ)).setRow w11.heap.size cs) := fun cs => ((Below.refl _ _).alloc (Nat.le_refl _) _).setRow (Nat.le_refl _) _
      refine wp_world (fun w12 => w12.row g15 (qcs ck cf) tQ ∧ w12.row g13 (pcs ck (toSet cf)) tPl ∧ w12.row gs (x.cells ++ x.gd.cells) 24 ∧ Below w.heap.size w w12 ∧ prow w12 w6.heap.size l (qs.map conv) ∧ qrow w12 w7.heap.size lm qs) ⟨by rw [hg15]; exact (World.row.new' (cs := qcs 0 zB) rfl).setRow, r13b.below (b12 _) r13b.lt, rs11.below (b12 _) rs11.lt, B11.trans ((b12 _).mono B11.size), World.ownsRow.below PL.out (b12 _), World.ownsRow.below PM.out (b12 _)⟩ ?_
      simp only [← hg15]
      clear hg15 r13b rs11 B11 PL PM b12 HF
      rintro w12 ⟨r15, r13, rs12, B12, pl, pm⟩
      obtain ⟨a1, c1, e1⟩ := own_len pl
      obtain ⟨a2, c2, e2⟩ := own_len pm
      obtain ⟨n, hn⟩ : ∃ n, n = qs.length := ⟨_, rfl⟩
      rw [List.length_map, ← hn] at e1
      rw [← hn] at e2 hql
      subst e1
      subst e2
      have HL := Lib.hid (And.intro pl (And.intro pm hn))
      clear pl pm hn
      have mp := r13.range
      have mq := r15.range
      go_wp2_with (first | (((with_reducible apply op_ld); (case hw => rfl); (case hx => rfl); (case hc => assumption); (case ht => first | exact rtS _ | exact rtP _ | exact rtPl _ _); simp only [Act.put, List.setIfInBounds_toArray, List.set_cons_zero, List.set_cons_succ])) | ((with_reducible apply op_ld); (case hw => rfl); (case hx => rfl); (case hc => exact mq); (case ht => exact rtQ _ _); simp only [Act.put, List.setIfInBounds_toArray, List.set_cons_zero, List.set_cons_succ]))
      refine Calls.pure_to (samePlan_yes ck (toSet cf) cf rfl w12) ?_
      intro w13 b13
      have H13 := Lib.hid (And.intro (rs12.below b13 rs12.lt) (And.intro (B12.trans (b13.mono B12.size)) (And.intro (World.ownsRow.below HL.out.1 b13) (World.ownsRow.below HL.out.2.1 b13))))
      clear r15 r13 rs12 B12 b13 mp mq
      go_wp2_with fail
      go_loopw [75] (fun i wr => ∃ (j : Nat), j ≤ n ∧ i = .int .i64 j ∧ Below w13.heap.size w13 wr) (fun i _ => n - (intOf i).toNat)
      case atStart => exact ⟨0, Nat.zero_le _, rfl, Below.refl _ _⟩
      case round =>
        obtain ⟨j, hj, rfl, hB⟩ := hrel
        by_cases hjl : j < n
        · obtain ⟨q, hq⟩ : ∃ q, qs[j]? = some q := ⟨_, List.getElem?_eq_getElem (by rw [← HL.out.2.2]; exact hjl)⟩
          have hq' : (qs.map conv)[j]? = some (conv q) := by rw [List.getElem?_map, hq]; rfl
          obtain ⟨gl, cap, e1, _, hgl2, _, _, hrl, _⟩ := own_at (f := fun x => pcs x.1 x.2) pcs_len H13.out.2.2.1 hq'
          obtain ⟨gm, capm, e2, _, hgm2, _, _, hrm, _⟩ := own_at (f := fun x => qcs x.1 x.2) qcs_len2 H13.out.2.2.2 hq
          obtain ⟨e3, e8, e9⟩ := Value.slice.inj e1
          obtain ⟨e4, e6, e7⟩ := Value.slice.inj e2
          subst e3
          subst e4
          clear e1 e2 e8 e9 e6 e7 hq hq'
          have hrl : wr.rangeAt gl (j * 5) (pcs q.1 (toSet q.2)) := hrl.below hB hgl2
          have hrm := hrm.below hB hgm2
          have l1 : gl < wr.heap.size := Nat.lt_of_lt_of_le hgl2 hB.size
          have l2 : gm < wr.heap.size := Nat.lt_of_lt_of_le hgm2 hB.size
          have hsm := Lib.hid (fun w => samePlan_yes q.1 (toSet q.2) q.2 rfl w)
          generalize toSet q.2 = sq at hrl hsm
          have hB0 : wr.heap.size ≤ wr.heap.size := Nat.le_refl _
          have HT := Lib.hid hB
          clear hB
          go_wp2_with fail
          refine wp_region_ext wr.heap.size hB0 (by kernel_rfl) (by kernel_rfl) ?_
          intro _
          repeat (first | ((with_reducible apply q_ld); (case hw => rfl); (case hx => rfl); (case hc => assumption); (case hb => assumption); (case ht => first | exact rtPl _ _ | exact rtQ _ _); simp only [Act.put, List.setIfInBounds_toArray, List.set_cons_zero, List.set_cons_succ]) | go_big_quiet_step (first | with_reducible exact Calls.ext_of (hsm.out _)))
          refine wpQuiet_nil ?_
          intro zx
          have bw14 := World.ext_below zx
          generalize World.ext wr wr.heap.size zx = w14 at *
          clear zx
          have H14 := Lib.hid (HT.out.trans (bw14.mono HT.out.size))
          clear bw14 hrl hrm l1 l2
          go_wp2_with fail
          go_roundw
          case rel => exact ⟨j + 1, by omega, by go_num, H14.out⟩
          case measure => simp [intOf] <;> omega
        · obtain rfl : j = n := by omega
          have HZ := Lib.hid (And.intro (H13.out.1.below hB H13.out.1.lt) (H13.out.2.1.trans (hB.mono H13.out.2.1.size)))
          clear hB H13
          go_wp2_with fail
          go_roundw
          case rel => exact ⟨k + 1, by omega, by go_num, HZ.out.1, HZ.out.2⟩
          case measure => simp [intOf] <;> omega
    · obtain rfl : k = 2 := by omega
      have hNr := HN.out.below hB HN.out.lt
      have HB := Lib.hid (And.intro hNr hB)
      clear hNr hB hr
      go_wp2_with fail
      refine Calls.pure_to (wakes_any _ HB.out.1) ?_
      intro w20 b20
      have H20 := Lib.hid (And.intro (HB.out.1.below b20 HB.out.1.lt) (HB.out.2.trans (b20.mono HB.out.2.size)))
      clear b20
      go_wp2_with fail
      refine (Name_any z w20 H20.out.1).mono ?_
      rintro e w21 ⟨rfl, rfl⟩
      go_wp2_with fail
      refine Calls.pure_to (refName_any z w20) ?_
      generalize nmOf z = s1
      intro w22 b22
      have H22 := Lib.hid (And.intro (H20.out.1.below b22 H20.out.1.lt) (H20.out.2.trans (b22.mono H20.out.2.size)))
      clear b22
      go_wp2_with fail
      refine (Name_any _ w22 H22.out.1).mono ?_
      rintro e w23 ⟨rfl, rfl⟩
      go_wp2_with fail
      refine Calls.pure_to (refName_any _ w22) ?_
      generalize nmOf (bits .and .i64 z 7) = s2
      intro w24 b24
      have B24 := H22.out.2.trans (b24.mono H22.out.2.size)
      clear b24
      go_wp2_with fail
      go_returns
      exact ⟨rfl, B24⟩
end Go.Proofs.YtdmbenhhjpeepaaDoor
