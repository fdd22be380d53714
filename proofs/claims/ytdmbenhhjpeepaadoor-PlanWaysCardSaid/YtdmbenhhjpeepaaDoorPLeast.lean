/- PlanLeast: the walk. -/
import Derived.Test.YtdmbenhhjpeepaaDoorPPlain
namespace Go.Proofs.YtdmbenhhjpeepaaDoor
open Go Go.RowKit
set_option maxRecDepth 100000
theorem choose_kinds (p : PS) : p.choose.1 = 0 ∨ p.choose.1 = 1 ∨ p.choose.1 = 2 ∨ p.choose.1 = 3 := by
  rcases mem_ways (choose_mem p) with ⟨e, _⟩ | ⟨e, _⟩ | ⟨e, _⟩ | e
  · rw [e]; exact .inl rfl
  · rw [e]; exact .inr (.inl rfl)
  · rw [e]; exact .inr (.inr (.inl rfl))
  · rw [e]; exact .inr (.inr (.inr rfl))
theorem q_eqs {P : Program} {ops : Array Oper} {rest : List Oper} {d : Option Tmp} {tt : TypeId} {ps : String} {af : Array Edge} {gd : Option (Nat × Bool)} {a : Act} {C : World → Prop} {K : Act → Prop} {s t : Set4} {x y : Operand} {k : TypeId} {b : Bool}
    (hP : P = Tryd.prog) (hw : Region.wanted ⟨d, .binOp .eql tS x y k, tt, ps, af, gd⟩ (yielded ops a.tmps) = true) (hx : a.eval x = s.v) (hy : a.eval y = t.v) (hb : s.beq t = b)
    (h : wpQuiet P ops C K rest (a.put d (.bool b))) : wpQuiet P ops C K (⟨d, .binOp .eql tS x y k, tt, ps, af, gd⟩ :: rest) a := by
  subst hP
  exact wpQuiet_val hw (fun w => by rw [← hb]; exact run_eql_sets rfl hx hy w) h
set_option maxHeartbeats 4000000 in
theorem least_walk (x : Raw) (w : World) (hN : Nam w) : Calls Tryd.prog 4 #[x.val] w fun e w' => e = .returned (.bool true) ∧ Below w.heap.size w w' := by
  have HN := Lib.hid hN
  clear hN
  go_enter Tryd.func4, Tryd.ntmps4
  go_upto_region 1 with fail
  obtain ⟨g, hg⟩ : ∃ g, g = w.heap.size := ⟨_, rfl⟩
  refine wp_world (fun w1 => w1.row g x.cells 24 ∧ Below w.heap.size w w1) ⟨World.row.new' hg.symm, (by repeat' (first | (with_reducible exact Below.refl _ _) | (with_reducible assumption) | (with_reducible refine Below.setCell ?_ ?_ _) | (with_reducible refine Below.ext ?_ _ ?_) | (with_reducible refine Below.alloc ?_ ?_ _) | (with_reducible refine Below.drew ?_) | (with_reducible refine Below.drewN ?_ _) | (with_reducible exact Nat.le_refl _) | (dsimp only; omega) | (simp <;> omega)))⟩ ?_
  rintro w1 ⟨r1, B1⟩
  simp only [← hg]
  have hgl : w.heap.size ≤ g := Nat.le_of_eq hg.symm
  clear hg
  have m1 := r1.range
  go_wp2_with ((with_reducible apply op_ld); (case hw => rfl); (case hx => rfl); (case hc => exact m1); (case ht => exact rtW); simp only [Act.put, List.setIfInBounds_toArray, List.set_cons_zero, List.set_cons_succ])
  refine Calls.pure_to (gd_any x w1) ?_
  intro w2 b2
  have r2 := r1.below b2 r1.lt
  have B2 := B1.trans (b2.mono B1.size)
  clear r1 B1 b2 m1
  go_upto_region 2 with ((with_reducible apply op_st); (case hw => rfl); (case hx => rfl); (case hy => rfl); (case hr => exact r2); (case ht => exact rtW); (case hn => rfl); (case hold => rfl); (case h1 => exact x.gd.cells_one); simp only [Act.put])
  refine wp_world (fun w3 => w3.row g x.gd.cells 24 ∧ Below w.heap.size w w3) ⟨r2.setRow, B2.setRow hgl _⟩ ?_
  clear r2 B2
  rintro w3 ⟨r3, B3⟩
  have m3 := r3.range
  go_wp2_with ((with_reducible apply op_ld); (case hw => rfl); (case hx => rfl); (case hc => exact m3); (case ht => exact rtW); simp only [Act.put, List.setIfInBounds_toArray, List.set_cons_zero, List.set_cons_succ])
  refine Calls.pure_to (states_any x.gd w3) ?_
  intro w4 b4
  have B4 := B3.trans (b4.mono B3.size)
  clear r3 B3 b4 m3
  have HG := Lib.hid (gd_good x)
  generalize x.gd.ps = p at HG ⊢
  generalize x.gd.rs = rs
  go_upto_region 3 with (first | ((with_reducible apply op_alloc); (case hw => rfl); (case hz => first | exact zeroP | exact zeroR); (case hzs => rfl); simp only [Act.put, List.setIfInBounds_toArray, List.set_cons_zero, List.set_cons_succ]) | (((with_reducible apply op_st); (case hw => rfl); (case hx => rfl); (case hy => rfl); (case hr => exact (World.row.new' (cs := PS.zero.cs) rfl).alloc _); (case ht => exact rtP PS.zero); (case hn => rfl); (case hold => rfl); (case h1 => exact PS.one _); simp only [Act.put])) | (((with_reducible apply op_st); (case hw => rfl); (case hx => rfl); (case hy => rfl); (case hr => exact (World.row.new' (cs := RSt.zero.cs) rfl).setRow_other (by simp)); (case ht => exact rtR RSt.zero); (case hn => rfl); (case hold => rfl); (case h1 => exact RSt.one _); simp only [Act.put])))
  obtain ⟨g3, hg3⟩ : ∃ g, g = w4.heap.size := ⟨_, rfl⟩
  refine wp_world (fun w5 => w5.row g3 p.cs tP ∧ Below w.heap.size w w5) ⟨by rw [hg3]; exact (((World.row.new' (cs := PS.zero.cs) rfl).alloc _).setRow).setRow_other (by simp), (((B4.alloc B4.size _).alloc (by have := B4.size; simp; omega) _).setRow B4.size _).setRow (by have := B4.size; simp; omega) _⟩ ?_
  simp only [World.size_alloc, ← hg3]
  clear hg3 B4
  rintro w5 ⟨r5, B5⟩
  have m5 := r5.range
  go_wp2_with (((with_reducible apply op_ld); (case hw => rfl); (case hx => rfl); (case hc => assumption); (case ht => first | exact rtS _ | exact rtP _ | exact rtPl _ _); simp only [Act.put, List.setIfInBounds_toArray, List.set_cons_zero, List.set_cons_succ]))
  refine Calls.pure_to (Choose_yes p w5 HG.out) ?_
  have HC := Lib.hid (And.intro (ways_lost (choose_mem p)) (And.intro (choose_kind HG.out) (And.intro (choose_full p) (And.intro (choose_le p) (choose_kinds p)))))
  generalize p.choose = c at HC ⊢
  obtain ⟨ck, cr⟩ := c
  intro w6 b6
  have r6 := r5.below b6 r5.lt
  have B6 := B5.trans (b6.mono B5.size)
  clear r5 B5 b6 m5
  go_upto_region 4 with (first | ((with_reducible apply op_alloc); (case hw => rfl); (case hz => exact zeroPl); (case hzs => rfl); simp only [Act.put, List.setIfInBounds_toArray, List.set_cons_zero, List.set_cons_succ]) | (((with_reducible apply op_st); (case hw => rfl); (case hx => rfl); (case hy => rfl); (case hr => exact World.row.new' (cs := pcs 0 Set4.zero) rfl); (case ht => exact rtPl 0 Set4.zero); (case hn => rfl); (case hold => rfl); (case h1 => exact pcs_one _ _); simp only [Act.put])))
  obtain ⟨g5, hg5⟩ : ∃ g, g = w6.heap.size := ⟨_, rfl⟩
  have hg35 : g3 < g5 := by rw [hg5]; exact r6.lt
  refine wp_world (fun w7 => w7.row g3 p.cs tP ∧ w7.row g5 (pcs ck cr) tPl ∧ Below w.heap.size w w7) ⟨(r6.alloc _).setRow_other (by have := r6.lt; omega), by rw [hg5]; exact (World.row.new' (cs := pcs 0 Set4.zero) rfl).setRow, (B6.alloc B6.size _).setRow B6.size _⟩ ?_
  simp only [← hg5]
  clear hg5 r6 B6
  rintro w7 ⟨r3, r5, B7⟩
  have m3 := r3.range
  go_wp2_with (((with_reducible apply op_ld); (case hw => rfl); (case hx => rfl); (case hc => assumption); (case ht => first | exact rtS _ | exact rtP _ | exact rtPl _ _); simp only [Act.put, List.setIfInBounds_toArray, List.set_cons_zero, List.set_cons_succ]))
  refine (Ways_yes p w7 HG.out).mono ?_
  rintro e w8 ⟨⟨l, rfl, pl⟩, b8⟩
  have q3 := r3.below b8 r3.lt
  have q5 := r5.below b8 r5.lt
  have B8 := B7.trans (b8.mono B7.size)
  obtain ⟨y0, ys, hys, hyl⟩ := ways_ne p
  rw [hys] at pl HC
  clear r3 r5 B7 b8 m3
  obtain ⟨n, hn⟩ : ∃ n, n = (y0 :: ys).length := ⟨_, rfl⟩
  have hn2 : n ≤ 101 := by rw [hn]; simp; omega
  have HP := Lib.hid (And.intro pl hn)
  clear pl hn
  go_wp2_with fail
  refine Calls.pure_to (wakes_any w8 (HN.out.below B8 HN.out.lt)) ?_
  intro w9 b9
  have r3 := q3.below b9 q3.lt
  have r5 := q5.below b9 q5.lt
  have B9 := B8.trans (b9.mono B8.size)
  replace HP := Lib.hid (And.intro (World.ownsRow.below HP.out.1 b9) HP.out.2)
  clear q3 q5 B8 b9
  obtain ⟨k0, m0, m1, m2, m3, m4, gl⟩ := PS.parts r3
  have n0 := r5.cell 0 rfl
  have n1 : w9.rangeAt g5 1 cr.cs := by have := r5.range.part 1 4; rw [Nat.zero_add] at this; exact this
  go_wp2_with (((with_reducible apply op_ld); (case hw => rfl); (case hx => rfl); (case hc => assumption); (case ht => first | exact rtS _ | exact rtP _ | exact rtPl _ _); simp only [Act.put, List.setIfInBounds_toArray, List.set_cons_zero, List.set_cons_succ]))
  refine Calls.pure_to (And_v cr p.L w9) ?_
  intro w10 b10
  have q3 := r3.below b10 r3.lt
  have q5 := r5.below b10 r5.lt
  have B10 := B9.trans (b10.mono B9.size)
  replace HP := Lib.hid (And.intro (World.ownsRow.below HP.out.1 b10) HP.out.2)
  clear r3 r5 B9 b10 k0 m0 m1 m2 m3 m4 gl n0 n1
  go_wp2_with fail
  refine Calls.pure_to (Empty_v (cr.and p.L) w10) ?_
  rw [HC.out.1]
  intro w11 b11
  have r3 := q3.below b11 q3.lt
  have r5 := q5.below b11 q5.lt
  have B11 := B10.trans (b11.mono B10.size)
  replace HP := Lib.hid (And.intro (World.ownsRow.below HP.out.1 b11) HP.out.2)
  clear q3 q5 B10 b11
  obtain ⟨a, m, cc, rfl⟩ := own_shape5 HP.out.1
  obtain rfl : m = n := by
    rcases own_form HP.out.1 with ⟨h1, h2⟩ | ⟨_, _, h1, _⟩
    · have := HP.out.2; simp at h2
    · cases h1; exact HP.out.2.symm
  obtain ⟨gl, cap, hv, hBg, hgl, hlc, hcm, _, _⟩ := own_at (f := fun x => pcs x.1 x.2) pcs_len HP.out.1 (i := 0) rfl
  obtain ⟨e1, e8, e9⟩ := Value.slice.inj hv
  subst e1
  clear e8 e9
  have HL := Lib.hid (And.intro hlc hcm)
  have HR := Lib.hid (And.intro r3 (And.intro r5 B11))
  clear hv hlc hcm hBg r3 r5 B11
  go_wp2_with fail
  go_loopw [49] (fun i wr => ∃ (k : Nat), k ≤ m ∧ i = .int .i64 k ∧ Below w11.heap.size w11 wr) (fun i _ => m - (intOf i).toNat)
  case atStart => exact ⟨0, Nat.zero_le _, rfl, Below.refl _ _⟩
  case round =>
    obtain ⟨k, hk, rfl, hB⟩ := hrel
    by_cases hlt : k < m
    · obtain ⟨y, hy⟩ : ∃ y, (y0 :: ys)[k]? = some y := ⟨_, List.getElem?_eq_getElem (by rw [← HP.out.2]; exact hlt)⟩
      obtain ⟨g', cap', e1, _, _, _, _, hry, _⟩ := own_at (f := fun x => pcs x.1 x.2) pcs_len HP.out.1 hy
      obtain ⟨e2, e8, e3⟩ := Value.slice.inj e1
      clear e8
      obtain rfl : gl = g' := by simpa using e2
      have hry := hry.below hB hgl
      have hle : cr.count ≤ y.2.count := HC.out.2.2.2.1 y (List.mem_of_getElem? hy)
      have h1 := fun w => Count_v y.2 w
      have h2 := fun w => Count_v cr w
      generalize y.2.count = cy at *
      generalize cr.count = cx at *
      have hnl : ¬ ((cy : Int) < (cx : Int)) := by omega
      have HH := Lib.hid (And.intro h1 h2)
      clear h1 h2 hle hy e1 e2 e3
      go_upto_region 10 with (first | ((with_reducible apply op_ld); (case hw => rfl); (case hx => rfl); (case hc => assumption); (case ht => first | exact rtS _ | exact rtP _ | exact rtPl _ _); simp only [Act.put, List.setIfInBounds_toArray, List.set_cons_zero, List.set_cons_succ]) | ((with_reducible apply op_alloc); (case hw => rfl); (case hz => exact zeroPl); (case hzs => rfl); simp only [Act.put, List.setIfInBounds_toArray, List.set_cons_zero, List.set_cons_succ]) | (((with_reducible apply op_st); (case hw => rfl); (case hx => rfl); (case hy => rfl); (case hr => exact World.row.new' (cs := pcs 0 Set4.zero) rfl); (case ht => exact rtPl 0 Set4.zero); (case hn => rfl); (case hold => rfl); (case h1 => exact pcs_one _ _); simp only [Act.put])))
      obtain ⟨ga, hga⟩ : ∃ g, g = wr.heap.size := ⟨_, rfl⟩
      have r5 := HR.out.2.1.below hB HR.out.2.1.lt
      refine wp_world (fun w12 => w12.row ga (pcs y.1 y.2) tPl ∧ w12.row g5 (pcs ck cr) tPl ∧ Below w11.heap.size w11 w12) ⟨by rw [hga]; exact (World.row.new' (cs := pcs 0 Set4.zero) rfl).setRow, (r5.alloc _).setRow_other (by have := r5.lt; omega), (hB.alloc hB.size _).setRow hB.size _⟩ ?_
      simp only [← hga]
      clear hga hB r5 hry
      rintro w12 ⟨ra, r5, B12⟩
      have n1 : w12.rangeAt ga 1 y.2.cs := by have := ra.range.part 1 4; rw [Nat.zero_add] at this; exact this
      have n2 : w12.rangeAt g5 1 cr.cs := by have := r5.range.part 1 4; rw [Nat.zero_add] at this; exact this
      have l1 := ra.lt
      have l2 := r5.lt
      have hB0 : w12.heap.size ≤ w12.heap.size := Nat.le_refl _
      have HT := Lib.hid B12
      clear B12 ra r5
      refine wp_region_ext w12.heap.size hB0 (by kernel_rfl) (by kernel_rfl) ?_
      intro _
      repeat (first | ((with_reducible apply q_ld); (case hw => rfl); (case hx => rfl); (case hc => assumption); (case hb => assumption); (case ht => first | exact rtS _ | exact rtP _ | exact rtPl _ _); simp only [Act.put, List.setIfInBounds_toArray, List.set_cons_zero, List.set_cons_succ]) | go_big_quiet_step ((first | with_reducible exact Calls.ext_of (HH.out.1 _) | with_reducible exact Calls.ext_of (HH.out.2 _))))
      refine wpQuiet_nil ?_
      intro z
      have bw13 := World.ext_below z
      generalize World.ext w12 w12.heap.size z = w13 at *
      clear z
      have B13 := Lib.hid (HT.out.trans (bw13.mono HT.out.size))
      clear bw13 n1 n2 l1 l2
      go_wp2_with fail
      go_roundw
      case rel => exact ⟨k + 1, by omega, by go_num, B13.out⟩
      case measure => simp [intOf] <;> omega
    · obtain rfl : k = m := by omega
      have q3 := HR.out.1.below hB HR.out.1.lt
      have q5 := HR.out.2.1.below hB HR.out.2.1.lt
      have BB := HR.out.2.2.trans (hB.mono HR.out.2.2.size)
      clear HR hB HL
      rw [HP.out.2] at hlt
      obtain ⟨hk0, hk1, hk2⟩ : (ck = 0 → p.H.beq p.all = true ∧ cr.empty = true) ∧ (ck ≠ 0 → p.H.beq p.all = false) ∧ True := by
        have h := HC.out.2.2.1
        refine ⟨fun e => ⟨?_, h.2 e⟩, fun e => ?_, trivial⟩
        · rw [← h.1]; simp [e]
        · rw [← h.1]; simp [e]
      have hem := fun w => Empty_v cr w
      generalize cr.empty = ce at *
      have hkinds := HC.out.2.2.2.2
      have hkd := HC.out.2.1
      unfold PS.all at hk0 hk1
      clear hk2 HC HP hlt hk
      rcases hkinds with h0 | h0 | h0 | h0
      · skip
        subst h0
        obtain ⟨hb, he⟩ := hk0 rfl
        subst he
        clear hk0 hk1 hkd
        obtain ⟨k0, m0, m1, m2, m3, m4, gl⟩ := PS.parts q3
        have kc := q5.cell 0 rfl
        have n1 : wr.rangeAt g5 1 cr.cs := by have := q5.range.part 1 4; rw [Nat.zero_add] at this; exact this
        have l5 := q5.lt
        have hB0 : wr.heap.size ≤ wr.heap.size := Nat.le_refl _
        go_wp2_with fail
        refine wp_region_ext wr.heap.size hB0 (by kernel_rfl) (by kernel_rfl) ?_
        intro _
        repeat (first | ((with_reducible apply q_ld); (case hw => rfl); (case hx => rfl); (case hc => assumption); (case hb => assumption); (case ht => first | exact rtS _ | exact rtP _ | exact rtPl _ _); simp only [Act.put, List.setIfInBounds_toArray, List.set_cons_zero, List.set_cons_succ]) | ((with_reducible apply q_eqs rfl); (case hw => rfl); (case hx => rfl); (case hy => rfl); (case hb => exact hb); simp only [Act.put, List.setIfInBounds_toArray, List.set_cons_zero, List.set_cons_succ]) | go_big_quiet_step (first | with_reducible exact Calls.ext_of (Upto_v p.data _) | with_reducible exact Calls.ext_of (hem _)))
        refine wpQuiet_nil ?_
        intro z
        have bwy := World.ext_below z
        generalize World.ext wr wr.heap.size z = wy at *
        clear z
        clear k0 m0 m1 m2 m3 m4 gl kc n1 l5
        go_wp2_with fail
        go_returns
        exact ⟨rfl, BB.trans (bwy.mono BB.size)⟩
      · skip
        subst h0
        have hb := hk1 (by decide)
        replace hkd := hkd.1 rfl
        clear hk0 hk1
        obtain ⟨k0, m0, m1, m2, m3, m4, gl⟩ := PS.parts q3
        have kc := q5.cell 0 rfl
        have n1 : wr.rangeAt g5 1 cr.cs := by have := q5.range.part 1 4; rw [Nat.zero_add] at this; exact this
        go_wp2_with (((with_reducible apply op_ld); (case hw => rfl); (case hx => rfl); (case hc => assumption); (case ht => first | exact rtS _ | exact rtP _ | exact rtPl _ _); simp only [Act.put, List.setIfInBounds_toArray, List.set_cons_zero, List.set_cons_succ]))
        refine Calls.pure_to (And_v cr p.H wr) ?_
        intro wx bx
        have r3 := q3.below bx q3.lt
        have r5 := q5.below bx q5.lt
        have Bx := BB.trans (bx.mono BB.size)
        clear k0 m0 m1 m2 m3 m4 gl kc n1 q3 q5 BB bx
        go_wp2_with fail
        refine Calls.pure_to (Empty_v (cr.and p.H) wx) ?_
        rw [hkd]
        intro wz bz
        have q3 := r3.below bz r3.lt
        have q5 := r5.below bz r5.lt
        have Bz := Bx.trans (bz.mono Bx.size)
        clear r3 r5 Bx bz
        obtain ⟨k0, m0, m1, m2, m3, m4, gl⟩ := PS.parts q3
        have kc := q5.cell 0 rfl
        have n1 : wz.rangeAt g5 1 cr.cs := by have := q5.range.part 1 4; rw [Nat.zero_add] at this; exact this
        have l5 := q5.lt
        have hB0 : wz.heap.size ≤ wz.heap.size := Nat.le_refl _
        go_wp2_with fail
        refine wp_region_ext wz.heap.size hB0 (by kernel_rfl) (by kernel_rfl) ?_
        intro _
        repeat (first | ((with_reducible apply q_ld); (case hw => rfl); (case hx => rfl); (case hc => assumption); (case hb => assumption); (case ht => first | exact rtS _ | exact rtP _ | exact rtPl _ _); simp only [Act.put, List.setIfInBounds_toArray, List.set_cons_zero, List.set_cons_succ]) | ((with_reducible apply q_eqs rfl); (case hw => rfl); (case hx => rfl); (case hy => rfl); (case hb => exact hb); simp only [Act.put, List.setIfInBounds_toArray, List.set_cons_zero, List.set_cons_succ]) | go_big_quiet_step (first | with_reducible exact Calls.ext_of (Upto_v p.data _) | with_reducible exact Calls.ext_of (hem _)))
        refine wpQuiet_nil ?_
        intro z
        have bwy := World.ext_below z
        generalize World.ext wz wz.heap.size z = wy at *
        clear z
        clear k0 m0 m1 m2 m3 m4 gl kc n1 l5
        go_wp2_with fail
        go_returns
        exact ⟨rfl, Bz.trans (bwy.mono Bz.size)⟩
      · skip
        subst h0
        have hb := hk1 (by decide)
        replace hkd := hkd.2 rfl
        clear hk0 hk1
        obtain ⟨k0, m0, m1, m2, m3, m4, gl⟩ := PS.parts q3
        have kc := q5.cell 0 rfl
        have n1 : wr.rangeAt g5 1 cr.cs := by have := q5.range.part 1 4; rw [Nat.zero_add] at this; exact this
        go_wp2_with (((with_reducible apply op_ld); (case hw => rfl); (case hx => rfl); (case hc => assumption); (case ht => first | exact rtS _ | exact rtP _ | exact rtPl _ _); simp only [Act.put, List.setIfInBounds_toArray, List.set_cons_zero, List.set_cons_succ]))
        refine Calls.pure_to (And_v cr p.K wr) ?_
        intro wx bx
        have r3 := q3.below bx q3.lt
        have r5 := q5.below bx q5.lt
        have Bx := BB.trans (bx.mono BB.size)
        clear k0 m0 m1 m2 m3 m4 gl kc n1 q3 q5 BB bx
        go_wp2_with fail
        refine Calls.pure_to (Empty_v (cr.and p.K) wx) ?_
        rw [hkd]
        intro wz bz
        have q3 := r3.below bz r3.lt
        have q5 := r5.below bz r5.lt
        have Bz := Bx.trans (bz.mono Bx.size)
        clear r3 r5 Bx bz
        obtain ⟨k0, m0, m1, m2, m3, m4, gl⟩ := PS.parts q3
        have kc := q5.cell 0 rfl
        have n1 : wz.rangeAt g5 1 cr.cs := by have := q5.range.part 1 4; rw [Nat.zero_add] at this; exact this
        have l5 := q5.lt
        have hB0 : wz.heap.size ≤ wz.heap.size := Nat.le_refl _
        go_wp2_with fail
        refine wp_region_ext wz.heap.size hB0 (by kernel_rfl) (by kernel_rfl) ?_
        intro _
        repeat (first | ((with_reducible apply q_ld); (case hw => rfl); (case hx => rfl); (case hc => assumption); (case hb => assumption); (case ht => first | exact rtS _ | exact rtP _ | exact rtPl _ _); simp only [Act.put, List.setIfInBounds_toArray, List.set_cons_zero, List.set_cons_succ]) | ((with_reducible apply q_eqs rfl); (case hw => rfl); (case hx => rfl); (case hy => rfl); (case hb => exact hb); simp only [Act.put, List.setIfInBounds_toArray, List.set_cons_zero, List.set_cons_succ]) | go_big_quiet_step (first | with_reducible exact Calls.ext_of (Upto_v p.data _) | with_reducible exact Calls.ext_of (hem _)))
        refine wpQuiet_nil ?_
        intro z
        have bwy := World.ext_below z
        generalize World.ext wz wz.heap.size z = wy at *
        clear z
        clear k0 m0 m1 m2 m3 m4 gl kc n1 l5
        go_wp2_with fail
        go_returns
        exact ⟨rfl, Bz.trans (bwy.mono Bz.size)⟩
      · skip
        subst h0
        have hb := hk1 (by decide)
        clear hk0 hk1 hkd
        obtain ⟨k0, m0, m1, m2, m3, m4, gl⟩ := PS.parts q3
        have kc := q5.cell 0 rfl
        have n1 : wr.rangeAt g5 1 cr.cs := by have := q5.range.part 1 4; rw [Nat.zero_add] at this; exact this
        have l5 := q5.lt
        have hB0 : wr.heap.size ≤ wr.heap.size := Nat.le_refl _
        go_wp2_with fail
        refine wp_region_ext wr.heap.size hB0 (by kernel_rfl) (by kernel_rfl) ?_
        intro _
        repeat (first | ((with_reducible apply q_ld); (case hw => rfl); (case hx => rfl); (case hc => assumption); (case hb => assumption); (case ht => first | exact rtS _ | exact rtP _ | exact rtPl _ _); simp only [Act.put, List.setIfInBounds_toArray, List.set_cons_zero, List.set_cons_succ]) | ((with_reducible apply q_eqs rfl); (case hw => rfl); (case hx => rfl); (case hy => rfl); (case hb => exact hb); simp only [Act.put, List.setIfInBounds_toArray, List.set_cons_zero, List.set_cons_succ]) | go_big_quiet_step (first | with_reducible exact Calls.ext_of (Upto_v p.data _) | with_reducible exact Calls.ext_of (hem _)))
        refine wpQuiet_nil ?_
        intro z
        have bwy := World.ext_below z
        generalize World.ext wr wr.heap.size z = wy at *
        clear z
        clear k0 m0 m1 m2 m3 m4 gl kc n1 l5
        go_wp2_with fail
        go_returns
        exact ⟨rfl, BB.trans (bwy.mono BB.size)⟩
end Go.Proofs.YtdmbenhhjpeepaaDoor
