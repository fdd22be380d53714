/- The laws' signs of life. -/
import Derived.Test.YtdmbenhhjpeepaaDoorPName
import Derived.Test.YtdmbenhhjpeepaaDoorPGd
namespace Go.Proofs.YtdmbenhhjpeepaaDoor
open Go Go.RowKit
set_option maxRecDepth 100000
def wk : PS := ⟨4, Set4.ofInts [1], Set4.ofInts [1], Set4.zero, Set4.zero⟩
def wR1 : Set4 := Set4.ofInts [0, 2, 3]
def wR2 : Set4 := Set4.ofInts [1, 4, 5]
theorem wk_good : wk.good = true := by decide +kernel
theorem wk_ways : wk.ways = [(1, wR1), (2, wR2), (3, wk.wholeR)] := by
  have h1 : wk.fullB = false := by decide +kernel
  have h2 : wk.greatB = true := by decide +kernel
  have h3 : wk.smallB = true := by decide +kernel
  have h4 : wk.greatR = wR1 := (Set4.beq_iff _ _).1 (by decide +kernel)
  have h5 : wk.smallR = wR2 := (Set4.beq_iff _ _).1 (by decide +kernel)
  unfold PS.ways
  rw [h1, h2, h3, h4, h5]
  rfl
theorem wk_choose : wk.choose = (1, wR1) := by
  unfold PS.choose
  rw [wk_ways]
  have h1 : (wR1.count : Int) = 3 := by decide +kernel
  have h2 : (wR2.count : Int) = 3 := by decide +kernel
  have h3 : (wk.wholeR.count : Int) = 6 := by decide +kernel
  simp [minOf, better, h1, h2, h3]
theorem build_wk (w : World) : (Instr.build tP #[(0, .int .i64 4), (1, (Set4.ofInts [1]).v), (2, (Set4.ofInts [1]).v)]).run Tryd.prog w = .ok wk.v w := by kernel_rfl
theorem eql_w1 (w : World) : (binOp .eql tPl (pv 1 wR1) (pv 1 wR1)).run Tryd.prog w = .ok (.bool true) w := by kernel_rfl
theorem eql_w2 (w : World) : (binOp .eql tPl (pv 2 wR2) (pv 2 wR2)).run Tryd.prog w = .ok (.bool true) w := by kernel_rfl
theorem guard_pl (x y : Operand) (k k' : Int) (s s' : Set4) (w : World) : (eqGuard .eql tPl x y (pv k s) (pv k' s')).run Tryd.prog w = .ok () w := by
  unfold eqGuard
  have h2 : Tryd.prog.eqGuardType Tryd.prog.depth tPl = false := by kernel_rfl
  simp [pv, h2]
set_option maxHeartbeats 4000000 in
theorem wakes_any (w : World) (hN : Nam w) : Calls Tryd.prog 12 #[] w fun e w' => e = .returned (.bool true) ∧ Below w.heap.size w w' := by
  have HN := Lib.hid hN
  clear hN
  go_enter Tryd.func12, Tryd.ntmps12
  go_wp2_with fail
  refine Calls.pure_to (Of_any [1] w.heap.size 0 1 _ ?hc (by simp)) ?_
  case hc =>
    intro j u hj
    rw [Nat.zero_add]
    exact (World.row.new' (cs := ints [1]) rfl).cell j hj
  intro w1 b1
  have B1 : Below w.heap.size w w1 := (((Below.refl _ w).alloc (Nat.le_refl _) (.cells #[.int .i64 1] 3))).trans (b1.mono (by simp))
  clear b1
  go_wp2_with fail
  refine Calls.pure_to (Of_any [1] w1.heap.size 0 1 _ ?hc (by simp)) ?_
  case hc =>
    intro j u hj
    rw [Nat.zero_add]
    exact (World.row.new' (cs := ints [1]) rfl).cell j hj
  intro w2 b2
  have B2 : Below w.heap.size w w2 := B1.trans ((((Below.refl _ w1).alloc (Nat.le_refl _) (.cells #[.int .i64 1] 3)).trans (b2.mono (by simp))).mono B1.size)
  clear b2 B1
  go_upto_region 2 with (first | ((with_reducible apply op_build3); (case hw => rfl); (case h0 => rfl); (case h1 => rfl); (case h2 => rfl); (case hb => exact build_wk); simp only [Act.put, List.setIfInBounds_toArray, List.set_cons_zero, List.set_cons_succ]) | ((with_reducible apply op_alloc); (case hw => rfl); (case hz => exact zeroP); (case hzs => rfl); simp only [Act.put, List.setIfInBounds_toArray, List.set_cons_zero, List.set_cons_succ]) | (((with_reducible apply op_st); (case hw => rfl); (case hx => rfl); (case hy => rfl); (case hr => exact World.row.new' (cs := PS.zero.cs) rfl); (case ht => exact rtP PS.zero); (case hn => rfl); (case hold => rfl); (case h1 => exact PS.one _); simp only [Act.put])))
  obtain ⟨g1, hg1⟩ : ∃ g, g = w2.heap.size := ⟨_, rfl⟩
  refine wp_world (fun w3 => w3.row g1 wk.cs tP ∧ Below w.heap.size w w3) ⟨by rw [hg1]; exact (World.row.new' (cs := PS.zero.cs) rfl).setRow, (B2.alloc B2.size _).setRow B2.size _⟩ ?_
  simp only [← hg1]
  clear hg1 B2
  rintro w3 ⟨r1, B3⟩
  have m1 := r1.range
  go_wp2_with (((with_reducible apply op_ld); (case hw => rfl); (case hx => rfl); (case hc => assumption); (case ht => first | exact rtS _ | exact rtP _ | exact rtPl _ _); simp only [Act.put, List.setIfInBounds_toArray, List.set_cons_zero, List.set_cons_succ]))
  refine (Ways_yes wk w3 wk_good).mono ?_
  rintro e w4 ⟨⟨l, rfl, pl⟩, b4⟩
  rw [wk_ways] at pl
  obtain ⟨gl, cap, rfl, hgl, hll, hlc, hcm, ml, _⟩ := own_at (f := fun x => pcs x.1 x.2) pcs_len pl (i := 1) rfl
  have hgg := r1.lt
  have hlg1 : g1 < gl := by omega
  have r4 := r1.below b4 r1.lt
  have B4 := B3.trans (b4.mono B3.size)
  have HL := Lib.hid (And.intro hgl (And.intro hlc hcm))
  clear pl r1 m1 B3 b4 hgl hlc hcm hgg
  replace ml : w4.rangeAt gl 5 (pcs 2 wR2) := ml
  have m1 := r4.range
  go_wp2_with (((with_reducible apply op_ld); (case hw => rfl); (case hx => rfl); (case hc => assumption); (case ht => first | exact rtS _ | exact rtP _ | exact rtPl _ _); simp only [Act.put, List.setIfInBounds_toArray, List.set_cons_zero, List.set_cons_succ]))
  refine Calls.pure_to (Choose_yes wk w4 wk_good) ?_
  rw [wk_choose]
  intro w5 b5
  have r5 := r4.below b5 r4.lt
  have B5 := B4.trans (b5.mono B4.size)
  have ml5 := ml.below b5 hll
  have hll5 := Nat.lt_of_lt_of_le hll b5.size
  clear r4 B4 b5 ml m1 hll
  go_upto_region 4 with (first | ((with_reducible apply op_alloc); (case hw => rfl); (case hz => exact zeroPl); (case hzs => rfl); simp only [Act.put, List.setIfInBounds_toArray, List.set_cons_zero, List.set_cons_succ]) | (((with_reducible apply op_st); (case hw => rfl); (case hx => rfl); (case hy => rfl); (case hr => exact World.row.new' (cs := pcs 0 Set4.zero) rfl); (case ht => exact rtPl 0 Set4.zero); (case hn => rfl); (case hold => rfl); (case h1 => exact pcs_one _ _); simp only [Act.put])))
  obtain ⟨g4, hg4⟩ : ∃ g, g = w5.heap.size := ⟨_, rfl⟩
  have hl4 : gl < g4 := by omega
  refine wp_world (fun w6 => w6.row g4 (pcs 1 wR1) tPl ∧ w6.rangeAt gl 5 (pcs 2 wR2) ∧ Below w.heap.size w w6) ⟨by rw [hg4]; exact (World.row.new' (cs := pcs 0 Set4.zero) rfl).setRow, ?_, (B5.alloc B5.size _).setRow B5.size _⟩ ?_
  · have hb : Below w5.heap.size w5 ((w5.alloc (.cells (pcs 0 Set4.zero).toArray tPl)).setRow w5.heap.size (pcs 1 wR1).toArray) := ((Below.refl _ _).alloc (Nat.le_refl _) _).setRow (Nat.le_refl _) _
    exact ml5.below hb hll5
  simp only [← hg4]
  clear hg4 r5 B5 ml5 hll5
  rintro w6 ⟨r6, ml, B6⟩
  have m4 := r6.range
  have l6 := r6.lt
  have c4 := r6.cell 0 rfl
  refine wp_region_mix_exts (fun k => k = g4 ∨ k = gl ∨ k = 0) [] false (by kernel_rfl) (by kernel_rfl) ?_
  intro _
  repeat ((with_reducible refine wpMix_light ?hh ?_); (case hh => rfl); (first | ((with_reducible apply q_lds); (case hw => rfl); (case hx => rfl); (case hc => assumption); (case hb => (first | exact .inl rfl | exact .inr (.inl rfl))); (case ht => first | exact rtS _ | exact rtP _ | exact rtPl _ _); (simp only [Act.put, List.setIfInBounds_toArray, List.set_cons_zero, List.set_cons_succ])) | ((with_reducible apply q_build2); (case hw => rfl); (case hx => rfl); (case hy => rfl); (case hb => exact build_plan _ _); (simp only [Act.put, List.setIfInBounds_toArray, List.set_cons_zero, List.set_cons_succ])) | go_big_quiet_step (fail)); (with_reducible refine wpQuiet_nil ?_))
  (with_reducible refine wpMix_heavy ?hh ?hw (fun K hK => ?_)); (case hh => rfl); (case hw => rfl)
  go_simp
  have b7 : Below w6.heap.size w6 ((w6.alloc (.cells (ints [1, 4, 5]).toArray 3)).drew) := ((Below.refl _ _).alloc (Nat.le_refl _) _).drew
  refine hK.out _ _ (toExtS (fun k hk => b7.block k (by rcases hk with rfl | rfl | rfl <;> omega))) ?_
  clear hK K
  try simp only [Act.put, List.setIfInBounds_toArray, List.set_cons_zero, List.set_cons_succ]
  refine wpMix_world (fun w7 => w7.row w6.heap.size (ints [1, 4, 5]) 3 ∧ Below w6.heap.size w6 w7) ⟨(World.row.new' (cs := ints [1, 4, 5]) rfl).drew, b7⟩ ?_
  clear b7
  rintro w7 ⟨r7, b7⟩
  (with_reducible refine wpMix_heavy ?hh ?hw (fun K hK => ?_)); (case hh => rfl); (case hw => rfl)
  go_simp
  refine (Of_any [1, 4, 5] w6.heap.size 0 3 _ (fun j u hj => by rw [Nat.zero_add]; exact r7.cell j hj) (by simp)).mono ?_
  rintro e w8 ⟨rfl, bx⟩
  have b8 : Below w6.heap.size w6 w8 := b7.trans (bx.mono b7.size)
  clear bx b7 r7
  refine hK.out _ _ (toExtS (fun k hk => b8.block k (by rcases hk with rfl | rfl | rfl <;> omega))) ?_
  clear hK K
  try simp only [Act.put, List.setIfInBounds_toArray, List.set_cons_zero, List.set_cons_succ]
  repeat ((with_reducible refine wpMix_light ?hh ?_); (case hh => rfl); (first | ((with_reducible apply q_lds); (case hw => rfl); (case hx => rfl); (case hc => assumption); (case hb => first | exact .inl rfl | exact .inr (.inl rfl)); (case ht => exact rtPl _ _); simp only [Act.put, List.setIfInBounds_toArray, List.set_cons_zero, List.set_cons_succ]) | ((with_reducible apply q_build2); (case hw => rfl); (case hx => rfl); (case hy => rfl); (case hb => exact build_plan 2 wR2); simp only [Act.put, List.setIfInBounds_toArray, List.set_cons_zero, List.set_cons_succ]) | ((with_reducible apply q_cmp); (case hw => rfl); (case hx => rfl); (case hy => rfl); (case hg => exact guard_pl _ _ 2 2 wR2 wR2); (case hr => exact eql_w2); simp only [Act.put, List.setIfInBounds_toArray, List.set_cons_zero, List.set_cons_succ]) | go_big_quiet_step (fail)); (with_reducible refine wpQuiet_nil ?_))
  (with_reducible refine wpMix_heavy ?hh ?hw (fun K hK => ?_)); (case hh => rfl); (case hw => rfl)
  go_simp
  have b9 : Below w6.heap.size w6 (w8.alloc (.cells (ints [0, 2, 3]).toArray 3)) := b8.alloc b8.size _
  refine hK.out _ _ (toExtS (fun k hk => b9.block k (by rcases hk with rfl | rfl | rfl <;> omega))) ?_
  clear hK K
  try simp only [Act.put, List.setIfInBounds_toArray, List.set_cons_zero, List.set_cons_succ]
  refine wpMix_world (fun w7 => w7.row w8.heap.size (ints [0, 2, 3]) 3 ∧ Below w6.heap.size w6 w7) ⟨World.row.new' (cs := ints [0, 2, 3]) rfl, b9⟩ ?_
  clear b9
  rintro w9 ⟨r9, b9⟩
  (with_reducible refine wpMix_heavy ?hh ?hw (fun K hK => ?_)); (case hh => rfl); (case hw => rfl)
  go_simp
  refine (Of_any [0, 2, 3] w8.heap.size 0 3 _ (fun j u hj => by rw [Nat.zero_add]; exact r9.cell j hj) (by simp)).mono ?_
  rintro e w10 ⟨rfl, bx⟩
  have b10 : Below w6.heap.size w6 w10 := b9.trans (bx.mono b9.size)
  clear bx b9 r9
  refine hK.out _ _ (toExtS (fun k hk => b10.block k (by rcases hk with rfl | rfl | rfl <;> omega))) ?_
  clear hK K
  try simp only [Act.put, List.setIfInBounds_toArray, List.set_cons_zero, List.set_cons_succ]
  repeat ((with_reducible refine wpMix_light ?hh ?_); (case hh => rfl); (first | ((with_reducible apply q_lds); (case hw => rfl); (case hx => rfl); (case hc => assumption); (case hb => first | exact .inl rfl | exact .inr (.inl rfl)); (case ht => exact rtPl _ _); simp only [Act.put, List.setIfInBounds_toArray, List.set_cons_zero, List.set_cons_succ]) | ((with_reducible apply q_build2); (case hw => rfl); (case hx => rfl); (case hy => rfl); (case hb => exact build_plan 1 wR1); simp only [Act.put, List.setIfInBounds_toArray, List.set_cons_zero, List.set_cons_succ]) | ((with_reducible apply q_cmp); (case hw => rfl); (case hx => rfl); (case hy => rfl); (case hg => exact guard_pl _ _ 1 1 wR1 wR1); (case hr => exact eql_w1); simp only [Act.put, List.setIfInBounds_toArray, List.set_cons_zero, List.set_cons_succ]) | go_big_quiet_step (fail)); (with_reducible refine wpQuiet_nil ?_))
  (with_reducible refine wpMix_heavy ?hh ?hw (fun K hK => ?_)); (case hh => rfl); (case hw => rfl)
  go_simp
  refine (Name_any 1 _ ((HN.out.below B6 HN.out.lt).below b10 (Nat.lt_of_lt_of_le HN.out.lt B6.size))).mono ?_
  rintro e w11 ⟨rfl, rfl⟩
  refine hK.out _ _ (toExtS (fun k hk => b10.block k (by rcases hk with rfl | rfl | rfl <;> omega))) ?_
  clear hK K
  try simp only [Act.put, List.setIfInBounds_toArray, List.set_cons_zero, List.set_cons_succ]
  rw [show nmOf 1 = [103, 114, 101, 97, 116] from rfl]
  repeat ((with_reducible refine wpMix_light ?hh ?_); (case hh => rfl); go_big_quiet_step (fail); (with_reducible refine wpQuiet_nil ?_))
  refine wpMix_nil ?_
  go_wp2_with fail
  go_returns
  exact ⟨rfl, B6.trans (b10.mono B6.size)⟩
end Go.Proofs.YtdmbenhhjpeepaaDoor
