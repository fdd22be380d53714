/- The plan's ways: contracts. -/
import Derived.Test.YtdmbenhhjpeepaaDoorPGood
namespace Go.Proofs.YtdmbenhhjpeepaaDoor
open Go Go.RowKit
set_option maxRecDepth 100000
abbrev tPl : TypeId := 45
/-- A plan's cells, not looked into. -/
def pcs (k : Int) (s : Set4) : List Value := .int .i64 k :: s.cells
abbrev pv (k : Int) (s : Set4) : Value := .agg (pcs k s).toArray
theorem rtPl (k : Int) (s : Set4) : RowTy Tryd.prog tPl (pcs k s).length := ⟨_, Tryd.underlying45, rfl, by show _ = some 5; kernel_rfl⟩
theorem pcs_one (k : Int) (s : Set4) : ∀ c ∈ pcs k s, c.oneCell' = true := by intro c hc; simp [pcs] at hc; rcases hc with rfl | rfl | rfl | rfl | rfl <;> rfl
theorem build_plan (k : Int) (s : Set4) (w : World) : (Instr.build tPl #[(0, .int .i64 k), (1, s.v)]).run Tryd.prog w = .ok (pv k s) w := by kernel_rfl
theorem build_plan0 (k : Int) (w : World) : (Instr.build tPl #[(0, .int .i64 k)]).run Tryd.prog w = .ok (pv k Set4.zero) w := by kernel_rfl
theorem zeroPl : (Tryd.prog.info? tPl).map (·.zero) = some (some (pv 0 Set4.zero)) := by kernel_rfl
def PS.greatR (p : PS) : Set4 := p.all.less p.H
def PS.greatB (p : PS) : Bool := !p.greatR.empty && (p.greatR.and p.L).empty
set_option maxHeartbeats 1000000 in
theorem great_any (p : PS) (w : World) : Calls Tryd.prog 23 #[p.v] w fun e w' => e = .returned (.tuple #[pv 1 p.greatR, .bool p.greatB]) ∧ Below w.heap.size w w' := by
  have he := fun w => Empty_v p.greatR w
  have hA := fun w => And_v p.greatR p.L w
  have hE := fun w => Empty_v (p.greatR.and p.L) w
  have hpb : p.greatB = (!p.greatR.empty && (p.greatR.and p.L).empty) := rfl
  rw [hpb]
  clear hpb
  generalize p.greatR.empty = e1 at *
  generalize (p.greatR.and p.L).empty = e2 at *
  have HH := Lib.hid (And.intro he (And.intro hA hE))
  clear he hA hE
  go_enter Tryd.func23, Tryd.ntmps23
  go_upto_region 1 with fail
  refine wp_world (fun w1 => w1.row w.heap.size p.cs tP ∧ w1.row (w.heap.size + 1) (pcs 0 Set4.zero) tPl ∧ Below w.heap.size w w1) ⟨World.row.alloc (World.row.new' rfl) _, World.row.new' (by simp), (by repeat' (first | (with_reducible exact Below.refl _ _) | (with_reducible assumption) | (with_reducible refine Below.setCell ?_ ?_ _) | (with_reducible refine Below.ext ?_ _ ?_) | (with_reducible refine Below.alloc ?_ ?_ _) | (with_reducible refine Below.drew ?_) | (with_reducible refine Below.drewN ?_ _) | (with_reducible exact Nat.le_refl _) | (dsimp only; omega) | (simp <;> omega)))⟩ ?_
  rintro w1 ⟨r1, q1, B1⟩
  obtain ⟨k0, m0, m1, m2, m3, m4, gl⟩ := PS.parts r1
  have hB0 : w1.heap.size ≤ w1.heap.size := Nat.le_refl _
  refine wp_region_calm 6 5 w1.heap.size Set4.zero.cs hB0 (by kernel_rfl) (by kernel_rfl) (by kernel_rfl) (by kernel_rfl) rfl zeroS rfl ?_
  apply Exists.intro
  refine ⟨fun K _ => ?_, ?_⟩
  · simp only [List.take_succ_cons, List.take_zero, List.eraseIdx_cons_succ, List.eraseIdx_cons_zero]
    repeat (first | (refine wpQuiet_ldc (by rfl) rfl rfl (by assumption) (by assumption) (by first | exact rtS _ | exact rtP _) ?_; simp only [Act.put, List.setIfInBounds_toArray, List.set_cons_zero, List.set_cons_succ]) | go_big_quiet_step ((first | with_reducible exact Calls.cl_of (data_any p _) | with_reducible exact Calls.cl_of (Less_v _ _ _))))
    refine wpQuiet_nil ?_
    rfl
  intro b w2 b2 hb2 r2
  simp only [List.drop_succ_cons, List.drop_zero, Act.put, List.setIfInBounds_toArray, List.set_cons_zero, List.set_cons_succ]
  refine wpList_st (n := 4) rfl rfl rfl rfl r2 (rtS p.greatR) rfl rfl (Set4.cs_one _) ?_
  simp only [Act.put]
  have hgb : w.heap.size < b := by omega
  have hgq := q1.lt
  have r1' := (r1.below b2 gl).setRow_other (ds := p.greatR.cs) (show b ≠ w.heap.size by omega)
  have q1' := (q1.below b2 hgq).setRow_other (ds := p.greatR.cs) (show b ≠ w.heap.size + 1 by omega)
  have B2 := (B1.trans (b2.mono B1.size)).setRow (show w.heap.size ≤ b by omega) p.greatR.cs.toArray
  have r2' := r2.setRow (ds := p.greatR.cs)
  refine wpList_world (fun w3 => w3.row w.heap.size p.cs tP ∧ w3.row (w.heap.size + 1) (pcs 0 Set4.zero) tPl ∧ w3.row b p.greatR.cs tS ∧ Below w.heap.size w w3) ⟨r1', q1', r2', B2⟩ ?_
  have hbq : b ≠ w.heap.size + 1 := by omega
  clear r1' q1' r2' B2 k0 m0 m1 m2 m3 m4 gl hB0 r1 q1 B1 b2 hb2 r2 hgq
  rintro w3 ⟨r1, q1, r2, B1⟩
  obtain ⟨k0, m0, m1, m2, m3, m4, gl⟩ := PS.parts r1
  have n2 := r2.range
  go_wp2_with fail
  have gb := r2.lt
  cases e1
  · refine wp_region_mix_exts (fun k => k = w.heap.size ∨ k = b) [] false (by kernel_rfl) (by kernel_rfl) ?_
    intro _
    repeat ((with_reducible refine wpMix_light ?hh ?_); (case hh => rfl); (first | ((refine wpQuiet_lds (by rfl) rfl rfl (by assumption) (by first | exact .inl rfl | exact .inr rfl) (by first | exact rtS _ | exact rtP _ | exact rtPl _ _) ?_); simp only [Act.put, List.setIfInBounds_toArray, List.set_cons_zero, List.set_cons_succ]) | go_big_quiet_step (fail) | ((refine wpQuiet_val (by rfl) (run_build2 rfl rfl rfl (build_plan _ _)) ?_); simp only [Act.put, List.setIfInBounds_toArray, List.set_cons_zero, List.set_cons_succ])); (with_reducible refine wpQuiet_nil ?_))
    (with_reducible refine wpMix_heavy ?hh ?hw (fun K hK => ?_)); (case hh => rfl); (case hw => rfl)
    go_simp
    refine (HH.out.1 _).mono ?_
    rintro e w4 ⟨rfl, b4'⟩
    have b4 : Below w3.heap.size w3 w4 := ((Below.refl _ _).drew).trans (b4'.mono (Nat.le_refl _))
    refine hK.out _ _ (toExtS (fun k hk => b4.block k (by rcases hk with rfl | rfl; exact gl; exact gb))) ?_
    clear hK K
    try simp only [Act.put, List.setIfInBounds_toArray, List.set_cons_zero, List.set_cons_succ]
    repeat ((with_reducible refine wpMix_light ?hh ?_); (case hh => rfl); (first | ((refine wpQuiet_lds (by rfl) rfl rfl (by assumption) (by first | exact .inl rfl | exact .inr rfl) (by first | exact rtS _ | exact rtP _ | exact rtPl _ _) ?_); simp only [Act.put, List.setIfInBounds_toArray, List.set_cons_zero, List.set_cons_succ]) | go_big_quiet_step (fail) | ((refine wpQuiet_val (by rfl) (run_build2 rfl rfl rfl (build_plan _ _)) ?_); simp only [Act.put, List.setIfInBounds_toArray, List.set_cons_zero, List.set_cons_succ])); (with_reducible refine wpQuiet_nil ?_))
    (with_reducible refine wpMix_heavy ?hh ?hw (fun K hK => ?_)); (case hh => rfl); (case hw => rfl)
    go_simp
    refine (HH.out.2.1 _).mono ?_
    rintro e w5 ⟨rfl, b5'⟩
    have b5 := b4.trans (b5'.mono b4.size)
    refine hK.out _ _ (toExtS (fun k hk => b5.block k (by rcases hk with rfl | rfl; exact gl; exact gb))) ?_
    clear hK K
    try simp only [Act.put, List.setIfInBounds_toArray, List.set_cons_zero, List.set_cons_succ]
    repeat ((with_reducible refine wpMix_light ?hh ?_); (case hh => rfl); (first | ((refine wpQuiet_lds (by rfl) rfl rfl (by assumption) (by first | exact .inl rfl | exact .inr rfl) (by first | exact rtS _ | exact rtP _ | exact rtPl _ _) ?_); simp only [Act.put, List.setIfInBounds_toArray, List.set_cons_zero, List.set_cons_succ]) | go_big_quiet_step (fail) | ((refine wpQuiet_val (by rfl) (run_build2 rfl rfl rfl (build_plan _ _)) ?_); simp only [Act.put, List.setIfInBounds_toArray, List.set_cons_zero, List.set_cons_succ])); (with_reducible refine wpQuiet_nil ?_))
    (with_reducible refine wpMix_heavy ?hh ?hw (fun K hK => ?_)); (case hh => rfl); (case hw => rfl)
    go_simp
    refine (HH.out.2.2 _).mono ?_
    rintro e w6 ⟨rfl, b6'⟩
    have b6 := b5.trans (b6'.mono b5.size)
    refine hK.out _ _ (toExtS (fun k hk => b6.block k (by rcases hk with rfl | rfl; exact gl; exact gb))) ?_
    clear hK K
    try simp only [Act.put, List.setIfInBounds_toArray, List.set_cons_zero, List.set_cons_succ]
    repeat ((with_reducible refine wpMix_light ?hh ?_); (case hh => rfl); (first | ((refine wpQuiet_lds (by rfl) rfl rfl (by assumption) (by first | exact .inl rfl | exact .inr rfl) (by first | exact rtS _ | exact rtP _ | exact rtPl _ _) ?_); simp only [Act.put, List.setIfInBounds_toArray, List.set_cons_zero, List.set_cons_succ]) | go_big_quiet_step (fail) | ((refine wpQuiet_val (by rfl) (run_build2 rfl rfl rfl (build_plan _ _)) ?_); simp only [Act.put, List.setIfInBounds_toArray, List.set_cons_zero, List.set_cons_succ])); (with_reducible refine wpQuiet_nil ?_))
    (with_reducible refine wpMix_heavy ?hh ?hw (fun K hK => ?_)); (case hh => rfl); (case hw => rfl)
    have q6 := q1.below b6 q1.lt
    refine wp_st (n := 5) rfl rfl rfl q6 (rtPl 1 p.greatR) rfl rfl (pcs_one _ _) ?_
    refine hK.out _ _ (toExtS (fun k hk => (World.setRow_heap_ne _ _ (by rcases hk with rfl | rfl <;> omega)).trans (b6.block k (by rcases hk with rfl | rfl; exact gl; exact gb)))) ?_
    clear hK K
    simp only [Act.put]
    repeat ((with_reducible refine wpMix_light ?hh ?_); (case hh => rfl); (first | ((refine wpQuiet_lds (by rfl) rfl rfl (by assumption) (by first | exact .inl rfl | exact .inr rfl) (by first | exact rtS _ | exact rtP _ | exact rtPl _ _) ?_); simp only [Act.put, List.setIfInBounds_toArray, List.set_cons_zero, List.set_cons_succ]) | go_big_quiet_step (fail) | ((refine wpQuiet_val (by rfl) (run_build2 rfl rfl rfl (build_plan _ _)) ?_); simp only [Act.put, List.setIfInBounds_toArray, List.set_cons_zero, List.set_cons_succ])); (with_reducible refine wpQuiet_nil ?_))
    refine wpMix_nil ?_
    go_wp2_with fail
    exact bodyPost_ct rfl rfl q6.setRow (rtPl 1 p.greatR) rfl ⟨rfl, (B1.trans (b6.mono B1.size)).setRow (by omega) _⟩
  · refine wp_region_mix_exts (fun k => k = w.heap.size ∨ k = b) [] false (by kernel_rfl) (by kernel_rfl) ?_
    intro _
    repeat ((with_reducible refine wpMix_light ?hh ?_); (case hh => rfl); (first | ((refine wpQuiet_lds (by rfl) rfl rfl (by assumption) (by first | exact .inl rfl | exact .inr rfl) (by first | exact rtS _ | exact rtP _ | exact rtPl _ _) ?_); simp only [Act.put, List.setIfInBounds_toArray, List.set_cons_zero, List.set_cons_succ]) | go_big_quiet_step (fail) | ((refine wpQuiet_val (by rfl) (run_build2 rfl rfl rfl (build_plan _ _)) ?_); simp only [Act.put, List.setIfInBounds_toArray, List.set_cons_zero, List.set_cons_succ])); (with_reducible refine wpQuiet_nil ?_))
    (with_reducible refine wpMix_heavy ?hh ?hw (fun K hK => ?_)); (case hh => rfl); (case hw => rfl)
    go_simp
    refine (HH.out.1 _).mono ?_
    rintro e w4 ⟨rfl, b4'⟩
    have b4 : Below w3.heap.size w3 w4 := ((Below.refl _ _).drew).trans (b4'.mono (Nat.le_refl _))
    refine hK.out _ _ (toExtS (fun k hk => b4.block k (by rcases hk with rfl | rfl; exact gl; exact gb))) ?_
    clear hK K
    try simp only [Act.put, List.setIfInBounds_toArray, List.set_cons_zero, List.set_cons_succ]
    repeat ((with_reducible refine wpMix_light ?hh ?_); (case hh => rfl); (first | ((refine wpQuiet_lds (by rfl) rfl rfl (by assumption) (by first | exact .inl rfl | exact .inr rfl) (by first | exact rtS _ | exact rtP _ | exact rtPl _ _) ?_); simp only [Act.put, List.setIfInBounds_toArray, List.set_cons_zero, List.set_cons_succ]) | go_big_quiet_step (fail) | ((refine wpQuiet_val (by rfl) (run_build2 rfl rfl rfl (build_plan _ _)) ?_); simp only [Act.put, List.setIfInBounds_toArray, List.set_cons_zero, List.set_cons_succ])); (with_reducible refine wpQuiet_nil ?_))
    (with_reducible refine wpMix_skip ?hh ?hw (toExtS (fun k hk => b4.block k (by rcases hk with rfl | rfl; exact gl; exact gb))) ?_); (case hh => rfl); (case hw => rfl)
    simp only [Act.put, List.setIfInBounds_toArray, List.set_cons_zero, List.set_cons_succ]
    repeat ((with_reducible refine wpMix_light ?hh ?_); (case hh => rfl); (first | ((refine wpQuiet_lds (by rfl) rfl rfl (by assumption) (by first | exact .inl rfl | exact .inr rfl) (by first | exact rtS _ | exact rtP _ | exact rtPl _ _) ?_); simp only [Act.put, List.setIfInBounds_toArray, List.set_cons_zero, List.set_cons_succ]) | go_big_quiet_step (fail) | ((refine wpQuiet_val (by rfl) (run_build2 rfl rfl rfl (build_plan _ _)) ?_); simp only [Act.put, List.setIfInBounds_toArray, List.set_cons_zero, List.set_cons_succ])); (with_reducible refine wpQuiet_nil ?_))
    (with_reducible refine wpMix_skip ?hh ?hw (toExtS (fun k hk => b4.block k (by rcases hk with rfl | rfl; exact gl; exact gb))) ?_); (case hh => rfl); (case hw => rfl)
    simp only [Act.put, List.setIfInBounds_toArray, List.set_cons_zero, List.set_cons_succ]
    repeat ((with_reducible refine wpMix_light ?hh ?_); (case hh => rfl); (first | ((refine wpQuiet_lds (by rfl) rfl rfl (by assumption) (by first | exact .inl rfl | exact .inr rfl) (by first | exact rtS _ | exact rtP _ | exact rtPl _ _) ?_); simp only [Act.put, List.setIfInBounds_toArray, List.set_cons_zero, List.set_cons_succ]) | go_big_quiet_step (fail) | ((refine wpQuiet_val (by rfl) (run_build2 rfl rfl rfl (build_plan _ _)) ?_); simp only [Act.put, List.setIfInBounds_toArray, List.set_cons_zero, List.set_cons_succ])); (with_reducible refine wpQuiet_nil ?_))
    (with_reducible refine wpMix_heavy ?hh ?hw (fun K hK => ?_)); (case hh => rfl); (case hw => rfl)
    have q6 := q1.below b4 q1.lt
    refine wp_st (n := 5) rfl rfl rfl q6 (rtPl 1 p.greatR) rfl rfl (pcs_one _ _) ?_
    refine hK.out _ _ (toExtS (fun k hk => (World.setRow_heap_ne _ _ (by rcases hk with rfl | rfl <;> omega)).trans (b4.block k (by rcases hk with rfl | rfl; exact gl; exact gb)))) ?_
    clear hK K
    simp only [Act.put]
    repeat ((with_reducible refine wpMix_light ?hh ?_); (case hh => rfl); (first | ((refine wpQuiet_lds (by rfl) rfl rfl (by assumption) (by first | exact .inl rfl | exact .inr rfl) (by first | exact rtS _ | exact rtP _ | exact rtPl _ _) ?_); simp only [Act.put, List.setIfInBounds_toArray, List.set_cons_zero, List.set_cons_succ]) | go_big_quiet_step (fail) | ((refine wpQuiet_val (by rfl) (run_build2 rfl rfl rfl (build_plan _ _)) ?_); simp only [Act.put, List.setIfInBounds_toArray, List.set_cons_zero, List.set_cons_succ])); (with_reducible refine wpQuiet_nil ?_))
    refine wpMix_nil ?_
    go_wp2_with fail
    exact bodyPost_ct rfl rfl q6.setRow (rtPl 1 p.greatR) rfl ⟨rfl, (B1.trans (b4.mono B1.size)).setRow (by omega) _⟩
def PS.olds (p : PS) : Set4 := p.D.less p.K
def PS.endsR (p : PS) : Set4 := p.ends.less p.L
def PS.smallR (p : PS) : Set4 := p.olds.or p.endsR
def PS.smallB (p : PS) : Bool := (p.olds.and p.L).empty && !p.endsR.empty
set_option maxHeartbeats 1000000 in
theorem small_any (p : PS) (w : World) (h0 : 0 ≤ p.data) (h1 : p.data ≤ 1000) : Calls Tryd.prog 24 #[p.v] w fun e w' => e = .returned (.tuple #[pv 2 p.smallR, .bool p.smallB]) ∧ Below w.heap.size w w' := by
  have HE := Lib.hid (fun w => ends_any p w h0 h1)
  have hO := fun w => Or_v p.olds p.endsR w
  have hA := fun w => And_v p.olds p.L w
  have he := fun w => Empty_v (p.olds.and p.L) w
  have hE := fun w => Empty_v p.endsR w
  have hpb : p.smallB = ((p.olds.and p.L).empty && !p.endsR.empty) := rfl
  rw [hpb]
  clear hpb h0 h1
  generalize (p.olds.and p.L).empty = e1 at *
  generalize p.endsR.empty = e2 at *
  have HH := Lib.hid (And.intro hO (And.intro hA (And.intro he hE)))
  clear hO hA he hE
  go_enter Tryd.func24, Tryd.ntmps24
  go_upto_region 1 with fail
  refine wp_world (fun w1 => w1.row w.heap.size p.cs tP ∧ w1.row (w.heap.size + 1) (pcs 0 Set4.zero) tPl ∧ Below w.heap.size w w1) ⟨World.row.alloc (World.row.new' rfl) _, World.row.new' (by simp), (by repeat' (first | (with_reducible exact Below.refl _ _) | (with_reducible assumption) | (with_reducible refine Below.setCell ?_ ?_ _) | (with_reducible refine Below.ext ?_ _ ?_) | (with_reducible refine Below.alloc ?_ ?_ _) | (with_reducible refine Below.drew ?_) | (with_reducible refine Below.drewN ?_ _) | (with_reducible exact Nat.le_refl _) | (dsimp only; omega) | (simp <;> omega)))⟩ ?_
  rintro w1 ⟨r1, q1, B1⟩
  obtain ⟨k0, m0, m1, m2, m3, m4, gl⟩ := PS.parts r1
  have hB0 : w1.heap.size ≤ w1.heap.size := Nat.le_refl _
  refine wp_region_calm2 12 10 11 w1.heap.size Set4.zero.cs Set4.zero.cs hB0 (by kernel_rfl) (by kernel_rfl) (by kernel_rfl) (by kernel_rfl) rfl rfl zeroS rfl zeroS rfl ?_
  apply Exists.intro
  refine ⟨fun K _ => ?_, ?_⟩
  · simp only [List.take_succ_cons, List.take_zero, List.eraseIdx_cons_succ, List.eraseIdx_cons_zero]
    repeat (first | (refine wpQuiet_ldc (by rfl) rfl rfl (by assumption) (by assumption) (by first | exact rtS _ | exact rtP _) ?_; simp only [Act.put, List.setIfInBounds_toArray, List.set_cons_zero, List.set_cons_succ]) | go_big_quiet_step ((first | with_reducible exact Calls.cl_of (HE.out _) | with_reducible exact Calls.cl_of (Less_v _ _ _))))
    refine wpQuiet_nil ?_
    rfl
  intro b c w2 b2 hb2 hc2 hbc r2 s2
  simp only [List.drop_succ_cons, List.drop_zero, Act.put, List.setIfInBounds_toArray, List.set_cons_zero, List.set_cons_succ]
  have hgq := q1.lt
  refine wpList_st (n := 4) rfl rfl rfl rfl r2 (rtS p.olds) rfl rfl (Set4.cs_one _) ?_
  simp only [Act.put]
  refine wpList_st (n := 4) rfl rfl rfl rfl (s2.setRow_other (ds := p.olds.cs) hbc) (rtS p.endsR) rfl rfl (Set4.cs_one _) ?_
  simp only [Act.put]
  refine wpList_world (fun w3 => w3.row w.heap.size p.cs tP ∧ w3.row (w.heap.size + 1) (pcs 0 Set4.zero) tPl ∧ w3.row b p.olds.cs tS ∧ w3.row c p.endsR.cs tS ∧ Below w.heap.size w w3)
    ⟨((r1.below b2 gl).setRow_other (by omega)).setRow_other (by omega), ((q1.below b2 hgq).setRow_other (by omega)).setRow_other (by omega), (r2.setRow).setRow_other (Ne.symm hbc), (s2.setRow_other hbc).setRow, (((B1.trans (b2.mono B1.size)).setRow (by omega) _).setRow (by omega) _)⟩ ?_
  have hbq : b ≠ w.heap.size + 1 ∧ c ≠ w.heap.size + 1 := by omega
  obtain ⟨hbq1, hbq2⟩ := hbq
  clear k0 m0 m1 m2 m3 m4 gl hB0 r1 q1 B1 b2 hb2 hc2 r2 s2 hgq
  rintro w3 ⟨r1, q1, r2, s2, B1⟩
  obtain ⟨k0, m0, m1, m2, m3, m4, gl⟩ := PS.parts r1
  have n2 := r2.range
  have n3 := s2.range
  have gb := r2.lt
  have gc := s2.lt
  go_wp2_with fail
  cases e1
  · refine wp_region_mix_exts (fun k => k = w.heap.size ∨ k = b ∨ k = c) [] false (by kernel_rfl) (by kernel_rfl) ?_
    intro _
    repeat ((with_reducible refine wpMix_light ?hh ?_); (case hh => rfl); (first | ((refine wpQuiet_lds (by rfl) rfl rfl (by assumption) (by first | exact .inl rfl | exact .inr (.inl rfl) | exact .inr (.inr rfl)) (by first | exact rtS _ | exact rtP _ | exact rtPl _ _) ?_); simp only [Act.put, List.setIfInBounds_toArray, List.set_cons_zero, List.set_cons_succ]) | go_big_quiet_step (fail) | ((refine wpQuiet_val (by rfl) (run_build2 rfl rfl rfl (build_plan _ _)) ?_); simp only [Act.put, List.setIfInBounds_toArray, List.set_cons_zero, List.set_cons_succ])); (with_reducible refine wpQuiet_nil ?_))
    (with_reducible refine wpMix_heavy ?hh ?hw (fun K hK => ?_)); (case hh => rfl); (case hw => rfl)
    go_simp
    refine (HH.out.1 _).mono ?_
    rintro e w4 ⟨rfl, bx⟩
    have bw4 : Below w3.heap.size w3 w4 := ((Below.refl _ _).drew).trans (bx.mono (Nat.le_refl _))
    clear bx
    refine hK.out _ _ (toExtS (fun k hk => bw4.block k (by rcases hk with rfl | rfl | rfl; exact gl; exact gb; exact gc))) ?_
    clear hK K
    try simp only [Act.put, List.setIfInBounds_toArray, List.set_cons_zero, List.set_cons_succ]
    repeat ((with_reducible refine wpMix_light ?hh ?_); (case hh => rfl); (first | ((refine wpQuiet_lds (by rfl) rfl rfl (by assumption) (by first | exact .inl rfl | exact .inr (.inl rfl) | exact .inr (.inr rfl)) (by first | exact rtS _ | exact rtP _ | exact rtPl _ _) ?_); simp only [Act.put, List.setIfInBounds_toArray, List.set_cons_zero, List.set_cons_succ]) | go_big_quiet_step (fail) | ((refine wpQuiet_val (by rfl) (run_build2 rfl rfl rfl (build_plan _ _)) ?_); simp only [Act.put, List.setIfInBounds_toArray, List.set_cons_zero, List.set_cons_succ])); (with_reducible refine wpQuiet_nil ?_))
    (with_reducible refine wpMix_heavy ?hh ?hw (fun K hK => ?_)); (case hh => rfl); (case hw => rfl)
    go_simp
    refine (HH.out.2.1 _).mono ?_
    rintro e w5 ⟨rfl, bx⟩
    have bw5 := bw4.trans (bx.mono bw4.size)
    clear bx
    refine hK.out _ _ (toExtS (fun k hk => bw5.block k (by rcases hk with rfl | rfl | rfl; exact gl; exact gb; exact gc))) ?_
    clear hK K
    try simp only [Act.put, List.setIfInBounds_toArray, List.set_cons_zero, List.set_cons_succ]
    repeat ((with_reducible refine wpMix_light ?hh ?_); (case hh => rfl); (first | ((refine wpQuiet_lds (by rfl) rfl rfl (by assumption) (by first | exact .inl rfl | exact .inr (.inl rfl) | exact .inr (.inr rfl)) (by first | exact rtS _ | exact rtP _ | exact rtPl _ _) ?_); simp only [Act.put, List.setIfInBounds_toArray, List.set_cons_zero, List.set_cons_succ]) | go_big_quiet_step (fail) | ((refine wpQuiet_val (by rfl) (run_build2 rfl rfl rfl (build_plan _ _)) ?_); simp only [Act.put, List.setIfInBounds_toArray, List.set_cons_zero, List.set_cons_succ])); (with_reducible refine wpQuiet_nil ?_))
    (with_reducible refine wpMix_heavy ?hh ?hw (fun K hK => ?_)); (case hh => rfl); (case hw => rfl)
    go_simp
    refine (HH.out.2.2.1 _).mono ?_
    rintro e w6 ⟨rfl, bx⟩
    have bw6 := bw5.trans (bx.mono bw5.size)
    clear bx
    refine hK.out _ _ (toExtS (fun k hk => bw6.block k (by rcases hk with rfl | rfl | rfl; exact gl; exact gb; exact gc))) ?_
    clear hK K
    try simp only [Act.put, List.setIfInBounds_toArray, List.set_cons_zero, List.set_cons_succ]
    repeat ((with_reducible refine wpMix_light ?hh ?_); (case hh => rfl); (first | ((refine wpQuiet_lds (by rfl) rfl rfl (by assumption) (by first | exact .inl rfl | exact .inr (.inl rfl) | exact .inr (.inr rfl)) (by first | exact rtS _ | exact rtP _ | exact rtPl _ _) ?_); simp only [Act.put, List.setIfInBounds_toArray, List.set_cons_zero, List.set_cons_succ]) | go_big_quiet_step (fail) | ((refine wpQuiet_val (by rfl) (run_build2 rfl rfl rfl (build_plan _ _)) ?_); simp only [Act.put, List.setIfInBounds_toArray, List.set_cons_zero, List.set_cons_succ])); (with_reducible refine wpQuiet_nil ?_))
    (with_reducible refine wpMix_skip ?hh ?hw (toExtS (fun k hk => bw6.block k (by rcases hk with rfl | rfl | rfl; exact gl; exact gb; exact gc))) ?_); (case hh => rfl); (case hw => rfl)
    simp only [Act.put, List.setIfInBounds_toArray, List.set_cons_zero, List.set_cons_succ]
    repeat ((with_reducible refine wpMix_light ?hh ?_); (case hh => rfl); (first | ((refine wpQuiet_lds (by rfl) rfl rfl (by assumption) (by first | exact .inl rfl | exact .inr (.inl rfl) | exact .inr (.inr rfl)) (by first | exact rtS _ | exact rtP _ | exact rtPl _ _) ?_); simp only [Act.put, List.setIfInBounds_toArray, List.set_cons_zero, List.set_cons_succ]) | go_big_quiet_step (fail) | ((refine wpQuiet_val (by rfl) (run_build2 rfl rfl rfl (build_plan _ _)) ?_); simp only [Act.put, List.setIfInBounds_toArray, List.set_cons_zero, List.set_cons_succ])); (with_reducible refine wpQuiet_nil ?_))
    (with_reducible refine wpMix_heavy ?hh ?hw (fun K hK => ?_)); (case hh => rfl); (case hw => rfl)
    have q6 := q1.below bw6 q1.lt
    refine wp_st (n := 5) rfl rfl rfl q6 (rtPl 2 p.smallR) rfl rfl (pcs_one _ _) ?_
    refine hK.out _ _ (toExtS (fun k hk => (World.setRow_heap_ne _ _ (by rcases hk with rfl | rfl | rfl <;> omega)).trans (bw6.block k (by rcases hk with rfl | rfl | rfl; exact gl; exact gb; exact gc)))) ?_
    clear hK K
    simp only [Act.put]
    repeat ((with_reducible refine wpMix_light ?hh ?_); (case hh => rfl); (first | ((refine wpQuiet_lds (by rfl) rfl rfl (by assumption) (by first | exact .inl rfl | exact .inr (.inl rfl) | exact .inr (.inr rfl)) (by first | exact rtS _ | exact rtP _ | exact rtPl _ _) ?_); simp only [Act.put, List.setIfInBounds_toArray, List.set_cons_zero, List.set_cons_succ]) | go_big_quiet_step (fail) | ((refine wpQuiet_val (by rfl) (run_build2 rfl rfl rfl (build_plan _ _)) ?_); simp only [Act.put, List.setIfInBounds_toArray, List.set_cons_zero, List.set_cons_succ])); (with_reducible refine wpQuiet_nil ?_))
    refine wpMix_nil ?_
    go_wp2_with fail
    exact bodyPost_ct rfl rfl q6.setRow (rtPl 2 p.smallR) rfl ⟨rfl, (B1.trans (bw6.mono B1.size)).setRow (by omega) _⟩
  · refine wp_region_mix_exts (fun k => k = w.heap.size ∨ k = b ∨ k = c) [] false (by kernel_rfl) (by kernel_rfl) ?_
    intro _
    repeat ((with_reducible refine wpMix_light ?hh ?_); (case hh => rfl); (first | ((refine wpQuiet_lds (by rfl) rfl rfl (by assumption) (by first | exact .inl rfl | exact .inr (.inl rfl) | exact .inr (.inr rfl)) (by first | exact rtS _ | exact rtP _ | exact rtPl _ _) ?_); simp only [Act.put, List.setIfInBounds_toArray, List.set_cons_zero, List.set_cons_succ]) | go_big_quiet_step (fail) | ((refine wpQuiet_val (by rfl) (run_build2 rfl rfl rfl (build_plan _ _)) ?_); simp only [Act.put, List.setIfInBounds_toArray, List.set_cons_zero, List.set_cons_succ])); (with_reducible refine wpQuiet_nil ?_))
    (with_reducible refine wpMix_heavy ?hh ?hw (fun K hK => ?_)); (case hh => rfl); (case hw => rfl)
    go_simp
    refine (HH.out.1 _).mono ?_
    rintro e w4 ⟨rfl, bx⟩
    have bw4 : Below w3.heap.size w3 w4 := ((Below.refl _ _).drew).trans (bx.mono (Nat.le_refl _))
    clear bx
    refine hK.out _ _ (toExtS (fun k hk => bw4.block k (by rcases hk with rfl | rfl | rfl; exact gl; exact gb; exact gc))) ?_
    clear hK K
    try simp only [Act.put, List.setIfInBounds_toArray, List.set_cons_zero, List.set_cons_succ]
    repeat ((with_reducible refine wpMix_light ?hh ?_); (case hh => rfl); (first | ((refine wpQuiet_lds (by rfl) rfl rfl (by assumption) (by first | exact .inl rfl | exact .inr (.inl rfl) | exact .inr (.inr rfl)) (by first | exact rtS _ | exact rtP _ | exact rtPl _ _) ?_); simp only [Act.put, List.setIfInBounds_toArray, List.set_cons_zero, List.set_cons_succ]) | go_big_quiet_step (fail) | ((refine wpQuiet_val (by rfl) (run_build2 rfl rfl rfl (build_plan _ _)) ?_); simp only [Act.put, List.setIfInBounds_toArray, List.set_cons_zero, List.set_cons_succ])); (with_reducible refine wpQuiet_nil ?_))
    (with_reducible refine wpMix_heavy ?hh ?hw (fun K hK => ?_)); (case hh => rfl); (case hw => rfl)
    go_simp
    refine (HH.out.2.1 _).mono ?_
    rintro e w5 ⟨rfl, bx⟩
    have bw5 := bw4.trans (bx.mono bw4.size)
    clear bx
    refine hK.out _ _ (toExtS (fun k hk => bw5.block k (by rcases hk with rfl | rfl | rfl; exact gl; exact gb; exact gc))) ?_
    clear hK K
    try simp only [Act.put, List.setIfInBounds_toArray, List.set_cons_zero, List.set_cons_succ]
    repeat ((with_reducible refine wpMix_light ?hh ?_); (case hh => rfl); (first | ((refine wpQuiet_lds (by rfl) rfl rfl (by assumption) (by first | exact .inl rfl | exact .inr (.inl rfl) | exact .inr (.inr rfl)) (by first | exact rtS _ | exact rtP _ | exact rtPl _ _) ?_); simp only [Act.put, List.setIfInBounds_toArray, List.set_cons_zero, List.set_cons_succ]) | go_big_quiet_step (fail) | ((refine wpQuiet_val (by rfl) (run_build2 rfl rfl rfl (build_plan _ _)) ?_); simp only [Act.put, List.setIfInBounds_toArray, List.set_cons_zero, List.set_cons_succ])); (with_reducible refine wpQuiet_nil ?_))
    (with_reducible refine wpMix_heavy ?hh ?hw (fun K hK => ?_)); (case hh => rfl); (case hw => rfl)
    go_simp
    refine (HH.out.2.2.1 _).mono ?_
    rintro e w6 ⟨rfl, bx⟩
    have bw6 := bw5.trans (bx.mono bw5.size)
    clear bx
    refine hK.out _ _ (toExtS (fun k hk => bw6.block k (by rcases hk with rfl | rfl | rfl; exact gl; exact gb; exact gc))) ?_
    clear hK K
    try simp only [Act.put, List.setIfInBounds_toArray, List.set_cons_zero, List.set_cons_succ]
    repeat ((with_reducible refine wpMix_light ?hh ?_); (case hh => rfl); (first | ((refine wpQuiet_lds (by rfl) rfl rfl (by assumption) (by first | exact .inl rfl | exact .inr (.inl rfl) | exact .inr (.inr rfl)) (by first | exact rtS _ | exact rtP _ | exact rtPl _ _) ?_); simp only [Act.put, List.setIfInBounds_toArray, List.set_cons_zero, List.set_cons_succ]) | go_big_quiet_step (fail) | ((refine wpQuiet_val (by rfl) (run_build2 rfl rfl rfl (build_plan _ _)) ?_); simp only [Act.put, List.setIfInBounds_toArray, List.set_cons_zero, List.set_cons_succ])); (with_reducible refine wpQuiet_nil ?_))
    (with_reducible refine wpMix_heavy ?hh ?hw (fun K hK => ?_)); (case hh => rfl); (case hw => rfl)
    go_simp
    refine (HH.out.2.2.2 _).mono ?_
    rintro e w7 ⟨rfl, bx⟩
    have bw7 := bw6.trans (bx.mono bw6.size)
    clear bx
    refine hK.out _ _ (toExtS (fun k hk => bw7.block k (by rcases hk with rfl | rfl | rfl; exact gl; exact gb; exact gc))) ?_
    clear hK K
    try simp only [Act.put, List.setIfInBounds_toArray, List.set_cons_zero, List.set_cons_succ]
    repeat ((with_reducible refine wpMix_light ?hh ?_); (case hh => rfl); (first | ((refine wpQuiet_lds (by rfl) rfl rfl (by assumption) (by first | exact .inl rfl | exact .inr (.inl rfl) | exact .inr (.inr rfl)) (by first | exact rtS _ | exact rtP _ | exact rtPl _ _) ?_); simp only [Act.put, List.setIfInBounds_toArray, List.set_cons_zero, List.set_cons_succ]) | go_big_quiet_step (fail) | ((refine wpQuiet_val (by rfl) (run_build2 rfl rfl rfl (build_plan _ _)) ?_); simp only [Act.put, List.setIfInBounds_toArray, List.set_cons_zero, List.set_cons_succ])); (with_reducible refine wpQuiet_nil ?_))
    (with_reducible refine wpMix_heavy ?hh ?hw (fun K hK => ?_)); (case hh => rfl); (case hw => rfl)
    have q6 := q1.below bw7 q1.lt
    refine wp_st (n := 5) rfl rfl rfl q6 (rtPl 2 p.smallR) rfl rfl (pcs_one _ _) ?_
    refine hK.out _ _ (toExtS (fun k hk => (World.setRow_heap_ne _ _ (by rcases hk with rfl | rfl | rfl <;> omega)).trans (bw7.block k (by rcases hk with rfl | rfl | rfl; exact gl; exact gb; exact gc)))) ?_
    clear hK K
    simp only [Act.put]
    repeat ((with_reducible refine wpMix_light ?hh ?_); (case hh => rfl); (first | ((refine wpQuiet_lds (by rfl) rfl rfl (by assumption) (by first | exact .inl rfl | exact .inr (.inl rfl) | exact .inr (.inr rfl)) (by first | exact rtS _ | exact rtP _ | exact rtPl _ _) ?_); simp only [Act.put, List.setIfInBounds_toArray, List.set_cons_zero, List.set_cons_succ]) | go_big_quiet_step (fail) | ((refine wpQuiet_val (by rfl) (run_build2 rfl rfl rfl (build_plan _ _)) ?_); simp only [Act.put, List.setIfInBounds_toArray, List.set_cons_zero, List.set_cons_succ])); (with_reducible refine wpQuiet_nil ?_))
    refine wpMix_nil ?_
    go_wp2_with fail
    exact bodyPost_ct rfl rfl q6.setRow (rtPl 2 p.smallR) rfl ⟨rfl, (B1.trans (bw7.mono B1.size)).setRow (by omega) _⟩
end Go.Proofs.YtdmbenhhjpeepaaDoor
