/- The plan's Ways: its contract. -/
import Derived.Test.YtdmbenhhjpeepaaDoorPEq
import Derived.Test.YtdmbenhhjpeepaaDoorOp
import Derived.LoopTactic
namespace Go.Proofs.YtdmbenhhjpeepaaDoor
open Go Go.RowKit
set_option maxRecDepth 100000
def PS.fullB (p : PS) : Bool := p.H.beq p.all
def PS.wholeR (p : PS) : Set4 := (p.all.or p.ends).less p.L
def PS.ways (p : PS) : List (Int × Set4) := ((if p.fullB then [(0, Set4.zero)] else []) ++ ((if p.greatB then [(1, p.greatR)] else []) ++ (if p.smallB then [(2, p.smallR)] else []))) ++ [(3, p.wholeR)]
/-- The ways that the loop has taken behind k rounds. -/
def wayList (b1 b2 : Bool) (p : PS) (k : Nat) : List (Int × Set4) := (if b1 && decide (0 < k) then [(1, p.greatR)] else []) ++ (if b2 && decide (1 < k) then [(2, p.smallR)] else [])
theorem wayList_len (b1 b2 : Bool) (p : PS) (k : Nat) : (wayList b1 b2 p k).length ≤ 2 := by
  unfold wayList
  rw [List.length_append]
  split <;> split <;> simp
theorem own_shape5 {w : World} {B : Nat} {e : TypeId} {size : Nat} {v : Value} {n : Nat} {xs : List Value} (h : w.ownsRow B e size v n xs) : ∃ a m c, v = .slice a m c := by
  rcases h.2 with ⟨h1, _⟩ | ⟨g, cap, cur, h1, _⟩
  · exact ⟨_, _, _, h1⟩
  · exact ⟨_, _, _, h1⟩
theorem wl0n (b2 : Bool) (p : PS) : wayList false b2 p (0 + 1) = wayList false b2 p 0 := by simp [wayList]
theorem wl0y (b2 : Bool) (p : PS) : wayList true b2 p (0 + 1) = wayList true b2 p 0 ++ [(1, p.greatR)] := by simp [wayList]
theorem wl1n (b1 : Bool) (p : PS) : wayList b1 false p (1 + 1) = wayList b1 false p 1 := by simp [wayList]
theorem wl1y (b1 : Bool) (p : PS) : wayList b1 true p (1 + 1) = wayList b1 true p 1 ++ [(2, p.smallR)] := by simp [wayList]
theorem prow_snoc {w : World} {B : Nat} {v : Value} {ps : List (Int × Set4)} {k : Int} {s : Set4} (h : w.ownsRow B tPl 5 v (ps.length + 1) (ps.flatMap (fun x => pcs x.1 x.2) ++ pcs k s)) : prow w B v (ps ++ [(k, s)]) := by
  show w.ownsRow B tPl 5 v _ _
  rw [List.length_append, List.flatMap_append]
  simpa using h
theorem own_mono {w : World} {B B' : Nat} {e : TypeId} {size : Nat} {v : Value} {n : Nat} {xs : List Value} (h : w.ownsRow B e size v n xs) (hb : B' ≤ B) : w.ownsRow B' e size v n xs :=
  ⟨h.1, h.2.imp id fun ⟨g, cap, cur, hv, hB, q⟩ => ⟨g, cap, cur, hv, Nat.le_trans hb hB, q⟩⟩
theorem Ways_no (p : PS) (w : World) (hg : p.good = false) : Calls Tryd.prog 7 #[p.v] w fun e w' => e = .returned (.tuple #[.slice none 0 0, .int .i64 4]) ∧ Below w.heap.size w w' := by
  have hG := fun w => good_any p w
  rw [hg] at hG
  have HG := Lib.hid hG
  clear hG hg
  go_enter Tryd.func7, Tryd.ntmps7
  go_upto_region 1 with fail
  refine wp_world (fun w1 => w1.row w.heap.size p.cs tP ∧ Below w.heap.size w w1) ⟨World.row.new' rfl, (by repeat' (first | (with_reducible exact Below.refl _ _) | (with_reducible assumption) | (with_reducible refine Below.setCell ?_ ?_ _) | (with_reducible refine Below.ext ?_ _ ?_) | (with_reducible refine Below.alloc ?_ ?_ _) | (with_reducible refine Below.drew ?_) | (with_reducible refine Below.drewN ?_ _) | (with_reducible exact Nat.le_refl _) | (dsimp only; omega) | (simp <;> omega)))⟩ ?_
  rintro w1 ⟨r1, B1⟩
  obtain ⟨k0, m0, m1, m2, m3, m4, gl⟩ := PS.parts r1
  go_wp2_with ((refine wpList_ld (by rfl) rfl rfl (by assumption) (by first | exact rtS _ | exact rtP _ | exact rtPl _ _) ?_; simp only [Act.put, List.setIfInBounds_toArray, List.set_cons_zero, List.set_cons_succ]))
  refine Calls.pure_to (HG.out _) ?_
  intro w2 b2
  go_wp2_with fail
  go_ret2
  exact ⟨rfl, B1.trans (b2.mono B1.size)⟩
set_option maxHeartbeats 2000000 in
theorem Ways_yes (p : PS) (w : World) (hg : p.good = true) : Calls Tryd.prog 7 #[p.v] w fun e w' => (∃ v, e = .returned (.tuple #[v, .int .i64 0]) ∧ prow w' w.heap.size v p.ways) ∧ Below w.heap.size w w' := by
  have hd : 0 ≤ p.data ∧ p.data ≤ 30 := by
    unfold PS.good at hg
    simp only [Bool.and_eq_true, decide_eq_true_eq] at hg
    omega
  have hG := fun w => good_any p w
  rw [hg] at hG
  have HG := Lib.hid (And.intro hG hd)
  have hpw : p.ways = ((if p.fullB then [(0, Set4.zero)] else []) ++ ((if p.greatB then [(1, p.greatR)] else []) ++ (if p.smallB then [(2, p.smallR)] else []))) ++ [(3, p.wholeR)] := rfl
  rw [hpw]
  have hEq : p.fullB = p.H.beq p.all := rfl
  have hGr := fun w => great_any p w
  have hSm := fun w => small_any p w hd.1 (by omega)
  generalize p.fullB = b0 at *
  generalize p.greatB = b1 at *
  generalize p.smallB = b2 at *
  obtain ⟨WL, hWL⟩ : ∃ L, L = ((if b0 then [(0, Set4.zero)] else []) ++ ((if b1 then [(1, p.greatR)] else []) ++ (if b2 then [(2, p.smallR)] else []))) ++ [((3 : Int), p.wholeR)] := ⟨_, rfl⟩
  rw [← hWL]
  have HW := Lib.hid hWL
  have HE := Lib.hid (And.intro hEq (And.intro hGr hSm))
  clear hG hg hpw hEq hGr hSm hd hWL
  go_enter Tryd.func7, Tryd.ntmps7
  go_upto_region 1 with fail
  refine wp_world (fun w1 => w1.row w.heap.size p.cs tP ∧ Below w.heap.size w w1) ⟨World.row.new' rfl, (by repeat' (first | (with_reducible exact Below.refl _ _) | (with_reducible assumption) | (with_reducible refine Below.setCell ?_ ?_ _) | (with_reducible refine Below.ext ?_ _ ?_) | (with_reducible refine Below.alloc ?_ ?_ _) | (with_reducible refine Below.drew ?_) | (with_reducible refine Below.drewN ?_ _) | (with_reducible exact Nat.le_refl _) | (dsimp only; omega) | (simp <;> omega)))⟩ ?_
  rintro w1 ⟨r1, B1⟩
  obtain ⟨k0, m0, m1, m2, m3, m4, gl⟩ := PS.parts r1
  go_wp2_with ((refine wpList_ld (by rfl) rfl rfl (by assumption) (by first | exact rtS _ | exact rtP _ | exact rtPl _ _) ?_; simp only [Act.put, List.setIfInBounds_toArray, List.set_cons_zero, List.set_cons_succ]))
  refine Calls.pure_to (HG.out.1 _) ?_
  intro w2 b2'
  have r2 := r1.below b2' r1.lt
  have B2 := B1.trans (b2'.mono B1.size)
  clear k0 m0 m1 m2 m3 m4 gl r1 B1 b2'
  obtain ⟨k0, m0, m1, m2, m3, m4, gl⟩ := PS.parts r2
  have hB0 : w2.heap.size ≤ w2.heap.size := Nat.le_refl _
  go_wp2_with fail
  refine wp_region_ext w2.heap.size hB0 (by kernel_rfl) (by kernel_rfl) ?_
  intro _
  repeat (first | (refine wpQuiet_ld (by rfl) rfl rfl (by assumption) (by assumption) (by first | exact rtS _ | exact rtP _) ?_; simp only [Act.put, List.setIfInBounds_toArray, List.set_cons_zero, List.set_cons_succ]) | go_big_quiet_step ((first | with_reducible exact Calls.ext_of (data_any p _))))
  refine wpQuiet_val (by rfl) (run_eql_sets rfl rfl rfl) ?_
  rw [← HE.out.1]
  (try simp only [Act.put, List.setIfInBounds_toArray, List.set_cons_zero, List.set_cons_succ])
  refine wpQuiet_nil ?_
  intro x
  have r3' := r2.ext x gl
  have B3' := B2.ext x B2.size
  obtain ⟨w3, hw3⟩ : ∃ w3, w3 = w2.ext w2.heap.size x := ⟨_, rfl⟩
  rw [← hw3] at r3' B3' ⊢
  clear hw3 x k0 m0 m1 m2 m3 m4 gl r2 B2 hB0
  obtain ⟨k0, m0, m1, m2, m3, m4, gl⟩ := PS.parts r3'
  have HR := Lib.hid (And.intro r3' B3')
  have hsz := gl
  clear r3' B3'
  cases b0
  · have r4 := HR.out.1
    have B4 := HR.out.2
    have O4 : prow w3 (w.heap.size + 1) (.slice none 0 0) [] := World.ownsRow_nil w3 (w.heap.size + 1) tPl 5
    have HS := Lib.hid (And.intro r4 (And.intro B4 O4))
    clear r4 B4 O4
    obtain ⟨k0, m0, m1, m2, m3, m4, gl⟩ := PS.parts HS.out.1
    have i0 : ∀ w, (Instr.index 67 (.agg #[.func (.func 23) #[p.v] #[], .func (.func 24) #[p.v] #[]]) (.int .i64 0)).run Tryd.prog w = .ok (.func (.func 23) #[p.v] #[]) w := fun _ => by kernel_rfl
    have i1 : ∀ w, (Instr.index 67 (.agg #[.func (.func 23) #[p.v] #[], .func (.func 24) #[p.v] #[]]) (.int .i64 1)).run Tryd.prog w = .ok (.func (.func 24) #[p.v] #[]) w := fun _ => by kernel_rfl
    go_wp2_with ((refine wpList_ld (by rfl) rfl rfl (by assumption) (by first | exact rtS _ | exact rtP _ | exact rtPl _ _) ?_; simp only [Act.put, List.setIfInBounds_toArray, List.set_cons_zero, List.set_cons_succ]))
    go_loopw [26, 4] (fun i v wr => ∃ (k : Nat), k ≤ 2 ∧ i = .int .i64 k ∧ prow wr (w.heap.size + 1) v (([] : List (Int × Set4)) ++ wayList b1 b2 p k) ∧ wr.row w.heap.size p.cs tP ∧ Below w.heap.size w wr) (fun i _ _ => 2 - (intOf i).toNat)
    case atStart => exact ⟨0, by omega, rfl, by simpa [wayList] using HS.out.2.2, HS.out.1, HS.out.2.1⟩
    case round =>
      clear k0 m0 m1 m2 m3 m4 gl
      obtain ⟨k, hk, rfl, hO, hr, hB⟩ := hrel
      have hlen : (([] : List (Int × Set4)) ++ wayList b1 b2 p k).length ≤ 10 := by have := wayList_len b1 b2 p k; rw [List.length_append]; simp <;> omega
      have HL := Lib.hid hlen
      obtain ⟨a4, n4, c4, rfl⟩ := own_shape5 hO
      have HK := Lib.hid (And.intro hO (And.intro hr hB))
      clear hO hr hB hlen
      match k, hk with
      | 0, _ =>
        go_wp2_with fail
        refine Calls.pure_to (HE.out.2.1 _) ?_
        intro w5 b5
        have HR5 := Lib.hid (And.intro (World.ownsRow.below HK.out.1 b5) (And.intro (HK.out.2.1.below b5 HK.out.2.1.lt) (HK.out.2.2.trans (b5.mono HK.out.2.2.size))))
        clear b5
        cases b1
        · go_wp2_with (((with_reducible apply op_st); (case hw => rfl); (case hx => rfl); (case hy => rfl); (case hr => exact World.row.new' (cs := pcs 0 Set4.zero) rfl); (case ht => exact rtPl 0 Set4.zero); (case hn => rfl); (case hold => rfl); (case h1 => exact pcs_one _ _); simp only [Act.put]; refine wpList_world (fun w6 => w6.row w5.heap.size (pcs 1 p.greatR) tPl ∧ Below w5.heap.size w5 w6) ⟨(World.row.new' (cs := pcs 0 Set4.zero) rfl).setRow, ((Below.refl w5.heap.size w5).alloc (Nat.le_refl _) _).setRow (Nat.le_refl _) _⟩ ?_; rintro w6 ⟨n6, b6⟩))
          go_roundw
          case rel => exact ⟨0 + 1, by omega, by go_num, by rw [wl0n]; exact World.ownsRow.below HR5.out.1 b6, HR5.out.2.1.below b6 HR5.out.2.1.lt, HR5.out.2.2.trans (b6.mono HR5.out.2.2.size)⟩
          case measure => simp [intOf]
        · go_upto_region 11 with (((with_reducible apply op_st); (case hw => rfl); (case hx => rfl); (case hy => rfl); (case hr => exact World.row.new' (cs := pcs 0 Set4.zero) rfl); (case ht => exact rtPl 0 Set4.zero); (case hn => rfl); (case hold => rfl); (case h1 => exact pcs_one _ _); simp only [Act.put]; refine wpList_world (fun w6 => w6.row w5.heap.size (pcs 1 p.greatR) tPl ∧ Below w5.heap.size w5 w6) ⟨(World.row.new' (cs := pcs 0 Set4.zero) rfl).setRow, ((Below.refl w5.heap.size w5).alloc (Nat.le_refl _) _).setRow (Nat.le_refl _) _⟩ ?_; rintro w6 ⟨n6, b6⟩))
          have HR6 := Lib.hid (And.intro (World.ownsRow.below HR5.out.1 b6) (And.intro (HR5.out.2.1.below b6 HR5.out.2.1.lt) (HR5.out.2.2.trans (b6.mono HR5.out.2.2.size))))
          have n7 := n6.range
          have hs6 := HR6.out.2.2.size
          clear b6
          go_step
          with_reducible apply op_mv
          (case hw => rfl)
          simp only [Act.put, Act.eval, List.setIfInBounds_toArray, List.set_cons_zero, List.set_cons_succ]
          ((with_reducible apply op_ld); (case hw => rfl); (case hx => rfl); (case hc => assumption); (case ht => first | exact rtS _ | exact rtP _ | exact rtPl _ _); simp only [Act.put, List.setIfInBounds_toArray, List.set_cons_zero, List.set_cons_succ])
          with_reducible apply op_bs1
          (case hw => rfl)
          (case hx => rfl)
          (case hb => exact buildSlice_plan 1 p.greatR)
          simp only [Act.put, List.setIfInBounds_toArray, List.set_cons_zero, List.set_cons_succ]
          with_reducible apply op_append1
          (case hw => rfl)
          (case ht => exact Tryd.underlying36)
          (case hi => exact info_plan)
          (case hzs => rfl)
          (case hsz => decide)
          (case hown => exact World.ownsRow.alloc HR6.out.1 _)
          (case hs => rfl)
          (case hx => rfl)
          (case hr => exact World.row.new' (cs := pcs 1 p.greatR) rfl)
          (case hl => rfl)
          (case h1 => exact pcs_one _ _)
          (case h63 => first | omega | (have := HL.out; omega))
          (case hbb => decide)
          (case hbase => simp; omega)
          intro v' w4 ho hgr hloc
          simp only [Act.put, List.setIfInBounds_toArray, List.set_cons_zero, List.set_cons_succ]
          have o9 := HR6.out.1
          have r9 := (HR6.out.2.1.alloc (.cells (pcs 1 p.greatR).toArray tPl)).grown hgr (fun e => by have := (World.ownsRow.lt o9 _ e.symm).1; omega)
          have B9 := below_own (HR6.out.2.2.alloc (by omega) (.cells (pcs 1 p.greatR).toArray tPl)) hgr (World.ownsRow.alloc o9 _) (Nat.le_succ _) (by simp; omega)
          have H9 := Lib.hid (And.intro ho (And.intro r9 B9))
          clear ho r9 B9 hgr hloc o9
          go_wp2_with fail
          go_roundw
          case rel => exact ⟨0 + 1, by omega, by go_num, by rw [wl0y, ← List.append_assoc]; exact prow_snoc H9.out.1, H9.out.2.1, H9.out.2.2⟩
          case measure => simp [intOf]
      | 1, _ =>
        go_wp2_with fail
        refine Calls.pure_to (HE.out.2.2 _) ?_
        intro w5 b5
        have HR5 := Lib.hid (And.intro (World.ownsRow.below HK.out.1 b5) (And.intro (HK.out.2.1.below b5 HK.out.2.1.lt) (HK.out.2.2.trans (b5.mono HK.out.2.2.size))))
        clear b5
        cases b2
        · go_wp2_with (((with_reducible apply op_st); (case hw => rfl); (case hx => rfl); (case hy => rfl); (case hr => exact World.row.new' (cs := pcs 0 Set4.zero) rfl); (case ht => exact rtPl 0 Set4.zero); (case hn => rfl); (case hold => rfl); (case h1 => exact pcs_one _ _); simp only [Act.put]; refine wpList_world (fun w6 => w6.row w5.heap.size (pcs 2 p.smallR) tPl ∧ Below w5.heap.size w5 w6) ⟨(World.row.new' (cs := pcs 0 Set4.zero) rfl).setRow, ((Below.refl w5.heap.size w5).alloc (Nat.le_refl _) _).setRow (Nat.le_refl _) _⟩ ?_; rintro w6 ⟨n6, b6⟩))
          go_roundw
          case rel => exact ⟨1 + 1, by omega, by go_num, by rw [wl1n]; exact World.ownsRow.below HR5.out.1 b6, HR5.out.2.1.below b6 HR5.out.2.1.lt, HR5.out.2.2.trans (b6.mono HR5.out.2.2.size)⟩
          case measure => simp [intOf]
        · go_upto_region 11 with (((with_reducible apply op_st); (case hw => rfl); (case hx => rfl); (case hy => rfl); (case hr => exact World.row.new' (cs := pcs 0 Set4.zero) rfl); (case ht => exact rtPl 0 Set4.zero); (case hn => rfl); (case hold => rfl); (case h1 => exact pcs_one _ _); simp only [Act.put]; refine wpList_world (fun w6 => w6.row w5.heap.size (pcs 2 p.smallR) tPl ∧ Below w5.heap.size w5 w6) ⟨(World.row.new' (cs := pcs 0 Set4.zero) rfl).setRow, ((Below.refl w5.heap.size w5).alloc (Nat.le_refl _) _).setRow (Nat.le_refl _) _⟩ ?_; rintro w6 ⟨n6, b6⟩))
          have HR6 := Lib.hid (And.intro (World.ownsRow.below HR5.out.1 b6) (And.intro (HR5.out.2.1.below b6 HR5.out.2.1.lt) (HR5.out.2.2.trans (b6.mono HR5.out.2.2.size))))
          have n7 := n6.range
          have hs6 := HR6.out.2.2.size
          clear b6
          go_step
          with_reducible apply op_mv
          (case hw => rfl)
          simp only [Act.put, Act.eval, List.setIfInBounds_toArray, List.set_cons_zero, List.set_cons_succ]
          ((with_reducible apply op_ld); (case hw => rfl); (case hx => rfl); (case hc => assumption); (case ht => first | exact rtS _ | exact rtP _ | exact rtPl _ _); simp only [Act.put, List.setIfInBounds_toArray, List.set_cons_zero, List.set_cons_succ])
          with_reducible apply op_bs1
          (case hw => rfl)
          (case hx => rfl)
          (case hb => exact buildSlice_plan 2 p.smallR)
          simp only [Act.put, List.setIfInBounds_toArray, List.set_cons_zero, List.set_cons_succ]
          with_reducible apply op_append1
          (case hw => rfl)
          (case ht => exact Tryd.underlying36)
          (case hi => exact info_plan)
          (case hzs => rfl)
          (case hsz => decide)
          (case hown => exact World.ownsRow.alloc HR6.out.1 _)
          (case hs => rfl)
          (case hx => rfl)
          (case hr => exact World.row.new' (cs := pcs 2 p.smallR) rfl)
          (case hl => rfl)
          (case h1 => exact pcs_one _ _)
          (case h63 => first | omega | (have := HL.out; omega))
          (case hbb => decide)
          (case hbase => simp; omega)
          intro v' w4 ho hgr hloc
          simp only [Act.put, List.setIfInBounds_toArray, List.set_cons_zero, List.set_cons_succ]
          have o9 := HR6.out.1
          have r9 := (HR6.out.2.1.alloc (.cells (pcs 2 p.smallR).toArray tPl)).grown hgr (fun e => by have := (World.ownsRow.lt o9 _ e.symm).1; omega)
          have B9 := below_own (HR6.out.2.2.alloc (by omega) (.cells (pcs 2 p.smallR).toArray tPl)) hgr (World.ownsRow.alloc o9 _) (Nat.le_succ _) (by simp; omega)
          have H9 := Lib.hid (And.intro ho (And.intro r9 B9))
          clear ho r9 B9 hgr hloc o9
          go_wp2_with fail
          go_roundw
          case rel => exact ⟨1 + 1, by omega, by go_num, by rw [wl1y, ← List.append_assoc]; exact prow_snoc H9.out.1, H9.out.2.1, H9.out.2.2⟩
          case measure => simp [intOf]
      | 2, _ =>
        obtain ⟨k0, m0, m1, m2, m3, m4, gl⟩ := PS.parts HK.out.2.1
        have hEn := Lib.hid (fun w => ends_any p w HG.out.2.1 (by have := HG.out.2.2; omega))
        go_wp2_with fail
        refine wp_region_mix_exts (· = w.heap.size) [] false (by kernel_rfl) (by kernel_rfl) ?_
        intro _
        repeat ((with_reducible refine wpMix_light ?hh ?_); (case hh => rfl); (first | ((with_reducible apply q_lds); (case hw => rfl); (case hx => rfl); (case hc => assumption); (case hb => exact rfl); (case ht => first | exact rtS _ | exact rtP _ | exact rtPl _ _); (simp only [Act.put, List.setIfInBounds_toArray, List.set_cons_zero, List.set_cons_succ])) | ((with_reducible apply q_build2); (case hw => rfl); (case hx => rfl); (case hy => rfl); (case hb => exact build_plan _ _); (simp only [Act.put, List.setIfInBounds_toArray, List.set_cons_zero, List.set_cons_succ])) | go_big_quiet_step (fail)); (with_reducible refine wpQuiet_nil ?_))
        (with_reducible refine wpMix_heavy ?hh ?hw (fun K hK => ?_)); (case hh => rfl); (case hw => rfl)
        go_simp
        refine (data_any p _).mono ?_
        rintro e w5 ⟨rfl, bx⟩
        have bw5 : Below wr.heap.size wr w5 := ((Below.refl _ _).drew).trans (bx.mono (Nat.le_refl _))
        clear bx
        refine hK.out _ _ (toExtS (fun k hk => by cases hk; exact bw5.block _ gl)) ?_
        clear hK K
        try simp only [Act.put, List.setIfInBounds_toArray, List.set_cons_zero, List.set_cons_succ]
        repeat ((with_reducible refine wpMix_light ?hh ?_); (case hh => rfl); (first | ((with_reducible apply q_lds); (case hw => rfl); (case hx => rfl); (case hc => assumption); (case hb => exact rfl); (case ht => first | exact rtS _ | exact rtP _ | exact rtPl _ _); (simp only [Act.put, List.setIfInBounds_toArray, List.set_cons_zero, List.set_cons_succ])) | ((with_reducible apply q_build2); (case hw => rfl); (case hx => rfl); (case hy => rfl); (case hb => exact build_plan _ _); (simp only [Act.put, List.setIfInBounds_toArray, List.set_cons_zero, List.set_cons_succ])) | go_big_quiet_step (fail)); (with_reducible refine wpQuiet_nil ?_))
        (with_reducible refine wpMix_heavy ?hh ?hw (fun K hK => ?_)); (case hh => rfl); (case hw => rfl)
        go_simp
        refine (hEn.out _).mono ?_
        rintro e w6 ⟨rfl, bx⟩
        have bw6 : Below wr.heap.size wr w6 := bw5.trans (bx.mono bw5.size)
        clear bx
        refine hK.out _ _ (toExtS (fun k hk => by cases hk; exact bw6.block _ gl)) ?_
        clear hK K
        try simp only [Act.put, List.setIfInBounds_toArray, List.set_cons_zero, List.set_cons_succ]
        repeat ((with_reducible refine wpMix_light ?hh ?_); (case hh => rfl); (first | ((with_reducible apply q_lds); (case hw => rfl); (case hx => rfl); (case hc => assumption); (case hb => exact rfl); (case ht => first | exact rtS _ | exact rtP _ | exact rtPl _ _); (simp only [Act.put, List.setIfInBounds_toArray, List.set_cons_zero, List.set_cons_succ])) | ((with_reducible apply q_build2); (case hw => rfl); (case hx => rfl); (case hy => rfl); (case hb => exact build_plan _ _); (simp only [Act.put, List.setIfInBounds_toArray, List.set_cons_zero, List.set_cons_succ])) | go_big_quiet_step (fail)); (with_reducible refine wpQuiet_nil ?_))
        (with_reducible refine wpMix_heavy ?hh ?hw (fun K hK => ?_)); (case hh => rfl); (case hw => rfl)
        go_simp
        refine (Or_v _ _ _).mono ?_
        rintro e w7 ⟨rfl, bx⟩
        have bw7 : Below wr.heap.size wr w7 := bw6.trans (bx.mono bw6.size)
        clear bx
        refine hK.out _ _ (toExtS (fun k hk => by cases hk; exact bw7.block _ gl)) ?_
        clear hK K
        try simp only [Act.put, List.setIfInBounds_toArray, List.set_cons_zero, List.set_cons_succ]
        repeat ((with_reducible refine wpMix_light ?hh ?_); (case hh => rfl); (first | ((with_reducible apply q_lds); (case hw => rfl); (case hx => rfl); (case hc => assumption); (case hb => exact rfl); (case ht => first | exact rtS _ | exact rtP _ | exact rtPl _ _); (simp only [Act.put, List.setIfInBounds_toArray, List.set_cons_zero, List.set_cons_succ])) | ((with_reducible apply q_build2); (case hw => rfl); (case hx => rfl); (case hy => rfl); (case hb => exact build_plan _ _); (simp only [Act.put, List.setIfInBounds_toArray, List.set_cons_zero, List.set_cons_succ])) | go_big_quiet_step (fail)); (with_reducible refine wpQuiet_nil ?_))
        (with_reducible refine wpMix_heavy ?hh ?hw (fun K hK => ?_)); (case hh => rfl); (case hw => rfl)
        go_simp
        refine (Less_v _ _ _).mono ?_
        rintro e w8 ⟨rfl, bx⟩
        have bw8 : Below wr.heap.size wr w8 := bw7.trans (bx.mono bw7.size)
        clear bx
        refine hK.out _ _ (toExtS (fun k hk => by cases hk; exact bw8.block _ gl)) ?_
        clear hK K
        try simp only [Act.put, List.setIfInBounds_toArray, List.set_cons_zero, List.set_cons_succ]
        repeat ((with_reducible refine wpMix_light ?hh ?_); (case hh => rfl); (first | ((with_reducible apply q_lds); (case hw => rfl); (case hx => rfl); (case hc => assumption); (case hb => exact rfl); (case ht => first | exact rtS _ | exact rtP _ | exact rtPl _ _); (simp only [Act.put, List.setIfInBounds_toArray, List.set_cons_zero, List.set_cons_succ])) | ((with_reducible apply q_build2); (case hw => rfl); (case hx => rfl); (case hy => rfl); (case hb => exact build_plan _ _); (simp only [Act.put, List.setIfInBounds_toArray, List.set_cons_zero, List.set_cons_succ])) | go_big_quiet_step (fail)); (with_reducible refine wpQuiet_nil ?_))
        have o8 := World.ownsRow.below HK.out.1 bw8
        (with_reducible refine wpMix_heavy ?hh ?hw (fun K hK => ?_)); (case hh => rfl); (case hw => rfl)
        with_reducible apply w_bs1
        (case hx => rfl)
        (case hb => exact buildSlice_plan 3 p.wholeR)
        refine hK.out _ _ (toExtS (fun k hk => by cases hk; exact (Below.heap_alloc _ _ _ (Nat.lt_of_lt_of_le gl bw8.size)).trans (bw8.block _ gl))) ?_
        clear hK K
        simp only [Act.put, List.setIfInBounds_toArray, List.set_cons_zero, List.set_cons_succ]
        repeat ((with_reducible refine wpMix_light ?hh ?_); (case hh => rfl); (first | ((with_reducible apply q_lds); (case hw => rfl); (case hx => rfl); (case hc => assumption); (case hb => exact rfl); (case ht => first | exact rtS _ | exact rtP _ | exact rtPl _ _); (simp only [Act.put, List.setIfInBounds_toArray, List.set_cons_zero, List.set_cons_succ])) | ((with_reducible apply q_build2); (case hw => rfl); (case hx => rfl); (case hy => rfl); (case hb => exact build_plan _ _); (simp only [Act.put, List.setIfInBounds_toArray, List.set_cons_zero, List.set_cons_succ])) | go_big_quiet_step (fail)); (with_reducible refine wpQuiet_nil ?_))
        (with_reducible refine wpMix_heavy ?hh ?hw (fun K hK => ?_)); (case hh => rfl); (case hw => rfl)
        with_reducible apply w_append1
        (case ht => exact Tryd.underlying36)
        (case hi => exact info_plan)
        (case hzs => rfl)
        (case hsz => decide)
        (case hown => exact World.ownsRow.alloc o8 _)
        (case hs => rfl)
        (case hx => rfl)
        (case hr => exact World.row.new' (cs := pcs 3 p.wholeR) rfl)
        (case hl => rfl)
        (case h1 => exact pcs_one _ _)
        (case h63 => have := HL.out; omega)
        (case hbb => decide)
        (case hbase => have := bw8.size; simp; omega)
        intro v' w9 ho hgr hloc
        have g9 : w9.heap[w.heap.size]? = wr.heap[w.heap.size]? := (hgr.block _ (by have := bw8.size; simp; omega) (fun e => by have := (World.ownsRow.lt o8 _ e.symm).1; omega)).trans ((Below.heap_alloc _ _ _ (Nat.lt_of_lt_of_le gl bw8.size)).trans (bw8.block _ gl))
        have B9 := below_own (((HK.out.2.2.trans (bw8.mono HK.out.2.2.size)).alloc (by have := bw8.size; omega) (.cells (pcs 3 p.wholeR).toArray tPl))) hgr (World.ownsRow.alloc o8 _) (Nat.le_succ _) (by have := bw8.size; simp; omega)
        refine hK.out _ _ (toExtS (fun k hk => by cases hk; exact g9)) ?_
        clear hK K
        simp only [Act.put, List.setIfInBounds_toArray, List.set_cons_zero, List.set_cons_succ]
        repeat ((with_reducible refine wpMix_light ?hh ?_); (case hh => rfl); (first | ((with_reducible apply q_lds); (case hw => rfl); (case hx => rfl); (case hc => assumption); (case hb => exact rfl); (case ht => first | exact rtS _ | exact rtP _ | exact rtPl _ _); (simp only [Act.put, List.setIfInBounds_toArray, List.set_cons_zero, List.set_cons_succ])) | ((with_reducible apply q_build2); (case hw => rfl); (case hx => rfl); (case hy => rfl); (case hb => exact build_plan _ _); (simp only [Act.put, List.setIfInBounds_toArray, List.set_cons_zero, List.set_cons_succ])) | go_big_quiet_step (fail)); (with_reducible refine wpQuiet_nil ?_))
        refine wpMix_nil ?_
        have H9 := Lib.hid (And.intro ho B9)
        clear ho B9 hgr hloc g9 o8
        go_wp2_with fail
        go_ret2
        exact ⟨⟨_, rfl, own_mono (by have h9 := prow_snoc H9.out.1; have e : WL = ([] : List (Int × Set4)) ++ wayList b1 b2 p 2 ++ [(3, p.wholeR)] := (by rw [HW.out]; simp [wayList]); rw [e]; exact h9) (Nat.le_succ _)⟩, H9.out.2⟩
  · have hown := World.ownsRow_nil w3 (w.heap.size + 1) tPl 5
    go_upto_region 5 with fail
    go_step
    with_reducible apply op_mv
    (case hw => rfl)
    simp only [Act.put, Act.eval, List.setIfInBounds_toArray, List.set_cons_zero, List.set_cons_succ]
    with_reducible apply op_build1
    (case hw => rfl)
    (case hx => rfl)
    (case hb => exact build_plan0 0)
    simp only [Act.put, List.setIfInBounds_toArray, List.set_cons_zero, List.set_cons_succ]
    with_reducible apply op_bs1
    (case hw => rfl)
    (case hx => rfl)
    (case hb => exact buildSlice_plan 0 Set4.zero)
    simp only [Act.put, List.setIfInBounds_toArray, List.set_cons_zero, List.set_cons_succ]
    with_reducible apply op_append1
    (case hw => rfl)
    (case ht => exact Tryd.underlying36)
    (case hi => exact info_plan)
    (case hzs => rfl)
    (case hsz => decide)
    (case hown => exact hown.alloc _)
    (case hs => rfl)
    (case hx => rfl)
    (case hr => exact World.row.new' (cs := pcs 0 Set4.zero) rfl)
    (case hl => rfl)
    (case h1 => exact pcs_one _ _)
    (case h63 => first | omega | (have := HL.out; omega))
    (case hbb => decide)
    (case hbase => simp; omega)
    intro v' w4 ho hgr hloc
    simp only [Act.put, List.setIfInBounds_toArray, List.set_cons_zero, List.set_cons_succ]
    have r4 := (HR.out.1.alloc (.cells (pcs 0 Set4.zero).toArray tPl)).grown hgr (by simp [Value.ownBlock])
    have B4 := below_own (HR.out.2.alloc (by omega) (.cells (pcs 0 Set4.zero).toArray tPl)) hgr (hown.alloc _) (Nat.le_succ _) (by simp; omega)
    have O4 : prow w4 (w.heap.size + 1) v' [(0, Set4.zero)] := ho
    clear ho hgr hloc hown
    obtain ⟨av, nv, cv, rfl⟩ := own_shape5 O4
    have HS := Lib.hid (And.intro r4 (And.intro B4 O4))
    clear r4 B4 O4
    obtain ⟨k0, m0, m1, m2, m3, m4, gl⟩ := PS.parts HS.out.1
    have i0 : ∀ w, (Instr.index 67 (.agg #[.func (.func 23) #[p.v] #[], .func (.func 24) #[p.v] #[]]) (.int .i64 0)).run Tryd.prog w = .ok (.func (.func 23) #[p.v] #[]) w := fun _ => by kernel_rfl
    have i1 : ∀ w, (Instr.index 67 (.agg #[.func (.func 23) #[p.v] #[], .func (.func 24) #[p.v] #[]]) (.int .i64 1)).run Tryd.prog w = .ok (.func (.func 24) #[p.v] #[]) w := fun _ => by kernel_rfl
    go_wp2_with ((refine wpList_ld (by rfl) rfl rfl (by assumption) (by first | exact rtS _ | exact rtP _ | exact rtPl _ _) ?_; simp only [Act.put, List.setIfInBounds_toArray, List.set_cons_zero, List.set_cons_succ]))
    go_loopw [26, 4] (fun i v wr => ∃ (k : Nat), k ≤ 2 ∧ i = .int .i64 k ∧ prow wr (w.heap.size + 1) v ([((0 : Int), Set4.zero)] ++ wayList b1 b2 p k) ∧ wr.row w.heap.size p.cs tP ∧ Below w.heap.size w wr) (fun i _ _ => 2 - (intOf i).toNat)
    case atStart => exact ⟨0, by omega, rfl, by simpa [wayList] using HS.out.2.2, HS.out.1, HS.out.2.1⟩
    case round =>
      clear k0 m0 m1 m2 m3 m4 gl
      obtain ⟨k, hk, rfl, hO, hr, hB⟩ := hrel
      have hlen : ([((0 : Int), Set4.zero)] ++ wayList b1 b2 p k).length ≤ 10 := by have := wayList_len b1 b2 p k; rw [List.length_append]; simp <;> omega
      have HL := Lib.hid hlen
      obtain ⟨a4, n4, c4, rfl⟩ := own_shape5 hO
      have HK := Lib.hid (And.intro hO (And.intro hr hB))
      clear hO hr hB hlen
      match k, hk with
      | 0, _ =>
        go_wp2_with fail
        refine Calls.pure_to (HE.out.2.1 _) ?_
        intro w5 b5
        have HR5 := Lib.hid (And.intro (World.ownsRow.below HK.out.1 b5) (And.intro (HK.out.2.1.below b5 HK.out.2.1.lt) (HK.out.2.2.trans (b5.mono HK.out.2.2.size))))
        clear b5
        cases b1
        · go_wp2_with (((with_reducible apply op_st); (case hw => rfl); (case hx => rfl); (case hy => rfl); (case hr => exact World.row.new' (cs := pcs 0 Set4.zero) rfl); (case ht => exact rtPl 0 Set4.zero); (case hn => rfl); (case hold => rfl); (case h1 => exact pcs_one _ _); simp only [Act.put]; refine wpList_world (fun w6 => w6.row w5.heap.size (pcs 1 p.greatR) tPl ∧ Below w5.heap.size w5 w6) ⟨(World.row.new' (cs := pcs 0 Set4.zero) rfl).setRow, ((Below.refl w5.heap.size w5).alloc (Nat.le_refl _) _).setRow (Nat.le_refl _) _⟩ ?_; rintro w6 ⟨n6, b6⟩))
          go_roundw
          case rel => exact ⟨0 + 1, by omega, by go_num, by rw [wl0n]; exact World.ownsRow.below HR5.out.1 b6, HR5.out.2.1.below b6 HR5.out.2.1.lt, HR5.out.2.2.trans (b6.mono HR5.out.2.2.size)⟩
          case measure => simp [intOf]
        · go_upto_region 11 with (((with_reducible apply op_st); (case hw => rfl); (case hx => rfl); (case hy => rfl); (case hr => exact World.row.new' (cs := pcs 0 Set4.zero) rfl); (case ht => exact rtPl 0 Set4.zero); (case hn => rfl); (case hold => rfl); (case h1 => exact pcs_one _ _); simp only [Act.put]; refine wpList_world (fun w6 => w6.row w5.heap.size (pcs 1 p.greatR) tPl ∧ Below w5.heap.size w5 w6) ⟨(World.row.new' (cs := pcs 0 Set4.zero) rfl).setRow, ((Below.refl w5.heap.size w5).alloc (Nat.le_refl _) _).setRow (Nat.le_refl _) _⟩ ?_; rintro w6 ⟨n6, b6⟩))
          have HR6 := Lib.hid (And.intro (World.ownsRow.below HR5.out.1 b6) (And.intro (HR5.out.2.1.below b6 HR5.out.2.1.lt) (HR5.out.2.2.trans (b6.mono HR5.out.2.2.size))))
          have n7 := n6.range
          have hs6 := HR6.out.2.2.size
          clear b6
          go_step
          with_reducible apply op_mv
          (case hw => rfl)
          simp only [Act.put, Act.eval, List.setIfInBounds_toArray, List.set_cons_zero, List.set_cons_succ]
          ((with_reducible apply op_ld); (case hw => rfl); (case hx => rfl); (case hc => assumption); (case ht => first | exact rtS _ | exact rtP _ | exact rtPl _ _); simp only [Act.put, List.setIfInBounds_toArray, List.set_cons_zero, List.set_cons_succ])
          with_reducible apply op_bs1
          (case hw => rfl)
          (case hx => rfl)
          (case hb => exact buildSlice_plan 1 p.greatR)
          simp only [Act.put, List.setIfInBounds_toArray, List.set_cons_zero, List.set_cons_succ]
          with_reducible apply op_append1
          (case hw => rfl)
          (case ht => exact Tryd.underlying36)
          (case hi => exact info_plan)
          (case hzs => rfl)
          (case hsz => decide)
          (case hown => exact World.ownsRow.alloc HR6.out.1 _)
          (case hs => rfl)
          (case hx => rfl)
          (case hr => exact World.row.new' (cs := pcs 1 p.greatR) rfl)
          (case hl => rfl)
          (case h1 => exact pcs_one _ _)
          (case h63 => first | omega | (have := HL.out; omega))
          (case hbb => decide)
          (case hbase => simp; omega)
          intro v' w4 ho hgr hloc
          simp only [Act.put, List.setIfInBounds_toArray, List.set_cons_zero, List.set_cons_succ]
          have o9 := HR6.out.1
          have r9 := (HR6.out.2.1.alloc (.cells (pcs 1 p.greatR).toArray tPl)).grown hgr (fun e => by have := (World.ownsRow.lt o9 _ e.symm).1; omega)
          have B9 := below_own (HR6.out.2.2.alloc (by omega) (.cells (pcs 1 p.greatR).toArray tPl)) hgr (World.ownsRow.alloc o9 _) (Nat.le_succ _) (by simp; omega)
          have H9 := Lib.hid (And.intro ho (And.intro r9 B9))
          clear ho r9 B9 hgr hloc o9
          go_wp2_with fail
          go_roundw
          case rel => exact ⟨0 + 1, by omega, by go_num, by rw [wl0y, ← List.append_assoc]; exact prow_snoc H9.out.1, H9.out.2.1, H9.out.2.2⟩
          case measure => simp [intOf]
      | 1, _ =>
        go_wp2_with fail
        refine Calls.pure_to (HE.out.2.2 _) ?_
        intro w5 b5
        have HR5 := Lib.hid (And.intro (World.ownsRow.below HK.out.1 b5) (And.intro (HK.out.2.1.below b5 HK.out.2.1.lt) (HK.out.2.2.trans (b5.mono HK.out.2.2.size))))
        clear b5
        cases b2
        · go_wp2_with (((with_reducible apply op_st); (case hw => rfl); (case hx => rfl); (case hy => rfl); (case hr => exact World.row.new' (cs := pcs 0 Set4.zero) rfl); (case ht => exact rtPl 0 Set4.zero); (case hn => rfl); (case hold => rfl); (case h1 => exact pcs_one _ _); simp only [Act.put]; refine wpList_world (fun w6 => w6.row w5.heap.size (pcs 2 p.smallR) tPl ∧ Below w5.heap.size w5 w6) ⟨(World.row.new' (cs := pcs 0 Set4.zero) rfl).setRow, ((Below.refl w5.heap.size w5).alloc (Nat.le_refl _) _).setRow (Nat.le_refl _) _⟩ ?_; rintro w6 ⟨n6, b6⟩))
          go_roundw
          case rel => exact ⟨1 + 1, by omega, by go_num, by rw [wl1n]; exact World.ownsRow.below HR5.out.1 b6, HR5.out.2.1.below b6 HR5.out.2.1.lt, HR5.out.2.2.trans (b6.mono HR5.out.2.2.size)⟩
          case measure => simp [intOf]
        · go_upto_region 11 with (((with_reducible apply op_st); (case hw => rfl); (case hx => rfl); (case hy => rfl); (case hr => exact World.row.new' (cs := pcs 0 Set4.zero) rfl); (case ht => exact rtPl 0 Set4.zero); (case hn => rfl); (case hold => rfl); (case h1 => exact pcs_one _ _); simp only [Act.put]; refine wpList_world (fun w6 => w6.row w5.heap.size (pcs 2 p.smallR) tPl ∧ Below w5.heap.size w5 w6) ⟨(World.row.new' (cs := pcs 0 Set4.zero) rfl).setRow, ((Below.refl w5.heap.size w5).alloc (Nat.le_refl _) _).setRow (Nat.le_refl _) _⟩ ?_; rintro w6 ⟨n6, b6⟩))
          have HR6 := Lib.hid (And.intro (World.ownsRow.below HR5.out.1 b6) (And.intro (HR5.out.2.1.below b6 HR5.out.2.1.lt) (HR5.out.2.2.trans (b6.mono HR5.out.2.2.size))))
          have n7 := n6.range
          have hs6 := HR6.out.2.2.size
          clear b6
          go_step
          with_reducible apply op_mv
          (case hw => rfl)
          simp only [Act.put, Act.eval, List.setIfInBounds_toArray, List.set_cons_zero, List.set_cons_succ]
          ((with_reducible apply op_ld); (case hw => rfl); (case hx => rfl); (case hc => assumption); (case ht => first | exact rtS _ | exact rtP _ | exact rtPl _ _); simp only [Act.put, List.setIfInBounds_toArray, List.set_cons_zero, List.set_cons_succ])
          with_reducible apply op_bs1
          (case hw => rfl)
          (case hx => rfl)
          (case hb => exact buildSlice_plan 2 p.smallR)
          simp only [Act.put, List.setIfInBounds_toArray, List.set_cons_zero, List.set_cons_succ]
          with_reducible apply op_append1
          (case hw => rfl)
          (case ht => exact Tryd.underlying36)
          (case hi => exact info_plan)
          (case hzs => rfl)
          (case hsz => decide)
          (case hown => exact World.ownsRow.alloc HR6.out.1 _)
          (case hs => rfl)
          (case hx => rfl)
          (case hr => exact World.row.new' (cs := pcs 2 p.smallR) rfl)
          (case hl => rfl)
          (case h1 => exact pcs_one _ _)
          (case h63 => first | omega | (have := HL.out; omega))
          (case hbb => decide)
          (case hbase => simp; omega)
          intro v' w4 ho hgr hloc
          simp only [Act.put, List.setIfInBounds_toArray, List.set_cons_zero, List.set_cons_succ]
          have o9 := HR6.out.1
          have r9 := (HR6.out.2.1.alloc (.cells (pcs 2 p.smallR).toArray tPl)).grown hgr (fun e => by have := (World.ownsRow.lt o9 _ e.symm).1; omega)
          have B9 := below_own (HR6.out.2.2.alloc (by omega) (.cells (pcs 2 p.smallR).toArray tPl)) hgr (World.ownsRow.alloc o9 _) (Nat.le_succ _) (by simp; omega)
          have H9 := Lib.hid (And.intro ho (And.intro r9 B9))
          clear ho r9 B9 hgr hloc o9
          go_wp2_with fail
          go_roundw
          case rel => exact ⟨1 + 1, by omega, by go_num, by rw [wl1y, ← List.append_assoc]; exact prow_snoc H9.out.1, H9.out.2.1, H9.out.2.2⟩
          case measure => simp [intOf]
      | 2, _ =>
        obtain ⟨k0, m0, m1, m2, m3, m4, gl⟩ := PS.parts HK.out.2.1
        have hEn := Lib.hid (fun w => ends_any p w HG.out.2.1 (by have := HG.out.2.2; omega))
        go_wp2_with fail
        refine wp_region_mix_exts (· = w.heap.size) [] false (by kernel_rfl) (by kernel_rfl) ?_
        intro _
        repeat ((with_reducible refine wpMix_light ?hh ?_); (case hh => rfl); (first | ((with_reducible apply q_lds); (case hw => rfl); (case hx => rfl); (case hc => assumption); (case hb => exact rfl); (case ht => first | exact rtS _ | exact rtP _ | exact rtPl _ _); (simp only [Act.put, List.setIfInBounds_toArray, List.set_cons_zero, List.set_cons_succ])) | ((with_reducible apply q_build2); (case hw => rfl); (case hx => rfl); (case hy => rfl); (case hb => exact build_plan _ _); (simp only [Act.put, List.setIfInBounds_toArray, List.set_cons_zero, List.set_cons_succ])) | go_big_quiet_step (fail)); (with_reducible refine wpQuiet_nil ?_))
        (with_reducible refine wpMix_heavy ?hh ?hw (fun K hK => ?_)); (case hh => rfl); (case hw => rfl)
        go_simp
        refine (data_any p _).mono ?_
        rintro e w5 ⟨rfl, bx⟩
        have bw5 : Below wr.heap.size wr w5 := ((Below.refl _ _).drew).trans (bx.mono (Nat.le_refl _))
        clear bx
        refine hK.out _ _ (toExtS (fun k hk => by cases hk; exact bw5.block _ gl)) ?_
        clear hK K
        try simp only [Act.put, List.setIfInBounds_toArray, List.set_cons_zero, List.set_cons_succ]
        repeat ((with_reducible refine wpMix_light ?hh ?_); (case hh => rfl); (first | ((with_reducible apply q_lds); (case hw => rfl); (case hx => rfl); (case hc => assumption); (case hb => exact rfl); (case ht => first | exact rtS _ | exact rtP _ | exact rtPl _ _); (simp only [Act.put, List.setIfInBounds_toArray, List.set_cons_zero, List.set_cons_succ])) | ((with_reducible apply q_build2); (case hw => rfl); (case hx => rfl); (case hy => rfl); (case hb => exact build_plan _ _); (simp only [Act.put, List.setIfInBounds_toArray, List.set_cons_zero, List.set_cons_succ])) | go_big_quiet_step (fail)); (with_reducible refine wpQuiet_nil ?_))
        (with_reducible refine wpMix_heavy ?hh ?hw (fun K hK => ?_)); (case hh => rfl); (case hw => rfl)
        go_simp
        refine (hEn.out _).mono ?_
        rintro e w6 ⟨rfl, bx⟩
        have bw6 : Below wr.heap.size wr w6 := bw5.trans (bx.mono bw5.size)
        clear bx
        refine hK.out _ _ (toExtS (fun k hk => by cases hk; exact bw6.block _ gl)) ?_
        clear hK K
        try simp only [Act.put, List.setIfInBounds_toArray, List.set_cons_zero, List.set_cons_succ]
        repeat ((with_reducible refine wpMix_light ?hh ?_); (case hh => rfl); (first | ((with_reducible apply q_lds); (case hw => rfl); (case hx => rfl); (case hc => assumption); (case hb => exact rfl); (case ht => first | exact rtS _ | exact rtP _ | exact rtPl _ _); (simp only [Act.put, List.setIfInBounds_toArray, List.set_cons_zero, List.set_cons_succ])) | ((with_reducible apply q_build2); (case hw => rfl); (case hx => rfl); (case hy => rfl); (case hb => exact build_plan _ _); (simp only [Act.put, List.setIfInBounds_toArray, List.set_cons_zero, List.set_cons_succ])) | go_big_quiet_step (fail)); (with_reducible refine wpQuiet_nil ?_))
        (with_reducible refine wpMix_heavy ?hh ?hw (fun K hK => ?_)); (case hh => rfl); (case hw => rfl)
        go_simp
        refine (Or_v _ _ _).mono ?_
        rintro e w7 ⟨rfl, bx⟩
        have bw7 : Below wr.heap.size wr w7 := bw6.trans (bx.mono bw6.size)
        clear bx
        refine hK.out _ _ (toExtS (fun k hk => by cases hk; exact bw7.block _ gl)) ?_
        clear hK K
        try simp only [Act.put, List.setIfInBounds_toArray, List.set_cons_zero, List.set_cons_succ]
        repeat ((with_reducible refine wpMix_light ?hh ?_); (case hh => rfl); (first | ((with_reducible apply q_lds); (case hw => rfl); (case hx => rfl); (case hc => assumption); (case hb => exact rfl); (case ht => first | exact rtS _ | exact rtP _ | exact rtPl _ _); (simp only [Act.put, List.setIfInBounds_toArray, List.set_cons_zero, List.set_cons_succ])) | ((with_reducible apply q_build2); (case hw => rfl); (case hx => rfl); (case hy => rfl); (case hb => exact build_plan _ _); (simp only [Act.put, List.setIfInBounds_toArray, List.set_cons_zero, List.set_cons_succ])) | go_big_quiet_step (fail)); (with_reducible refine wpQuiet_nil ?_))
        (with_reducible refine wpMix_heavy ?hh ?hw (fun K hK => ?_)); (case hh => rfl); (case hw => rfl)
        go_simp
        refine (Less_v _ _ _).mono ?_
        rintro e w8 ⟨rfl, bx⟩
        have bw8 : Below wr.heap.size wr w8 := bw7.trans (bx.mono bw7.size)
        clear bx
        refine hK.out _ _ (toExtS (fun k hk => by cases hk; exact bw8.block _ gl)) ?_
        clear hK K
        try simp only [Act.put, List.setIfInBounds_toArray, List.set_cons_zero, List.set_cons_succ]
        repeat ((with_reducible refine wpMix_light ?hh ?_); (case hh => rfl); (first | ((with_reducible apply q_lds); (case hw => rfl); (case hx => rfl); (case hc => assumption); (case hb => exact rfl); (case ht => first | exact rtS _ | exact rtP _ | exact rtPl _ _); (simp only [Act.put, List.setIfInBounds_toArray, List.set_cons_zero, List.set_cons_succ])) | ((with_reducible apply q_build2); (case hw => rfl); (case hx => rfl); (case hy => rfl); (case hb => exact build_plan _ _); (simp only [Act.put, List.setIfInBounds_toArray, List.set_cons_zero, List.set_cons_succ])) | go_big_quiet_step (fail)); (with_reducible refine wpQuiet_nil ?_))
        have o8 := World.ownsRow.below HK.out.1 bw8
        (with_reducible refine wpMix_heavy ?hh ?hw (fun K hK => ?_)); (case hh => rfl); (case hw => rfl)
        with_reducible apply w_bs1
        (case hx => rfl)
        (case hb => exact buildSlice_plan 3 p.wholeR)
        refine hK.out _ _ (toExtS (fun k hk => by cases hk; exact (Below.heap_alloc _ _ _ (Nat.lt_of_lt_of_le gl bw8.size)).trans (bw8.block _ gl))) ?_
        clear hK K
        simp only [Act.put, List.setIfInBounds_toArray, List.set_cons_zero, List.set_cons_succ]
        repeat ((with_reducible refine wpMix_light ?hh ?_); (case hh => rfl); (first | ((with_reducible apply q_lds); (case hw => rfl); (case hx => rfl); (case hc => assumption); (case hb => exact rfl); (case ht => first | exact rtS _ | exact rtP _ | exact rtPl _ _); (simp only [Act.put, List.setIfInBounds_toArray, List.set_cons_zero, List.set_cons_succ])) | ((with_reducible apply q_build2); (case hw => rfl); (case hx => rfl); (case hy => rfl); (case hb => exact build_plan _ _); (simp only [Act.put, List.setIfInBounds_toArray, List.set_cons_zero, List.set_cons_succ])) | go_big_quiet_step (fail)); (with_reducible refine wpQuiet_nil ?_))
        (with_reducible refine wpMix_heavy ?hh ?hw (fun K hK => ?_)); (case hh => rfl); (case hw => rfl)
        with_reducible apply w_append1
        (case ht => exact Tryd.underlying36)
        (case hi => exact info_plan)
        (case hzs => rfl)
        (case hsz => decide)
        (case hown => exact World.ownsRow.alloc o8 _)
        (case hs => rfl)
        (case hx => rfl)
        (case hr => exact World.row.new' (cs := pcs 3 p.wholeR) rfl)
        (case hl => rfl)
        (case h1 => exact pcs_one _ _)
        (case h63 => have := HL.out; omega)
        (case hbb => decide)
        (case hbase => have := bw8.size; simp; omega)
        intro v' w9 ho hgr hloc
        have g9 : w9.heap[w.heap.size]? = wr.heap[w.heap.size]? := (hgr.block _ (by have := bw8.size; simp; omega) (fun e => by have := (World.ownsRow.lt o8 _ e.symm).1; omega)).trans ((Below.heap_alloc _ _ _ (Nat.lt_of_lt_of_le gl bw8.size)).trans (bw8.block _ gl))
        have B9 := below_own (((HK.out.2.2.trans (bw8.mono HK.out.2.2.size)).alloc (by have := bw8.size; omega) (.cells (pcs 3 p.wholeR).toArray tPl))) hgr (World.ownsRow.alloc o8 _) (Nat.le_succ _) (by have := bw8.size; simp; omega)
        refine hK.out _ _ (toExtS (fun k hk => by cases hk; exact g9)) ?_
        clear hK K
        simp only [Act.put, List.setIfInBounds_toArray, List.set_cons_zero, List.set_cons_succ]
        repeat ((with_reducible refine wpMix_light ?hh ?_); (case hh => rfl); (first | ((with_reducible apply q_lds); (case hw => rfl); (case hx => rfl); (case hc => assumption); (case hb => exact rfl); (case ht => first | exact rtS _ | exact rtP _ | exact rtPl _ _); (simp only [Act.put, List.setIfInBounds_toArray, List.set_cons_zero, List.set_cons_succ])) | ((with_reducible apply q_build2); (case hw => rfl); (case hx => rfl); (case hy => rfl); (case hb => exact build_plan _ _); (simp only [Act.put, List.setIfInBounds_toArray, List.set_cons_zero, List.set_cons_succ])) | go_big_quiet_step (fail)); (with_reducible refine wpQuiet_nil ?_))
        refine wpMix_nil ?_
        have H9 := Lib.hid (And.intro ho B9)
        clear ho B9 hgr hloc g9 o8
        go_wp2_with fail
        go_ret2
        exact ⟨⟨_, rfl, own_mono (by have h9 := prow_snoc H9.out.1; have e : WL = [((0 : Int), Set4.zero)] ++ wayList b1 b2 p 2 ++ [(3, p.wholeR)] := (by rw [HW.out]; simp [wayList]); rw [e]; exact h9) (Nat.le_succ _)⟩, H9.out.2⟩
end Go.Proofs.YtdmbenhhjpeepaaDoor
