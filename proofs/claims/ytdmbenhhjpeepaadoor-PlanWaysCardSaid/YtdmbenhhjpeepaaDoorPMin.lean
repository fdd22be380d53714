/- The least of the ways: MinFunc, Choose. -/
import Derived.Test.YtdmbenhhjpeepaaDoorPWays
import Derived.Test.YtdmbenhhjpeepaaDoorElems
namespace Go.Proofs.YtdmbenhhjpeepaaDoor
open Go Go.RowKit
set_option maxRecDepth 100000
theorem pcs_len (x : Int × Set4) : (pcs x.1 x.2).length = 5 := rfl
theorem count_le (s : Set4) : s.count ≤ 256 := by
  have ka := Pop.popR_le 64 s.a; have kb := Pop.popR_le 64 s.b; have kc := Pop.popR_le 64 s.c; have kd := Pop.popR_le 64 s.d
  rw [← Pop.pop_eq] at ka kb kc kd
  unfold Set4.count; omega
theorem Cmp_any (x y : Int × Set4) (w : World) : Calls Tryd.prog 31 #[pv x.1 x.2, pv y.1 y.2] w fun e w' => e = .returned (.int .i64 ((x.2.count : Int) - (y.2.count : Int))) ∧ Below w.heap.size w w' := by
  have hx := count_le x.2
  have hy := count_le y.2
  have h1 := fun w => Count_v x.2 w
  have h2 := fun w => Count_v y.2 w
  generalize x.2.count = cx at *
  generalize y.2.count = cy at *
  have HH := Lib.hid (And.intro h1 h2)
  clear h1 h2
  go_enter Tryd.func31, Tryd.ntmps31
  go_upto_region 1 with fail
  refine wp_world (fun w1 => w1.row w.heap.size (pcs x.1 x.2) tPl ∧ w1.row (w.heap.size + 1) (pcs y.1 y.2) tPl ∧ Below w.heap.size w w1) ⟨World.row.alloc (World.row.new' rfl) _, World.row.new' (by simp), (by repeat' (first | (with_reducible exact Below.refl _ _) | (with_reducible assumption) | (with_reducible refine Below.setCell ?_ ?_ _) | (with_reducible refine Below.ext ?_ _ ?_) | (with_reducible refine Below.alloc ?_ ?_ _) | (with_reducible refine Below.drew ?_) | (with_reducible refine Below.drewN ?_ _) | (with_reducible exact Nat.le_refl _) | (dsimp only; omega) | (simp <;> omega)))⟩ ?_
  rintro w1 ⟨r1, r2, B1⟩
  have n1 : w1.rangeAt w.heap.size 1 x.2.cs := by have := r1.range.part 1 4; rw [Nat.zero_add] at this; exact this
  have n2 : w1.rangeAt (w.heap.size + 1) 1 y.2.cs := by have := r2.range.part 1 4; rw [Nat.zero_add] at this; exact this
  have g1 := r1.lt
  have g2 := r2.lt
  have hB0 : w1.heap.size ≤ w1.heap.size := Nat.le_refl _
  refine wp_region_ext w1.heap.size hB0 (by kernel_rfl) (by kernel_rfl) ?_
  intro _
  repeat (first | (refine wpQuiet_ld (by rfl) rfl rfl (by assumption) (by assumption) (by first | exact rtS _ | exact rtP _) ?_; simp only [Act.put, List.setIfInBounds_toArray, List.set_cons_zero, List.set_cons_succ]) | go_big_quiet_step ((first | with_reducible exact Calls.ext_of (HH.out.1 _) | with_reducible exact Calls.ext_of (HH.out.2 _))))
  refine wpQuiet_nil ?_
  intro z
  go_wp2_with fail
  go_returns
  exact ⟨rfl, B1.ext z B1.size⟩
def better (m x : Int × Set4) : Int × Set4 := if (x.2.count : Int) - (m.2.count : Int) < 0 then x else m
/-- The least of the first k. -/
def minK (x : Int × Set4) (xs : List (Int × Set4)) (k : Nat) : Int × Set4 := (xs.take k).foldl better x
theorem minK_succ (x y : Int × Set4) (xs : List (Int × Set4)) (k : Nat) (h : xs[k]? = some y) : minK x xs (k + 1) = better (minK x xs k) y := by
  unfold minK
  rw [List.take_add_one, h, List.foldl_append]; rfl
def minOf (x : Int × Set4) (xs : List (Int × Set4)) : Int × Set4 := xs.foldl better x
theorem minK_all (x : Int × Set4) (xs : List (Int × Set4)) : minK x xs xs.length = minOf x xs := by unfold minK minOf; rw [List.take_length]
set_option maxHeartbeats 1000000 in
theorem Min_any {B : Nat} {v : Value} (x : Int × Set4) (xs : List (Int × Set4)) (w : World) (h : prow w B v (x :: xs)) (hl : xs.length ≤ 100) :
    Calls Tryd.prog 30 #[v, .func (.func 31) #[] #[]] w fun e w' => e = .returned (pv (minOf x xs).1 (minOf x xs).2) ∧ Below w.heap.size w w' := by
  obtain ⟨g, cap, rfl, hBg, hgl, hlc, hcm, hr0, _⟩ := own_at (f := fun x => pcs x.1 x.2) pcs_len h (i := 0) rfl
  obtain ⟨n, hn⟩ : ∃ n, n = (x :: xs).length := ⟨_, rfl⟩
  have hn1 : 1 ≤ n := by rw [hn]; simp
  have hn2 : n ≤ 101 := by rw [hn]; simp; omega
  rw [← hn] at hlc ⊢
  have HN := Lib.hid (And.intro h hn)
  clear h hn hBg
  go_enter Tryd.func30, Tryd.ntmps30
  go_upto_region 3 with fail
  refine wp_world (fun w1 => w1.row w.heap.size (pcs 0 Set4.zero) tPl ∧ w1.rangeAt g 0 (pcs x.1 x.2) ∧ Below w.heap.size w w1) ⟨World.row.new' rfl, ?_, (by repeat' (first | (with_reducible exact Below.refl _ _) | (with_reducible assumption) | (with_reducible refine Below.setCell ?_ ?_ _) | (with_reducible refine Below.ext ?_ _ ?_) | (with_reducible refine Below.alloc ?_ ?_ _) | (with_reducible refine Below.drew ?_) | (with_reducible refine Below.drewN ?_ _) | (with_reducible exact Nat.le_refl _) | (dsimp only; omega) | (simp <;> omega)))⟩ ?_
  · have hb : Below w.heap.size w (w.alloc (.cells (pcs 0 Set4.zero).toArray tPl)) := (Below.refl _ _).alloc (Nat.le_refl _) _
    have := hr0.below hb hgl
    rw [Nat.zero_mul] at this
    exact this
  rintro w1 ⟨q1, m1, B1⟩
  have hnI : ¬ ((n : Int) < 1) := by omega
  have q1l := q1.lt
  go_wp2_with (first | ((with_reducible apply op_ld); (case hw => rfl); (case hx => rfl); (case hc => assumption); (case ht => first | exact rtS _ | exact rtP _ | exact rtPl _ _); simp only [Act.put, List.setIfInBounds_toArray, List.set_cons_zero, List.set_cons_succ]) | (((with_reducible apply op_st); (case hw => rfl); (case hx => rfl); (case hy => rfl); (case hr => exact World.row.new' (cs := pcs 0 Set4.zero) rfl); (case ht => exact rtPl 0 Set4.zero); (case hn => rfl); (case hold => rfl); (case h1 => exact pcs_one _ _); simp only [Act.put]); refine wpList_world (fun w2 => w2.row w1.heap.size (pcs x.1 x.2) tPl ∧ w2.row w.heap.size (pcs 0 Set4.zero) tPl ∧ Below w.heap.size w w2) ⟨(World.row.new' (cs := pcs 0 Set4.zero) rfl).setRow, (q1.alloc _).setRow_other (by omega), (B1.alloc (by omega) _).setRow (by omega) _⟩ ?_; rintro w2 ⟨r2, q2, B2⟩))
  have HS := Lib.hid (And.intro r2 (And.intro q2 B2))
  have q1n : w1.heap.size ≠ w.heap.size := by omega
  clear r2 q2 B2 q1 B1 m1 hr0
  go_loopw [6] (fun i wr => ∃ (k : Nat), 1 ≤ k ∧ k ≤ n ∧ i = .int .i64 k ∧ wr.row w1.heap.size (pcs (minK x xs (k - 1)).1 (minK x xs (k - 1)).2) tPl ∧ wr.row w.heap.size (pcs 0 Set4.zero) tPl ∧ Below w.heap.size w wr) (fun i _ => n - (intOf i).toNat)
  case atStart => exact ⟨1, Nat.le_refl _, hn1, rfl, HS.out.1, HS.out.2.1, HS.out.2.2⟩
  case round =>
    obtain ⟨k, hk1, hk, rfl, hr, hq, hB⟩ := hrel
    by_cases hlt : k < n
    · obtain ⟨y, hy⟩ : ∃ y, (x :: xs)[k]? = some y := ⟨_, List.getElem?_eq_getElem (by rw [← HN.out.2]; exact hlt)⟩
      have hy2 : xs[k - 1]? = some y := by
        obtain ⟨j, rfl⟩ : ∃ j, k = j + 1 := ⟨k - 1, by omega⟩
        simpa using hy
      have hms := minK_succ x y xs (k - 1) hy2
      rw [Nat.sub_add_cancel hk1] at hms
      obtain ⟨m, hm⟩ : ∃ m, m = minK x xs (k - 1) := ⟨_, rfl⟩
      rw [← hm] at hr hms
      obtain ⟨g', cap', e1, _, _, _, _, hry, _⟩ := own_at (f := fun x => pcs x.1 x.2) pcs_len HN.out.1 hy
      obtain ⟨e2, _, e3⟩ := Value.slice.inj e1
      obtain rfl : g = g' := by simpa using e2
      have hry := hry.below hB hgl
      have hrm := hr.range
      have gm := hr.lt
      have gg : g < wr.heap.size := Nat.lt_of_lt_of_le hgl hB.size
      have hB0 : wr.heap.size ≤ wr.heap.size := Nat.le_refl _
      have hsz := hB.size
      have HR := Lib.hid (And.intro hr (And.intro hq (And.intro hB hms)))
      have hc := fun w => Cmp_any y m w
      obtain ⟨df, hdf⟩ : ∃ df, df = (y.2.count : Int) - (m.2.count : Int) := ⟨_, rfl⟩
      rw [← hdf] at hc
      have HC := Lib.hid (And.intro hc hdf)
      clear hc hdf hr hq hB hms hm hy hy2 e1 e2 e3
      by_cases hneg : df < 0
      · go_wp2_with fail
        refine wp_region_ext wr.heap.size hB0 (by kernel_rfl) (by kernel_rfl) ?_
        intro _
        repeat (first | ((with_reducible apply q_ld); (case hw => rfl); (case hx => rfl); (case hc => assumption); (case hb => assumption); (case ht => first | exact rtS _ | exact rtP _ | exact rtPl _ _); simp only [Act.put, List.setIfInBounds_toArray, List.set_cons_zero, List.set_cons_succ]) | go_big_quiet_step ((first | with_reducible exact Calls.ext_of (HC.out.1 _))))
        refine wpQuiet_nil ?_
        intro z
        have bw5 := World.ext_below z
        generalize World.ext wr wr.heap.size z = w5 at *
        clear z
        have hry5 := hry.below bw5 gg
        have H5 := Lib.hid (And.intro (HR.out.1.below bw5 gm) (And.intro (HR.out.2.1.below bw5 HR.out.2.1.lt) (HR.out.2.2.1.trans (bw5.mono hsz))))
        clear hry hrm bw5
        go_wp2_with (first | ((with_reducible apply op_ld); (case hw => rfl); (case hx => rfl); (case hc => assumption); (case ht => first | exact rtS _ | exact rtP _ | exact rtPl _ _); simp only [Act.put, List.setIfInBounds_toArray, List.set_cons_zero, List.set_cons_succ]) | (((with_reducible apply op_st); (case hw => rfl); (case hx => rfl); (case hy => rfl); (case hr => exact H5.out.1); (case ht => exact rtPl 0 Set4.zero); (case hn => rfl); (case hold => rfl); (case h1 => exact pcs_one _ _); simp only [Act.put]); refine wpList_world (fun w6 => w6.row w1.heap.size (pcs y.1 y.2) tPl ∧ w6.row w.heap.size (pcs 0 Set4.zero) tPl ∧ Below w.heap.size w w6) ⟨H5.out.1.setRow, H5.out.2.1.setRow_other q1n, H5.out.2.2.setRow (by omega) _⟩ ?_; rintro w6 ⟨r6, q6, B6⟩))
        have H6 := Lib.hid (And.intro r6 (And.intro q6 B6))
        clear r6 q6 B6
        go_roundw
        case rel =>
          refine ⟨k + 1, by omega, by omega, by go_num, ?_, H6.out.2.1, H6.out.2.2⟩
          rw [show k + 1 - 1 = k by omega, HR.out.2.2.2, show better m y = y by unfold better; rw [if_pos (by rw [← HC.out.2]; exact hneg)]]
          exact H6.out.1
        case measure => simp [intOf] <;> omega
      · go_wp2_with fail
        refine wp_region_ext wr.heap.size hB0 (by kernel_rfl) (by kernel_rfl) ?_
        intro _
        repeat (first | ((with_reducible apply q_ld); (case hw => rfl); (case hx => rfl); (case hc => assumption); (case hb => assumption); (case ht => first | exact rtS _ | exact rtP _ | exact rtPl _ _); simp only [Act.put, List.setIfInBounds_toArray, List.set_cons_zero, List.set_cons_succ]) | go_big_quiet_step ((first | with_reducible exact Calls.ext_of (HC.out.1 _))))
        refine wpQuiet_nil ?_
        intro z
        have bw5 := World.ext_below z
        generalize World.ext wr wr.heap.size z = w5 at *
        clear z
        have H5 := Lib.hid (And.intro (HR.out.1.below bw5 gm) (And.intro (HR.out.2.1.below bw5 HR.out.2.1.lt) (HR.out.2.2.1.trans (bw5.mono hsz))))
        clear hry hrm bw5
        go_wp2_with fail
        go_roundw
        case rel =>
          refine ⟨k + 1, by omega, by omega, by go_num, ?_, H5.out.2.1, H5.out.2.2⟩
          rw [show k + 1 - 1 = k by omega, HR.out.2.2.2, show better m y = m by unfold better; rw [if_neg (by rw [← HC.out.2]; omega)]]
          exact H5.out.1
        case measure => simp [intOf] <;> omega
    · obtain rfl : k = n := by omega
      have e : minK x xs (k - 1) = minOf x xs := by
        rw [← minK_all, HN.out.2]; rfl
      rw [e] at hr
      have hm := hr.range
      have hql := hB.size
      go_wp2_with (first | ((with_reducible apply op_ld); (case hw => rfl); (case hx => rfl); (case hc => assumption); (case ht => first | exact rtS _ | exact rtP _ | exact rtPl _ _); simp only [Act.put, List.setIfInBounds_toArray, List.set_cons_zero, List.set_cons_succ]) | ((with_reducible apply op_st); (case hw => rfl); (case hx => rfl); (case hy => rfl); (case hr => exact hq); (case ht => exact rtPl 0 Set4.zero); (case hn => rfl); (case hold => rfl); (case h1 => exact pcs_one _ _); simp only [Act.put]))
      exact bodyPost_c rfl rfl hq.setRow (rtPl 0 Set4.zero) rfl ⟨rfl, hB.setRow (Nat.le_refl _) _⟩
def PS.choose (p : PS) : Int × Set4 := match p.ways with
  | [] => (0, Set4.zero)
  | x :: xs => minOf x xs
theorem ways_ne (p : PS) : ∃ x xs, p.ways = x :: xs ∧ xs.length ≤ 100 := by
  unfold PS.ways
  cases p.fullB <;> cases p.greatB <;> cases p.smallB <;> exact ⟨_, _, rfl, by simp⟩
theorem Choose_no (p : PS) (w : World) (hg : p.good = false) : Calls Tryd.prog 9 #[p.v] w fun e w' => e = .returned (.tuple #[pv 0 Set4.zero, .int .i64 4]) ∧ Below w.heap.size w w' := by
  have hW := Lib.hid (fun w => Ways_no p w hg)
  clear hg
  go_enter Tryd.func9, Tryd.ntmps9
  go_upto_region 1 with fail
  refine wp_world (fun w1 => w1.row w.heap.size p.cs tP ∧ w1.row (w.heap.size + 1) (pcs 0 Set4.zero) tPl ∧ Below w.heap.size w w1) ⟨World.row.alloc (World.row.new' rfl) _, World.row.new' (by simp), (by repeat' (first | (with_reducible exact Below.refl _ _) | (with_reducible assumption) | (with_reducible refine Below.setCell ?_ ?_ _) | (with_reducible refine Below.ext ?_ _ ?_) | (with_reducible refine Below.alloc ?_ ?_ _) | (with_reducible refine Below.drew ?_) | (with_reducible refine Below.drewN ?_ _) | (with_reducible exact Nat.le_refl _) | (dsimp only; omega) | (simp <;> omega)))⟩ ?_
  rintro w1 ⟨r1, q1, B1⟩
  have m0 := r1.range
  go_wp2_with (((with_reducible apply op_ld); (case hw => rfl); (case hx => rfl); (case hc => assumption); (case ht => first | exact rtS _ | exact rtP _ | exact rtPl _ _); simp only [Act.put, List.setIfInBounds_toArray, List.set_cons_zero, List.set_cons_succ]))
  refine Calls.pure_to (hW.out _) ?_
  intro w2 b2
  have q2 := q1.below b2 q1.lt
  have hbz : ∀ w, (Instr.build tPl #[]).run Tryd.prog w = .ok (pv 0 Set4.zero) w := fun w => by kernel_rfl
  go_wp2_with (((with_reducible apply op_st); (case hw => rfl); (case hx => rfl); (case hy => rfl); (case hr => exact q2); (case ht => exact rtPl 0 Set4.zero); (case hn => rfl); (case hold => rfl); (case h1 => exact pcs_one 0 Set4.zero); simp only [Act.put]))
  exact bodyPost_ct rfl rfl q2.setRow (rtPl 0 Set4.zero) rfl ⟨rfl, (B1.trans (b2.mono B1.size)).setRow (by omega) _⟩
theorem Choose_yes (p : PS) (w : World) (hg : p.good = true) : Calls Tryd.prog 9 #[p.v] w fun e w' => e = .returned (.tuple #[pv p.choose.1 p.choose.2, .int .i64 0]) ∧ Below w.heap.size w w' := by
  have hW := Lib.hid (fun w => Ways_yes p w hg)
  obtain ⟨x, xs, hws, hl⟩ := ways_ne p
  have hch : p.choose = minOf x xs := by unfold PS.choose; rw [hws]
  rw [hch]
  have HW := Lib.hid (And.intro hws hl)
  clear hg hws hl hch
  go_enter Tryd.func9, Tryd.ntmps9
  go_upto_region 1 with fail
  refine wp_world (fun w1 => w1.row w.heap.size p.cs tP ∧ w1.row (w.heap.size + 1) (pcs 0 Set4.zero) tPl ∧ Below w.heap.size w w1) ⟨World.row.alloc (World.row.new' rfl) _, World.row.new' (by simp), (by repeat' (first | (with_reducible exact Below.refl _ _) | (with_reducible assumption) | (with_reducible refine Below.setCell ?_ ?_ _) | (with_reducible refine Below.ext ?_ _ ?_) | (with_reducible refine Below.alloc ?_ ?_ _) | (with_reducible refine Below.drew ?_) | (with_reducible refine Below.drewN ?_ _) | (with_reducible exact Nat.le_refl _) | (dsimp only; omega) | (simp <;> omega)))⟩ ?_
  rintro w1 ⟨r1, q1, B1⟩
  have m0 := r1.range
  go_wp2_with (((with_reducible apply op_ld); (case hw => rfl); (case hx => rfl); (case hc => assumption); (case ht => first | exact rtS _ | exact rtP _ | exact rtPl _ _); simp only [Act.put, List.setIfInBounds_toArray, List.set_cons_zero, List.set_cons_succ]))
  refine (hW.out _).mono ?_
  rintro e w2 ⟨⟨v, rfl, hv⟩, b2⟩
  rw [HW.out.1] at hv
  have q2 := q1.below b2 q1.lt
  have B2 := B1.trans (b2.mono B1.size)
  clear r1 q1 B1 m0 b2
  go_wp2_with fail
  refine Calls.pure_to (Min_any x xs w2 hv HW.out.2) ?_
  intro w3 b3
  have q3 := q2.below b3 q2.lt
  go_wp2_with (((with_reducible apply op_st); (case hw => rfl); (case hx => rfl); (case hy => rfl); (case hr => exact q3); (case ht => exact rtPl 0 Set4.zero); (case hn => rfl); (case hold => rfl); (case h1 => exact pcs_one _ _); simp only [Act.put]))
  exact bodyPost_ct rfl rfl q3.setRow (rtPl 0 Set4.zero) rfl ⟨rfl, (B2.trans (b3.mono B2.size)).setRow (by omega) _⟩
end Go.Proofs.YtdmbenhhjpeepaaDoor
