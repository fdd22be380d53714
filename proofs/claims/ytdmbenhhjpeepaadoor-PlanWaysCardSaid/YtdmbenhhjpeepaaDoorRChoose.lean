/- The document's Choose: contracts. -/
import Derived.Test.YtdmbenhhjpeepaaDoorRWays
import Derived.Test.YtdmbenhhjpeepaaDoorRTake
namespace Go.Proofs.YtdmbenhhjpeepaaDoor
open Go Go.RowKit
set_option maxRecDepth 100000
def rbetter (m x : Int × (Nat → Bool)) : Int × (Nat → Bool) := if cnt x.2 32 < cnt m.2 32 then x else m
def rminK (x : Int × (Nat → Bool)) (xs : List (Int × (Nat → Bool))) (k : Nat) : Int × (Nat → Bool) := (xs.take k).foldl rbetter x
theorem rminK_succ (x y : Int × (Nat → Bool)) (xs : List (Int × (Nat → Bool))) (k : Nat) (h : xs[k]? = some y) : rminK x xs (k + 1) = rbetter (rminK x xs k) y := by
  unfold rminK
  rw [List.take_add_one, h, List.foldl_append]; rfl
def rmin (x : Int × (Nat → Bool)) (xs : List (Int × (Nat → Bool))) : Int × (Nat → Bool) := xs.foldl rbetter x
theorem rminK_all (x : Int × (Nat → Bool)) (xs : List (Int × (Nat → Bool))) : rminK x xs xs.length = rmin x xs := by unfold rminK rmin; rw [List.take_length]
def RSt.choose (r : RSt) : Int × (Nat → Bool) := match r.ways with
  | [] => (0, zB)
  | x :: xs => rmin x xs
theorem RSt.may_3 (r : RSt) : r.may 3 = true := RSt.allOk_of (fun i _ => by rw [RSt.ba_3]; cases r.L i <;> rfl)
theorem RSt.ways_ne (r : RSt) : ∃ x xs, r.ways = x :: xs ∧ xs.length ≤ 3 := by
  have h := r.wl_len 4
  have e : r.ways = r.wl 3 ++ [r.plan 3] := by
    show r.wl (3 + 1) = _
    rw [show r.wl (3 + 1) = if r.may 3 = true then r.wl 3 ++ [r.plan 3] else r.wl 3 from rfl, if_pos r.may_3]
  cases e2 : r.ways with
  | nil => rw [e] at e2; simp at e2
  | cons x xs =>
    refine ⟨x, xs, rfl, ?_⟩
    have : r.ways.length ≤ 4 := h
    rw [e2] at this
    simpa using this
theorem qcs_len2 (x : Int × (Nat → Bool)) : (qcs x.1 x.2).length = 33 := qcs_len _ _
theorem refChoose_no (r : RSt) (w : World) (hg : r.good = false) : Calls Tryd.prog 10 #[r.v] w fun e w' => e = .returned (.tuple #[qv 0 zB, .int .i64 4]) ∧ Below w.heap.size w w' := by
  have HG := Lib.hid (fun w => refWays_no r w hg)
  clear hg
  go_enter Tryd.func10, Tryd.ntmps10
  go_upto_region 1 with ((with_reducible apply op_alloc); (case hw => rfl); (case hz => exact zeroQ); (case hzs => rfl); simp only [Act.put, List.setIfInBounds_toArray, List.set_cons_zero, List.set_cons_succ])
  refine wp_world (fun w1 => w1.row w.heap.size r.cs tR ∧ w1.row (w.heap.size + 1) (qcs 0 zB) tQ ∧ Below w.heap.size w w1) ⟨World.row.alloc (World.row.new' rfl) _, World.row.new' (by simp), (by repeat' (first | (with_reducible exact Below.refl _ _) | (with_reducible assumption) | (with_reducible refine Below.setCell ?_ ?_ _) | (with_reducible refine Below.ext ?_ _ ?_) | (with_reducible refine Below.alloc ?_ ?_ _) | (with_reducible refine Below.drew ?_) | (with_reducible refine Below.drewN ?_ _) | (with_reducible exact Nat.le_refl _) | (dsimp only; omega) | (simp <;> omega)))⟩ ?_
  simp only [World.size_alloc]
  rintro w1 ⟨r1, q1, B1⟩
  have m1 := r1.range
  go_wp2_with ((with_reducible apply op_ld); (case hw => rfl); (case hx => rfl); (case hc => exact m1); (case ht => exact rtR _); simp only [Act.put, List.setIfInBounds_toArray, List.set_cons_zero, List.set_cons_succ])
  refine Calls.pure_to (HG.out w1) ?_
  intro w2 b2
  have q2 := q1.below b2 q1.lt
  have B2 := B1.trans (b2.mono B1.size)
  clear r1 q1 B1 b2 m1
  go_wp2_with (first | ((with_reducible apply op_build0); (case hw => rfl); (case hb => exact build_Q0); simp only [Act.put, List.setIfInBounds_toArray, List.set_cons_zero, List.set_cons_succ]) | (((with_reducible apply op_st); (case hw => rfl); (case hx => rfl); (case hy => rfl); (case hr => exact q2); (case ht => exact rtQ 0 zB); (case hn => rfl); (case hold => rfl); (case h1 => exact qcs_one _ _); simp only [Act.put])))
  exact bodyPost_ct rfl rfl q2.setRow (rtQ _ _) rfl ⟨rfl, B2.setRow (by omega) _⟩
set_option maxHeartbeats 4000000 in
theorem refChoose_yes (r : RSt) (w : World) (hg : r.good = true) : Calls Tryd.prog 10 #[r.v] w fun e w' => e = .returned (.tuple #[qv r.choose.1 r.choose.2, .int .i64 0]) ∧ Below w.heap.size w w' := by
  have HG := Lib.hid (fun w => refWays_yes r w hg)
  obtain ⟨x, xs, hx, hxl⟩ := r.ways_ne
  have hch : r.choose = rmin x xs := by unfold RSt.choose; rw [hx]
  obtain ⟨c1, hc1⟩ : ∃ c, c = r.choose.1 := ⟨_, rfl⟩
  obtain ⟨c2, hc2⟩ : ∃ c, c = r.choose.2 := ⟨_, rfl⟩
  rw [← hc1, ← hc2]
  have HC := Lib.hid (And.intro (hc1.trans (by rw [hch])) (hc2.trans (by rw [hch])) : c1 = (rmin x xs).1 ∧ c2 = (rmin x xs).2)
  have HX := Lib.hid (And.intro hx hxl)
  clear hg hx hxl hch hc1 hc2
  go_enter Tryd.func10, Tryd.ntmps10
  go_upto_region 1 with ((with_reducible apply op_alloc); (case hw => rfl); (case hz => exact zeroQ); (case hzs => rfl); simp only [Act.put, List.setIfInBounds_toArray, List.set_cons_zero, List.set_cons_succ])
  refine wp_world (fun w1 => w1.row w.heap.size r.cs tR ∧ w1.row (w.heap.size + 1) (qcs 0 zB) tQ ∧ Below w.heap.size w w1) ⟨World.row.alloc (World.row.new' rfl) _, World.row.new' (by simp), (by repeat' (first | (with_reducible exact Below.refl _ _) | (with_reducible assumption) | (with_reducible refine Below.setCell ?_ ?_ _) | (with_reducible refine Below.ext ?_ _ ?_) | (with_reducible refine Below.alloc ?_ ?_ _) | (with_reducible refine Below.drew ?_) | (with_reducible refine Below.drewN ?_ _) | (with_reducible exact Nat.le_refl _) | (dsimp only; omega) | (simp <;> omega)))⟩ ?_
  simp only [World.size_alloc]
  rintro w1 ⟨r1, q1, B1⟩
  have m1 := r1.range
  go_wp2_with ((with_reducible apply op_ld); (case hw => rfl); (case hx => rfl); (case hc => exact m1); (case ht => exact rtR _); simp only [Act.put, List.setIfInBounds_toArray, List.set_cons_zero, List.set_cons_succ])
  refine (HG.out w1).mono ?_
  rintro e w2 ⟨⟨l, rfl, pl⟩, b2⟩
  rw [HX.out.1] at pl
  have q2 := q1.below b2 q1.lt
  have B2 := B1.trans (b2.mono B1.size)
  clear r1 q1 B1 b2 m1
  obtain ⟨gl, cap, rfl, hBg, hgl, hlc, hcm, _, _⟩ := own_at (f := fun x => qcs x.1 x.2) qcs_len2 pl (i := 0) rfl
  obtain ⟨n, hn⟩ : ∃ n, n = (x :: xs).length := ⟨_, rfl⟩
  have hn1 : 1 ≤ n := by rw [hn]; simp
  have hn2 : n ≤ 4 := by rw [hn]; have := HX.out.2; simp; omega
  rw [← hn] at hlc ⊢
  have HN := Lib.hid (And.intro pl hn)
  have HS := Lib.hid (And.intro q2 B2)
  clear pl hn hBg q2 B2 HX
  go_wp2_with fail
  go_loopw [6, 7] (fun b i wr => ∃ (k j : Nat), 1 ≤ k ∧ k ≤ n ∧ i = .int .i64 k ∧ j < n ∧ b = .int .i64 j ∧ (x :: xs)[j]? = some (rminK x xs (k - 1)) ∧ Below w2.heap.size w2 wr) (fun _ i _ => n - (intOf i).toNat)
  case atStart => exact ⟨1, 0, Nat.le_refl _, hn1, rfl, hn1, rfl, rfl, Below.refl _ _⟩
  case round =>
    obtain ⟨k, j, hk1, hk, rfl, hj, rfl, hjx, hB⟩ := hrel
    obtain ⟨mm, hmm⟩ : ∃ mm, mm = rminK x xs (k - 1) := ⟨_, rfl⟩
    rw [← hmm] at hjx
    obtain ⟨g1, cap1, e1, _, _, _, _, hrj, _⟩ := own_at (f := fun x => qcs x.1 x.2) qcs_len2 HN.out.1 hjx
    obtain ⟨e2, e8, e3⟩ := Value.slice.inj e1
    obtain rfl : gl = g1 := by simpa using e2
    clear e8 e1 e2 e3
    have hrj := hrj.below hB hgl
    by_cases hlt : k < n
    · obtain ⟨y, hy⟩ : ∃ y, (x :: xs)[k]? = some y := ⟨_, List.getElem?_eq_getElem (by rw [← HN.out.2]; exact hlt)⟩
      have hy2 : xs[k - 1]? = some y := by
        obtain ⟨q, rfl⟩ : ∃ q, k = q + 1 := ⟨k - 1, by omega⟩
        simpa using hy
      have hms := rminK_succ x y xs (k - 1) hy2
      rw [Nat.sub_add_cancel hk1, ← hmm] at hms
      obtain ⟨g', cap', e1, _, _, _, _, hry, _⟩ := own_at (f := fun x => qcs x.1 x.2) qcs_len2 HN.out.1 hy
      obtain ⟨e2, e8, e3⟩ := Value.slice.inj e1
      obtain rfl : gl = g' := by simpa using e2
      clear e8 e1 e2 e3
      have hry := hry.below hB hgl
      have h1 := fun w => refCount_any y.1 y.2 w
      have h2 := fun w => refCount_any mm.1 mm.2 w
      have hbt : rbetter mm y = if cnt y.2 32 < cnt mm.2 32 then y else mm := rfl
      have l1 := cnt_le y.2 32
      have l2 := cnt_le mm.2 32
      generalize cnt y.2 32 = cy at *
      generalize cnt mm.2 32 = cm at *
      have HR := Lib.hid (And.intro hB (And.intro hms (And.intro hbt (And.intro hjx (And.intro hy (And.intro h1 h2))))))
      have gg : gl < wr.heap.size := Nat.lt_of_lt_of_le hgl hB.size
      clear hB hms hbt hjx hy hy2 h1 h2 hmm
      go_wp2_with ((with_reducible apply op_ld); (case hw => rfl); (case hx => rfl); (case hc => exact hry); (case ht => exact rtQ _ _); simp only [Act.put, List.setIfInBounds_toArray, List.set_cons_zero, List.set_cons_succ])
      refine Calls.pure_to (HR.out.2.2.2.2.2.1 _) ?_
      intro w5 b5
      have hrj5 := hrj.below b5 gg
      have B5 := HR.out.1.trans (b5.mono HR.out.1.size)
      clear hry hrj b5
      go_wp2_with ((with_reducible apply op_ld); (case hw => rfl); (case hx => rfl); (case hc => exact hrj5); (case ht => exact rtQ _ _); simp only [Act.put, List.setIfInBounds_toArray, List.set_cons_zero, List.set_cons_succ])
      refine Calls.pure_to (HR.out.2.2.2.2.2.2 _) ?_
      intro w6 b6
      have B6 := B5.trans (b6.mono B5.size)
      clear hrj5 B5 b6
      by_cases hc : cy < cm
      · have hcI : (cy : Int) < (cm : Int) := by omega
        have hb2 := Lib.hid (HR.out.2.1.trans (HR.out.2.2.1.trans (if_pos hc)))
        clear hc
        go_wp2_with fail
        go_roundw
        case rel => exact ⟨k + 1, k, by omega, by omega, by go_num, hlt, rfl, by rw [show k + 1 - 1 = k by omega, hb2.out]; exact HR.out.2.2.2.2.1, B6⟩
        case measure => simp [intOf] <;> omega
      · have hcI : ¬ (cy : Int) < (cm : Int) := by omega
        have hb2 := Lib.hid (HR.out.2.1.trans (HR.out.2.2.1.trans (if_neg hc)))
        clear hc
        go_wp2_with fail
        go_roundw
        case rel => exact ⟨k + 1, j, by omega, by omega, by go_num, hj, rfl, by rw [show k + 1 - 1 = k by omega, hb2.out]; exact HR.out.2.2.2.1, B6⟩
        case measure => simp [intOf] <;> omega
    · obtain rfl : k = n := by omega
      have e : mm = rmin x xs := by rw [hmm, ← rminK_all, HN.out.2]; rfl
      have HE := Lib.hid (And.intro (HC.out.1.trans (by rw [e])) (HC.out.2.trans (by rw [e])) : c1 = mm.1 ∧ c2 = mm.2)
      have q9 := HS.out.1.below hB HS.out.1.lt
      have B9 := HS.out.2.trans (hB.mono HS.out.2.size)
      clear e hmm hjx hB
      go_wp2_with (first | ((with_reducible apply op_ld); (case hw => rfl); (case hx => rfl); (case hc => exact hrj); (case ht => exact rtQ _ _); simp only [Act.put, List.setIfInBounds_toArray, List.set_cons_zero, List.set_cons_succ]) | (((with_reducible apply op_st); (case hw => rfl); (case hx => rfl); (case hy => rfl); (case hr => exact q9); (case ht => exact rtQ 0 zB); (case hn => rfl); (case hold => rfl); (case h1 => exact qcs_one _ _); simp only [Act.put])))
      exact bodyPost_ct rfl rfl q9.setRow (rtQ _ _) rfl ⟨(by rw [HE.out.1, HE.out.2] <;> rfl), B9.setRow (by omega) _⟩
end Go.Proofs.YtdmbenhhjpeepaaDoor
