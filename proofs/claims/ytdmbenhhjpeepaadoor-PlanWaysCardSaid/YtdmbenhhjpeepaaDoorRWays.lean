/- The document's Ways: contracts. -/
import Derived.Test.YtdmbenhhjpeepaaDoorRWay0
import Derived.Test.YtdmbenhhjpeepaaDoorRWay1
import Derived.Test.YtdmbenhhjpeepaaDoorRWay2
import Derived.Test.YtdmbenhhjpeepaaDoorRWay3
import Derived.Test.YtdmbenhhjpeepaaDoorPLeast
namespace Go.Proofs.YtdmbenhhjpeepaaDoor
open Go Go.RowKit
set_option maxRecDepth 100000
theorem Way_any (r : RSt) (w : World) (hd : 2 ≤ r.data ∧ r.data ≤ 30) : ∀ k : Nat, k < 4 → Calls Tryd.prog 29 #[r.v, .int .i64 (k : Int)] w fun e w' => e = .returned (.tuple #[qv (r.plan k).1 (r.plan k).2, .bool (r.may k)]) ∧ Below w.heap.size w w'
  | 0, _ => Way_0 r w hd
  | 1, _ => Way_1 r w hd
  | 2, _ => Way_2 r w hd
  | 3, _ => Way_3 r w hd
abbrev qrow (w : World) (B : Nat) (v : Value) (ps : List (Int × (Nat → Bool))) : Prop := w.ownsRow B tQ 33 v ps.length (ps.flatMap fun x => qcs x.1 x.2)
theorem qrow_snoc {w : World} {B : Nat} {v : Value} {ps : List (Int × (Nat → Bool))} {k : Int} {s : Nat → Bool} (h : w.ownsRow B tQ 33 v (ps.length + 1) (ps.flatMap (fun x => qcs x.1 x.2) ++ qcs k s)) : qrow w B v (ps ++ [(k, s)]) := by
  show w.ownsRow B tQ 33 v _ _
  rw [List.length_append, List.flatMap_append]
  simpa using h
theorem buildSlice_q (k : Int) (f : Nat → Bool) (w : World) : (Instr.buildSlice 40 1 #[(0, qv k f)]).run Tryd.prog w = .ok (.slice (some ⟨w.heap.size, 0, none⟩) 1 1) (w.alloc (.cells (qcs k f).toArray tQ)) := by kernel_rfl
theorem info_q : (Tryd.prog.info? tQ).map (fun i => (i.zero, i.size, i.bytes)) = some (some (qv 0 zB), 33, 40) := by kernel_rfl
/-- The ways of the first k kinds. -/
def RSt.wl (r : RSt) : Nat → List (Int × (Nat → Bool))
  | 0 => []
  | k + 1 => if r.may k = true then r.wl k ++ [r.plan k] else r.wl k
def RSt.ways (r : RSt) : List (Int × (Nat → Bool)) := r.wl 4
theorem RSt.wl_len (r : RSt) : ∀ k, (r.wl k).length ≤ k
  | 0 => by simp [RSt.wl]
  | k + 1 => by
    have := r.wl_len k
    unfold RSt.wl
    split
    · rw [List.length_append]; simp; omega
    · omega
theorem refWays_no (r : RSt) (w : World) (hg : r.good = false) : Calls Tryd.prog 8 #[r.v] w fun e w' => e = .returned (.tuple #[.slice none 0 0, .int .i64 4]) ∧ Below w.heap.size w w' := by
  have HG := Lib.hid hg
  clear hg
  go_enter Tryd.func8, Tryd.ntmps8
  go_upto_region 1 with fail
  refine wp_world (fun w1 => w1.row w.heap.size r.cs tR ∧ Below w.heap.size w w1) ⟨World.row.new' rfl, (by repeat' (first | (with_reducible exact Below.refl _ _) | (with_reducible assumption) | (with_reducible refine Below.setCell ?_ ?_ _) | (with_reducible refine Below.ext ?_ _ ?_) | (with_reducible refine Below.alloc ?_ ?_ _) | (with_reducible refine Below.drew ?_) | (with_reducible refine Below.drewN ?_ _) | (with_reducible exact Nat.le_refl _) | (dsimp only; omega) | (simp <;> omega)))⟩ ?_
  rintro w1 ⟨r1, B1⟩
  have m1 := r1.range
  go_wp2_with ((with_reducible apply op_ld); (case hw => rfl); (case hx => rfl); (case hc => exact m1); (case ht => exact rtR _); simp only [Act.put, List.setIfInBounds_toArray, List.set_cons_zero, List.set_cons_succ])
  refine Calls.pure_to (refGood_any r w1) ?_
  rw [HG.out]
  intro w2 b2
  have B2 := B1.trans (b2.mono B1.size)
  clear r1 B1 b2 m1
  go_wp2_with fail
  go_ret2
  exact ⟨rfl, B2⟩
set_option maxHeartbeats 4000000 in
theorem refWays_yes (r : RSt) (w : World) (hg : r.good = true) : Calls Tryd.prog 8 #[r.v] w fun e w' => (∃ l, e = .returned (.tuple #[l, .int .i64 0]) ∧ qrow w' w.heap.size l r.ways) ∧ Below w.heap.size w w' := by
  have hd : 2 ≤ r.data ∧ r.data ≤ 30 := by
    unfold RSt.good at hg
    simp only [Bool.and_eq_true, decide_eq_true_eq] at hg
    exact hg.1
  have HG := Lib.hid (And.intro hg hd)
  clear hg hd
  go_enter Tryd.func8, Tryd.ntmps8
  go_upto_region 1 with fail
  refine wp_world (fun w1 => w1.row w.heap.size r.cs tR ∧ Below w.heap.size w w1) ⟨World.row.new' rfl, (by repeat' (first | (with_reducible exact Below.refl _ _) | (with_reducible assumption) | (with_reducible refine Below.setCell ?_ ?_ _) | (with_reducible refine Below.ext ?_ _ ?_) | (with_reducible refine Below.alloc ?_ ?_ _) | (with_reducible refine Below.drew ?_) | (with_reducible refine Below.drewN ?_ _) | (with_reducible exact Nat.le_refl _) | (dsimp only; omega) | (simp <;> omega)))⟩ ?_
  rintro w1 ⟨r1, B1⟩
  have m1 := r1.range
  go_wp2_with ((with_reducible apply op_ld); (case hw => rfl); (case hx => rfl); (case hc => exact m1); (case ht => exact rtR _); simp only [Act.put, List.setIfInBounds_toArray, List.set_cons_zero, List.set_cons_succ])
  refine Calls.pure_to (refGood_any r w1) ?_
  rw [HG.out.1]
  intro w2 b2
  have r2 := r1.below b2 r1.lt
  have B2 := B1.trans (b2.mono B1.size)
  clear r1 B1 b2 m1
  have O2 : qrow w2 (w.heap.size + 1) (.slice none 0 0) [] := World.ownsRow_nil w2 (w.heap.size + 1) tQ 33
  have HS := Lib.hid (And.intro r2 (And.intro B2 O2))
  clear r2 B2 O2
  go_wp2_with fail
  go_loopw [6, 5] (fun i v wr => ∃ (k : Nat), k ≤ 4 ∧ i = .int .i64 k ∧ qrow wr (w.heap.size + 1) v (r.wl k) ∧ wr.row w.heap.size r.cs tR ∧ Below w.heap.size w wr) (fun i _ _ => 4 - (intOf i).toNat)
  case atStart => exact ⟨0, by omega, rfl, HS.out.2.2, HS.out.1, HS.out.2.1⟩
  case round =>
    obtain ⟨k, hk, rfl, hO, hr, hB⟩ := hrel
    by_cases hlt : k < 4
    · have hw1 : Hid (r.wl (k + 1) = if r.may k = true then r.wl k ++ [((r.plan k).1, (r.plan k).2)] else r.wl k) := Lib.hid rfl
      have hlen := r.wl_len k
      have hcall := fun w => Way_any r w HG.out.2 k hlt
      generalize (r.plan k).1 = pk at *
      generalize (r.plan k).2 = pf at *
      generalize r.may k = my at *
      obtain ⟨L, hL⟩ : ∃ L, L = r.wl k := ⟨_, rfl⟩
      rw [← hL] at hO hw1 hlen
      clear hL
      obtain ⟨a4, n4, c4, rfl⟩ := own_shape5 hO
      have hm := hr.range
      have HK := Lib.hid (And.intro hO (And.intro hr (And.intro hB (And.intro hcall hlen))))
      clear hO hr hB hcall hlen
      go_wp2_with ((with_reducible apply op_ld); (case hw => rfl); (case hx => rfl); (case hc => exact hm); (case ht => exact rtR _); simp only [Act.put, List.setIfInBounds_toArray, List.set_cons_zero, List.set_cons_succ])
      refine Calls.pure_to (HK.out.2.2.2.1 _) ?_
      intro w5 b5
      have HR5 := Lib.hid (And.intro (World.ownsRow.below HK.out.1 b5) (And.intro (HK.out.2.1.below b5 HK.out.2.1.lt) (HK.out.2.2.1.trans (b5.mono HK.out.2.2.1.size))))
      clear b5 hm
      go_upto_region 9 with (first | ((with_reducible apply op_alloc); (case hw => rfl); (case hz => exact zeroQ); (case hzs => rfl); simp only [Act.put, List.setIfInBounds_toArray, List.set_cons_zero, List.set_cons_succ]) | (((with_reducible apply op_st); (case hw => rfl); (case hx => rfl); (case hy => rfl); (case hr => exact World.row.new' (cs := qcs 0 zB) rfl); (case ht => exact rtQ 0 zB); (case hn => rfl); (case hold => rfl); (case h1 => exact qcs_one _ _); simp only [Act.put])))
      obtain ⟨g, hg⟩ : ∃ g, g = w5.heap.size := ⟨_, rfl⟩
      refine wp_world (fun w6 => w6.row g (qcs pk pf) tQ ∧ Below w5.heap.size w5 w6) ⟨by rw [hg]; exact (World.row.new' (cs := qcs 0 zB) rfl).setRow, ((Below.refl w5.heap.size w5).alloc (Nat.le_refl _) _).setRow (Nat.le_refl _) _⟩ ?_
      simp only [← hg]
      rintro w6 ⟨n6, b6⟩
      rw [hg] at b6
      clear hg
      have HR6 := Lib.hid (And.intro (World.ownsRow.below HR5.out.1 b6) (And.intro (HR5.out.2.1.below b6 HR5.out.2.1.lt) (HR5.out.2.2.trans (b6.mono HR5.out.2.2.size))))
      clear b6
      cases my
      · go_wp2_with fail
        go_roundw
        case rel => exact ⟨k + 1, by omega, by go_num, by rw [hw1.out, if_neg (by simp)]; exact HR6.out.1, HR6.out.2.1, HR6.out.2.2⟩
        case measure => simp [intOf] <;> omega
      · have n7 := n6.range
        have hs6 := HR6.out.2.2.size
        go_upto_region 10 with fail
        go_step
        with_reducible apply op_mv
        (case hw => rfl)
        simp only [Act.put, Act.eval, List.setIfInBounds_toArray, List.set_cons_zero, List.set_cons_succ]
        ((with_reducible apply op_ld); (case hw => rfl); (case hx => rfl); (case hc => exact n7); (case ht => exact rtQ _ _); simp only [Act.put, List.setIfInBounds_toArray, List.set_cons_zero, List.set_cons_succ])
        with_reducible apply op_bs1
        (case hw => rfl)
        (case hx => rfl)
        (case hb => exact buildSlice_q pk pf)
        simp only [Act.put, List.setIfInBounds_toArray, List.set_cons_zero, List.set_cons_succ]
        with_reducible apply op_append1
        (case hw => rfl)
        (case ht => exact Tryd.underlying40)
        (case hi => exact info_q)
        (case hzs => rfl)
        (case hsz => decide)
        (case hown => exact World.ownsRow.alloc HR6.out.1 _)
        (case hs => rfl)
        (case hx => rfl)
        (case hr => exact World.row.new' (cs := qcs pk pf) rfl)
        (case hl => exact qcs_len _ _)
        (case h1 => exact qcs_one _ _)
        (case h63 => have := HK.out.2.2.2.2; omega)
        (case hbb => decide)
        (case hbase => simp; omega)
        intro v' w9 ho hgr hloc
        simp only [Act.put, List.setIfInBounds_toArray, List.set_cons_zero, List.set_cons_succ]
        have o9 := HR6.out.1
        have r9 := (HR6.out.2.1.alloc (.cells (qcs pk pf).toArray tQ)).grown hgr (fun e => by have := (World.ownsRow.lt o9 _ e.symm).1; omega)
        have B9 := below_own (HR6.out.2.2.alloc (by omega) (.cells (qcs pk pf).toArray tQ)) hgr (World.ownsRow.alloc o9 _) (Nat.le_succ _) (by simp; omega)
        have H9 := Lib.hid (And.intro ho (And.intro r9 B9))
        clear ho r9 B9 hgr hloc o9 n7
        go_wp2_with fail
        go_roundw
        case rel => exact ⟨k + 1, by omega, by go_num, by rw [hw1.out, if_pos rfl]; exact qrow_snoc H9.out.1, H9.out.2.1, H9.out.2.2⟩
        case measure => simp [intOf] <;> omega
    · obtain rfl : k = 4 := by omega
      go_wp2_with fail
      go_ret2
      exact ⟨⟨_, rfl, own_mono hO (Nat.le_succ _)⟩, hB⟩
end Go.Proofs.YtdmbenhhjpeepaaDoor
