/- Touch, Drop, Pin of a turn: contracts. -/
import Derived.Test.YtijagdpkclghnaaDoorUDo
namespace Go.Proofs.YtijagdpkclghnaaDoor
open Go Go.RowKit
set_option maxRecDepth 100000
variable {B n : Nat} {w : World} {M : TM} {T : TS}
/-- The turn without a key in its rows. -/
def TS.outs (T : TS) (k : Int) : TS := { T with plain := T.plain.erase k, dear := T.dear.erase k }
theorem TS.outs_no (T : TS) (k : Int) (h : T.has k = false) : T.outs k = T := by
  unfold TS.has at h
  rw [Bool.or_eq_false_iff] at h
  unfold TS.outs
  rw [List.erase_of_not_mem (by simpa using h.2), List.erase_of_not_mem (by simpa using h.1)]
set_option maxHeartbeats 1000000 in
theorem Touch_any (x : Int) (w : World) (h : TurnAt B n w M T) (hg : Good T) :
    Calls Tryd.prog 34 #[pt M.g, .int .i64 x] w fun e w' => e = .returned (.bool (T.has x)) ∧ ∃ M', TurnAt B n w' M' (T.touchT x) ∧ Step M M' w w' := by
  obtain ⟨i0, hi, hz0, hz1, hz2⟩ := info_parts infoInt
  have HI : Hid (Tryd.prog.info? tI = some i0 ∧ i0.zero = some (.int .i64 0) ∧ i0.size = 1 ∧ i0.bytes = 8) := ⟨hi, hz0, hz1, hz2⟩
  clear hi hz0 hz1 hz2
  have hl := hg.len
  have h64 := hg.m64
  have HL : Hid (T.plain.length ≤ 64 ∧ T.dear.length ≤ 64) := Lib.hid ⟨by omega, by omega⟩
  clear hl h64
  obtain ⟨c0, c1, c2, c3, c4, z⟩ := h.five
  have HW : Hid (T.has x = (T.dear.contains x || T.plain.contains x)) := Lib.hid rfl
  have HO := Lib.hid (TS.outs_no T x)
  obtain ⟨p, hp⟩ : ∃ p, p = T.plain.contains x := ⟨_, rfl⟩
  obtain ⟨d, hd⟩ : ∃ d, d = T.dear.contains x := ⟨_, rfl⟩
  rw [← hp, ← hd] at HW
  have HH := Lib.hid h
  go_enter Tryd.func34, Tryd.ntmps34
  go_wp2_with fail
  refine (out_any x h.o1 (by have := HL.out.1; omega)).mono ?_
  rintro e w1 ⟨v1', rfl, ho1, hv1, hg1⟩
  obtain ⟨a1, m1, k1, rfl⟩ := own_shape ho1
  rw [← hp]
  have r1 := HH.out.row.grown hg1 (fun e => HH.out.g1 e.symm)
  have e2 := r1.cell 2 rfl
  have z2 := r1.free 2
  obtain ⟨N1, S1⟩ := HH.out.set1 hg1 ho1 (.inl hv1)
  clear c0 c1 c2 c3 c4 z h ho1 hv1 hg1 r1 hp
  go_upto_region 5 with fail
  obtain ⟨w2, hw2⟩ : ∃ w2, w2 = w1.setCell ⟨M.g, 2, none⟩ (.slice a1 m1 k1) := ⟨_, rfl⟩
  rw [← hw2] at N1 S1 ⊢
  clear hw2 e2 z2
  obtain ⟨c0, c1, c2, c3, c4, z⟩ := N1.five
  have HN := Lib.hid (And.intro N1 S1)
  go_wp2_with fail
  refine (out_any x N1.o2 (Nat.le_trans HL.out.2 (by decide))).mono ?_
  rintro e w3 ⟨v2', rfl, ho2, hv2, hg2⟩
  obtain ⟨a2, m2, k2, rfl⟩ := own_shape ho2
  have hd' : T.dear.contains x = d := hd.symm
  rw [show ({ T with plain := T.plain.erase x } : TS).dear.contains x = d from hd']
  have r2 := HN.out.1.row.grown hg2 (fun e => HN.out.1.g2 e.symm)
  have e3 := r2.cell 3 rfl
  have z3 := r2.free 3
  obtain ⟨N2, S2⟩ := HN.out.1.set2 hg2 ho2 (.inl hv2)
  have S3 := HN.out.2.trans S2
  clear c0 c1 c2 c3 c4 z N1 S1 S2 ho2 hv2 hg2 r2 hd hd'
  go_upto_region 6 with fail
  obtain ⟨w4, hw4⟩ : ∃ w4, w4 = w3.setCell ⟨M.g, 3, none⟩ (.slice a2 m2 k2) := ⟨_, rfl⟩
  rw [← hw4] at N2 S3 ⊢
  clear hw4 e3 z3
  have N3 : TurnAt B n w4 { M with v1 := .slice a1 m1 k1, v2 := .slice a2 m2 k2 } (T.outs x) := N2
  clear N2
  by_cases hh : p = false ∧ d = false
  · obtain ⟨rfl, rfl⟩ := hh
    go_wp2_with fail
    go_returns
    have hf : T.has x = false := HW.out
    refine ⟨by rw [hf]; rfl, _, ?_, S3⟩
    rw [HO.out hf] at N3
    unfold TS.touchT
    rw [if_neg (by rw [hf]; simp)]
    exact N3
  · have ht : Hid (T.has x = true) := Lib.hid (by rw [HW.out]; cases p <;> cases d <;> simp_all)
    have HNN := Lib.hid (And.intro N3 S3)
    obtain ⟨c0, c1, c2, c3, c4, z⟩ := N3.five
    have gl := N3.row.lt
    clear S3
    have hpd : p = true ∨ (p = false ∧ d = true) := by cases p <;> cases d <;> simp_all
    clear hh N3
    rcases hpd with rfl | ⟨rfl, rfl⟩
    all_goals (
      go_wp2_with (at_builtin; refine wpList_append_own_at _ rfl _ _ 99 rfl B tI i0 (.int .i64 0) 1 8 Tryd.underlying99 HI.out.1 HI.out.2.1 HI.out.2.2.1 HI.out.2.2.2 rfl (by decide) _ _ _ rfl (HNN.out.1.o2.alloc _) ⟨w4.heap.size, 0, none⟩ 1 1 [.int .i64 x] rfl rfl ?c1 ?c2 ?c3 ?c4 ?c5 ?_)
      case c2 => simp [Value.oneCell']
      case c3 => have h1 := HL.out.2; have h2 : (T.dear.erase x).length ≤ T.dear.length := List.length_erase_le; unfold maxLen; show (T.dear.erase x).length + 1 ≤ _; omega
      case c4 => have h1 := HL.out.2; have h2 : (T.dear.erase x).length ≤ T.dear.length := List.length_erase_le; show ((T.dear.erase x).length + 1) * 8 ≤ _; omega
      case c5 => have := HNN.out.1.le; simp; omega
      intro v' w5 ho hgr _ hloc
      obtain ⟨av, mv, cv, rfl⟩ := own_shape ho
      have hgr2 := (World.grownBy_alloc w4 (.cells #[.int .i64 x] tI) (Value.slice a2 m2 k2).ownBlock).trans hgr
      have r2 := HNN.out.1.row.grown hgr2 (fun e => HNN.out.1.g2 e.symm)
      have k3 := r2.cell 3 rfl
      have z3 := r2.free 3
      obtain ⟨N4, S4⟩ := HNN.out.1.set2 hgr2 (irow_snoc ho) (hloc.imp id fun e => ⟨_, e, by simp⟩)
      have S5 := HNN.out.2.trans S4
      clear ho hgr hgr2 hloc r2 c0 c1 c2 c3 c4 z gl S4
      go_upto_region 9 with fail
      obtain ⟨w6, hw6⟩ : ∃ w6, w6 = w5.setCell ⟨M.g, 3, none⟩ (.slice av mv cv) := ⟨_, rfl⟩
      rw [← hw6] at N4 S5 ⊢
      clear hw6 k3 z3
      have N5 : TurnAt B n w6 { M with v1 := .slice a1 m1 k1, v2 := .slice av mv cv } (T.moved x) := N4
      have hlen := moved_len hg x ht.out
      have hl5 : (T.moved x).plain.length + (T.moved x).dear.length ≤ 1000 := by have := hg.len; have := hg.m64; omega
      clear N4 hlen
      have hF := falls_any w6 N5 hl5
      clear hl5
      go_wp2_with fail
      refine hF.mono ?_
      rintro e w7 ⟨rfl, M', N6, S6⟩
      go_wp2_with fail
      go_returns
      refine ⟨by rw [ht.out]; rfl, M', ?_, S5.trans S6⟩
      unfold TS.touchT
      rw [if_pos ht.out]
      exact N6)
set_option maxHeartbeats 1000000 in
theorem Drop_any (x : Int) (w : World) (h : TurnAt B n w M T) (hg : Good T) (hx : In64 x) :
    Calls Tryd.prog 36 #[pt M.g, .int .i64 x] w fun e w' => e = .returned (.bool (T.has x)) ∧ ∃ M', TurnAt B n w' M' (T.dropT x) ∧ Step M M' w w' := by
  have hl := hg.len
  have h64 := hg.m64
  have HL : Hid (T.plain.length ≤ 64 ∧ T.dear.length ≤ 64) := Lib.hid ⟨by omega, by omega⟩
  clear hl h64
  obtain ⟨c0, c1, c2, c3, c4, z⟩ := h.five
  have HW : Hid (T.has x = (T.dear.contains x || T.plain.contains x)) := Lib.hid rfl
  obtain ⟨p, hp⟩ : ∃ p, p = T.plain.contains x := ⟨_, rfl⟩
  obtain ⟨d, hd⟩ : ∃ d, d = T.dear.contains x := ⟨_, rfl⟩
  rw [← hp, ← hd] at HW
  have HH := Lib.hid h
  have HX := Lib.hid hx
  clear hx
  go_enter Tryd.func36, Tryd.ntmps36
  go_wp2_with fail
  refine (out_any x h.o1 (by have := HL.out.1; omega)).mono ?_
  rintro e w1 ⟨v1', rfl, ho1, hv1, hg1⟩
  obtain ⟨a1, m1, k1, rfl⟩ := own_shape ho1
  rw [← hp]
  have r1 := HH.out.row.grown hg1 (fun e => HH.out.g1 e.symm)
  have e2 := r1.cell 2 rfl
  have z2 := r1.free 2
  obtain ⟨N1, S1⟩ := HH.out.set1 hg1 ho1 (.inl hv1)
  clear c0 c1 c2 c3 c4 z h ho1 hv1 hg1 r1 hp
  go_upto_region 5 with fail
  obtain ⟨w2, hw2⟩ : ∃ w2, w2 = w1.setCell ⟨M.g, 2, none⟩ (.slice a1 m1 k1) := ⟨_, rfl⟩
  rw [← hw2] at N1 S1 ⊢
  clear hw2 e2 z2
  obtain ⟨c0, c1, c2, c3, c4, z⟩ := N1.five
  have HN := Lib.hid (And.intro N1 S1)
  go_wp2_with fail
  refine (out_any x N1.o2 (Nat.le_trans HL.out.2 (by decide))).mono ?_
  rintro e w3 ⟨v2', rfl, ho2, hv2, hg2⟩
  obtain ⟨a2, m2, k2, rfl⟩ := own_shape ho2
  have hd' : T.dear.contains x = d := hd.symm
  rw [show ({ T with plain := T.plain.erase x } : TS).dear.contains x = d from hd']
  have r2 := HN.out.1.row.grown hg2 (fun e => HN.out.1.g2 e.symm)
  have e3 := r2.cell 3 rfl
  have z3 := r2.free 3
  obtain ⟨N2, S2⟩ := HN.out.1.set2 hg2 ho2 (.inl hv2)
  have S3 := HN.out.2.trans S2
  clear c0 c1 c2 c3 c4 z N1 S1 S2 ho2 hv2 hg2 r2 hd hd'
  go_upto_region 6 with fail
  obtain ⟨w4, hw4⟩ : ∃ w4, w4 = w3.setCell ⟨M.g, 3, none⟩ (.slice a2 m2 k2) := ⟨_, rfl⟩
  rw [← hw4] at N2 S3 ⊢
  clear hw4 e3 z3
  have N3 : TurnAt B n w4 { M with v1 := .slice a1 m1 k1, v2 := .slice a2 m2 k2 } (T.outs x) := N2
  clear N2
  obtain ⟨c0, c1, c2, c3, c4, z⟩ := N3.five
  have HNN := Lib.hid (And.intro N3 S3)
  clear N3 S3
  go_wp2_with (at_delete; refine wpList_delete_bm rfl _ _ 98 rfl Tryd.underlying3 Tryd.underlying98 rfl HNN.out.1.pm x rfl HX.out ?_)
  intro w5 hb5 hg5
  obtain ⟨N4, S4⟩ := HNN.out.1.setM hg5 hb5
  have S5 := HNN.out.2.trans S4
  clear hb5 hg5 c0 c1 c2 c3 c4 z S4
  go_wp2_with fail
  all_goals (
    go_returns
    refine ⟨by rw [HW.out]; cases p <;> cases d <;> first | rfl | simp_all, _, N4, S5⟩)
theorem Pin_any (x : Int) (on : Bool) (w : World) (h : TurnAt B n w M T) (hn : n < 100000) (hx : In64 x) :
    Calls Tryd.prog 29 #[pt M.g, .int .i64 x, .bool on] w fun e w' => e = .returned (.bool (T.has x)) ∧ TurnAt B (n + 1) w' M (T.pinT x on) ∧ Step M M w w' := by
  have hH := Has_any x w h
  rw [show (T.dear.contains x || T.plain.contains x) = T.has x from rfl] at hH
  have HX := Lib.hid hx
  have HN := Lib.hid hn
  have HT := Lib.hid h
  clear hx hn
  obtain ⟨c0, c1, c2, c3, c4, z⟩ := h.five
  unfold TS.pinT
  cases hh : T.has x with
  | false =>
    rw [hh] at hH
    go_enter Tryd.func29, Tryd.ntmps29
    go_wp2_with fail
    refine hH.mono ?_
    rintro e w' ⟨rfl, rfl⟩
    go_wp2_with fail
    go_returns
    exact ⟨rfl, HT.out.mono (by omega), Step.refl _ _⟩
  | true =>
    rw [hh] at hH
    simp only [if_true]
    cases on with
    | true =>
      simp only [if_true]
      go_enter Tryd.func29, Tryd.ntmps29
      go_wp2_with fail
      refine hH.mono ?_
      rintro e w' ⟨rfl, rfl⟩
      go_wp2_with (at_mapUpdate; refine wpList_mapUpdate_bm rfl _ _ _ 98 rfl Tryd.underlying3 Tryd.underlying98 Tryd.underlying4 rfl h.pm HN.out x rfl HX.out rfl ?_)
      intro w5 hb5 hg5
      obtain ⟨N4, S4⟩ := h.setM hg5 hb5
      go_wp2_with fail
      go_returns
      exact ⟨rfl, N4, S4⟩
    | false =>
      simp only [Bool.false_eq_true, if_false]
      go_enter Tryd.func29, Tryd.ntmps29
      go_wp2_with fail
      refine hH.mono ?_
      rintro e w' ⟨rfl, rfl⟩
      go_wp2_with (at_delete; refine wpList_delete_bm rfl _ _ 98 rfl Tryd.underlying3 Tryd.underlying98 rfl h.pm x rfl HX.out ?_)
      intro w5 hb5 hg5
      obtain ⟨N4, S4⟩ := h.setM hg5 hb5
      go_wp2_with fail
      go_returns
      exact ⟨rfl, N4.mono (by omega), S4⟩
end Go.Proofs.YtijagdpkclghnaaDoor
