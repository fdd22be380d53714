import Derived.Test.YtdgeobofpnbenaaDoorMLawBack
import Derived.Test.YtdgeobofpnbenaaDoorMRefR
import Derived.Test.YtdgeobofpnbenaaDoorSetF
import Derived.Deep.RegionWith
namespace Go.Proofs.YtdgeobofpnbenaaDoor
open Go Go.RowKit
set_option maxRecDepth 100000
/-- An owned list read at its last place. -/
theorem own_last {w : World} {B : Nat} {E : TypeId} {v : Value} {s : Set4} (h : w.ownsRow B E 1 v s.list.length (nats s.list)) :
    (lastW s = none ∧ ∃ a c, v = .slice a 0 c) ∨ (∃ m L g c, lastW s = some m ∧ v = .slice (some ⟨g, 0, none⟩) (L + 1) c ∧ L ≤ 256 ∧ B ≤ g ∧ w.cell? ⟨g, L, none⟩ = some (.int .i64 (m : Int))) := by
  rw [lastW_list]
  have hlen := Set4.list_le s
  cases e : s.list.getLast? with
  | none =>
    have e2 : s.list = [] := List.getLast?_eq_none_iff.1 e
    obtain ⟨a, c, rfl⟩ := own_slice4 h
    exact .inl ⟨rfl, a, c, by rw [e2]; rfl⟩
  | some m =>
    obtain ⟨xs, hxs⟩ := List.getLast?_eq_some_iff.1 e
    rw [hxs] at h hlen
    rcases h.2 with ⟨_, h0⟩ | ⟨g, cap, cur, rfl, h1, hh, _⟩
    · simp at h0
    · have e3 : (xs ++ [m]).length = xs.length + 1 := by simp
      rw [e3] at h hlen
      refine .inr ⟨m, xs.length, g, cap, rfl, by rw [e3], by omega, h1, ?_⟩
      rw [h.cellAt xs.length (by omega), nats_append, List.getElem?_append_right (by rw [nats_length]; omega), nats_length, Nat.sub_self]
      rfl
set_option maxHeartbeats 4000000 in
theorem lists_walk (s : Set4) (n : Int) (w : World) (hT : Tab w) : Calls Tryd.prog 7 #[s.val, .int .i64 n] w fun e w' => e = .returned (.bool true) ∧ Below w.heap.size w w' := by
  have hlt := hT.lt
  have HT := Lib.hid hT
  clear hT
  obtain ⟨k2, hk2⟩ : ∃ k2, bits .and .i64 n 255 = k2 := ⟨_, rfl⟩
  go_enter Tryd.func7, Tryd.ntmps7
  go_wp2_with fail
  refine (refList_any s _).mono ?_
  rintro e w1 ⟨⟨v6, rfl, ho⟩, hb1⟩
  have R1 : Hid (w1.rd v6 (nats s.list)) := ho.rd
  have r0 : w1.row w.heap.size s.cells 23 := ((World.row.new w s.cells _).alloc _).below hb1 (by simp; omega)
  have r1 : w1.row (w.heap.size + 1) s.cells 24 := (World.row.new' (cs := s.cells) (by simp)).below hb1 (by simp)
  have hB1 : Below w.heap.size w w1 := (((Below.refl _ _).alloc (Nat.le_refl _) _).alloc (by simp) _).trans (hb1.mono (by simp; omega))
  clear hb1
  have hs1 := r1.lt
  have HO := own_last ho
  clear ho
  obtain ⟨c0, c1, c2, c3, z0⟩ := r1.four
  go_wp2_with fail
  refine Calls.pure_to (Last_any s _) ?_
  intro w2 hb2
  have q0 := r0.below hb2 r0.lt
  have q1 := r1.below hb2 r1.lt
  have R2 : Hid (w2.rd v6 (nats s.list)) := R1.out.below hb2 (Nat.le_refl _)
  have hB2 := hB1.trans (hb2.mono hB1.size)
  have HO2 : (lastW s = none ∧ ∃ a c, v6 = .slice a 0 c) ∨ (∃ m L g c, lastW s = some m ∧ v6 = .slice (some ⟨g, 0, none⟩) (L + 1) c ∧ L ≤ 256 ∧ w2.cell? ⟨g, L, none⟩ = some (.int .i64 (m : Int))) := by
    rcases HO with h | ⟨m, L, g, c, h1, h2, h3, h4, h5⟩
    · exact .inl h
    · exact .inr ⟨m, L, g, c, h1, h2, h3, by rw [hb2.cell (p := ⟨g, L, none⟩) (block_lt_of_cell h5)]; exact h5⟩
  clear hb2 HO r0 r1 R1 hB1 c0 c1 c2 c3 z0 hs1
  rcases HO2 with ⟨hl, a6, c6, rfl⟩ | ⟨m, L, g6, c6, hl, rfl, hL, hc6⟩
  all_goals
    rw [hl]
    clear hl
    go_wp2
    refine wp_world (fun wr => Below w.heap.size w wr ∧ wr.row w.heap.size s.cells 23 ∧ wr.row (w.heap.size + 1) s.cells 24 ∧ wr.row w2.heap.size [.int .i64 n, .int .i64 k2] 3 ∧ Below w2.heap.size w2 wr) ⟨hB2.alloc hB2.size _, q0.alloc _, q1.alloc _, World.row.new w2 [.int .i64 n, .int .i64 k2] _, (Below.refl w2.heap.size w2).alloc (Nat.le_refl _) _⟩ ?_
    intro wr ⟨hB, r0, r1, rk, hW⟩
    have hq := q1.lt
    clear hB2 q0 q1
    have HW := Lib.hid hW
    clear hW
    refine wp_loop_rounds 3 ?_
    rw [rounds_succ]
    obtain ⟨d0, d1, y0⟩ := rk.two
    obtain ⟨c0, c1, c2, c3, z0⟩ := r1.four
    go_wp2_with fail
    refine Calls.pure_to (Next_any s _ _ (HT.out.below hB hlt)) ?_
    intro w3 hb3
    have q0 := r0.below hb3 r0.lt
    have q1 := r1.below hb3 r1.lt
    have qk := rk.below hb3 rk.lt
    have hB3 := hB.trans (hb3.mono hB.size)
    have HW3 := Lib.hid (HW.out.trans (hb3.mono HW.out.size))
    clear hb3 r0 r1 rk hB HW d0 d1 y0 c0 c1 c2 c3 z0
    obtain ⟨c0, c1, c2, c3, z0⟩ := q0.four
    go_wp2_with fail
    refine Calls.pure_to (refNext_any s _ _) ?_
    intro w4 hb4
    have r0 := q0.below hb4 q0.lt
    have r1 := q1.below hb4 q1.lt
    have rk := qk.below hb4 qk.lt
    have hB4 := hB3.trans (hb4.mono hB3.size)
    have HW4 := Lib.hid (HW3.out.trans (hb4.mono HW3.out.size))
    clear hb4 q0 q1 qk hB3 HW3 c0 c1 c2 c3 z0
    go_wp2
    rw [rounds_succ]
    obtain ⟨d0, d1, y0⟩ := rk.two
    obtain ⟨c0, c1, c2, c3, z0⟩ := r1.four
    go_wp2_with fail
    refine Calls.pure_to (Next_any s _ _ (HT.out.below hB4 hlt)) ?_
    intro w5 hb5
    have q0 := r0.below hb5 r0.lt
    have q1 := r1.below hb5 r1.lt
    have qk := rk.below hb5 rk.lt
    have hB5 := hB4.trans (hb5.mono hB4.size)
    have HW5 := Lib.hid (HW4.out.trans (hb5.mono HW4.out.size))
    clear hb5 r0 r1 rk hB4 HW4 d0 d1 y0 c0 c1 c2 c3 z0
    obtain ⟨c0, c1, c2, c3, z0⟩ := q0.four
    go_wp2_with fail
    refine Calls.pure_to (refNext_any s _ _) ?_
    intro w6 hb6
    have r0 := q0.below hb6 q0.lt
    have r1 := q1.below hb6 q1.lt
    have hB6 := hB5.trans (hb6.mono hB5.size)
    have R6 := Lib.hid (R2.out.below (HW5.out.trans (hb6.mono HW5.out.size)) (Nat.le_refl _))
    clear hb6 q0 q1 qk hB5 HW5 R2 c0 c1 c2 c3 z0
    go_wp2
    rw [rounds_succ]
    obtain ⟨c0, c1, c2, c3, z0⟩ := r0.four
    obtain ⟨d0, d1, d2, d3, y0⟩ := r1.four
    go_upto_region 14 with fail
    go_cut [15, 16] (fun x y wc => ∃ B1 B2, wc.ownsRow B1 44 2 x (s.runsFrom 0).length (Set4.pairs (s.runsFrom 0)) ∧ wc.ownsRow B2 44 2 y (s.runsFrom 0).length (Set4.pairs (s.runsFrom 0)) ∧ Below w.heap.size w wc ∧ wc.row (w.heap.size + 1) s.cells 24 ∧ Below w6.heap.size w6 wc)
    case first =>
      have h60 := r0.lt
      go_region_with (first
        | (go_at_call 26; refine (Runs_any s _ (HT.out.below (by first | exact hB6 | exact hB6.drewN _) hlt)).mono ?_; rintro e w7 ⟨⟨v7, rfl, ho7⟩, hb7⟩; have q0 := (by first | exact r0.below hb7 h60 | exact (r0.drewN _).below hb7 h60 : w7.row w.heap.size s.cells 23); obtain ⟨e0, e1, e2, e3, y1⟩ := q0.four)
        | (go_at_call 31; refine (refRuns_any s _).mono ?_; rintro e w8 ⟨⟨v8, rfl, ho8⟩, hb8⟩))
      all_goals
        go_wp2_with fail
        go_meet
        case rel =>
          have b76 : Below w6.heap.size w6 w7 := by first | exact hb7 | exact ((Below.refl w6.heap.size w6).drewN _).trans hb7
          have b87 : Below w7.heap.size w7 w8 := by first | exact hb8 | exact ((Below.refl w7.heap.size w7).drewN _).trans hb8
          exact ⟨_, _, ho7.below b87, ho8, hB6.trans ((b76.trans (b87.mono b76.size)).mono hB6.size), (r1.below b76 r1.lt).below b87 (r1.below b76 r1.lt).lt, b76.trans (b87.mono b76.size)⟩
    case rest =>
      obtain ⟨B1, B2, o1, o2, hB7, r17, hW7⟩ := hcut
      obtain ⟨a15, c15, rfl, P1⟩ := own_pairs o1
      obtain ⟨a16, c16, rfl, P2⟩ := own_pairs o2
      have R7 := Lib.hid (R6.out.below hW7 (Nat.le_refl _))
      have HP1 := Lib.hid P1
      have HP2 := Lib.hid P2
      have hrl := Set4.runsFrom_len s 257 0 (by omega)
      clear o1 o2 P1 P2 hW7 r0 r1 R6 hB6
      go_wp2
      go_loopw [93] (fun x wr => ∃ (k : Nat), k ≤ (s.runsFrom 0).length ∧ x = .int .i64 k ∧ Below wc.heap.size wc wr) (fun x _ => (s.runsFrom 0).length - (intOf x).toNat)
      case atStart => exact ⟨0, by omega, rfl, Below.refl _ _⟩
      case round =>
        obtain ⟨k, hk, rfl, hBk⟩ := hrel
        by_cases hlt2 : k < (s.runsFrom 0).length
        · obtain ⟨g1, _, rfl, e1, e2⟩ := HP1.out k hlt2
          obtain ⟨g2, _, rfl, e3, e4⟩ := HP2.out k hlt2
          have f1 : wr.cell? ⟨g1, k * 2, none⟩ = _ := (hBk.cell (p := ⟨g1, k * 2, none⟩) (block_lt_of_cell e1)).trans e1
          have f2 : wr.cell? ⟨g1, k * 2 + 1, none⟩ = _ := (hBk.cell (p := ⟨g1, k * 2 + 1, none⟩) (block_lt_of_cell e2)).trans e2
          have f3 : wr.cell? ⟨g2, k * 2, none⟩ = _ := (hBk.cell (p := ⟨g2, k * 2, none⟩) (block_lt_of_cell e3)).trans e3
          have f4 : wr.cell? ⟨g2, k * 2 + 1, none⟩ = _ := (hBk.cell (p := ⟨g2, k * 2 + 1, none⟩) (block_lt_of_cell e4)).trans e4
          clear e1 e2 e3 e4 HP1 HP2
          go_wp2
          go_quiet (fail)
          go_wp2
          go_roundw
          case rel => exact ⟨k + 1, by omega, by go_num, hBk.drewN _⟩
          case measure => simp [intOf] <;> omega
        · have hB8 := hB7.trans (hBk.mono hB7.size)
          have r8 := r17.below hBk r17.lt
          have R8 := Lib.hid (R7.out.below hBk (Nat.le_refl _))
          clear hBk r17 R7 HP1 HP2 hB7
          go_wp2_with fail
          refine Calls.pure_to (wakes_any _ (HT.out.below hB8 hlt)) ?_
          intro w9 hb9
          have hB9 := hB8.trans (hb9.mono hB8.size)
          have r9 := r8.below hb9 r8.lt
          have R9 := Lib.hid (R8.out.below hb9 (Nat.le_refl _))
          clear hb9 r8 R8 hB8
          obtain ⟨d0, d1, d2, d3, y0⟩ := r9.four
          go_wp2_with fail
          refine (List_any s _ (HT.out.below hB9 hlt)).mono ?_
          rintro e w10 ⟨⟨v10, rfl, ho10⟩, hb10⟩
          have hB10 := hB9.trans (hb10.mono hB9.size)
          have R10 := Lib.hid (R9.out.below hb10 (Nat.le_refl _))
          have R11 := Lib.hid ho10.rd
          have hll := Set4.list_le s
          clear hb10 r9 R9 hB9 ho10 d0 d1 d2 d3 y0
          go_wp2_with fail
          refine Calls.pure_to (same_any s.list _ _ _ R11.out R10.out (by omega)) ?_
          intro w11 hb11
          have hB11 := hB10.trans (hb11.mono hB10.size)
          go_wp2
          go_ret
          exact ⟨rfl, hB11⟩
end Go.Proofs.YtdgeobofpnbenaaDoor
