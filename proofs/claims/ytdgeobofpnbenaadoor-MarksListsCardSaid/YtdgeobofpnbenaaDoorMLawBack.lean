import Derived.Test.YtdgeobofpnbenaaDoorMSame
import Derived.Test.YtdgeobofpnbenaaDoorSetE
import Derived.Test.YtdgeobofpnbenaaDoorMWakes
import Derived.Test.YtdgeobofpnbenaaDoorMRefD
import Derived.Test.YtdgeobofpnbenaaDoorMEq
import Derived.Test.YtdgeobofpnbenaaDoorMRefL
import Derived.Deep.LoopGhost
import Derived.Deep.DeepCutAuto
namespace Go.Proofs.YtdgeobofpnbenaaDoor
open Go Go.RowKit
set_option maxRecDepth 100000
/-- An owned row of pairs, cell by cell. -/
theorem own_pairs {w : World} {B : Nat} {E : TypeId} {v : Value} {rs : List (Nat × Nat)} (h : w.ownsRow B E 2 v rs.length (Set4.pairs rs)) :
    ∃ a c, v = .slice a rs.length c ∧ ∀ k (hk : k < rs.length), ∃ g, B ≤ g ∧ a = some ⟨g, 0, none⟩ ∧ w.cell? ⟨g, k * 2, none⟩ = some (.int .i64 ((rs[k].1 : Nat) : Int)) ∧ w.cell? ⟨g, k * 2 + 1, none⟩ = some (.int .i64 ((rs[k].2 : Nat) : Int)) := by
  have at0 : ∀ (rs : List (Nat × Nat)) k (hk : k < rs.length), (Set4.pairs rs)[k * 2]? = some (.int .i64 ((rs[k].1 : Nat) : Int)) ∧ (Set4.pairs rs)[k * 2 + 1]? = some (.int .i64 ((rs[k].2 : Nat) : Int)) := by
    intro rs
    induction rs with
    | nil => intro k hk; cases hk
    | cons p rs ih =>
      intro k hk
      cases k with
      | zero => exact ⟨rfl, rfl⟩
      | succ k =>
        have := ih k (by simpa using hk)
        rw [show (k + 1) * 2 = k * 2 + 2 by omega]
        exact this
  rcases h.2 with ⟨h1, h2⟩ | ⟨g, cap, cur, h1, _⟩
  · refine ⟨none, 0, by rw [h1, h2], fun k hk => by omega⟩
  · subst h1
    have h' : w.ownsRow B E 2 (.slice (some ⟨g, 0, none⟩) rs.length cap) rs.length (Set4.pairs rs) := h
    refine ⟨_, cap, rfl, fun k hk => ⟨g, (h'.lt g rfl).1, rfl, ?_, ?_⟩⟩
    · rw [h'.cellAt (k * 2) (by omega)]; exact (at0 rs k hk).1
    · rw [h'.cellAt (k * 2 + 1) (by omega)]; exact (at0 rs k hk).2
theorem own_slice4 {w : World} {B : Nat} {E : TypeId} {v : Value} {n : Nat} {xs : List Value} (h : w.ownsRow B E 1 v n xs) : ∃ a c, v = .slice a n c := by
  rcases h.2 with ⟨h1, rfl⟩ | ⟨g, cap, cur, h1, _⟩
  · exact ⟨_, _, h1⟩
  · exact ⟨_, _, h1⟩
theorem ints_nats (xs : List Nat) : ints (xs.map fun (n : Nat) => (n : Int)) = nats xs := by unfold ints nats; rw [List.map_map]; rfl
theorem ofInts_list (s : Set4) : Set4.ofInts (s.list.map fun (n : Nat) => (n : Int)) = s := by
  refine (Set4.eq_of fun i hi => ?_).symm
  cases h : s.has i with
  | true =>
    symm
    exact decide_eq_true (List.mem_map.2 ⟨i, List.mem_filter.2 ⟨List.mem_range.2 hi, h⟩, rfl⟩)
  | false =>
    symm
    refine decide_eq_false fun hm => ?_
    obtain ⟨x, hx, e⟩ := List.mem_map.1 hm
    obtain rfl : x = i := by omega
    have := (List.mem_filter.1 hx).2
    rw [h] at this; cases this
theorem setCell_block (w : World) (b i : Nat) (v : Value) (c : Nat) (h : c ≠ b) : (w.setCell ⟨b, i, none⟩ v).heap[c]? = w.heap[c]? := by
  unfold World.setCell
  split <;> simp [Array.getElem?_modify, Ne.symm h]
set_option maxHeartbeats 4000000 in
theorem back_walk (s : Set4) (w : World) (hT : Tab w) : Calls Tryd.prog 6 #[s.val] w fun e w' => e = .returned (.bool true) ∧ Below w.heap.size w w' := by
  have hlt := hT.lt
  have HT := Lib.hid hT
  clear hT
  obtain ⟨i0, hi, hz0, hz1, hz2⟩ := info_parts infoInt
  have HI : Hid (Tryd.prog.info? 3 = some i0 ∧ i0.zero = some (.int .i64 0) ∧ i0.size = 1 ∧ i0.bytes = 8) := ⟨hi, hz0, hz1, hz2⟩
  clear hi hz0 hz1 hz2
  go_enter Tryd.func6, Tryd.ntmps6
  go_wp2_with fail
  refine (List_any s _ (HT.out.below (by repeat' (first | (with_reducible exact Below.refl _ _) | (with_reducible assumption) | (with_reducible refine Below.setCell ?_ ?_ _) | (with_reducible refine Below.ext ?_ _ ?_) | (with_reducible refine Below.alloc ?_ ?_ _) | (with_reducible refine Below.drew ?_) | (with_reducible refine Below.drewN ?_ _) | (with_reducible exact Nat.le_refl _) | (dsimp only; omega) | (simp <;> omega))) hlt)).mono ?_
  rintro e w1 ⟨⟨v4, rfl, ho⟩, hb1⟩
  have R1 : Hid (w1.rd v4 (nats s.list)) := ho.rd
  obtain ⟨a4, c4, rfl⟩ := own_slice4 ho
  have r1 : w1.row (w.heap.size + 1) s.cells 24 := (World.row.new' (cs := s.cells) (by simp)).below hb1 (by simp)
  have hB1 : Below w.heap.size w w1 := (((Below.refl _ _).alloc (Nat.le_refl _) _).alloc (by simp) _).trans (hb1.mono (by simp; omega))
  have hs1 := r1.lt
  clear ho hb1
  obtain ⟨c0, c1, c2, c3, z0⟩ := r1.four
  go_wp2_with fail
  refine (Runs_any s _ ((HT.out.below hB1 hlt).alloc _)).mono ?_
  rintro e w2 ⟨⟨v5, rfl, ho⟩, hb2⟩
  obtain ⟨a5, c5, rfl, hpairs0⟩ := own_pairs ho
  have hpairs : ∀ k (hk : k < (s.runsFrom 0).length), ∃ g, w1.heap.size < g ∧ a5 = some ⟨g, 0, none⟩ ∧ w2.cell? ⟨g, k * 2, none⟩ = some (.int .i64 (((s.runsFrom 0)[k].1 : Nat) : Int)) ∧ w2.cell? ⟨g, k * 2 + 1, none⟩ = some (.int .i64 (((s.runsFrom 0)[k].2 : Nat) : Int)) := fun k hk => by
    obtain ⟨g, h1, h2⟩ := hpairs0 k hk
    refine ⟨g, ?_, h2⟩
    simp at h1; omega
  clear hpairs0
  have q2 : w2.row w1.heap.size Set4.zero.cells 24 := (World.row.new w1 Set4.zero.cells _).below hb2 (by simp)
  have hB2 : Below w1.heap.size w1 w2 := ((Below.refl w1.heap.size w1).alloc (Nat.le_refl _) _).trans (hb2.mono (by simp))
  have HP := Lib.hid hpairs
  clear hb2 ho c0 c1 c2 c3 z0 hpairs
  have hs2 := q2.lt
  obtain ⟨b5, hb5⟩ : ∃ b, b = w1.heap.size := ⟨_, rfl⟩
  rw [← hb5] at hs1 hs2 q2 HP hB2 ⊢
  have HB5 := Lib.hid (Nat.le_of_eq hb5.symm)
  clear hb5
  have hrl := Set4.runsFrom_len s 257 0 (by omega)
  go_wp2
  go_loopg [17] 257 (fun g x wr => ∃ (k : Nat), k ≤ (s.runsFrom 0).length ∧ g = 257 - k ∧ x = .int .i64 k ∧ Below b5 w1 wr ∧ w2.heap.size ≤ wr.heap.size ∧ (∀ b, b < w2.heap.size → b ≠ b5 → wr.heap[b]? = w2.heap[b]?) ∧ wr.row b5 (Set4.ofRuns ((s.runsFrom 0).take k)).cells 24)
  case atStart => exact ⟨0, by omega, rfl, rfl, hB2, Nat.le_refl _, fun _ _ _ => rfl, by rw [List.take_zero, Set4.ofRuns_nil]; exact q2⟩
  case round =>
    obtain ⟨k, hk, hg, rfl, hB, hsz, hkeep, rb⟩ := hrel
    have HG := Lib.hid hg
    have HK := Lib.hid hkeep
    clear hg hkeep
    by_cases hlt2 : k < (s.runsFrom 0).length
    · obtain ⟨g5, hg5, rfl, c1, c2⟩ := HP.out k hlt2
      have hle := Set4.run_le s 257 0 (by omega) (s.runsFrom 0)[k] (List.getElem_mem hlt2)
      have HTK := Lib.hid (take_snoc (s.runsFrom 0) k hlt2)
      obtain ⟨⟨a, n⟩, hp⟩ : ∃ p, p = (s.runsFrom 0)[k] := ⟨_, rfl⟩
      rw [← hp] at c1 c2 hle HTK
      have lt5 := block_lt_of_cell c1
      have d1 : wr.cell? ⟨g5, k * 2, none⟩ = some (.int .i64 (a : Int)) := by rw [← c1]; unfold World.cell?; rw [HK.out g5 lt5 (by omega)]
      have d2 : wr.cell? ⟨g5, k * 2 + 1, none⟩ = some (.int .i64 (n : Int)) := by rw [← c2]; unfold World.cell?; rw [HK.out g5 lt5 (by omega)]
      have hle2 : a + n ≤ 256 := hle
      clear hp hle c1 c2
      obtain ⟨u, hu⟩ : ∃ u, u = Set4.ofRuns ((s.runsFrom 0).take k) := ⟨_, rfl⟩
      rw [← hu] at rb
      have HU := Lib.hid hu
      clear hu
      have lb := rb.lt
      go_upto_region 7 with fail
      obtain ⟨b7, hb7⟩ : ∃ b7, b7 = wr.heap.size := ⟨_, rfl⟩
      refine wp_world (fun wa => Below b5 w1 wa ∧ wa.heap.size = b7 + 1 ∧ wa.row b5 u.cells 24 ∧ wa.row b7 [.int .i64 (a : Int), .int .i64 (n : Int)] 44 ∧ Hid (∀ b, b < w2.heap.size → b ≠ b5 → wa.heap[b]? = w2.heap[b]?)) ⟨hB.alloc (by omega) _, by rw [hb7]; simp, rb.alloc _, by rw [hb7]; exact World.row.new wr [.int .i64 (a : Int), .int .i64 (n : Int)] _, fun b h1 h2 => (((Below.refl wr.heap.size wr).alloc (Nat.le_refl _) _).block b (by omega)).trans (HK.out b h1 h2)⟩ ?_
      rw [← hb7]
      have hlb : b5 < b7 := by omega
      have hsz7 : w2.heap.size ≤ b7 := by omega
      clear hb7 hB hsz rb HK d1 d2 lb lt5 hg5
      clear wr
      intro wa ⟨hB, hza, rb, r7, HK⟩
      obtain ⟨c0, c1, c2, c3, z0⟩ := rb.four
      obtain ⟨d0, d1, z1⟩ := r7.two
      refine wp_region_ext_head 12 (b7 + 1) (by omega) (by kernel_rfl) (by kernel_rfl) ?_
      intro _
      simp only [List.take_succ_cons, List.take_zero, List.drop_succ_cons, List.drop_zero]
      repeat (go_big_quiet_step (first | with_reducible exact Calls.ext_of (Upto_any _ _) | with_reducible exact Calls.ext_of (less_any _ _ _) | with_reducible exact Calls.ext_of (or_any _ _ _)))
      refine wpQuiet_nil ?_
      intro x
      go_wp2
      go_roundg (257 - (k + 1))
      case measure => have := HG.out; omega
      case rel =>
        refine ⟨k + 1, by omega, rfl, by go_num, ((((hB.ext x (by omega)).setCell (Nat.le_refl _) _).setCell (Nat.le_refl _) _).setCell (Nat.le_refl _) _).setCell (Nat.le_refl _) _, by simp; have := World.ext_size x; omega, fun b h1 h2 => ?_, ?_⟩
        · rw [setCell_block _ _ _ _ _ h2, setCell_block _ _ _ _ _ h2, setCell_block _ _ _ _ _ h2, setCell_block _ _ _ _ _ h2, World.ext_block x b (by omega)]
          exact HK.out b h1 h2
        · rw [HTK.out, ← Set4.ofRuns_snoc, ← HU.out]
          exact ((((rb.ext x (by omega)).set 0 _).set 1 _).set 2 _).set 3 _
    · obtain rfl : k = (s.runsFrom 0).length := by omega
      rw [List.take_length, Set4.ofRuns_runs] at rb
      have q1 : wr.row (w.heap.size + 1) s.cells 24 := r1.below hB (by omega)
      have R2 : Hid (wr.rd (.slice a4 s.list.length c4) (nats s.list)) := R1.out.below hB HB5.out
      have hB0 := hB1.trans (hB.mono (by omega))
      have lb := rb.lt
      have hsz1 := hB.size
      obtain ⟨c0, c1, c2, c3, z0⟩ := q1.four
      clear hB HK HP HG
      go_wp2_with fail
      refine Calls.pure_to (Next_any s 0 _ (HT.out.below hB0 hlt)) ?_
      intro w3 hb3
      have q1' := q1.below hb3 q1.lt
      have rb' := rb.below hb3 rb.lt
      have R3 : Hid (w3.rd (.slice a4 s.list.length c4) (nats s.list)) := R2.out.below hb3 (Nat.le_refl _)
      have hB3 := hB0.trans (hb3.mono hB0.size)
      have hsz3 := hb3.size
      clear q1 rb R2 hB0 hb3 c0 c1 c2 c3 z0
      have HN := Lib.hid (show (s.next 0) = s.next ((0 : Nat) : Int) by rfl)
      have hll := Set4.list_le s
      have HLL0 := Lib.hid (Set4.listFrom_zero s)
      have HBW := Lib.hid hB3.size
      have lb3 : b5 < w3.heap.size := by omega
      obtain ⟨b8, hb8⟩ : ∃ b8, b8 = w3.heap.size := ⟨_, rfl⟩
      rw [← hb8] at lb3
      have hb8' := Nat.le_of_eq hb8
      have hb9' := Nat.le_of_eq hb8.symm
      clear hb8
      go_wp2
      go_loopg [8, 9, 10] 257 (fun g v x y wz => ∃ (l : List Nat) (i : Nat) (o : Option Nat), g = 257 - i ∧ o = s.next i ∧ x = .int .i64 (o.getD 0 : Nat) ∧ y = .bool o.isSome ∧ l ++ s.listFrom i = s.list ∧ Below b8 w3 wz ∧ wz.ownsRow b8 3 1 v l.length (nats l))
      case atStart => exact ⟨[], 0, s.next 0, rfl, HN.out, rfl, rfl, HLL0.out, Below.refl _ _, World.ownsRow_nil _ _ _ _⟩
      case round =>
        obtain ⟨l, i, o, hg, ho, rfl, rfl, hl, hB, hown⟩ := hrel
        have HG := Lib.hid hg
        have HLL := Lib.hid hl
        have hlen := part_len (a := l) (b := s.listFrom i) (c := []) (s := s) (by rw [List.append_nil]; exact hl)
        have HT3 := Lib.hid (HT.out.below hB3 hlt)
        have r1 := q1'.below hB (by omega)
        clear hg hl
        obtain ⟨av, cv, hv⟩ := own_slice4 hown
        subst hv
        rcases o with _ | a
        · have hl := HLL.out
          rw [Set4.listFrom_none ho.symm, List.append_nil] at hl
          subst hl
          have rb1 := rb'.below hB (by omega)
          have hzz := hB.size
          have HTw := Lib.hid (HT3.out.below hB (by omega))
          have R4 : Hid (wr.rd (.slice a4 s.list.length c4) (nats s.list)) := R3.out.below hB (by omega)
          have R5 : Hid (wr.rd (.slice av s.list.length cv) (nats s.list)) := Lib.hid hown.rd
          have hBE := hB3.trans (hB.mono (by omega))
          have hBZ := hBE.size
          have hOf : Hid (∀ x : Ext wr.heap.size wr, Calls Tryd.prog 23 #[.slice a4 s.list.length c4] (wr.ext wr.heap.size x) fun e w' => e = .returned s.val ∧ Below (wr.ext wr.heap.size x).heap.size (wr.ext wr.heap.size x) w') := fun x => by
            have := Of_rd (s.list.map fun (n : Nat) => (n : Int)) (.slice a4 s.list.length c4) (wr.ext wr.heap.size x) (by rw [ints_nats]; exact R4.out.below (World.ext_below x) (Nat.le_refl _)) (by rw [List.length_map]; omega)
            rw [ofInts_list] at this; exact this
          have hSame : Hid (∀ x : Ext wr.heap.size wr, Calls Tryd.prog 28 #[.slice av s.list.length cv, .slice a4 s.list.length c4] (wr.ext wr.heap.size x) fun e w' => e = .returned (.bool true) ∧ Below (wr.ext wr.heap.size x).heap.size (wr.ext wr.heap.size x) w') := fun x =>
            same_any s.list _ _ _ (R5.out.below (World.ext_below x) (Nat.le_refl _)) (R4.out.below (World.ext_below x) (Nat.le_refl _)) (by omega)
          have hcnt : ((s.count : Int) == (s.list.length : Int)) = true := by rw [list_count]; exact beq_self_eq_true _
          have lz1 := r1.lt
          have lz2 := rb1.lt
          obtain ⟨c0, c1, c2, c3, z0⟩ := r1.four
          obtain ⟨d0, d1, d2, d3, z1⟩ := rb1.four
          clear R1 hB1 hB2 hrl q1' rb' R3 hB3 hsz3 HN HLL0 HBW lb3 hb8' hb9' hB hown ho HLL HG HT3
          go_wp2
          refine wp_region_ext wr.heap.size (Nat.le_refl _) (by kernel_rfl) (by kernel_rfl) ?_
          intro _
          repeat (go_big_quiet_step (first | with_reducible exact Calls.ext_of (wakes_any _ (HTw.out.ext _ (by omega))) | with_reducible exact Calls.ext_of (hOf.out _) | with_reducible exact Calls.ext_of (hSame.out _) | with_reducible exact Calls.ext_of (Count_any _ _)))
          refine wpQuiet_nil ?_
          intro x
          go_wp2
          go_ret
          exact ⟨rfl, hBE.ext x hBE.size⟩
        · obtain ⟨ha1, ha2, ha3, ha4⟩ := Set4.next_some ho.symm
          have HA := Lib.hid (show Set4.listFrom s i = a :: s.listFrom (a + 1) ∧ (i : Int) ≤ a from ⟨Set4.listFrom_some ho.symm, ha3⟩)
          clear ha2 ha3 ha4 ho
          have hzz := hB.size
          have hl3 : decide ((l.length : Int) < 300) = true := decide_eq_true (by omega)
          go_wp2_with (at_builtin; refine wpList_append_own _ rfl _ _ 25 rfl b8 3 i0 (.int .i64 0) 1 8 Tryd.underlying25 HI.out.1 HI.out.2.1 HI.out.2.2.1 HI.out.2.2.2 rfl (by decide) _ _ _ rfl (hown.alloc _) ⟨wr.heap.size, 0, none⟩ 1 1 [.int .i64 (a : Int)] rfl rfl ?c1 ?c2 ?c3 ?c4 ?c5 ?_)
          case c1 => exact cellOne _ _ _
          case c2 => simp [Value.oneCell']
          case c3 => unfold maxLen; omega
          case c4 => omega
          case c5 => simp; omega
          intro v' w4 ho2 hgr _
          have hB4 : Below b8 w3 w4 := (hB.alloc (by omega) _).grown hgr (by simp; omega) (fun k hk => by have := (hown.lt k hk).1; omega)
          have ho3 := own_snoc ho2 a rfl
          have s1 := q1'.below hB4 (by omega)
          have hT4 := Lib.hid (HT3.out.below hB4 (by omega))
          clear hown ho2 hgr hB r1
          obtain ⟨c0, c1, c2, c3, z0⟩ := s1.four
          go_wp2_with fail
          rw [show (a : Int) + 1 = ((a + 1 : Nat) : Int) by omega]
          obtain ⟨m, hm⟩ : ∃ m : Nat, m = a + 1 := ⟨_, rfl⟩
          rw [← hm]
          refine Calls.pure_to (Next_any s _ _ hT4.out) ?_
          intro w5 hb5
          have hB5 := hB4.trans (hb5.mono (by have := hB4.size; omega))
          have ho5 := ho3.below hb5
          go_wp2
          go_roundg (257 - m)
          case measure => have := HG.out; have := HA.out.2; omega
          case rel =>
            have e : s.next ((m : Nat) : Int) = s.next ((a : Int) + 1) := by rw [hm, show ((a + 1 : Nat) : Int) = (a : Int) + 1 by omega]
            refine ⟨l ++ [a], m, s.next ((m : Nat) : Int), rfl, rfl, by rw [e], by rw [e], ?_, hB5, ho5⟩
            rw [hm, ← HLL.out, HA.out.1]; simp
end Go.Proofs.YtdgeobofpnbenaaDoor
