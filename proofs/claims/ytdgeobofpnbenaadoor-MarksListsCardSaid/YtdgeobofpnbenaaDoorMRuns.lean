import Derived.Test.YtdgeobofpnbenaaDoorMList
import Derived.Test.YtdgeobofpnbenaaDoorSetC
import Derived.Test.YtdgeobofpnbenaaDoorExt2
import Derived.Deep.LoopGhost
namespace Go.Proofs.YtdgeobofpnbenaaDoor
open Go Go.RowKit
set_option maxRecDepth 100000
theorem infoPair : (Tryd.prog.info? 44).map (fun i => (i.zero, i.size, i.bytes)) = some (some (.agg #[.int .i64 0, .int .i64 0]), 2, 16) := by kernel_rfl
theorem cellTwo (w : World) (u v : Value) (t : TypeId) : ∀ (j : Nat) (x : Value), [u, v][j]? = some x → (w.alloc (.cells #[u, v] t)).cell? ((⟨w.heap.size, 0, none⟩ : Addr).add j) = some x := by
  intro j x h
  rcases j with _ | _ | j
  · simp at h; subst h; simp [Addr.add]
  · simp at h; subst h; simp [Addr.add]
  · simp at h
theorem own_pair {w : World} {B : Nat} {E : TypeId} {v : Value} {l : List (Nat × Nat)} {x y : Int} (h : w.ownsRow B E 2 v (l.length + 1) (Set4.pairs l ++ [.int .i64 x, .int .i64 y])) (a b : Nat) (hx : x = (a : Int)) (hy : y = (b : Int)) : w.ownsRow B E 2 v (l ++ [(a, b)]).length (Set4.pairs (l ++ [(a, b)])) := by
  subst hx hy
  rw [Set4.pairs_append, List.length_append]
  exact h
theorem own_mono {w : World} {B B' : Nat} {e : TypeId} {k : Nat} {v : Value} {n : Nat} {xs : List Value} (h : w.ownsRow B e k v n xs) (hB : B' ≤ B) : w.ownsRow B' e k v n xs := by
  obtain ⟨h1, h2⟩ := h
  refine ⟨h1, ?_⟩
  rcases h2 with h2 | ⟨g, cap, cur, h3, h4, h5⟩
  · exact .inl h2
  · exact .inr ⟨g, cap, cur, h3, Nat.le_trans hB h4, h5⟩
theorem runs_len {l : List (Nat × Nat)} {s : Set4} {i : Nat} (h : l ++ s.runsFrom i = s.runsFrom 0) : l.length ≤ 257 := by
  have := Set4.runsFrom_len s 257 0 (by omega)
  rw [← h, List.length_append] at this; omega
set_option maxHeartbeats 4000000 in
theorem Runs_any (s : Set4) (w : World) (hT : Tab w) : Calls Tryd.prog 26 #[s.val] w fun e w' => (∃ v, e = .returned v ∧ w'.ownsRow w.heap.size 44 2 v (s.runsFrom 0).length (Set4.pairs (s.runsFrom 0))) ∧ Below w.heap.size w w' := by
  have hlt := hT.lt
  have HT := Lib.hid hT
  clear hT
  obtain ⟨i0, hi, hz0, hz1, hz2⟩ := info_parts infoPair
  have HI : Hid (Tryd.prog.info? 44 = some i0 ∧ i0.zero = some (.agg #[.int .i64 0, .int .i64 0]) ∧ i0.size = 2 ∧ i0.bytes = 16) := ⟨hi, hz0, hz1, hz2⟩
  clear hi hz0 hz1 hz2
  go_enter Tryd.func26, Tryd.ntmps26
  go_wp2_with fail
  refine Calls.pure_to (Upto_any 256 _) ?_
  intro w1 hb1
  have r0 : w1.row w.heap.size s.cells 24 := (World.row.new w s.cells _).below hb1 (by simp)
  have hB1 : Below w.heap.size w w1 := ((Below.refl _ _).alloc (Nat.le_refl _) _).trans (hb1.mono (by simp))
  clear hb1
  have hz1 := r0.lt
  obtain ⟨c0, c1, c2, c3, z0⟩ := r0.four
  rw [show (256 : Int).toNat = 256 by rfl]
  go_wp2_with fail
  refine Calls.pure_to (Next_any s 0 _ ((HT.out.below hB1 hlt).alloc _)) ?_
  intro w2 hb2
  have q0 : w2.row w.heap.size s.cells 24 := (r0.alloc _).below hb2 (by simp; omega)
  have q1 : w2.row w1.heap.size (Set4.upto 256).cells 24 := (World.row.new w1 (Set4.upto 256).cells _).below hb2 (by simp)
  have hB2 : Below w.heap.size w w2 := (hB1.alloc (by omega) _).trans (hb2.mono (by simp; omega))
  clear hb2 c0 c1 c2 c3 z0 r0
  go_wp2
  obtain ⟨b1, hb1⟩ : ∃ b1, b1 = w1.heap.size := ⟨_, rfl⟩
  rw [← hb1] at q1 hz1 ⊢
  have HN := Lib.hid (show (s.next 0) = s.next ((0 : Nat) : Int) by rfl)
  clear hb1 hB1
  go_loopg [3, 5, 6] 257 (fun g v x y wr => ∃ (l : List (Nat × Nat)) (i : Nat) (o : Option Nat), g = 257 - i ∧ o = s.next i ∧ x = .int .i64 (o.getD 0 : Nat) ∧ y = .bool o.isSome ∧ l ++ s.runsFrom i = s.runsFrom 0 ∧ Below w.heap.size w wr ∧ wr.row w.heap.size s.cells 24 ∧ wr.row b1 (Set4.upto 256).cells 24 ∧ wr.ownsRow (b1 + 1) 44 2 v l.length (Set4.pairs l))
  case atStart => exact ⟨[], 0, s.next 0, rfl, HN.out, rfl, rfl, rfl, hB2, q0, q1, World.ownsRow_nil _ _ _ _⟩
  case round =>
    obtain ⟨l, i, o, hg, ho, rfl, rfl, hl, hB, p0, p1, hown⟩ := hrel
    clear q0 q1 hB2
    have HG := Lib.hid hg
    have HLL := Lib.hid hl
    have hlen := runs_len hl
    clear hg hl
    rcases o with _ | a
    · have HO := Lib.hid ho
      clear ho
      go_wp2
      go_ret
      have hl := HLL.out
      rw [Set4.runsFrom_none HO.out.symm, List.append_nil] at hl
      rw [← hl]
      exact ⟨⟨_, rfl, own_mono hown (by omega)⟩, hB⟩
    · obtain ⟨ha1, ha2, ha3, ha4⟩ := Set4.next_some ho.symm
      obtain ⟨k1, k2, k3, k4⟩ := Set4.runEnd_spec s a ha2
      have HA := Lib.hid (show Set4.runsFrom s i = (a, s.runEnd a - a) :: s.runsFrom (s.runEnd a) ∧ (i : Int) ≤ a from ⟨Set4.runsFrom_some ho.symm, ha3⟩)
      clear ha2 ha3 ha4 k3 k4 ho
      have hT1 := Lib.hid (HT.out.below hB hlt)
      obtain ⟨c0, c1, c2, c3, z0⟩ := p0.four
      obtain ⟨d0, d1, d2, d3, z1⟩ := p1.four
      go_wp2_with fail
      refine Calls.pure_to (less_any (Set4.upto 256) s _) ?_
      intro w3 hb3
      go_wp2_with fail
      refine Calls.pure_to (Next_any ((Set4.upto 256).less s) (a : Int) _ (hT1.out.below hb3 hT1.out.lt)) ?_
      intro w4 hb4
      have hb := hb3.trans (hb4.mono hb3.size)
      clear hb3 hb4 c0 c1 c2 c3 z0 d0 d1 d2 d3 z1
      have p0' := p0.below hb p0.lt
      have p1' := p1.below hb p1.lt
      have hown' := hown.below hb
      have hB' := hB.trans (hb.mono hB.size)
      have hT2 := Lib.hid (HT.out.below hB' hlt)
      have hlt1 := p1'.lt
      clear p0 p1 hown hB hb hT1
      obtain ⟨o2, ho2⟩ : ∃ o2, o2 = ((Set4.upto 256).less s).next (a : Int) := ⟨_, rfl⟩
      rw [← ho2]
      have HE := Lib.hid (show s.runEnd a = o2.getD 256 by rw [ho2]; rfl)
      clear ho2
      obtain ⟨e, he⟩ : ∃ e, e = s.runEnd a := ⟨_, rfl⟩
      rw [← he] at k1 k2
      have HEE := Lib.hid he
      clear he
      have hE2 : e = o2.getD 256 := by rw [HEE.out, HE.out]
      have HE2 := Lib.hid hE2
      clear hE2
      rcases o2 with _ | m
      · obtain rfl : e = 256 := HE2.out
        have hsz : w.heap.size < w4.heap.size := p0'.lt
        go_wp2_with (at_builtin; refine wpList_append_own _ rfl _ _ 42 rfl (b1 + 1) 44 i0 (.agg #[.int .i64 0, .int .i64 0]) 2 16 Tryd.underlying42 HI.out.1 HI.out.2.1 HI.out.2.2.1 HI.out.2.2.2 rfl (by decide) _ _ _ rfl (hown'.alloc _) ⟨w4.heap.size, 0, none⟩ 1 1 [.int .i64 (a : Int), .int .i64 (256 - (a : Int))] rfl rfl ?c1 ?c2 ?c3 ?c4 ?c5 ?_)
        case c1 => exact cellTwo _ _ _ _
        case c2 => simp [Value.oneCell']
        case c3 => unfold maxLen; omega
        case c4 => omega
        case c5 => simp; omega
        intro v' w5 ho1 hgr _
        have n0 : some w.heap.size ≠ u3.ownBlock := fun e => by have := hown'.lt _ e.symm; omega
        have n1 : some b1 ≠ u3.ownBlock := fun e => by have := hown'.lt _ e.symm; omega
        have s0 := (p0'.alloc (.cells #[.int .i64 (a : Int), .int .i64 (256 - (a : Int))] 44)).grown hgr n0
        have s1 := (p1'.alloc (.cells #[.int .i64 (a : Int), .int .i64 (256 - (a : Int))] 44)).grown hgr n1
        have hB5 : Below w.heap.size w w5 := (hB'.alloc (by omega) _).grown hgr (by simp; omega) (fun k hk => by have := (hown'.lt k hk).1; omega)
        have ho2 := own_pair ho1 a (256 - a) rfl (by omega)
        have hT3 := Lib.hid (HT.out.below hB5 hlt)
        clear ho1 hgr hown' p0' p1' hB' hT2 n0 n1 hsz
        obtain ⟨c0, c1, c2, c3, z0⟩ := s0.four
        go_wp2_with fail
        refine Calls.pure_to (Next_any s (256 : Int) _ hT3.out) ?_
        intro w6 hb6
        have t0 := s0.below hb6 s0.lt
        have t1 := s1.below hb6 s1.lt
        have ho3 := ho2.below hb6
        have hB6 := hB5.trans (hb6.mono hB5.size)
        clear s0 s1 ho2 hb6 hB5 hT3 c0 c1 c2 c3 z0
        go_wp2
        go_roundg (257 - 256)
        case measure => have := HG.out; have := HA.out.2; omega
        case rel =>
          refine ⟨l ++ [(a, 256 - a)], 256, s.next (256 : Nat), rfl, rfl, rfl, rfl, ?_, hB6, t0, t1, ho3⟩
          rw [← HLL.out, HA.out.1, ← HEE.out]; simp
      · obtain rfl : e = m := HE2.out
        have hsz : w.heap.size < w4.heap.size := p0'.lt
        go_wp2_with (at_builtin; refine wpList_append_own _ rfl _ _ 42 rfl (b1 + 1) 44 i0 (.agg #[.int .i64 0, .int .i64 0]) 2 16 Tryd.underlying42 HI.out.1 HI.out.2.1 HI.out.2.2.1 HI.out.2.2.2 rfl (by decide) _ _ _ rfl (hown'.alloc _) ⟨w4.heap.size, 0, none⟩ 1 1 [.int .i64 (a : Int), .int .i64 ((e : Int) - (a : Int))] rfl rfl ?c1 ?c2 ?c3 ?c4 ?c5 ?_)
        case c1 => exact cellTwo _ _ _ _
        case c2 => simp [Value.oneCell']
        case c3 => unfold maxLen; omega
        case c4 => omega
        case c5 => simp; omega
        intro v' w5 ho1 hgr _
        have n0 : some w.heap.size ≠ u3.ownBlock := fun e => by have := hown'.lt _ e.symm; omega
        have n1 : some b1 ≠ u3.ownBlock := fun e => by have := hown'.lt _ e.symm; omega
        have s0 := (p0'.alloc (.cells #[.int .i64 (a : Int), .int .i64 ((e : Int) - (a : Int))] 44)).grown hgr n0
        have s1 := (p1'.alloc (.cells #[.int .i64 (a : Int), .int .i64 ((e : Int) - (a : Int))] 44)).grown hgr n1
        have hB5 : Below w.heap.size w w5 := (hB'.alloc (by omega) _).grown hgr (by simp; omega) (fun k hk => by have := (hown'.lt k hk).1; omega)
        have ho2 := own_pair ho1 a (e - a) rfl (by omega)
        have hT3 := Lib.hid (HT.out.below hB5 hlt)
        clear ho1 hgr hown' p0' p1' hB' hT2 n0 n1 hsz
        obtain ⟨c0, c1, c2, c3, z0⟩ := s0.four
        go_wp2_with fail
        refine Calls.pure_to (Next_any s (e : Int) _ hT3.out) ?_
        intro w6 hb6
        have t0 := s0.below hb6 s0.lt
        have t1 := s1.below hb6 s1.lt
        have ho3 := ho2.below hb6
        have hB6 := hB5.trans (hb6.mono hB5.size)
        clear s0 s1 ho2 hb6 hB5 hT3 c0 c1 c2 c3 z0
        go_wp2
        go_roundg (257 - e)
        case measure => have := HG.out; have := HA.out.2; omega
        case rel =>
          refine ⟨l ++ [(a, e - a)], e, s.next (e : Nat), rfl, rfl, rfl, rfl, ?_, hB6, t0, t1, ho3⟩
          rw [← HLL.out, HA.out.1, ← HEE.out]; simp
end Go.Proofs.YtdgeobofpnbenaaDoor
