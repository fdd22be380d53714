import Derived.Test.YtdgeobofpnbenaaDoorMRefA
import Derived.Test.YtdgeobofpnbenaaDoorSetD
namespace Go.Proofs.YtdgeobofpnbenaaDoor
open Go Go.RowKit
set_option maxRecDepth 100000
theorem filter_succ (f : Nat → Bool) (n : Nat) : (List.range (n + 1)).filter f = (List.range n).filter f ++ (if f n then [n] else []) := by
  rw [List.range_succ, List.filter_append]
  cases h : f n <;> simp [h]
theorem pop_len (x : Nat) : ∀ n, ((List.range n).filter fun j => x.testBit j).length = Set4.pop x n
  | 0 => rfl
  | n + 1 => by
    rw [filter_succ, List.length_append, pop_len x n]
    show _ = Set4.pop x n + (x.testBit n).toNat
    cases x.testBit n <;> simp
theorem list_count (s : Set4) : s.list.length = s.count := by
  rw [Set4.list_words]
  unfold Set4.count bitsOf
  simp only [List.length_append, List.length_map, pop_len]; omega
set_option maxHeartbeats 2000000 in
theorem refList_any (s : Set4) (w : World) : Calls Tryd.prog 8 #[s.val] w fun e w' => (∃ v, e = .returned v ∧ w'.ownsRow w.heap.size 3 1 v s.list.length (nats s.list)) ∧ Below w.heap.size w w' := by
  obtain ⟨i0, hi, hz0, hz1, hz2⟩ := info_parts infoInt
  have HI : Hid (Tryd.prog.info? 3 = some i0 ∧ i0.zero = some (.int .i64 0) ∧ i0.size = 1 ∧ i0.bytes = 8) := ⟨hi, hz0, hz1, hz2⟩
  clear hi hz0 hz1 hz2
  go_enter Tryd.func8, Tryd.ntmps8
  go_wp2
  go_loopg [3, 4] 256 (fun g v x wr => ∃ (i : Nat), i ≤ 256 ∧ g = 256 - i ∧ x = .int .i64 i ∧ Below w.heap.size w wr ∧ wr.row w.heap.size s.cells 23 ∧ wr.ownsRow (w.heap.size + 1) 3 1 v ((List.range i).filter s.has).length (nats ((List.range i).filter s.has)))
  case atStart => exact ⟨0, by omega, rfl, rfl, (by repeat' (first | (with_reducible exact Below.refl _ _) | (with_reducible assumption) | (with_reducible refine Below.setCell ?_ ?_ _) | (with_reducible refine Below.ext ?_ _ ?_) | (with_reducible refine Below.alloc ?_ ?_ _) | (with_reducible refine Below.drew ?_) | (with_reducible refine Below.drewN ?_ _) | (with_reducible exact Nat.le_refl _) | (dsimp only; omega) | (simp <;> omega))), World.row.new' rfl, World.ownsRow_nil _ _ _ _⟩
  case round =>
    obtain ⟨i, hi, hg, rfl, hB, r0, ho⟩ := hrel
    have HG := Lib.hid hg
    clear hg
    by_cases hlt : i < 256
    · obtain ⟨c0, c1, c2, c3, z0⟩ := r0.four
      go_wp2_with fail
      refine Calls.pure_to (refHas_yes s i _ hlt) ?_
      intro w1 hb1
      have q0 := r0.below hb1 r0.lt
      have ho1 := ho.below hb1
      have hB1 := hB.trans (hb1.mono hB.size)
      clear r0 ho hB hb1 c0 c1 c2 c3 z0
      have hlen : ((List.range i).filter s.has).length ≤ 256 := Nat.le_trans (List.length_filter_le _ _) (by simp; omega)
      have hq := q0.lt
      cases h : s.has i with
      | false =>
        have HF : Hid ((List.range (i + 1)).filter s.has = (List.range i).filter s.has) := Lib.hid (by rw [filter_succ, h]; simp)
        clear h
        go_wp2
        go_roundg (256 - (i + 1))
        case measure => have := HG.out; omega
        case rel => exact ⟨i + 1, by omega, rfl, by go_num, hB1, q0, by rw [HF.out]; exact ho1⟩
      | true =>
        have HF : Hid ((List.range (i + 1)).filter s.has = (List.range i).filter s.has ++ [i]) := Lib.hid (by rw [filter_succ, h]; simp)
        clear h
        obtain ⟨l, hl⟩ : ∃ l, l = (List.range i).filter s.has := ⟨_, rfl⟩
        rw [← hl] at ho1 hlen
        have HL := Lib.hid hl
        clear hl
        go_wp2_with (at_builtin; refine wpList_append_own _ rfl _ _ 25 rfl (w.heap.size + 1) 3 i0 (.int .i64 0) 1 8 Tryd.underlying25 HI.out.1 HI.out.2.1 HI.out.2.2.1 HI.out.2.2.2 rfl (by decide) _ _ _ rfl (ho1.alloc _) ⟨w1.heap.size, 0, none⟩ 1 1 [.int .i64 (i : Int)] rfl rfl ?c1 ?c2 ?c3 ?c4 ?c5 ?_)
        case c1 => exact cellOne _ _ _
        case c2 => simp [Value.oneCell']
        case c3 => unfold maxLen; omega
        case c4 => omega
        case c5 => simp; omega
        intro v' w2 ho2 hgr _
        have n0 : some w.heap.size ≠ u3.ownBlock := fun e => by have := ho1.lt _ e.symm; omega
        have s0 := (q0.alloc (.cells #[.int .i64 (i : Int)] 3)).grown hgr n0
        have hB2 : Below w.heap.size w w2 := (hB1.alloc (by omega) _).grown hgr (by simp; omega) (fun k hk => by have := (ho1.lt k hk).1; omega)
        have ho3 := own_snoc ho2 i rfl
        clear ho1 ho2 hgr hB1 q0
        go_wp2
        go_roundg (256 - (i + 1))
        case measure => have := HG.out; omega
        case rel => exact ⟨i + 1, by omega, rfl, by go_num, hB2, s0, by rw [HF.out, ← HL.out]; exact ho3⟩
    · obtain rfl : i = 256 := by omega
      go_wp2
      go_ret
      exact ⟨⟨_, rfl, own_mono ho (by omega)⟩, hB⟩
end Go.Proofs.YtdgeobofpnbenaaDoor
