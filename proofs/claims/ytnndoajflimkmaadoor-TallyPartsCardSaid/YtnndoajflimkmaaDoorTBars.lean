/- Bars of the tally and of the document: contracts. -/
import Derived.Test.YtnndoajflimkmaaDoorTNote
import Derived.Laws.OwnMore
namespace Go.Proofs.YtnndoajflimkmaaDoor
open Go Go.RowKit
set_option maxRecDepth 100000
/-- Behind which of the first n bars there is none that isn't 0. -/
def lastTo (f : Nat → Int) : Nat → Nat
  | 0 => 0
  | n + 1 => if f (9 + n) = 0 then lastTo f n else n + 1
theorem lastTo_le (f : Nat → Int) : ∀ n, lastTo f n ≤ n
  | 0 => Nat.le_refl _
  | n + 1 => by
    unfold lastTo; split
    · exact Nat.le_succ_of_le (lastTo_le f n)
    · exact Nat.le_refl _
def barsL (f : Nat → Int) (n : Nat) : List Value := (List.range n).map fun i => .int .i64 (f (9 + i))
theorem barsL_len (f : Nat → Int) (n : Nat) : (barsL f n).length = n := by simp [barsL]
theorem barsL_get (f : Nat → Int) (n i : Nat) (h : i < n) : (barsL f n)[i]? = some (.int .i64 (f (9 + i))) := by simp [barsL, h]
theorem barsL_succ (f : Nat → Int) (n : Nat) : barsL f (n + 1) = barsL f n ++ [.int .i64 (f (9 + n))] := by simp [barsL, List.range_succ]
theorem barsL_take (f : Nat → Int) (n m : Nat) (h : m ≤ n) : (barsL f n).take m = barsL f m := by
  unfold barsL
  rw [← List.map_take, List.take_range, Nat.min_eq_left h]
theorem infoI64 : (Tryd.prog.info? 2).map (fun i => (i.zero, i.size, i.bytes)) = some (some (.int .i64 0), 1, 8) := by kernel_rfl
theorem info_parts {o : Option TypeInfo} {z : Option Value} {s b : Nat} (h : o.map (fun i => (i.zero, i.size, i.bytes)) = some (z, s, b)) : ∃ i, o = some i ∧ i.zero = z ∧ i.size = s ∧ i.bytes = b := by
  cases o with
  | none => cases h
  | some i => simp at h; exact ⟨i, rfl, h.1, h.2.1, h.2.2⟩
theorem cellOne (w : World) (v : Value) (t : TypeId) : ∀ (j : Nat) (u : Value), [v][j]? = some u → (w.alloc (.cells #[v] t)).cell? ((⟨w.heap.size, 0, none⟩ : Addr).add j) = some u := by
  intro j u h
  cases j with
  | zero => simp at h; subst h; simp [Addr.add]
  | succ j => simp at h
/-- An owned row with elements: its address and its cells. -/
theorem own_cells {w : World} {B : Nat} {E : TypeId} {v : Value} {n : Nat} {xs : List Value} (h : w.ownsRow B E 1 v n xs) (hn : 0 < n) :
    ∃ g c, v = .slice (some ⟨g, 0, none⟩) n c ∧ n ≤ c ∧ B ≤ g ∧ ∀ j u, xs[j]? = some u → w.cell? ⟨g, j, none⟩ = some u := by
  obtain ⟨hl, h⟩ := h
  rcases h with ⟨h1, rfl⟩ | ⟨g, cap, cur, hv, hB, hh, h1, h2, hs, ht⟩
  · omega
  · refine ⟨g, cap, hv, by first | exact h1 | exact h2 | omega, by first | exact hB | omega, fun j u hj => ?_⟩
    have h2 : cur[j]? = some u := by
      rw [← ht] at hj
      rw [List.getElem?_take] at hj
      split at hj
      · simpa using hj
      · cases hj
    simp [World.cell?, hh, h2]
set_option maxHeartbeats 2000000 in
theorem Bars_any (g : Nat) (f : Nat → Int) (w : World) (hr : w.row g (cel f) tT) :
    Calls Tryd.prog 16 #[pt g] w fun e w' => (∃ v, e = .returned v ∧ w'.rd v (barsL f (lastTo f 64))) ∧ Below w.heap.size w w' := by
  obtain ⟨i0, hi, hz0, hz1, hz2⟩ := info_parts infoI64
  have HI : Hid (Tryd.prog.info? 2 = some i0 ∧ i0.zero = some (.int .i64 0) ∧ i0.size = 1 ∧ i0.bytes = 8) := ⟨hi, hz0, hz1, hz2⟩
  clear hi hz0 hz1 hz2
  have hg := hr.lt
  go_enter Tryd.func16, Tryd.ntmps16
  go_wp2_with fail
  go_loopw [3, 4, 8] (fun v l x wr => ∃ (k : Nat), k ≤ 64 ∧ x = .int .i64 k ∧ l = .int .i64 (lastTo f k : Nat) ∧ Below w.heap.size w wr ∧ wr.ownsRow w.heap.size 2 1 v k (barsL f k)) (fun _ _ x _ => 64 - (intOf x).toNat)
  case atStart => exact ⟨0, by omega, rfl, rfl, Below.refl _ _, World.ownsRow_nil _ _ _ _⟩
  case round =>
    obtain ⟨k, hk, rfl, rfl, hB, ho⟩ := hrel
    have rr := hr.below hB hg
    by_cases hlt : k < 64
    · have hc := rr.cell (9 + k) (cel_get f (9 + k) (by omega))
      have hsz := hB.size
      go_wp2_with (first | (go_at_call 28; refine (load_any _ _ _ _ hc).mono ?_; rintro e w' ⟨rfl, rfl⟩) | (at_builtin; refine wpList_append_own _ rfl _ _ 47 rfl w.heap.size 2 i0 (.int .i64 0) 1 8 Tryd.underlying47 HI.out.1 HI.out.2.1 HI.out.2.2.1 HI.out.2.2.2 rfl (by decide) _ _ _ rfl (ho.alloc _) ⟨wr.heap.size, 0, none⟩ 1 1 [.int .i64 (f (9 + k))] rfl rfl ?c1 ?c2 ?c3 ?c4 ?c5 ?_))
      case c1 => exact cellOne _ _ _
      case c2 => simp [Value.oneCell']
      case c3 => unfold maxLen; omega
      case c4 => omega
      case c5 => simp; omega
      intro v' w1 ho1 hg1 _
      have hB1 : Below w.heap.size w w1 := (hB.alloc (by omega) _).grown hg1 (by simp; omega) (fun k hk => (ho.lt k hk).1)
      rw [← barsL_succ] at ho1
      clear hc ho hg1 hB rr
      obtain ⟨gv, cv, rfl, hcv, hgv, hcs⟩ := own_cells ho1 (by omega)
      have hck := hcs k _ (barsL_get f (k + 1) k (by omega))
      clear hcs
      have HO := Lib.hid ho1
      clear ho1
      by_cases h0 : f (9 + k) = 0
      · have e0 : (f (9 + k) != 0) = false := by rw [h0]; rfl
        have HL : Hid (lastTo f (k + 1) = lastTo f k) := Lib.hid (by rw [lastTo, if_pos h0])
        clear h0
        go_wp2_with fail
        go_roundw
        case rel => exact ⟨k + 1, by omega, by go_num, by rw [HL.out], hB1, HO.out⟩
        case measure => simp [intOf] <;> omega
      · have e0 : (f (9 + k) != 0) = true := bne_iff_ne.2 h0
        have HL : Hid (lastTo f (k + 1) = k + 1) := Lib.hid (by rw [lastTo, if_neg h0])
        clear h0
        go_wp2_with fail
        go_roundw
        case rel => exact ⟨k + 1, by omega, by go_num, by rw [HL.out]; go_num, hB1, HO.out⟩
        case measure => simp [intOf] <;> omega
    · obtain ⟨gv, cv, rfl, hcv, hgv, hcs⟩ := own_cells ho (by omega)
      have hll := lastTo_le f k
      have ek : k = 64 := by omega
      have hrd := ho.rd
      have HE := Lib.hid ek
      clear ek
      go_wp2_with fail
      go_returns
      refine ⟨⟨_, rfl, ?_⟩, hB⟩
      have ek := HE.out
      subst ek
      refine ⟨some ⟨gv, 0, none⟩, lastTo f 64, by rw [barsL_len]; rfl, .inr ⟨gv, 0, rfl, fun j u hj => ?_⟩⟩
      rw [Nat.zero_add]
      refine hcs j u ?_
      rw [← barsL_take f 64 _ hll, List.getElem?_take] at hj
      split at hj
      · exact hj
      · cases hj
abbrev tR : TypeId := 31
set_option maxHeartbeats 2000000 in
theorem refBars_any (g : Nat) (f : Nat → Int) (w : World) (hr : w.row g (cel f) tR) :
    Calls Tryd.prog 30 #[pt g] w fun e w' => (∃ v, e = .returned v ∧ w'.rd v (barsL f (lastTo f 64))) ∧ Below w.heap.size w w' := by
  obtain ⟨i0, hi, hz0, hz1, hz2⟩ := info_parts infoI64
  have HI : Hid (Tryd.prog.info? 2 = some i0 ∧ i0.zero = some (.int .i64 0) ∧ i0.size = 1 ∧ i0.bytes = 8) := ⟨hi, hz0, hz1, hz2⟩
  clear hi hz0 hz1 hz2
  have hg := hr.lt
  go_enter Tryd.func30, Tryd.ntmps30
  go_wp2_with fail
  go_loopw [3, 4] (fun l x wr => ∃ (k : Nat), k ≤ 64 ∧ x = .int .i64 k ∧ l = .int .i64 ((lastTo f k : Nat) - 1) ∧ w = wr) (fun _ x _ => 64 - (intOf x).toNat)
  case atStart => exact ⟨0, by omega, rfl, rfl, rfl⟩
  case round =>
    obtain ⟨k, hk, rfl, rfl, rfl⟩ := hrel
    by_cases hlt : k < 64
    · have hc := hr.cell (9 + k) (cel_get f (9 + k) (by omega))
      by_cases h0 : f (9 + k) = 0
      · have e0 : (f (9 + k) != 0) = false := by rw [h0]; rfl
        have HL : Hid (lastTo f (k + 1) = lastTo f k) := Lib.hid (by rw [lastTo, if_pos h0])
        clear h0
        go_wp2_with fail
        go_roundw
        case rel => exact ⟨k + 1, by omega, by go_num, by rw [HL.out], trivial⟩
        case measure => simp [intOf] <;> omega
      · have e0 : (f (9 + k) != 0) = true := bne_iff_ne.2 h0
        have HL : Hid (lastTo f (k + 1) = k + 1) := Lib.hid (by rw [lastTo, if_neg h0])
        clear h0
        go_wp2_with fail
        go_roundw
        case rel => exact ⟨k + 1, by omega, by go_num, by rw [HL.out]; go_num, trivial⟩
        case measure => simp [intOf] <;> omega
    · have hll := lastTo_le f k
      have ek : k = 64 := by omega
      have HE := Lib.hid ek
      clear ek
      obtain ⟨m, hm⟩ : ∃ m, m = lastTo f k := ⟨_, rfl⟩
      rw [← hm] at hll ⊢
      have HM := Lib.hid hm
      clear hm
      go_wp2_with fail
      go_loopw [5, 6] (fun v x wq => ∃ (i : Nat), i ≤ m ∧ x = .int .i64 i ∧ Below w.heap.size w wq ∧ wq.ownsRow w.heap.size 2 1 v i (barsL f i)) (fun _ x _ => m - (intOf x).toNat)
      case atStart => exact ⟨0, by omega, rfl, Below.refl _ _, World.ownsRow_nil _ _ _ _⟩
      case round =>
        obtain ⟨i, him, rfl, hB, ho⟩ := hrel
        have rr := hr.below hB hg
        by_cases hlt2 : i < m
        · have hc2 := rr.cell (9 + i) (cel_get f (9 + i) (by omega))
          have hsz := hB.size
          go_wp2_with (at_builtin; refine wpList_append_own _ rfl _ _ 47 rfl w.heap.size 2 i0 (.int .i64 0) 1 8 Tryd.underlying47 HI.out.1 HI.out.2.1 HI.out.2.2.1 HI.out.2.2.2 rfl (by decide) _ _ _ rfl (ho.alloc _) ⟨wr.heap.size, 0, none⟩ 1 1 [.int .i64 (f (9 + i))] rfl rfl ?c1 ?c2 ?c3 ?c4 ?c5 ?_)
          case c1 => exact cellOne _ _ _
          case c2 => simp [Value.oneCell']
          case c3 => unfold maxLen; omega
          case c4 => omega
          case c5 => simp; omega
          intro v' w1 ho1 hg1 _
          have hB1 : Below w.heap.size w w1 := (hB.alloc (by omega) _).grown hg1 (by simp; omega) (fun k hk => (ho.lt k hk).1)
          rw [← barsL_succ] at ho1
          clear hc2 ho hg1 hB rr
          go_wp2_with fail
          go_roundw
          case rel => exact ⟨i + 1, by omega, by go_num, hB1, ho1⟩
          case measure => simp [intOf] <;> omega
        · have ei : i = m := by omega
          subst ei
          go_wp2_with fail
          go_returns
          refine ⟨⟨_, rfl, ?_⟩, hB⟩
          have e1 := HM.out
          rw [HE.out] at e1
          rw [← e1]
          exact ho.rd
end Go.Proofs.YtnndoajflimkmaaDoor
