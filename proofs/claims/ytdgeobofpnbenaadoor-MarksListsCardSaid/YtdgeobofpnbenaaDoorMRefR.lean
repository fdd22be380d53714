/- The document's Runs. -/
import Derived.Test.YtdgeobofpnbenaaDoorMRefN
import Derived.Test.YtdgeobofpnbenaaDoorMRuns
import Derived.Laws.OwnMore
import Derived.Deep.DeepCutAuto
namespace Go.Proofs.YtdgeobofpnbenaaDoor
open Go Go.RowKit
set_option maxRecDepth 100000
theorem Set4.next_skip {s : Set4} {i : Nat} (h : s.has i = false) : s.next i = s.next ((i + 1 : Nat) : Int) := by
  cases e : s.next ((i + 1 : Nat) : Int) with
  | none => exact Set4.next_not fun j _ hj => (by
      rcases Nat.lt_or_ge i j with e1 | e1
      · exact Set4.next_none e j (by omega)
      · obtain rfl : j = i := (by omega)
        exact h)
  | some m =>
    obtain ⟨k1, k2, k3, k4⟩ := Set4.next_some e
    exact Set4.next_is k2 (by omega) fun j hj hn => (by
      rcases Nat.lt_or_ge i j with e1 | e1
      · exact k4 j hj (by omega)
      · obtain rfl : j = i := (by omega)
        exact h)
theorem Set4.runs_skip {s : Set4} {i : Nat} (h : s.has i = false) : s.runsFrom i = s.runsFrom (i + 1) := by
  have e := Set4.next_skip h
  cases h2 : s.next ((i + 1 : Nat) : Int) with
  | none => rw [Set4.runsFrom_none h2, Set4.runsFrom_none (e.trans h2)]
  | some a => rw [Set4.runsFrom_some h2, Set4.runsFrom_some (e.trans h2)]
theorem Set4.runs_here {s : Set4} {a i : Nat} (hai : a < i) (h1 : ∀ j, a ≤ j → j < i → s.has j = true) (h2 : s.has i = false) : s.runsFrom a = (a, i - a) :: s.runsFrom (i + 1) := by
  have ha := h1 a (Nat.le_refl _) hai
  obtain ⟨k1, k2, k3, k4⟩ := Set4.runEnd_spec s a ha
  have hi : s.runEnd a = i := by
    rcases Nat.lt_trichotomy (s.runEnd a) i with e | e | e
    · rw [h1 _ (by omega) e] at k4; cases k4
    · exact e
    · rw [k3 i (by omega) e] at h2; cases h2
  have hn : s.next a = some a := Set4.next_is ha (Int.le_refl _) fun j hj hn => by omega
  rw [Set4.runsFrom_some hn, hi, Set4.runs_skip h2]
/-- What the document's Runs holds ahead of i. -/
def Part (s : Set4) (i : Nat) (b : Bool) (rs : List (Nat × Nat)) : Prop :=
  (b = false ∧ rs ++ s.runsFrom i = s.runsFrom 0) ∨ (b = true ∧ ∃ l a, rs = l ++ [(a, i - a)] ∧ a < i ∧ (∀ j, a ≤ j → j < i → s.has j = true) ∧ l ++ s.runsFrom a = s.runsFrom 0)
theorem Part.zero (s : Set4) : Part s 0 false [] := .inl ⟨rfl, rfl⟩
theorem Part.no {s : Set4} {i : Nat} {b : Bool} {rs : List (Nat × Nat)} (h : Part s i b rs) (hi : s.has i = false) : Part s (i + 1) false rs := by
  rcases h with ⟨_, h⟩ | ⟨_, l, a, rfl, ha, h1, h2⟩
  · exact .inl ⟨rfl, by rw [← Set4.runs_skip hi]; exact h⟩
  · exact .inl ⟨rfl, by rw [← h2, Set4.runs_here ha h1 hi]; simp⟩
theorem Part.start {s : Set4} {i : Nat} {rs : List (Nat × Nat)} (h : Part s i false rs) (hi : s.has i = true) : Part s (i + 1) true (rs ++ [(i, 1)]) := by
  rcases h with ⟨_, h⟩ | ⟨h, _⟩
  · exact .inr ⟨rfl, rs, i, by rw [show i + 1 - i = 1 by omega], by omega, fun j h1 h2 => (by obtain rfl : j = i := (by omega); exact hi), h⟩
  · cases h
theorem Part.more {s : Set4} {i : Nat} {rs : List (Nat × Nat)} (h : Part s i true rs) (hi : s.has i = true) : ∃ l a n, rs = l ++ [(a, n)] ∧ n ≤ 256 ∧ Part s (i + 1) true (l ++ [(a, n + 1)]) := by
  have hi2 : i < 256 := by by_cases e : i < 256; exact e; rw [Set4.has_ge s (by omega)] at hi; cases hi
  rcases h with ⟨h, _⟩ | ⟨_, l, a, rfl, ha, h1, h2⟩
  · cases h
  · refine ⟨l, a, i - a, rfl, by omega, .inr ⟨rfl, l, a, by rw [show i + 1 - a = i - a + 1 by omega], by omega, fun j e1 e2 => ?_, h2⟩⟩
    rcases Nat.lt_or_ge j i with e | e
    · exact h1 j e1 e
    · obtain rfl : j = i := (by omega)
      exact hi
theorem Part.all {s : Set4} {b : Bool} {rs : List (Nat × Nat)} (h : Part s 256 b rs) : rs = s.runsFrom 0 := by
  have h2 := h.no (Set4.has_ge s (by omega))
  rcases h2 with ⟨_, h⟩ | ⟨h, _⟩
  · rw [Set4.runsFrom_none (Set4.next_not fun j hj hn => by omega), List.append_nil] at h; exact h
  · cases h
theorem Part.len {s : Set4} {i : Nat} {b : Bool} {rs : List (Nat × Nat)} (h : Part s i b rs) : rs.length ≤ 258 := by
  have hr := Set4.runsFrom_len s 257 0 (by omega)
  rcases h with ⟨_, h⟩ | ⟨_, l, a, rfl, ha, h1, h2⟩
  · rw [← h, List.length_append] at hr; omega
  · rw [← h2, List.length_append] at hr; simp; omega
theorem own_snoc_pair {w : World} {B : Nat} {E : TypeId} {v : Value} {l : List (Nat × Nat)} {a n : Nat} (h : w.ownsRow B E 2 v (l ++ [(a, n)]).length (Set4.pairs (l ++ [(a, n)]))) :
    ∃ g cap, v = .slice (some ⟨g, 0, none⟩) (l.length + 1) cap ∧ B ≤ g ∧ g < w.heap.size ∧ w.cell? ⟨g, l.length * 2 + 1, none⟩ = some (.int .i64 (n : Int)) ∧ (∀ j, w.frozen? ⟨g, j, none⟩ = false) ∧
      w.ownsRow B E 2 (.slice (some ⟨g, 0, none⟩) (l.length + 1) cap) (l.length + 1) (Set4.pairs (l ++ [(a, n)])) := by
  rcases h.2 with ⟨_, h0⟩ | ⟨g, cap, cur, rfl, h1, hh, _⟩
  · simp at h0
  have h2 : g < w.heap.size := (Array.getElem?_eq_some_iff.1 hh).1
  clear hh
  have e : (l ++ [(a, n)]).length = l.length + 1 := by simp
  rw [e] at h
  refine ⟨g, cap, by rw [e], h1, h2, ?_, fun j => h.frozenAt j, h⟩
  rw [h.cellAt (l.length * 2 + 1) (by omega), Set4.pairs_append, List.getElem?_append_right (by rw [Set4.pairs_length]; omega), Set4.pairs_length, show l.length * 2 + 1 - 2 * l.length = 1 by omega]
  rfl
theorem pairs_last (l : List (Nat × Nat)) (a n m : Nat) : (Set4.pairs (l ++ [(a, n)])).set (l.length * 2 + 1) (.int .i64 (m : Int)) = Set4.pairs (l ++ [(a, m)]) := by
  rw [Set4.pairs_append, Set4.pairs_append, List.set_append_right _ _ (by rw [Set4.pairs_length]; omega), Set4.pairs_length, show l.length * 2 + 1 - 2 * l.length = 1 by omega]
  rfl
set_option maxHeartbeats 2000000 in
theorem refRuns_any (s : Set4) (w : World) : Calls Tryd.prog 31 #[s.val] w fun e w' => (∃ v, e = .returned v ∧ w'.ownsRow w.heap.size 44 2 v (s.runsFrom 0).length (Set4.pairs (s.runsFrom 0))) ∧ Below w.heap.size w w' := by
  obtain ⟨i0, hi, hz0, hz1, hz2⟩ := info_parts infoPair
  have HI : Hid (Tryd.prog.info? 44 = some i0 ∧ i0.zero = some (.agg #[.int .i64 0, .int .i64 0]) ∧ i0.size = 2 ∧ i0.bytes = 16) := ⟨hi, hz0, hz1, hz2⟩
  clear hi hz0 hz1 hz2
  go_enter Tryd.func31, Tryd.ntmps31
  go_wp2
  go_loopg [3, 4, 5] 256 (fun g v y x wr => ∃ (i : Nat) (b : Bool) (rs : List (Nat × Nat)), i ≤ 256 ∧ g = 256 - i ∧ x = .int .i64 i ∧ y = .bool b ∧ Part s i b rs ∧ Below w.heap.size w wr ∧ wr.row w.heap.size s.cells 23 ∧ wr.ownsRow (w.heap.size + 1) 44 2 v rs.length (Set4.pairs rs))
  case atStart => exact ⟨0, false, [], by omega, rfl, rfl, rfl, Part.zero s, (by repeat' (first | (with_reducible exact Below.refl _ _) | (with_reducible assumption) | (with_reducible refine Below.setCell ?_ ?_ _) | (with_reducible refine Below.ext ?_ _ ?_) | (with_reducible refine Below.alloc ?_ ?_ _) | (with_reducible refine Below.drew ?_) | (with_reducible refine Below.drewN ?_ _) | (with_reducible exact Nat.le_refl _) | (dsimp only; omega) | (simp <;> omega))), World.row.new' rfl, World.ownsRow_nil _ _ _ _⟩
  case round =>
    obtain ⟨i, b, rs, hi, hg, rfl, rfl, hp, hB, r0, ho⟩ := hrel
    have HG := Lib.hid hg
    have HP := Lib.hid hp
    have hlen := hp.len
    clear hg hp
    by_cases hlt : i < 256
    · obtain ⟨c0, c1, c2, c3, z0⟩ := r0.four
      go_wp2_with fail
      refine Calls.pure_to (refHas_yes s i _ hlt) ?_
      intro w1 hb1
      have q0 := r0.below hb1 r0.lt
      have ho1 := ho.below hb1
      have hB1 := hB.trans (hb1.mono hB.size)
      clear r0 ho hB hb1 c0 c1 c2 c3 z0
      have hq := q0.lt
      cases h : s.has i with
      | false =>
        have HF := Lib.hid (HP.out.no h)
        clear h
        cases b
        all_goals
          go_wp2
          go_roundg (256 - (i + 1))
          case measure => have := HG.out; omega
          case rel => exact ⟨i + 1, false, rs, by omega, rfl, by go_num, rfl, HF.out, hB1, q0, ho1⟩
      | true =>
        cases b with
        | false =>
          have HF := Lib.hid (HP.out.start h)
          clear h
          go_wp2_with (at_builtin; refine wpList_append_own _ rfl _ _ 42 rfl (w.heap.size + 1) 44 i0 (.agg #[.int .i64 0, .int .i64 0]) 2 16 Tryd.underlying42 HI.out.1 HI.out.2.1 HI.out.2.2.1 HI.out.2.2.2 rfl (by decide) _ _ _ rfl (ho1.alloc _) ⟨w1.heap.size, 0, none⟩ 1 1 [.int .i64 (i : Int), .int .i64 1] rfl rfl ?c1 ?c2 ?c3 ?c4 ?c5 ?_)
          case c1 => exact cellTwo _ _ _ _
          case c2 => simp [Value.oneCell']
          case c3 => unfold maxLen; omega
          case c4 => omega
          case c5 => simp; omega
          intro v' w2 ho2 hgr _
          have n0 : some w.heap.size ≠ u3.ownBlock := fun e => by have := ho1.lt _ e.symm; omega
          have s0 := (q0.alloc (.cells #[.int .i64 (i : Int), .int .i64 1] 44)).grown hgr n0
          have hB2 : Below w.heap.size w w2 := (hB1.alloc (by omega) _).grown hgr (by simp; omega) (fun k hk => by have := (ho1.lt k hk).1; omega)
          have ho3 := own_pair ho2 i 1 rfl rfl
          clear ho1 ho2 hgr hB1 q0
          go_wp2
          go_roundg (256 - (i + 1))
          case measure => have := HG.out; omega
          case rel => exact ⟨i + 1, true, rs ++ [(i, 1)], by omega, rfl, by go_num, rfl, HF.out, hB2, s0, ho3⟩
        | true =>
          obtain ⟨l, a, n, hrs, hn, hp2⟩ := HP.out.more h
          have HF := Lib.hid hp2
          clear h hp2
          subst hrs
          have hlen2 : l.length ≤ 258 := by simp at hlen; omega
          obtain ⟨g, cap, rfl, hg1, hg2, hc, hfz, ho2⟩ := own_snoc_pair ho1
          clear ho1 hlen HP
          go_upto_region 10 with fail
          refine wp_region_ext_head 14 w1.heap.size (Nat.le_refl _) (by kernel_rfl) (by kernel_rfl) ?_
          intro _
          simp only [List.take_succ_cons, List.take_zero, List.drop_succ_cons, List.drop_zero]
          repeat (go_big_quiet_step (fail))
          refine wpQuiet_nil ?_
          intro x
          have ho3 := ((ho2.below (World.ext_below x)).stored (l.length * 2 + 1) (.int .i64 ((n + 1 : Nat) : Int))).1
          rw [pairs_last, show ((n + 1 : Nat) : Int) = (n : Int) + 1 by omega] at ho3
          have hB3 : Below w.heap.size w (w1.ext w1.heap.size x) := hB1.ext x hB1.size
          have q3 := q0.ext x hq
          clear ho2 hB1 q0
          go_wp2
          go_roundg (256 - (i + 1))
          case measure => have := HG.out; omega
          case rel => exact ⟨i + 1, true, l ++ [(a, n + 1)], by omega, rfl, by go_num, rfl, HF.out, hB3.setCell (by show w.heap.size ≤ g; omega) _, q3.other _ _ (by show g ≠ w.heap.size; omega), by rw [List.length_append]; exact ho3⟩
    · obtain rfl : i = 256 := by omega
      have e := HP.out.all
      subst e
      go_wp2
      go_ret
      exact ⟨⟨_, rfl, own_mono ho (by omega)⟩, hB⟩
end Go.Proofs.YtdgeobofpnbenaaDoor
