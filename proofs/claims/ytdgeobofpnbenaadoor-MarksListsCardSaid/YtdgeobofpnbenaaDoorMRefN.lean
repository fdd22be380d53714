/- The document's Next. -/
import Derived.Test.YtdgeobofpnbenaaDoorMRefA
import Derived.Test.YtdgeobofpnbenaaDoorMNext
import Derived.Test.YtdgeobofpnbenaaDoorSetC
import Derived.Test.YtdgeobofpnbenaaDoorExt2
import Derived.Deep.LoopGhost
namespace Go.Proofs.YtdgeobofpnbenaaDoor
open Go Go.RowKit
set_option maxRecDepth 100000
theorem Set4.next_is {s : Set4} {n : Int} {i : Nat} (h1 : s.has i = true) (h2 : n ≤ (i : Int)) (h3 : ∀ j : Nat, j < i → n ≤ (j : Int) → s.has j = false) : s.next n = some i := by
  cases h : s.next n with
  | none => rw [Set4.next_none h i h2] at h1; cases h1
  | some m =>
    obtain ⟨k1, k2, k3, k4⟩ := Set4.next_some h
    rcases Nat.lt_trichotomy m i with e | e | e
    · rw [h3 m e k3] at k2; cases k2
    · rw [e]
    · rw [k4 i e h2] at h1; cases h1
theorem Set4.next_not {s : Set4} {n : Int} (h3 : ∀ j : Nat, j < 256 → n ≤ (j : Int) → s.has j = false) : s.next n = none := by
  cases h : s.next n with
  | none => rfl
  | some m =>
    obtain ⟨k1, k2, k3, k4⟩ := Set4.next_some h
    rw [h3 m k1 k3] at k2; cases k2
set_option maxHeartbeats 2000000 in
theorem refNext_any (s : Set4) (n : Int) (w : World) : Calls Tryd.prog 30 #[s.val, .int .i64 n] w fun e w' => e = .returned (nextV (s.next n)) ∧ Below w.heap.size w w' := by
  go_enter Tryd.func30, Tryd.ntmps30
  go_wp2
  go_loopg [6] 256 (fun g x wr => ∃ (i : Nat), i ≤ 256 ∧ g = 256 - i ∧ x = .int .i64 i ∧ (∀ j : Nat, j < i → n ≤ (j : Int) → s.has j = false) ∧ Below w.heap.size w wr ∧ wr.row w.heap.size s.cells 23)
  case atStart => exact ⟨0, by omega, rfl, rfl, fun j hj => by omega, (by repeat' (first | (with_reducible exact Below.refl _ _) | (with_reducible assumption) | (with_reducible refine Below.setCell ?_ ?_ _) | (with_reducible refine Below.ext ?_ _ ?_) | (with_reducible refine Below.alloc ?_ ?_ _) | (with_reducible refine Below.drew ?_) | (with_reducible refine Below.drewN ?_ _) | (with_reducible exact Nat.le_refl _) | (dsimp only; omega) | (simp <;> omega))), World.row.new' rfl⟩
  case round =>
    obtain ⟨i, hi, hg, rfl, hno, hB, r0⟩ := hrel
    have HG := Lib.hid hg
    have HN := Lib.hid hno
    clear hg hno
    by_cases hlt : i < 256
    · obtain ⟨c0, c1, c2, c3, z0⟩ := r0.four
      go_wp2_with fail
      refine Calls.pure_to (refHas_yes s i _ hlt) ?_
      intro w1 hb1
      have q0 := r0.below hb1 r0.lt
      have hB1 := hB.trans (hb1.mono hB.size)
      clear r0 hB hb1 c0 c1 c2 c3 z0
      cases h : s.has i with
      | false =>
        have HF := Lib.hid h
        clear h
        go_wp2
        go_roundg (256 - (i + 1))
        case measure => have := HG.out; omega
        case rel => exact ⟨i + 1, by omega, rfl, by go_num, fun j hj hn => (by rcases Nat.lt_or_ge j i with e | e; exact HN.out j e hn; have e2 : j = i := (by omega); subst e2; exact HF.out), hB1, q0⟩
      | true =>
        by_cases hn : n ≤ (i : Int)
        · have HF := Lib.hid (Set4.next_is h hn HN.out)
          clear h
          go_wp2
          go_ret2
          exact ⟨by rw [HF.out]; rfl, hB1⟩
        · clear h
          go_wp2
          go_roundg (256 - (i + 1))
          case measure => have := HG.out; omega
          case rel => exact ⟨i + 1, by omega, rfl, by go_num, fun j hj hn2 => (by rcases Nat.lt_or_ge j i with e | e; exact HN.out j e hn2; omega), hB1, q0⟩
    · obtain rfl : i = 256 := by omega
      have HF := Lib.hid (Set4.next_not HN.out)
      go_wp2
      go_ret2
      exact ⟨by rw [HF.out]; rfl, hB⟩
end Go.Proofs.YtdgeobofpnbenaaDoor
