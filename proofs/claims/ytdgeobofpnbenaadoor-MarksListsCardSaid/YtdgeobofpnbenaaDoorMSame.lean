import Derived.Test.YtdgeobofpnbenaaDoorMList
import Derived.Test.YtdgeobofpnbenaaDoorExt3
namespace Go.Proofs.YtdgeobofpnbenaaDoor
open Go Go.RowKit
set_option maxRecDepth 100000
set_option maxHeartbeats 2000000 in
theorem same_any (xs : List Nat) (v u : Value) (w : World) (h1 : w.rd v (nats xs)) (h2 : w.rd u (nats xs)) (hlen : xs.length ≤ 300) : Calls Tryd.prog 28 #[v, u] w fun e w' => e = .returned (.bool true) ∧ Below w.heap.size w w' := by
  rcases h1.cases with ⟨e1, a, c, rfl⟩ | ⟨e1, b, o, c, rfl, hc⟩
  · rcases h2.cases with ⟨_, a2, c2, rfl⟩ | ⟨e2, _⟩
    · go_enter Tryd.func28, Tryd.ntmps28
      go_wp2
      go_rounds 1
      go_ret
      exact ⟨rfl, (by repeat' (first | (with_reducible exact Below.refl _ _) | (with_reducible assumption) | (with_reducible refine Below.setCell ?_ ?_ _) | (with_reducible refine Below.ext ?_ _ ?_) | (with_reducible refine Below.alloc ?_ ?_ _) | (with_reducible refine Below.drew ?_) | (with_reducible refine Below.drewN ?_ _) | (with_reducible exact Nat.le_refl _) | (dsimp only; omega) | (simp <;> omega)))⟩
    · exact absurd e1 e2
  · rcases h2.cases with ⟨e2, _⟩ | ⟨_, b2, o2, c2, rfl, hc2⟩
    · exact absurd e2 e1
    · have HC := Lib.hid hc
      have HC2 := Lib.hid hc2
      rw [nats_length]
      clear hc hc2 h1 h2 e1
      go_enter Tryd.func28, Tryd.ntmps28
      go_wp2
      go_loopw [13] (fun x wr => ∃ (k : Nat), k ≤ xs.length ∧ x = .int .i64 k ∧ Below w.heap.size w wr) (fun x _ => xs.length - (intOf x).toNat)
      case atStart => exact ⟨0, by omega, rfl, (by repeat' (first | (with_reducible exact Below.refl _ _) | (with_reducible assumption) | (with_reducible refine Below.setCell ?_ ?_ _) | (with_reducible refine Below.ext ?_ _ ?_) | (with_reducible refine Below.alloc ?_ ?_ _) | (with_reducible refine Below.drew ?_) | (with_reducible refine Below.drewN ?_ _) | (with_reducible exact Nat.le_refl _) | (dsimp only; omega) | (simp <;> omega)))⟩
      case round =>
        obtain ⟨k, hk, rfl, hB⟩ := hrel
        by_cases hlt : k < xs.length
        · have hg : (nats xs)[k]? = some (.int .i64 ((xs[k] : Nat) : Int)) := by unfold nats; simp [hlt]
          have c1 := HC.out k _ hg
          have c2 := HC2.out k _ hg
          have d1 : wr.cell? ⟨b, o + k, none⟩ = some (.int .i64 ((xs[k] : Nat) : Int)) := by rw [hB.cell (p := ⟨b, o + k, none⟩) (block_lt_of_cell c1)]; exact c1
          have d2 : wr.cell? ⟨b2, o2 + k, none⟩ = some (.int .i64 ((xs[k] : Nat) : Int)) := by rw [hB.cell (p := ⟨b2, o2 + k, none⟩) (block_lt_of_cell c2)]; exact c2
          clear c1 c2 hg
          go_wp2
          go_quiet (fail)
          go_wp2
          go_roundw
          case rel => exact ⟨k + 1, by omega, by go_num, hB.drewN _⟩
          case measure => simp [intOf] <;> omega
        · go_wp2
          go_ret
          exact ⟨rfl, hB⟩
end Go.Proofs.YtdgeobofpnbenaaDoor
