/- Part of the tally and of the document: contracts. -/
import Derived.Test.YtnndoajflimkmaaDoorTDiv
import Derived.Deep.LoopGhost
namespace Go.Proofs.YtnndoajflimkmaaDoor
open Go Go.RowKit
set_option maxRecDepth 100000
set_option maxHeartbeats 1000000 in
theorem Part_big (g : Nat) (a b p hi lo s : Nat) (k o : Int) (f : Nat → Int) (w : World) (hr : w.row g (cel f) tT) (hk0 : 0 ≤ k) (hk1 : k < 9) (ho0 : 0 ≤ o) (ho1 : o < 9) (ha : f k.toNat = a) (hb : f o.toNat = b) (hs : a + b < 18446744073709551616) (hap : a * 1000 = p)
    (hhi : p / 18446744073709551616 = hi) (hlo : p % 18446744073709551616 = lo) (h0 : 0 < hi) (hlt : hi < a + b) (hss : s + Lib.bitLen (a + b) = 64) :
    Calls Tryd.prog 10 #[pt g, .int .i64 k, .int .i64 o] w fun e w' => e = .returned (.int .i64 ((p / (a + b) : Nat) : Int)) ∧ w = w' := by
  have hm := fun w => Mul_any a 1000 w (by omega) (by decide)
  simp only [hap, hhi, hlo] at hm
  have hd := fun w => Div_any hi lo (a + b) s w h0 (by rw [← hlo]; exact Nat.mod_lt _ (by decide)) hs hlt hss
  rw [show hi * 18446744073709551616 + lo = p by rw [← hhi, ← hlo]; exact Nat.div_add_mod' p _] at hd
  simp only [Int.natCast_add] at hd
  obtain ⟨q, hq⟩ : ∃ q, q = p / (a + b) := ⟨_, rfl⟩
  rw [← hq] at hd ⊢
  have hq1 : q ≤ 1000 := by rw [hq]; exact Nat.div_le_of_le_mul (by omega)
  go_enter Tryd.func10, Tryd.ntmps10
  have e1 : decide (0 ≤ k ∧ k < 9) = true := decide_eq_true ⟨hk0, hk1⟩
  have e2 : decide (0 ≤ o ∧ o < 9) = true := decide_eq_true ⟨ho0, ho1⟩
  have hga := (Get_any g k f w hr)
  rw [if_pos ⟨hk0, hk1⟩, ha] at hga
  have hgb := (Get_any g o f w hr)
  rw [if_pos ⟨ho0, ho1⟩, hb] at hgb
  have HG := Lib.hid (And.intro hga hgb)
  have HM := Lib.hid hm
  have HD := Lib.hid hd
  have hp0 : (0 : Int) < (a : Int) + (b : Int) := by omega
  have hs1 : (a : Int) + (b : Int) < 18446744073709551616 := by omega
  have iq : (q : Int) ≤ 1000 := by omega
  have hw : IntKind.u64.wrap (a : Int) = (a : Int) := IntWalk.u64_in _ (by omega)
  have hw2 : IntKind.u64.wrap (b : Int) = (b : Int) := IntWalk.u64_in _ (by omega)
  clear hga hgb hr ha hb hs hk0 hk1 ho0 ho1 hm hd hap hhi hlo h0 hlt hss hq hq1
  go_wp2_with (go_at_call 22; refine (is_any _ _).mono ?_; rintro e w' ⟨rfl, rfl⟩)
  refine HG.out.1.mono ?_
  rintro e w' ⟨rfl, rfl⟩
  go_wp2_with fail
  refine HG.out.2.mono ?_
  rintro e w' ⟨rfl, rfl⟩
  have hne : ((a : Int) + (b : Int) == 0) = false := beq_eq_false_iff_ne.2 (by omega)
  go_wp2_with fail
  refine (HM.out _).mono ?_
  rintro e w' ⟨rfl, rfl⟩
  go_wp2_with fail
  refine (HD.out _).mono ?_
  rintro e w' ⟨⟨r, rfl⟩, rfl⟩
  go_wp2_with fail
  go_returns
  exact ⟨rfl, rfl⟩
theorem Part_none (g : Nat) (k o : Int) (f : Nat → Int) (w : World) (hr : w.row g (cel f) tT) (hk0 : 0 ≤ k) (hk1 : k < 9) (ho0 : 0 ≤ o) (ho1 : o < 9) (ha : f k.toNat = 0) (hb : f o.toNat = 0) :
    Calls Tryd.prog 10 #[pt g, .int .i64 k, .int .i64 o] w fun e w' => e = .returned (.int .i64 0) ∧ Below w.heap.size w w' := by
  go_enter Tryd.func10, Tryd.ntmps10
  have e1 : decide (0 ≤ k ∧ k < 9) = true := decide_eq_true ⟨hk0, hk1⟩
  have e2 : decide (0 ≤ o ∧ o < 9) = true := decide_eq_true ⟨ho0, ho1⟩
  have hga := (Get_any g k f w hr)
  rw [if_pos ⟨hk0, hk1⟩, ha] at hga
  have hgb := (Get_any g o f w hr)
  rw [if_pos ⟨ho0, ho1⟩, hb] at hgb
  have HG := Lib.hid (And.intro hga hgb)
  clear hga hgb hr ha hb hk0 hk1 ho0 ho1
  go_wp2_with (go_at_call 22; refine (is_any _ _).mono ?_; rintro e w' ⟨rfl, rfl⟩)
  refine HG.out.1.mono ?_
  rintro e w' ⟨rfl, rfl⟩
  go_wp2_with fail
  refine HG.out.2.mono ?_
  rintro e w' ⟨rfl, rfl⟩
  go_wp2_with fail
  go_returns
  exact ⟨rfl, (by repeat' (first | (with_reducible exact Below.refl _ _) | (with_reducible assumption) | (with_reducible refine Below.setCell ?_ ?_ _) | (with_reducible refine Below.ext ?_ _ ?_) | (with_reducible refine Below.alloc ?_ ?_ _) | (with_reducible refine Below.drew ?_) | (with_reducible refine Below.drewN ?_ _) | (with_reducible exact Nat.le_refl _) | (dsimp only; omega) | (simp <;> omega)))⟩
theorem bitLen64 (y : Nat) (hy : y < 18446744073709551616) : ∃ s, s + Lib.bitLen y = 64 := ⟨64 - Lib.bitLen y, by have := Lib.bitLen_le y 64 (by omega) hy; omega⟩
theorem Part_any (g : Nat) (k o : Int) (f : Nat → Int) (w : World) (hr : w.row g (cel f) tT) (hf : Fine f) :
    Calls Tryd.prog 10 #[pt g, .int .i64 k, .int .i64 o] w fun e w' => e = .returned (.int .i64 (shareS f k o)) ∧ Below w.heap.size w w' := by
  unfold shareS
  by_cases hv : 0 ≤ k ∧ k < 9 ∧ 0 ≤ o ∧ o < 9
  · obtain ⟨hk0, hk1, ho0, ho1⟩ := hv
    obtain ⟨a, ha⟩ : ∃ a : Nat, f k.toNat = a := ⟨(f k.toNat).toNat, (Int.toNat_of_nonneg (hf.lo _)).symm⟩
    obtain ⟨b, hb⟩ : ∃ b : Nat, f o.toNat = b := ⟨(f o.toNat).toNat, (Int.toNat_of_nonneg (hf.lo _)).symm⟩
    have h1 : (a : Int) ≤ 4611686018427387904 := ha ▸ hf.hi k.toNat (by omega)
    have h2 : (b : Int) ≤ 4611686018427387904 := hb ▸ hf.hi o.toNat (by omega)
    by_cases hz : a + b = 0
    · rw [if_neg (by rw [ha, hb]; omega)]
      exact Part_none g k o f w hr hk0 hk1 ho0 ho1 (by rw [ha]; omega) (by rw [hb]; omega)
    · rw [if_pos ⟨hk0, hk1, ho0, ho1, by rw [ha, hb]; omega⟩, ha, hb, show (a : Int) * 1000 / ((a : Int) + (b : Int)) = ((a * 1000 / (a + b) : Nat) : Int) by rw [Int.natCast_ediv, Int.natCast_mul, Int.natCast_add]; rfl]
      by_cases hsm : a * 1000 < 18446744073709551616
      · exact Part_small g a b _ k o f w hr hk0 hk1 ho0 ho1 ha hb (by omega) (by omega) rfl hsm
      · obtain ⟨s, hs⟩ := bitLen64 (a + b) (by omega)
        exact (Part_big g a b _ _ _ s k o f w hr hk0 hk1 ho0 ho1 ha hb (by omega) rfl rfl rfl (by omega) (by omega) hs).mono fun e w' ⟨h1, h2⟩ => ⟨h1, h2 ▸ Below.refl _ _⟩
  · rw [if_neg (fun h => hv ⟨h.1, h.2.1, h.2.2.1, h.2.2.2.1⟩)]
    exact Part_bad _ k o w hv
end Go.Proofs.YtnndoajflimkmaaDoor
