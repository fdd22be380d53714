/- The document's 'first': its contract. -/
import Derived.Test.YtfbcgnehpkffeaaURefAt
namespace Go.Proofs.Ytfbcgnehpkffeaa
open Go Go.RowKit
set_option maxRecDepth 100000
variable {B r : Nat} {w w' : World} {v : Value} {R : RS} {ks : List RK} {x y z : RK} {i : Nat}
set_option maxHeartbeats 2000000 in
theorem first_any (b free : Bool) (w : World) (h : RefAt B w r v R) (hl : R.ks.length ≤ 1000) :
    Calls Try.prog 31 #[pt r, .bool b, .bool free] w fun e w' => (∃ q, e = .returned (.int .i64 q) ∧ IsFirst R.ks b free q) ∧ Below w.heap.size w w' := by
  have HR := Lib.hid h
  obtain ⟨m, hm⟩ : ∃ m, m = R.ks.length := ⟨_, rfl⟩
  rw [← hm] at hl
  have HM := Lib.hid hm
  obtain ⟨a, c, hv⟩ := h.kr.shape
  rw [← hm] at hv
  subst hv
  clear hm h
  obtain ⟨bl, hbl⟩ : ∃ bl, bl = w.heap.size := ⟨_, rfl⟩
  have hrl : r < bl := by rw [hbl]; exact HR.out.row.lt
  have HBL := Lib.hid hbl
  clear hbl
  go_enter Try.func31, Try.ntmps31
  go_wp2_with fail
  go_loopw [7, 8] (fun s x wr => ∃ (i : Nat) (q : Int), i ≤ m ∧ x = .int .i64 i ∧ s = .int .i64 q ∧ Below w.heap.size w wr ∧ IsFirst (R.ks.take i) b free q) (fun _ x _ => m - (intOf x).toNat)
  case atStart => exact ⟨0, -1, by omega, rfl, rfl, Below.refl _ _, isFirst_zero b free⟩
  case round =>
    obtain ⟨i, q, hi, rfl, rfl, hB, hq⟩ := hrel
    have hRr := HR.out.below hB
    obtain ⟨c0, c1, c2, c3, cz⟩ := hRr.row.four
    have hrl2 := hRr.row.lt
    have HQ := Lib.hid hq
    have hqc := isFirst_lt hq
    clear hq
    by_cases hlt : i < m
    · have hil : i < R.ks.length := by rw [← HM.out]; exact hlt
      obtain ⟨x, hx⟩ : ∃ x, R.ks[i]? = some x := ⟨R.ks[i], List.getElem?_eq_getElem hil⟩
      obtain ⟨g, c', ev, hBg, hgl, d0, d1, d2, d3, dz⟩ := hRr.kr.at hx
      obtain ⟨rfl, hmL, rfl⟩ := Value.slice.inj ev
      have HX := Lib.hid hx
      have HRR := Lib.hid hRr
      obtain ⟨xd, hxd⟩ : ∃ xd, xd = x.dear := ⟨_, rfl⟩
      obtain ⟨xp, hxp⟩ : ∃ xp, xp = x.pin := ⟨_, rfl⟩
      have hfit : fits b free x = ((xd == b) && !(free && xp)) := by rw [hxd, hxp]; rfl
      have HF := Lib.hid hfit
      rw [← hxd] at d1
      rw [← hxp] at d2
      clear hmL ev hil hBg d0 hx hRr hxd hxp hfit
      by_cases hf : fits b free x = true
      · have HFF := Lib.hid hf
        rw [HF.out] at hf
        have hcs : xd = b ∧ (free = false ∨ (free = true ∧ xp = false)) := by
          revert hf; cases xd <;> cases b <;> cases free <;> cases xp <;> simp
        clear hf
        have hq3 : q = -1 ∨ (∃ (j : Nat) (y : RK), q = (j : Int) ∧ j < i ∧ R.ks[j]? = some y ∧ x.at_ < y.at_) ∨ (∃ (j : Nat) (y : RK), q = (j : Int) ∧ j < i ∧ R.ks[j]? = some y ∧ ¬ x.at_ < y.at_) := by
          rcases hqc with h | ⟨j, y, h1, h2, h3⟩
          · exact .inl h
          · by_cases hh : x.at_ < y.at_
            · exact .inr (.inl ⟨j, y, h1, h2, h3, hh⟩)
            · exact .inr (.inr ⟨j, y, h1, h2, h3, hh⟩)
        clear hqc
        obtain ⟨xa, hxa⟩ : ∃ xa, xa = x.at_ := ⟨_, rfl⟩
        have HXA := Lib.hid hxa
        rw [← hxa] at d3 hq3
        clear hxa
        rcases hq3 with rfl | ⟨j, y, rfl, hji, hy, hlt3⟩ | ⟨j, y, rfl, hji, hy, hlt3⟩
        · obtain ⟨rfl, hcs⟩ := hcs
          rcases hcs with rfl | ⟨rfl, rfl⟩
          all_goals (
            go_wp2_with fail
            go_quiet (fail)
            go_wp2_with fail
            go_roundw
            case rel => exact ⟨i + 1, i, by omega, by go_num, by go_num, hB.drewN _, isFirst_here HQ.out HX.out HFF.out (.inl rfl)⟩
            case measure => simp [intOf] <;> omega)
        all_goals (
          obtain ⟨g2, c2', ev2, hBg2, hgl2, e0, e1, e2, e3, ez⟩ := HRR.out.kr.at hy
          obtain ⟨eg, hmL2, ec⟩ := Value.slice.inj ev2
          obtain rfl : g = g2 := by simpa using eg
          obtain ⟨ya, hya⟩ : ∃ ya, ya = y.at_ := ⟨_, rfl⟩
          have HYA := Lib.hid hya
          have hj0 : ((j : Int) < 0) = False := eq_false (by omega)
          have HY := Lib.hid hy
          rw [← hya] at e3 hlt3
          clear hya ev2 eg hmL2 ec hBg2 hgl2 e0 e1 e2 ez hy)
        · have hI : (xa : Int) < (ya : Int) := by omega
          obtain ⟨rfl, hcs⟩ := hcs
          rcases hcs with rfl | ⟨rfl, rfl⟩
          all_goals (
            go_wp2_with fail
            go_quiet (fail)
            go_wp2_with fail
            go_roundw
            case rel => exact ⟨i + 1, i, by omega, by go_num, by go_num, hB.drewN _, isFirst_here HQ.out HX.out HFF.out (.inr ⟨j, y, rfl, HY.out, by rw [← HXA.out, ← HYA.out]; exact hlt3⟩)⟩
            case measure => simp [intOf] <;> omega)
        · have hI : ¬ (xa : Int) < (ya : Int) := by omega
          obtain ⟨rfl, hcs⟩ := hcs
          rcases hcs with rfl | ⟨rfl, rfl⟩
          all_goals (
            go_wp2_with fail
            go_quiet (fail)
            go_wp2_with fail
            go_roundw
            case rel => exact ⟨i + 1, j, by omega, by go_num, rfl, hB.drewN _, isFirst_keep HQ.out HX.out HY.out (by rw [← HXA.out, ← HYA.out]; omega)⟩
            case measure => simp [intOf] <;> omega)
      · have hff : fits b free x = false := by simpa using hf
        have HFF := Lib.hid hff
        rw [HF.out] at hff
        clear hf hqc
        have hcs : xd ≠ b ∨ (xd = b ∧ free = true ∧ xp = true) := by
          revert hff; cases xd <;> cases b <;> cases free <;> cases xp <;> simp
        clear hff
        rcases hcs with hne | ⟨rfl, rfl, rfl⟩
        · have hne2 : (xd != b) = true := bne_iff_ne.2 hne
          go_wp2_with fail
          go_roundw
          case rel => exact ⟨i + 1, q, by omega, by go_num, rfl, hB, isFirst_skip HQ.out HX.out HFF.out⟩
          case measure => simp [intOf] <;> omega
        · go_wp2_with fail
          go_roundw
          case rel => exact ⟨i + 1, q, by omega, by go_num, rfl, hB, isFirst_skip HQ.out HX.out HFF.out⟩
          case measure => simp [intOf] <;> omega
    · have hqq : IsFirst R.ks b free q := by
        have := HQ.out
        rw [List.take_of_length_le (by have := HM.out; omega)] at this
        exact this
      have HQQ := Lib.hid hqq
      clear hqq
      go_wp2_with fail
      go_returns
      exact ⟨⟨q, rfl, HQQ.out⟩, hB⟩
end Go.Proofs.Ytfbcgnehpkffeaa
