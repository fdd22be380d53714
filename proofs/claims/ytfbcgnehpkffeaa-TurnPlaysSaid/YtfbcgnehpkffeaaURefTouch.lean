/- The document's Touch: its contract. -/
import Derived.Test.YtfbcgnehpkffeaaURefPin
namespace Go.Proofs.Ytfbcgnehpkffeaa
open Go Go.RowKit
set_option maxRecDepth 100000
variable {B r : Nat} {w w' w'' : World} {v v' v'' : Value} {R : RS} {ks : List RK} {x y z : RK} {i : Nat} {T : TS} {P D : List RK}
theorem RefAt.tick1 (h : RefAt B w r v R) : RefAt B (w.setCell ⟨r, 3, none⟩ (.int .i64 ((R.clock : Int) + 1))) r v { R with clock := R.clock + 1 } ∧ RStep r v v w (w.setCell ⟨r, 3, none⟩ (.int .i64 ((R.clock : Int) + 1))) := by
  have := h.tick (R.clock + 1)
  rw [show ((R.clock + 1 : Nat) : Int) = (R.clock : Int) + 1 by omega] at this
  exact this
theorem RStep.drew (r : Nat) (v : Value) (w : World) : RStep r v v w w.drew := ⟨rfl, rfl, rfl, Nat.le_refl _, fun _ h => .inl h, fun _ _ _ _ => rfl⟩
theorem Srt.firstDear (h : Srt P (y :: D) ks) {q : Int} (hr : IsFirst ks true false q) : ∃ i : Nat, q = (i : Int) ∧ ks[i]? = some y := by
  rcases h.first hr with ⟨h1, h2⟩ | ⟨i, y', h1, h2, h3⟩
  · have h4 : ((y :: D).find? fun z => !(false && z.pin)) = none := h1
    rw [find_all] at h4; cases h4
  · have h4 : ((y :: D).find? fun z => !(false && z.pin)) = some y' := h1
    rw [find_all] at h4
    cases h4
    exact ⟨i, h2, h3⟩
theorem setk (ks : List RK) (i : Nat) (y y' : RK) : (ks.set i y).set i y' = ks.set i y' := by rw [List.set_set]
set_option maxHeartbeats 2000000 in
theorem RTouch_any (k : Int) (w : World) (h : RefAt B w r v R) (hrel : Rel T R P D) (hg : Good T) (hcl : R.clock ≤ 1000) :
    Calls Try.prog 16 #[pt r, .int .i64 k] w fun e w' => e = .returned (.bool (T.has k)) ∧ ∃ R' P' D', RefAt B w' r v R' ∧ Rel (T.touchT k) R' P' D' ∧ RStep r v v w w' ∧ R'.clock ≤ R.clock + 2 := by
  have hl := hrel.len64 hg
  have hF := Find_any k w h (by omega)
  have HR := Lib.hid (And.intro h (And.intro hrel hg))
  clear h hrel hg
  go_enter Try.func16, Try.ntmps16
  go_wp2_with fail
  refine hF.mono ?_
  rintro e w' ⟨⟨q, rfl, hq⟩, rfl⟩
  rcases HR.out.2.1.find hq with ⟨rfl, hh⟩ | ⟨i, x, rfl, hi, he, hh, hd⟩
  · have HH := Lib.hid hh
    clear hF hq hh
    go_wp2_with fail
    go_returns
    refine ⟨by rw [HH.out]; rfl, R, P, D, HR.out.1, ?_, RStep.refl _ _ _, by omega⟩
    unfold TS.touchT
    rw [HH.out]
    exact HR.out.2.1
  · obtain ⟨c0, c1, c2, c3, cz⟩ := HR.out.1.row.four
    have hrl := HR.out.1.row.lt
    obtain ⟨g, c, rfl, hBg, hgl, d0, d1, d2, d3, dz⟩ := HR.out.1.kr.at hi
    have hil : i < R.ks.length := (List.getElem?_eq_some_iff.1 hi).1
    have HI := Lib.hid (And.intro hi (And.intro he (And.intro hh hd)))
    obtain ⟨m, hm⟩ : ∃ m, m = R.ks.length := ⟨_, rfl⟩
    rw [← hm] at c2 hl hil
    have HM := Lib.hid hm
    obtain ⟨hA0, sA0⟩ := HR.out.1.keySet HI.out.1 1 (by omega) (.bool true) { x with dear := true } rfl
    have hgr : g ≠ r := fun e => HR.out.1.vr (by rw [e]; rfl)
    clear hF hq hh hi he hd hBg d0 d2 d3 hm
    go_wp2_with fail
    refine wp_world (fun wa => RefAt B wa r (.slice (some ⟨g, 0, none⟩) R.ks.length c) { R with ks := R.ks.set i { x with dear := true } } ∧ RStep r (.slice (some ⟨g, 0, none⟩) R.ks.length c) (.slice (some ⟨g, 0, none⟩) R.ks.length c) w wa) ⟨hA0, sA0⟩ ?_
    rintro wa ⟨hA, sA⟩
    clear hA0 sA0 c0 c1 c2 c3 cz d1 dz hrl hgl
    have hA2 := hA.drew
    have sA2 := sA.trans (RStep.drew r _ wa)
    obtain ⟨e0, e1, e2, e3, ez⟩ := hA.row.four
    rw [← HM.out] at e2
    have hrl := hA.row.lt
    go_still_tail 11, (by kernel_rfl)
    change wpList _ _ _ _ _ wa.drew
    obtain ⟨w2, hw2⟩ : ∃ w2, w2 = wa.drew := ⟨_, rfl⟩
    rw [← hw2] at hA2 sA2 ⊢
    have hi1 : (R.ks.set i { x with dear := true })[i]? = some { x with dear := true } := by rw [List.getElem?_set_self (by have := HM.out; omega)]
    obtain ⟨g', c', ev, y0, hgl, y1, y2, y3, y4, dz⟩ := hA2.kr.at hi1
    obtain rfl : g = g' := by simpa using (Value.slice.inj ev).1
    obtain ⟨hB0, sB0⟩ := hA2.keySet hi1 3 (by omega) (.int .i64 (R.clock : Int)) { x with dear := true, at_ := R.clock } rfl
    have sB1 := sA2.trans sB0
    obtain ⟨hC0, sC0⟩ := hB0.tick1
    have sC1 := sB1.trans sC0
    have hrl2 := hA2.row.lt
    obtain ⟨f0, f1, f2, f3, fz⟩ := hB0.row.four
    have hRR : ({ ({ ({ R with ks := R.ks.set i { x with dear := true } } : RS) with ks := (R.ks.set i { x with dear := true }).set i { x with dear := true, at_ := R.clock } } : RS) with clock := R.clock + 1 } : RS) = { R with ks := R.ks.set i { x with dear := true, at_ := R.clock }, clock := R.clock + 1 } := by rw [List.set_set]
    have hC := Lib.hid (And.intro hC0 sC1)
    clear hA hA2 sA sA2 hB0 sB0 sB1 hC0 sC0 sC1 e0 e1 e2 e3 ez hw2 ev hi1 f0 f1 f2 y0 y1 y2 y3
    rw [hRR] at hC
    clear hRR
    obtain ⟨P2, D0, hM⟩ := HR.out.2.1.moved HR.out.2.2 HI.out.1 HI.out.2.1
    obtain ⟨R2, hR2⟩ : ∃ R2 : RS, R2 = { R with ks := R.ks.set i { x with dear := true, at_ := R.clock }, clock := R.clock + 1 } := ⟨_, rfl⟩
    rw [← hR2] at hC hM
    have hR2c : R2.clock = R.clock + 1 := by rw [hR2]
    have hR2l : R2.ks.length ≤ 1000 := by rw [hR2]; show (R.ks.set i _).length ≤ 1000; rw [List.length_set, ← HM.out]; omega
    have hR2m : R2.ks.length = m := by rw [hR2, HM.out]; exact List.length_set
    obtain ⟨D2, hD2⟩ : ∃ D2, D2 = D0 ++ [{ x with dear := true, at_ := R.clock }] := ⟨_, rfl⟩
    have hD2n : D2 ≠ [] := by rw [hD2]; simp
    rw [← hD2] at hM
    obtain ⟨nd, hnd⟩ : ∃ nd, nd = (T.moved k).dear.length := ⟨_, rfl⟩
    have hdears := hM.dears
    rw [← hnd] at hdears
    have hnd64 : nd ≤ 100 := by
      have h1 := moved_dear T k
      have h2 := HR.out.2.2.dlen
      have h3 := HR.out.2.2.lim
      have h4 := HR.out.2.2.m64
      omega
    have hDr := Dear_any _ hC.out.1 hR2l
    rw [hdears] at hDr
    have HMV := Lib.hid (And.intro hM (And.intro hnd (And.intro hR2m hR2c)))
    clear hM hnd hR2m hR2c hR2 hdears hD2
    go_wp2_with fail
    refine hDr.mono ?_
    rintro e w3 ⟨rfl, hw3⟩
    rw [hw3] at hC
    clear hDr hw3 f3 fz dz hgl hrl2 hrl y4
    obtain ⟨f0, f1, f2, f3, fz⟩ := hC.out.1.row.four
    have hrl := hC.out.1.row.lt
    by_cases hlim : R2.limit < nd
    · obtain ⟨y, D3, rfl⟩ : ∃ y D3, D2 = y :: D3 := by cases D2 with | nil => exact absurd rfl hD2n | cons y D3 => exact ⟨y, D3, rfl⟩
      have hFi := first_any true false w3 hC.out.1 hR2l
      have HLI := Lib.hid hlim
      clear hR2l
      go_wp2_with fail
      refine hFi.mono ?_
      rintro e w4 ⟨⟨q, rfl, hq⟩, hb4⟩
      obtain ⟨j, rfl, hj⟩ := HMV.out.1.srt.firstDear hq
      have hD4 := hC.out.1.below hb4
      have sD4 := hC.out.2.trans (RStep.of_below hb4)
      clear hFi hq hb4 f0 f1 f2 f3 fz hrl
      obtain ⟨f0, f1, f2, f3, fz⟩ := hD4.row.four
      have hrl := hD4.row.lt
      obtain ⟨g', c', ev, y0, hgl, y1, y2, y3, y4, dz⟩ := hD4.kr.at hj
      obtain ⟨eg, em, ec⟩ := Value.slice.inj ev
      obtain rfl : g = g' := by simpa using eg
      have hjl : j < m := by rw [← HMV.out.2.2.1]; exact (List.getElem?_eq_some_iff.1 hj).1
      rw [← HM.out] at f2
      obtain ⟨hE0, sE0⟩ := hD4.keySet hj 1 (by omega) (.bool false) { y with dear := false } rfl
      have sE1 := sD4.trans sE0
      have HJ := Lib.hid hj
      clear hj ev eg em ec y0 y1 y3 y4 hD4 sD4 sE0
      go_wp2_with fail
      refine wp_world (fun wa => RefAt B wa r (.slice (some ⟨g, 0, none⟩) R.ks.length c) { R2 with ks := R2.ks.set j { y with dear := false } } ∧ RStep r (.slice (some ⟨g, 0, none⟩) R.ks.length c) (.slice (some ⟨g, 0, none⟩) R.ks.length c) w wa) ⟨hE0, sE1⟩ ?_
      rintro wb ⟨hA, sA⟩
      clear hE0 sE1 f0 f1 f2 f3 fz y2 dz hrl hgl
      have hA2 := hA.drew
      have sA2 := sA.trans (RStep.drew r _ wb)
      obtain ⟨e0, e1, e2, e3, ez⟩ := hA.row.four
      rw [← HM.out] at e2
      have hrl := hA.row.lt
      go_still_tail 11, (by kernel_rfl)
      change wpList _ _ _ _ _ wb.drew
      obtain ⟨w5, hw5⟩ : ∃ w5, w5 = wb.drew := ⟨_, rfl⟩
      rw [← hw5] at hA2 sA2 ⊢
      have hi1 : (R2.ks.set j { y with dear := false })[j]? = some { y with dear := false } := by rw [List.getElem?_set_self (List.getElem?_eq_some_iff.1 HJ.out).1]
      obtain ⟨g', c'', ev, y0, hgl, y1, y2, y3, y4, dz⟩ := hA2.kr.at hi1
      obtain rfl : g = g' := by simpa using (Value.slice.inj ev).1
      have hcl2 : R2.clock ≤ 1001 := by rw [HMV.out.2.2.2]; omega
      obtain ⟨hB0, sB0⟩ := hA2.keySet hi1 3 (by omega) (.int .i64 (R2.clock : Int)) { y with dear := false, at_ := R2.clock } rfl
      have sB1 := sA2.trans sB0
      obtain ⟨hC0, sC0⟩ := hB0.tick1
      have sC1 := sB1.trans sC0
      have hrl2 := hA2.row.lt
      obtain ⟨f0, f1, f2, f3, fz⟩ := hB0.row.four
      have hRR : ({ ({ ({ R2 with ks := R2.ks.set j { y with dear := false } } : RS) with ks := (R2.ks.set j { y with dear := false }).set j { y with dear := false, at_ := R2.clock } } : RS) with clock := R2.clock + 1 } : RS) = { R2 with ks := R2.ks.set j { y with dear := false, at_ := R2.clock }, clock := R2.clock + 1 } := by rw [List.set_set]
      have HE := Lib.hid (And.intro hC0 sC1)
      rw [hRR] at HE
      clear hA hA2 sA sA2 hB0 sB0 sB1 hC0 sC0 sC1 e0 e1 e2 e3 ez hw5 ev hi1 f0 f1 f2 y0 y1 y2 y3 hRR
      go_wp2_with fail
      go_returns
      obtain ⟨P4, D4, hF4⟩ := HMV.out.1.fall HJ.out (by rw [← HMV.out.2.1, HMV.out.1.li]; exact HLI.out)
      refine ⟨by rw [HI.out.2.2.1]; rfl, _, HE.out.1, ⟨P4, D4, ?_⟩, HE.out.2, by have := HMV.out.2.2.2; show R2.clock + 1 ≤ R.clock + 2; omega⟩
      unfold TS.touchT
      rw [HI.out.2.2.1, if_pos rfl]
      exact hF4
    · have hdone : (T.moved k).fallT = T.moved k := TS.fallT_no (by rw [← HMV.out.2.1, HMV.out.1.li]; exact hlim)
      have HDN := Lib.hid hdone
      clear hdone
      go_wp2_with fail
      go_returns
      refine ⟨by rw [HI.out.2.2.1]; rfl, R2, P2, D2, hC.out.1, ?_, hC.out.2, by rw [HMV.out.2.2.2]; omega⟩
      unfold TS.touchT
      rw [HI.out.2.2.1, if_pos rfl, HDN.out]
      exact HMV.out.1
end Go.Proofs.Ytfbcgnehpkffeaa
