/- The document's Add, Drop: contracts. -/
import Derived.Test.YtfbcgnehpkffeaaURefTouch
import Derived.Deep.AppendLies
import Derived.Deep.RegionLaw
namespace Go.Proofs.Ytfbcgnehpkffeaa
open Go Go.RowKit
set_option maxRecDepth 100000
variable {B r : Nat} {w w' w1 : World} {v v' v'' : Value} {R : RS} {ks ks' : List RK} {x y z : RK} {i : Nat} {T : TS} {P D : List RK}
abbrev kZero : Value := .agg #[.int .i64 0, .bool false, .bool false, .int .i64 0]
theorem infoKey : (Try.prog.info? kT).map (fun i => (i.zero, i.size, i.bytes)) = some (some kZero, 4, 24) := by kernel_rfl
theorem info_key : ∃ i0, Try.prog.info? kT = some i0 ∧ i0.zero = some kZero ∧ i0.size = 4 ∧ i0.bytes = 24 := by
  obtain ⟨i, h⟩ : ∃ i, Try.prog.info? kT = some i := by
    cases e : Try.prog.info? kT with
    | none => have := infoKey; rw [e] at this; cases this
    | some i => exact ⟨i, rfl⟩
  have h2 := infoKey
  rw [h] at h2
  simp only [Option.map_some, Option.some.injEq, Prod.mk.injEq] at h2
  exact ⟨i, h, h2.1, h2.2.1, h2.2.2⟩
theorem keyOne (w : World) (x : RK) : ∀ (j : Nat) (u : Value), x.cells[j]? = some u → (w.alloc (.cells x.cells.toArray kT)).cell? ((⟨w.heap.size, 0, none⟩ : Addr).add j) = some u := by
  intro j u hj
  have := (World.row.new w x.cells kT).cell j hj
  cases j with
  | zero => exact this
  | succ j => simpa [Addr.add] using this
theorem key_cell (x : RK) : ∀ u ∈ x.cells, u.oneCell' = true := by
  intro u hu
  simp at hu
  rcases hu with rfl | rfl | rfl | rfl <;> rfl
theorem krow_snoc (h : w.ownsRow B kT 4 v (ks.length + 1) (keyCells ks ++ x.cells)) : krow w B v (ks ++ [x]) := by
  unfold krow
  rw [List.length_append, keyCells_append]
  have : keyCells [x] = x.cells := by simp [keyCells]
  rw [this]
  exact h
theorem krow_mono {C : Nat} (h : krow w B v ks) (hC : C ≤ B) : krow w C v ks := ⟨h.1, h.2.imp id fun ⟨g, cap, cur, hv, hB, q⟩ => ⟨g, cap, cur, hv, Nat.le_trans hC hB, q⟩⟩
/-- Its keys are others: in the row that it had, or in a new one. -/
theorem RefAt.keys (h : RefAt B w r v R) (hg : w.grownBy w1 v.ownBlock) (ho : krow w1 B v' ks) (hloc : v'.ownBlock = v.ownBlock ∨ ∃ k, v'.ownBlock = some k ∧ w.heap.size ≤ k) :
    RefAt B (w1.setCell ⟨r, 2, none⟩ v') r v' { R with ks := ks } ∧ RStep r v v' w (w1.setCell ⟨r, 2, none⟩ v') := by
  have hlt := h.row.lt
  have hv' : v'.ownBlock ≠ some r := by
    rcases hloc with e | ⟨k, e, hk⟩
    · rw [e]; exact h.vr
    · rw [e]; intro e2; cases e2; omega
  refine ⟨⟨(h.row.grown hg fun e => h.vr e.symm).set 2 _, ho.same fun k hk => setCell_else w1 r _ _ fun e => hv' (by rw [hk, e]), hv', h.br⟩, hg.os, hg.tape, hg.output, by simp [World.setCell]; exact hg.size, fun k hk => ?_, fun k hk hr hv => ?_⟩
  · rcases hloc with e | ⟨k', e, hk'⟩
    · exact .inl (e ▸ hk)
    · rw [e] at hk; cases hk; exact .inr hk'
  · rw [setCell_else w1 r _ _ hr]
    exact hg.block k hk fun e => hv e.symm
theorem own_len (a : Option Addr) (m n c : Nat) : (Value.slice a m c).ownBlock = (Value.slice a n c).ownBlock := by cases a <;> rfl
theorem Rel.fullR (hrel : Rel T R P D) : T.full = decide (R.most ≤ R.ks.length) := by unfold TS.full; rw [hrel.mo, hrel.len]
set_option maxHeartbeats 2000000 in
theorem RAdd_any (k : Int) (w : World) (h : RefAt B w r v R) (hrel : Rel T R P D) (hg : Good T) (hcl : R.clock ≤ 1000) (hB : B ≤ w.heap.size) :
    Calls Try.prog 20 #[pt r, .int .i64 k] w fun e w' => e = .returned (.int .i64 (T.addE k)) ∧ ∃ v' R', RefAt B w' r v' R' ∧ (∃ P' D', Rel (T.addT k) R' P' D') ∧ RStep r v v' w w' ∧ R'.clock ≤ R.clock + 1 := by
  have hl := hrel.len64 hg
  have hF := Find_any k w h (by omega)
  have HR := Lib.hid (And.intro h (And.intro hrel (And.intro hg hB)))
  have hB0 := Lib.hid hB
  obtain ⟨i0, hi, hz0, hz1, hz2⟩ := info_key
  have HIN : Hid (Try.prog.info? kT = some i0 ∧ i0.zero = some kZero ∧ i0.size = 4 ∧ i0.bytes = 24) := ⟨hi, hz0, hz1, hz2⟩
  clear hi hz0 hz1 hz2 hB
  go_enter Try.func20, Try.ntmps20
  go_wp2_with fail
  refine hF.mono ?_
  rintro e w' ⟨⟨q, rfl, hq⟩, rfl⟩
  rcases hrel.find hq with ⟨rfl, hh⟩ | ⟨i, x, rfl, hi, he, hh, hd⟩
  case inr =>
    have HH := Lib.hid hh
    clear hF hq hh hi he hd h hrel hg
    go_wp2_with fail
    go_returns
    refine ⟨by unfold TS.addE; rw [HH.out]; rfl, v, R, HR.out.1, ⟨P, D, ?_⟩, RStep.refl _ _ _, by omega⟩
    unfold TS.addT
    rw [HH.out]
    exact HR.out.2.1
  have HH := Lib.hid hh
  obtain ⟨c0, c1, c2, c3, cz⟩ := h.row.four
  have hrl := h.row.lt
  obtain ⟨a, c, rfl⟩ := h.kr.shape
  obtain ⟨m, hm⟩ : ∃ m, m = R.ks.length := ⟨_, rfl⟩
  have hm64 : R.most ≤ 64 := by rw [← hrel.mo]; exact hg.m64
  have HFU := Lib.hid hrel.fullR
  rw [← hm] at c2 hl
  have HM := Lib.hid hm
  clear hF hq hh h hrel hg hm
  by_cases hfu : R.most ≤ m
  · have hfI : (R.most : Int) ≤ (m : Int) := by omega
    go_wp2_with fail
    go_quiet (fail)
    go_wp2_with fail
    go_returns
    have hft : T.full = true := by rw [HFU.out, ← HM.out]; simpa using hfu
    refine ⟨by unfold TS.addE; rw [HH.out, hft]; rfl, _, R, HR.out.1.below ((Below.refl _ _).drewN _), ⟨P, D, ?_⟩, RStep.of_below ((Below.refl _ _).drewN _), by omega⟩
    unfold TS.addT
    rw [HH.out, hft]
    exact HR.out.2.1
  · have hfI : ¬ (R.most : Int) ≤ (m : Int) := by omega
    have hft : T.full = false := by rw [HFU.out, ← HM.out]; simpa using hfu
    have HFT := Lib.hid hft
    clear hft
    go_wp2_with fail
    go_quiet (fail)
    go_wp2_with fail
    have hA := HR.out.1.below ((Below.refl w.heap.size w).drewN nq)
    have sA : RStep r (.slice a R.ks.length c) (.slice a R.ks.length c) w (w.drewN nq) := RStep.of_below ((Below.refl _ _).drewN _)
    have hBn : B ≤ (w.drewN nq).heap.size := hB0.out
    obtain ⟨wn, hwn⟩ : ∃ wn, wn = w.drewN nq := ⟨_, rfl⟩
    rw [← hwn] at hA sA hBn ⊢
    clear hwn c0 c1 c2 c3 cz hrl
    obtain ⟨c0, c1, c2, c3, cz⟩ := hA.row.four
    have hrl := hA.row.lt
    rw [← HM.out] at c2
    have hko : wn.ownsRow B kT 4 (.slice a m c) m (keyCells R.ks) := by have := hA.kr; unfold krow at this; rw [← HM.out] at this; exact this
    obtain ⟨rc, hrc⟩ : ∃ rc, rc = R.clock := ⟨_, rfl⟩
    rw [← hrc] at c3 hcl
    go_cut [] (fun wc => ∃ v', RefAt B wc r v' { R with ks := R.ks ++ [⟨k, false, false, R.clock⟩] } ∧ RStep r (.slice a R.ks.length c) v' w wc)
    case first =>
      have HO := Lib.hid hko
      have HS : Hid (∀ o, (wn.alloc o).cell? ⟨r, 2, none⟩ = some (.slice a m c) ∧ (wn.alloc o).frozen? ⟨r, 2, none⟩ = false) := Lib.hid fun o => ⟨by rw [HM.out]; exact (hA.row.alloc o).cell 2 rfl, (hA.row.alloc o).free 2⟩
      have HNE : Hid (some r ≠ (Value.slice a m c).ownBlock) := Lib.hid fun e => hA.vr (by rw [← HM.out]; exact e.symm)
      have HCL := Lib.hid hrc
      clear hrc hko
      go_region_law
        ((refine step_append_lies _ (by rfl) (.tmp 25) (.tmp 32) 60 (by rfl) B kT i0 kZero 4 24 Try.underlying60 HIN.out.1 HIN.out.2.1 HIN.out.2.2.1 HIN.out.2.2.2 rfl (by decide) (.slice a m c) m (keyCells R.ks) (by rfl) (HO.out.alloc _) ⟨wn.heap.size, 0, none⟩ 1 1 (RK.cells ⟨k, false, false, rc⟩) (by rfl) rfl (keyOne wn ⟨k, false, false, rc⟩) (key_cell _) (by decide) (by unfold maxLen; omega) (by omega) (by simp; omega) _ rfl ?_; intro g1 cap1 w1 hown hgrow hat hlt1; have hk2 := hgrow.cell (HS.out (.cells (RK.cells ⟨k, false, false, rc⟩).toArray kT)).1 HNE.out; have hz2 := (hgrow.frozen_far ⟨r, 2, none⟩ (by simp; omega) HNE.out).trans (HS.out (.cells (RK.cells ⟨k, false, false, rc⟩).toArray kT)).2))
      all_goals (
        have hgrow' : (wn.alloc (.cells (RK.cells ⟨k, false, false, rc⟩).toArray kT)).grownBy w1 (Value.slice a m c).ownBlock := ⟨hgrow.os, hgrow.tape, hgrow.output, hgrow.size, hgrow.block⟩
        have hgr2 := (World.grownBy_alloc wn (.cells (RK.cells ⟨k, false, false, rc⟩).toArray kT) (Value.slice a m c).ownBlock).trans hgrow'
        rw [HM.out] at hown hgr2
        obtain ⟨N1, N2⟩ := hA.keys (w1 := w1) hgr2 (krow_snoc hown) (hat.imp (fun e => by rw [own_len a R.ks.length m c, e]; rfl) fun e => ⟨g1, rfl, by rw [e]; simp⟩)
        rw [HCL.out] at N1
        rw [show R.ks.length + 1 = m + 1 by rw [HM.out]] at N1 N2
        have HNN := Lib.hid (And.intro N1 (sA.trans N2))
        clear N1 N2 hown hgr2 hgrow' hgrow hat
        go_wp2_with fail
        go_meet
        case rel => exact ⟨_, HNN.out.1, HNN.out.2⟩)
    case rest =>
      obtain ⟨v', N1, S1⟩ := hcut
      obtain ⟨e0, e1, e2, e3, ez⟩ := N1.row.four
      have hrl3 := N1.row.lt
      rw [← hrc] at e3
      obtain ⟨N2, S2⟩ := N1.tick1
      have HN := Lib.hid (And.intro N2 (S1.trans S2))
      have hrcb := Lib.hid hrc
      clear N1 S1 N2 S2 hrc c0 c1 c2 c3 cz hrl hA sA hko hBn
      go_wp2_with fail
      go_returns
      rw [hrcb.out]
      refine ⟨by unfold TS.addE; rw [HH.out, HFT.out]; rfl, v', _, HN.out.1, ⟨_, D, HR.out.2.1.add HH.out HFT.out⟩, HN.out.2, Nat.le_refl _⟩
end Go.Proofs.Ytfbcgnehpkffeaa
