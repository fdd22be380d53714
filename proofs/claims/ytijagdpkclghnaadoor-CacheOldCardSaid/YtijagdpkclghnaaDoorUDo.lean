/- Add, falls, Touch, Pin, Drop of a turn: contracts. -/
import Derived.Test.YtijagdpkclghnaaDoorUSpec
import Derived.Test.YtijagdpkclghnaaDoorUGet
import Derived.Deep.RegionHeld3
import Derived.Deep.RegionLaw
import Derived.Deep.AppendLies
namespace Go.Proofs.YtijagdpkclghnaaDoor
open Go Go.RowKit
set_option maxRecDepth 100000
variable {B n : Nat} {w : World} {M : TM} {T : TS}
theorem infoInt : (Tryd.prog.info? tI).map (fun i => (i.zero, i.size, i.bytes)) = some (some (.int .i64 0), 1, 8) := by kernel_rfl
theorem info_parts {o : Option TypeInfo} {z : Option Value} {s b : Nat} (h : o.map (fun i => (i.zero, i.size, i.bytes)) = some (z, s, b)) : ∃ i, o = some i ∧ i.zero = z ∧ i.size = s ∧ i.bytes = b := by
  cases o with
  | none => cases h
  | some i => simp at h; exact ⟨i, rfl, h.1, h.2.1, h.2.2⟩
theorem cellOne (w : World) (v : Value) (t : TypeId) : ∀ (j : Nat) (u : Value), [v][j]? = some u → (w.alloc (.cells #[v] t)).cell? ((⟨w.heap.size, 0, none⟩ : Addr).add j) = some u := by
  intro j u h
  cases j with
  | zero => simp at h; subst h; simp [Addr.add]
  | succ j => simp at h
theorem own_shape {w : World} {v : Value} {n : Nat} {xs : List Value} (h : w.ownsRow B tI 1 v n xs) : ∃ a m c, v = .slice a m c := by
  rcases h.2 with ⟨h1, _⟩ | ⟨g, cap, cur, h1, _⟩
  · exact ⟨_, _, _, h1⟩
  · exact ⟨_, _, _, h1⟩
/-- A row with one element more. -/
theorem irow_snoc {w : World} {v : Value} {xs : List Int} {x : Int} (h : w.ownsRow B tI 1 v (xs.length + 1) (ints xs ++ [.int .i64 x])) : w.irow B tI v (xs ++ [x]) := by
  unfold World.irow
  rw [ints_append, List.length_append]
  exact h
theorem Add_any (x : Int) (w : World) (h : TurnAt B n w M T) (hg : Good T) :
    Calls Tryd.prog 51 #[pt M.g, .int .i64 x] w fun e w' => e = .returned (.int .i64 (T.addE x)) ∧ ∃ M', TurnAt B n w' M' (T.addT x) ∧ Step M M' w w' := by
  obtain ⟨i0, hi, hz0, hz1, hz2⟩ := info_parts infoInt
  have HI : Hid (Tryd.prog.info? tI = some i0 ∧ i0.zero = some (.int .i64 0) ∧ i0.size = 1 ∧ i0.bytes = 8) := ⟨hi, hz0, hz1, hz2⟩
  clear hi hz0 hz1 hz2
  have hH := Has_any x w h
  unfold TS.addE TS.addT
  rw [show (T.dear.contains x || T.plain.contains x) = T.has x from rfl] at hH
  cases hh : T.has x with
  | true =>
    rw [hh] at hH
    simp only [if_true]
    go_enter Tryd.func51, Tryd.ntmps51
    go_wp2_with fail
    refine hH.mono ?_
    rintro e w' ⟨rfl, rfl⟩
    go_wp2_with fail
    go_returns
    exact ⟨rfl, M, h, Step.refl _ _⟩
  | false =>
    rw [hh] at hH
    have hF := Full_any w h hg
    rw [show decide (T.most ≤ T.plain.length + T.dear.length) = T.full from rfl] at hF
    simp only [Bool.false_eq_true, if_false]
    cases hf : T.full with
    | true =>
      rw [hf] at hF
      simp only [if_true]
      go_enter Tryd.func51, Tryd.ntmps51
      go_wp2_with fail
      refine hH.mono ?_
      rintro e w' ⟨rfl, rfl⟩
      go_wp2_with fail
      refine Calls.pure_to hF ?_
      intro w1 hb1
      go_wp2_with fail
      go_returns
      exact ⟨rfl, M, h.below' hb1, Step.of_below M hb1⟩
    | false =>
      rw [hf] at hF
      simp only [Bool.false_eq_true, if_false]
      have hl := hg.len
      have h64 := hg.m64
      have hdl : Hid (T.plain.length ≤ 64) := Lib.hid (by omega)
      clear hl h64
      go_enter Tryd.func51, Tryd.ntmps51
      go_wp2_with fail
      refine hH.mono ?_
      rintro e w' ⟨rfl, rfl⟩
      go_wp2_with fail
      refine Calls.pure_to hF ?_
      intro w1 hb1
      have h1 := h.below' hb1
      have S1 := Step.of_below M hb1
      obtain ⟨c0, c1, c2, c3, c4, z⟩ := h1.five
      have gl := h1.row.lt
      clear hb1
      go_wp2_with (at_builtin; refine wpList_append_own_at _ rfl _ _ 99 rfl B tI i0 (.int .i64 0) 1 8 Tryd.underlying99 HI.out.1 HI.out.2.1 HI.out.2.2.1 HI.out.2.2.2 rfl (by decide) _ _ _ rfl (h1.o1.alloc _) ⟨w1.heap.size, 0, none⟩ 1 1 [.int .i64 x] rfl rfl ?c1 ?c2 ?c3 ?c4 ?c5 ?_)
      case c1 => exact cellOne _ _ _
      case c2 => simp [Value.oneCell']
      case c3 => have := hdl.out; unfold maxLen; omega
      case c4 => have := hdl.out; omega
      case c5 => have := h1.le; simp; omega
      intro v' w2 ho hgr _ hloc
      obtain ⟨av, mv, cv, rfl⟩ := own_shape ho
      have hgr2 := (World.grownBy_alloc w1 (.cells #[.int .i64 x] tI) M.v1.ownBlock).trans hgr
      have r2 := h1.row.grown hgr2 (fun e => h1.g1 e.symm)
      have k2 := r2.cell 2 rfl
      have z2 := r2.free 2
      obtain ⟨N1, N2⟩ := h1.set1 hgr2 (irow_snoc ho) (hloc.imp id fun e => ⟨_, e, by simp⟩)
      clear ho hgr hgr2 hloc r2 c0 c1 c2 c3 c4 z
      go_wp2_with fail
      go_returns
      exact ⟨rfl, _, N1, S1.trans N2⟩
theorem irow_below {w' : World} {v : Value} {xs : List Int} (h : w.irow B tI v xs) (hb : Below w.heap.size w w') : w'.irow B tI v xs := irow_same h fun k hk => hb.block k (h.lt k hk).2
theorem del_first {g n cap : Nat} {x : Int} {xs : List Int} (h : w.irow B tI (.slice (some ⟨g, 0, none⟩) n cap) (x :: xs)) :
    Calls Tryd.prog 70 #[.slice (some ⟨g, 0, none⟩) n cap, .int .i64 0, .int .i64 1] w fun e w' => e = .returned (.slice (some ⟨g, 0, none⟩) (n - 1) cap) ∧ w'.irow B tI (.slice (some ⟨g, 0, none⟩) (n - 1) cap) xs ∧ w.grownBy w' (some g) := by
  have := del_any 0 1 h (by simp) rfl
  simpa using this
theorem falls_any (w : World) (h : TurnAt B n w M T) (hl : T.plain.length + T.dear.length ≤ 1000) :
    Calls Tryd.prog 57 #[pt M.g] w fun e w' => e = .returned (.tuple #[]) ∧ ∃ M', TurnAt B n w' M' T.fallT ∧ Step M M' w w' := by
  obtain ⟨i0, hi, hz0, hz1, hz2⟩ := info_parts infoInt
  have HI : Hid (Tryd.prog.info? tI = some i0 ∧ i0.zero = some (.int .i64 0) ∧ i0.size = 1 ∧ i0.bytes = 8) := ⟨hi, hz0, hz1, hz2⟩
  clear hi hz0 hz1 hz2
  obtain ⟨c0, c1, c2, c3, c4, z⟩ := h.five
  obtain ⟨a2, k2, e2⟩ := irow_shape h.o2
  rw [e2] at c3
  have gl := h.row.lt
  by_cases hlim : T.limit < T.dear.length
  · cases hd : T.dear with
    | nil => rw [hd] at hlim; simp at hlim
    | cons d ds =>
      have HH := Lib.hid h
      have ho2 := h.o2
      rw [hd] at ho2
      obtain ⟨g2, cap2, hv2, _, g2lt, _, _, hc2⟩ := ho2.form.resolve_left (by simp)
      have cd := hc2 0 d rfl
      rw [hv2] at e2
      obtain ⟨rfl, _, rfl⟩ := Value.slice.inj e2
      have hll : T.plain.length ≤ 1000 := by omega
      obtain ⟨p, hp⟩ : ∃ p, p = T.plain.length := ⟨_, rfl⟩
      obtain ⟨q, hq⟩ : ∃ q, q = T.dear.length := ⟨_, rfl⟩
      have hq0 : 0 < q := by rw [hq, hd]; simp
      have hq1 : q ≤ 1000 := by omega
      rw [TS.fallT_yes hd hlim]
      rw [← hq] at c3 hlim
      have il : (T.limit : Int) < (q : Int) := by omega
      have hv3 : M.v2 = .slice (some ⟨g2, 0, none⟩) q cap2 := by rw [hv2, hq, hd]
      have HL := Lib.hid (And.intro hll (And.intro hq hv3))
      clear hll hl hp hq hlim h ho2 hc2 hv2 hv3 e2
      go_enter Tryd.func57, Tryd.ntmps57
      go_upto_region 0 with fail
      go_quiet (fail)
      go_upto_region 1 with fail
      refine wp_world (fun wa => Below w.heap.size w wa) (by repeat' (first | (with_reducible exact Below.refl _ _) | (with_reducible assumption) | (with_reducible refine Below.setCell ?_ ?_ _) | (with_reducible refine Below.ext ?_ _ ?_) | (with_reducible refine Below.alloc ?_ ?_ _) | (with_reducible refine Below.drew ?_) | (with_reducible refine Below.drewN ?_ _) | (with_reducible exact Nat.le_refl _) | (dsimp only; omega) | (simp <;> omega))) ?_
      intro wa ha
      have hA := HH.out.below' ha
      have cd' := (ha.cell (p := ⟨g2, 0, none⟩) g2lt).trans cd
      obtain ⟨d0, d1, d2, d3, d4, dz⟩ := hA.five
      rw [HL.out.2.2] at d3
      have gla := hA.row.lt
      have g2la : g2 < wa.heap.size := Nat.lt_of_lt_of_le g2lt ha.size
      have SA := Step.of_below M ha
      clear c0 c1 c2 c3 c4 z cd g2lt gl ha
      go_cut [] (fun wc => ∃ v', TurnAt B n wc { M with v1 := v' } { T with plain := T.plain ++ [d] } ∧ Step M { M with v1 := v' } w wc)
      case first =>
        have HO := Lib.hid hA.o1
        have HS : Hid (∀ o, (wa.alloc o).cell? ⟨M.g, 2, none⟩ = some M.v1 ∧ (wa.alloc o).cell? ⟨M.g, 3, none⟩ = some (.slice (some ⟨g2, 0, none⟩) q cap2) ∧ (wa.alloc o).cell? ⟨g2, 0, none⟩ = some (.int .i64 d) ∧ (wa.alloc o).frozen? ⟨M.g, 2, none⟩ = false) := Lib.hid fun o =>
          ⟨(hA.row.alloc o).cell 2 rfl, (((Below.refl wa.heap.size wa).alloc (Nat.le_refl _) o).cell (p := ⟨M.g, 3, none⟩) hA.row.lt).trans d3, (((Below.refl wa.heap.size wa).alloc (Nat.le_refl _) o).cell (p := ⟨g2, 0, none⟩) g2la).trans cd', (hA.row.alloc o).free 2⟩
        have HNE : Hid (some M.g ≠ M.v1.ownBlock ∧ some g2 ≠ M.v1.ownBlock) := Lib.hid ⟨fun e => hA.g1 e.symm, fun e => by
          have e2 : M.v2.ownBlock = some g2 := by rw [HL.out.2.2]; rfl
          rcases hA.d12 with e3 | e3
          · rw [e3] at e; cases e
          · exact e3 (e.symm.trans e2.symm)⟩
        go_region_law
          ((refine step_append_lies _ (by rfl) (.tmp 16) (.tmp 23) 99 (by rfl) B tI i0 (.int .i64 0) 1 8 Tryd.underlying99 HI.out.1 HI.out.2.1 HI.out.2.2.1 HI.out.2.2.2 rfl (by decide) M.v1 T.plain.length (ints T.plain) (by rfl) (HO.out.alloc _) ⟨wa.heap.size, 0, none⟩ 1 1 [.int .i64 d] (by rfl) rfl (cellOne _ _ _) (by simp [Value.oneCell']) (by decide) (by have := HL.out.1; unfold maxLen; omega) (by have := HL.out.1; omega) (by have := hA.le; simp; omega) _ rfl ?_; intro g1 cap1 w1 hown hgrow hat hlt1; have hk2 := hgrow.cell (HS.out (.cells #[.int .i64 d] tI)).1 HNE.out.1; have hz2 := (hgrow.frozen_far ⟨M.g, 2, none⟩ (by simp; omega) HNE.out.1).trans (HS.out (.cells #[.int .i64 d] tI)).2.2.2))
        all_goals (
          have hgrow' : (wa.alloc (.cells #[.int .i64 d] tI)).grownBy w1 M.v1.ownBlock := ⟨hgrow.os, hgrow.tape, hgrow.output, hgrow.size, hgrow.block⟩
          have hgr2 := (World.grownBy_alloc wa (.cells #[.int .i64 d] tI) M.v1.ownBlock).trans hgrow'
          obtain ⟨N1, N2⟩ := hA.set1 (w1 := w1) hgr2 (irow_snoc hown) (hat.imp (fun e => by rw [e]; rfl) fun e => ⟨g1, rfl, by rw [e]; simp⟩)
          go_wp2_with fail
          go_meet
          case rel => exact ⟨_, N1, SA.trans N2⟩)
      case rest =>
        obtain ⟨v1', N1, S1⟩ := hcut
        clear d0 d1 d2 d3 d4 dz cd' gla g2la hA SA
        have ho2 := N1.o2
        rw [HL.out.2.2, show T.dear = d :: ds from hd] at ho2
        have hgr3 : ∀ w4, wc.grownBy w4 (some g2) → wc.grownBy w4 M.v2.ownBlock := fun w4 h4 => by rw [HL.out.2.2]; exact h4
        have hob : M.v2.ownBlock = some g2 := by rw [HL.out.2.2]; rfl
        obtain ⟨b0, b1, b2, b3, b4, bz⟩ := N1.five
        rw [HL.out.2.2] at b3
        have gl3 := N1.row.lt
        have HN := Lib.hid (And.intro N1 S1)
        clear N1 S1
        go_wp2_with fail
        refine (del_first ho2).mono ?_
        rintro e w4 ⟨rfl, k1, k2⟩
        have k3 := hgr3 _ k2
        obtain ⟨N2, S2⟩ := HN.out.1.set2 (w1 := w4) k3 k1 (.inl (by rw [hob]; rfl))
        have r4 := HN.out.1.row.grown k3 (fun e => HN.out.1.g2 e.symm)
        have q3 := r4.cell 3 rfl
        have qz := r4.free 3
        have S3 := HN.out.2.trans S2
        clear k1 k2 k3 r4 ho2 hgr3 hob b0 b1 b2 b3 b4 bz S2
        go_wp2_with fail
        go_end0
        exact ⟨rfl, _, N2, S3⟩
  · rw [TS.fallT_no hlim]
    obtain ⟨q, hq⟩ : ∃ q, q = T.dear.length := ⟨_, rfl⟩
    have hq1 : q ≤ 1000 := by omega
    rw [← hq] at c3 hlim
    have il : ¬ (T.limit : Int) < (q : Int) := by omega
    have HH := Lib.hid h
    clear hq hl h hlim
    go_enter Tryd.func57, Tryd.ntmps57
    go_upto_region 0 with fail
    go_quiet (fail)
    go_wp2_with fail
    go_end0
    exact ⟨rfl, M, HH.out.below' (by repeat' (first | (with_reducible exact Below.refl _ _) | (with_reducible assumption) | (with_reducible refine Below.setCell ?_ ?_ _) | (with_reducible refine Below.ext ?_ _ ?_) | (with_reducible refine Below.alloc ?_ ?_ _) | (with_reducible refine Below.drew ?_) | (with_reducible refine Below.drewN ?_ _) | (with_reducible exact Nat.le_refl _) | (dsimp only; omega) | (simp <;> omega))), Step.of_below M (by repeat' (first | (with_reducible exact Below.refl _ _) | (with_reducible assumption) | (with_reducible refine Below.setCell ?_ ?_ _) | (with_reducible refine Below.ext ?_ _ ?_) | (with_reducible refine Below.alloc ?_ ?_ _) | (with_reducible refine Below.drew ?_) | (with_reducible refine Below.drewN ?_ _) | (with_reducible exact Nat.le_refl _) | (dsimp only; omega) | (simp <;> omega)))⟩
end Go.Proofs.YtijagdpkclghnaaDoor
