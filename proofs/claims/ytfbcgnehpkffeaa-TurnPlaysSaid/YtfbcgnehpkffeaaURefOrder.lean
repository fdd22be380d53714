/- The document's Order: its contract. -/
import Derived.Test.YtfbcgnehpkffeaaURefDropB
import Derived.Deep.LoopGhost
namespace Go.Proofs.Ytfbcgnehpkffeaa
open Go Go.RowKit
set_option maxRecDepth 100000
variable {B r : Nat} {w w' w1 : World} {v v' v'' : Value} {R : RS} {ks ks' : List RK} {x y z : RK} {i : Nat} {T : TS} {P D : List RK}
theorem idx_eq {j : Nat} (hn : (ks.map RK.n).Nodup) (hi : ks[i]? = some y) (hj : ks[j]? = some x) (e : x.n = y.n) : i = j := by
  obtain ⟨h1, e1⟩ := List.getElem?_eq_some_iff.1 hi
  obtain ⟨h2, e2⟩ := List.getElem?_eq_some_iff.1 hj
  refine (List.getElem_inj (h₀ := by simpa using h1) (h₁ := by simpa using h2) hn).1 ?_
  simp [e1, e2, e]
set_option maxHeartbeats 4000000 in
theorem ROrder_any (w : World) (h : RefAt B w r v R) (hs : Srt P D R.ks) (hl : R.ks.length ≤ 64) :
    Calls Try.prog 33 #[pt r] w fun e w' => (∃ u, e = .returned u ∧ w'.irow w.heap.size tI u ((P ++ D).map RK.n)) ∧ Below w.heap.size w w' := by
  obtain ⟨i0, hi, hz0, hz1, hz2⟩ := info_key
  have HIN : Hid (Try.prog.info? kT = some i0 ∧ i0.zero = some kZero ∧ i0.size = 4 ∧ i0.bytes = 24) := ⟨hi, hz0, hz1, hz2⟩
  clear hi hz0 hz1 hz2
  obtain ⟨j0, hi, hz0, hz1, hz2⟩ := info_parts infoInt
  have HJN : Hid (Try.prog.info? tI = some j0 ∧ j0.zero = some (.int .i64 0) ∧ j0.size = 1 ∧ j0.bytes = 8) := ⟨hi, hz0, hz1, hz2⟩
  clear hi hz0 hz1 hz2
  have HR := Lib.hid (And.intro h hs)
  obtain ⟨a, c, hv⟩ := h.kr.shape
  subst hv
  obtain ⟨m, hm⟩ : ∃ m, m = R.ks.length := ⟨_, rfl⟩
  rw [← hm] at hl
  have HM := Lib.hid hm
  have hrw := h.row.lt
  clear h hs hm
  go_enter Try.func33, Try.ntmps33
  go_wp2_with fail
  have hL0 : RefAt w.heap.size (w.alloc (.cells #[.int .i64 0, .int .i64 0, .slice none 0 0, .int .i64 0] rT)) w.heap.size (.slice none 0 0) ⟨0, 0, [], 0⟩ :=
    ⟨World.row.new w [.int .i64 0, .int .i64 0, .slice none 0 0, .int .i64 0] rT, krow.nil _ _, by simp [Value.ownBlock], Nat.le_refl _⟩
  have b0 : Below w.heap.size w (w.alloc (.cells #[.int .i64 0, .int .i64 0, .slice none 0 0, .int .i64 0] rT)) := (by repeat' (first | (with_reducible exact Below.refl _ _) | (with_reducible assumption) | (with_reducible refine Below.setCell ?_ ?_ _) | (with_reducible refine Below.ext ?_ _ ?_) | (with_reducible refine Below.alloc ?_ ?_ _) | (with_reducible refine Below.drew ?_) | (with_reducible refine Below.drewN ?_ _) | (with_reducible exact Nat.le_refl _) | (dsimp only; omega) | (simp <;> omega)))
  obtain ⟨L, hL⟩ : ∃ L, L = w.heap.size := ⟨_, rfl⟩
  have hLr : r < L := by rw [hL]; exact hrw
  rw [← hL] at hL0 b0 ⊢
  have hLa : L ≤ w.heap.size := by rw [hL]; exact Nat.le_refl _
  have hLb : w.heap.size ≤ L := by rw [hL]; exact Nat.le_refl _
  clear hL hrw
  go_loopw [4] (fun x wr => ∃ (j : Nat) (vL : Value), j ≤ m ∧ x = .int .i64 j ∧ RefAt L wr L vL ⟨0, 0, R.ks.take j, 0⟩ ∧ Below L w wr) (fun x _ => m - (intOf x).toNat)
  case atStart => exact ⟨0, _, by omega, rfl, by rw [List.take_zero]; exact hL0, b0⟩
  case round =>
    clear hL0 b0
    obtain ⟨j, vL, hj, rfl, hL, hBl⟩ := hrel
    have hA := HR.out.1.keep (hBl.block r hLr) (fun k hk => hBl.block k (Nat.lt_of_lt_of_le (HR.out.1.kr.lt k hk).2 hLb))
    obtain ⟨c0, c1, c2, c3, cz⟩ := hA.row.four
    rw [← HM.out] at c2
    have hrl := hA.row.lt
    by_cases hlt : j < m
    · obtain ⟨y, hy⟩ : ∃ y, R.ks[j]? = some y := ⟨R.ks[j]'(by rw [← HM.out]; exact hlt), List.getElem?_eq_getElem (by rw [← HM.out]; exact hlt)⟩
      obtain ⟨g, cg, ev, hBg, hgl, d0, d1, d2, d3, dz⟩ := hA.kr.at hy
      obtain ⟨rfl, hmL, rfl⟩ := Value.slice.inj ev
      have htk : R.ks.take (j + 1) = R.ks.take j ++ [y] := by rw [List.take_add_one, hy]; rfl
      have hlj : (R.ks.take j).length = j := by rw [List.length_take]; have := HM.out; omega
      obtain ⟨aL, cL, evL⟩ := hL.kr.shape
      have evL2 : vL = .slice aL j cL := by rw [evL]; show Value.slice aL (R.ks.take j).length cL = _; rw [hlj]
      subst evL2
      obtain ⟨e0, e1, e2, e3, ez⟩ := hL.row.four
      have hLl := hL.row.lt
      have HT := Lib.hid (And.intro htk (And.intro hlj hL))
      clear hmL ev hBg hy evL htk hlj dz cz c0 c1 c3 hA
      go_wp2_with fail
      have HO : Hid (wr.ownsRow L kT 4 (.slice aL j cL) j (keyCells (R.ks.take j))) := Lib.hid (by
        have := HT.out.2.2.kr
        unfold krow at this
        have e : ((⟨0, 0, R.ks.take j, 0⟩ : RS)).ks = R.ks.take j := rfl
        rw [e, HT.out.2.1] at this
        exact this)
      have HS : Hid (∀ o, (wr.alloc o).cell? ⟨L, 2, none⟩ = some (.slice aL j cL) ∧ (wr.alloc o).frozen? ⟨L, 2, none⟩ = false) := Lib.hid fun o => ⟨(hL.row.alloc o).cell 2 rfl, (hL.row.alloc o).free 2⟩
      have HNE : Hid (some L ≠ (Value.slice aL j cL).ownBlock) := Lib.hid fun e => hL.vr e.symm
      clear hL
      go_region_law
        ((refine step_append_lies _ (by rfl) (.tmp 22) (.tmp 30) 60 (by rfl) L kT i0 kZero 4 24 Try.underlying60 HIN.out.1 HIN.out.2.1 HIN.out.2.2.1 HIN.out.2.2.2 rfl (by decide) (.slice aL j cL) j (keyCells (R.ks.take j)) (by rfl) (HO.out.alloc _) ⟨wr.heap.size, 0, none⟩ 1 1 y.cells (by rfl) rfl (keyOne wr y) (key_cell _) (by decide) (by unfold maxLen; omega) (by omega) (by simp; omega) _ rfl ?_; intro g1 cap1 w1 hown hgrow hat hlt1; have hk2 := hgrow.cell (HS.out (.cells y.cells.toArray kT)).1 HNE.out; have hz2 := (hgrow.frozen_far ⟨L, 2, none⟩ (by simp; omega) HNE.out).trans (HS.out (.cells y.cells.toArray kT)).2))
      all_goals (
        have hgrow' : (wr.alloc (.cells y.cells.toArray kT)).grownBy w1 (Value.slice aL j cL).ownBlock := ⟨hgrow.os, hgrow.tape, hgrow.output, hgrow.size, hgrow.block⟩
        have hgr2 := (World.grownBy_alloc wr (.cells y.cells.toArray kT) (Value.slice aL j cL).ownBlock).trans hgrow'
        have hown2 := krow_snoc (ks := R.ks.take j) (x := y) (by rw [HT.out.2.1]; exact hown)
        rw [← HT.out.1] at hown2
        obtain ⟨N1, N2⟩ := HT.out.2.2.keys (w1 := w1) hgr2 hown2 (hat.imp (fun e => by rw [e]; rfl) fun e => ⟨g1, rfl, by rw [e]; simp⟩)
        have B2 : Below L w (w1.setCell ⟨L, 2, none⟩ (.slice (some ⟨g1, 0, none⟩) (j + 1) cap1)) := hBl.trans ⟨N2.os, N2.tape, N2.output, N2.size, fun k hk => N2.block k (by omega) (by omega) fun e => by have := (HO.out.lt k e).1; omega⟩
        have HNN := Lib.hid (And.intro N1 B2)
        clear N1 N2 B2 hown hown2 hgr2 hgrow' hgrow hat
        go_wp2_with fail
        go_roundw
        case rel => exact ⟨j + 1, _, by omega, by go_num, HNN.out.1, HNN.out.2⟩
        case measure => simp [intOf] <;> omega)
    · obtain rfl : j = m := by omega
      rw [List.take_of_length_le (by rw [← HM.out]; exact Nat.le_refl _)] at hL
      have HL := Lib.hid hL
      clear hL hA
      go_wp2_with fail
      clear c0 c1 c2 c3 cz hrl
      go_loopg [5] j (fun gk s wr => ∃ (vL : Value) (ks2 : List RK) (done : List Int) (P2 D2 : List RK), gk = ks2.length ∧ RefAt L wr L vL ⟨0, 0, ks2, 0⟩ ∧ Srt P2 D2 ks2 ∧ done ++ (P2 ++ D2).map RK.n = (P ++ D).map RK.n ∧ wr.irow L tI s done ∧ s.ownBlock ≠ some L ∧ (∀ k, s.ownBlock = some k → vL.ownBlock ≠ some k) ∧ Below L w wr ∧ done.length + ks2.length ≤ j)
      case atStart => exact ⟨_, _, [], P, D, HM.out, HL.out, HR.out.2, rfl, World.irow.nil _ _ _, by simp [Value.ownBlock], (fun k hk => by cases hk), hBl, by rw [← HM.out]; simp⟩
      case round =>
        clear HL hBl
        obtain ⟨vL2, ks2, done, P2, D2, hgk, hL2, hs2, hdone, ho2, hn1, hn2, hB2, hdl⟩ := hrel
        obtain ⟨m2, hm2⟩ : ∃ m2, m2 = ks2.length := ⟨_, rfl⟩
        have hm64 : m2 ≤ 64 := by omega
        obtain ⟨a6, c6, hv6⟩ := hL2.kr.shape
        obtain ⟨e0, e1, e2, e3, ez⟩ := hL2.row.four
        have hLl := hL2.row.lt
        rw [hv6] at e2
        have e2' : wr.cell? ⟨L, 2, none⟩ = some (.slice a6 m2 c6) := by rw [hm2]; exact e2
        clear e2 e0 e1 e3 ez
        have HG := Lib.hid (And.intro hgk (And.intro hL2 (And.intro hs2 (And.intro hdone (And.intro ho2 (And.intro hn1 (And.intro hn2 (And.intro hB2 (And.intro hdl hv6)))))))))
        have HK2 := Lib.hid hm2
        clear hgk hL2 hs2 hdone ho2 hn1 hn2 hB2 hdl hv6
        by_cases hz : m2 = 0
        · have hz2 : ks2 = [] := List.length_eq_zero_iff.1 (by rw [← hm2]; exact hz)
          have hzI : (m2 : Int) = 0 := by omega
          clear hm2
          go_wp2_with fail
          go_returns
          refine ⟨⟨_, rfl, ?_⟩, HG.out.2.2.2.2.2.2.2.1.mono hLb⟩
          have hPD0 := HG.out.2.2.1.perm
          rw [hz2] at hPD0
          have hd0 := HG.out.2.2.2.1
          rw [List.perm_nil.1 hPD0, List.map_nil, List.append_nil, List.map_append] at hd0
          rw [← hd0]
          exact irow_mono HG.out.2.2.2.2.1 hLb
        · have hzI : 0 < (m2 : Int) := by omega
          have h1 := first_any false false wr HG.out.2.1 (by show ks2.length ≤ 1000; omega)
          clear hm2 hz
          go_wp2_with fail
          refine h1.mono ?_
          rintro e wf ⟨⟨q, rfl, hq⟩, hbf⟩
          rcases HG.out.2.2.1.next1 hq with ⟨rfl, hP0⟩ | ⟨i, y, P3, rfl, hi, hP3⟩
          · have hLm := HG.out.2.1.below hbf
            have hP0' := Lib.hid hP0
            have h2 := first_any true false wf hLm (by show ks2.length ≤ 1000; have := HK2.out; omega)
            have hbm := Lib.hid hbf
            clear h1 hq hP0 hLm hbf e2'
            go_wp2_with fail
            refine h2.mono ?_
            rintro e wg ⟨⟨q, rfl, hq⟩, hbg⟩
            obtain ⟨i, y, P3, rfl, hi, hP3⟩ := HG.out.2.2.1.next2 hq hP0'.out (by have := HK2.out; omega)
            have hbf := hbm.out.trans (hbg.mono hbm.out.size)
            obtain ⟨wf', hwf⟩ : ∃ wf', wf' = wg := ⟨_, rfl⟩
            clear hbm hbg
            rw [← hwf] at hbf ⊢
            clear hwf
            have hLf := HG.out.2.1.below hbf
            have hof := irow_below HG.out.2.2.2.2.1 hbf
            have hPD : P2 ++ D2 = y :: P3 := by rw [hP0'.out, hP3]; rfl
            have hn1 := HG.out.2.2.2.2.2.1
            have hn2 := HG.out.2.2.2.2.2.2.1
            clear h2 hq hP3 hP0'

            obtain ⟨e0, e1, e2, e3, ez⟩ := hLf.row.four
            have hLl := hLf.row.lt
            obtain ⟨g, cg, rfl, hBg, hgl, d0, d1, d2, d3, dz⟩ := hLf.kr.at hi
            have hil : i < ks2.length := (List.getElem?_eq_some_iff.1 hi).1
            rw [← HK2.out] at e2 hil
            obtain ⟨a5, c5, rfl⟩ := irow_shape hof
            obtain ⟨l5, hl5⟩ : ∃ l5, l5 = done.length := ⟨_, rfl⟩
            have hko : wf'.ownsRow L tI 1 (.slice a5 l5 c5) l5 (ints done) := by have := hof; unfold World.irow at this; rw [hl5]; exact this
            have HKO := Lib.hid (And.intro hko (And.intro hl5 (And.intro hLf (And.intro hi (And.intro hPD (And.intro hbf (And.intro hn1 hn2)))))))
            have hl5b : l5 ≤ 64 := by have := HG.out.2.2.2.2.2.2.2.2.1; rw [hl5]; omega
            have hLlw : L ≤ wf'.heap.size := Nat.le_of_lt hLl
            rw [← hl5]
            clear hko hl5 hLf hi hPD hof hBg d1 d2 d3 dz ez hn1 hn2 hbf
            go_wp2_with (at_builtin; refine wpList_append_own_at _ rfl _ _ 34 rfl L tI j0 (.int .i64 0) 1 8 Try.underlying34 HJN.out.1 HJN.out.2.1 HJN.out.2.2.1 HJN.out.2.2.2 rfl (by decide) _ _ _ rfl (HKO.out.1.alloc _) ⟨wf'.heap.size, 0, none⟩ 1 1 [.int .i64 y.n] rfl rfl ?c1 ?c2 ?c3 ?c4 ?c5 ?_)
            case c1 => exact cellOne _ _ _
            case c2 => simp [Value.oneCell']
            case c3 => unfold maxLen; omega
            case c4 => omega
            case c5 => simp; omega
            intro v' w8 ho hgr _ hloc
            obtain ⟨av, mv, cv, rfl⟩ := own_shape ho
            have hgr2 := (World.grownBy_alloc wf' (.cells #[.int .i64 y.n] tI) (Value.slice a5 l5 c5).ownBlock).trans hgr
            have vLb : ∀ k, (Value.slice (some ⟨g, 0, none⟩) ks2.length cg).ownBlock = some k → k < wf'.heap.size := fun k hk => (HKO.out.2.2.1.kr.lt k hk).2
            have hL8 := HKO.out.2.2.1.keep (w' := w8) (hgr2.block L hLl fun e => HKO.out.2.2.2.2.2.2.1 (by rw [HKO.out.2.1] at e; exact e.symm)) (fun k hk => hgr2.block k (vLb k hk) fun e => HKO.out.2.2.2.2.2.2.2 k (by rw [HKO.out.2.1] at e; exact e.symm) hk)
            have hv8 : ∀ k, (Value.slice av mv cv).ownBlock = some k → k < w8.heap.size := fun k hk => (World.ownsRow.lt ho k hk).2
            have hn8 : ∀ k, (Value.slice av mv cv).ownBlock = some k → (Value.slice a5 l5 c5).ownBlock = some k ∨ wf'.heap.size ≤ k := fun k hk => by
              rcases hloc with e | e
              · exact .inl (e ▸ hk)
              · rw [e] at hk; cases hk; exact .inr (by simp)
            have hd8 : done.length = l5 := HKO.out.2.1.symm
            have hio : w8.irow L tI (.slice av mv cv) (done ++ [y.n]) := irow_snoc (by rw [hd8]; exact ho)
            have hgb : ∀ k, (Value.slice a5 l5 c5).ownBlock = some k → L ≤ k := fun k hk => (HKO.out.1.lt k hk).1
            have hB8 : Below L w w8 := (HG.out.2.2.2.2.2.2.2.1.trans (HKO.out.2.2.2.2.2.1.mono (Nat.le_of_lt (HG.out.2.1.row.lt)))).trans ⟨hgr2.os, hgr2.tape, hgr2.output, hgr2.size, fun k hk => hgr2.block k (Nat.lt_of_lt_of_le hk hLlw) fun e => by have := hgb k e.symm; omega⟩
            have H8 := Lib.hid (And.intro hL8 (And.intro hv8 (And.intro hn8 (And.intro hio (And.intro hB8 vLb)))))
            have hDr := RDrop_any y.n w8 hL8 (by show ks2.length ≤ 1000; have := HK2.out; omega) (Nat.le_of_lt hL8.row.lt)
            obtain ⟨e0, e1, e2, e3, ez⟩ := hL8.row.four
            have hLl8 := hL8.row.lt
            obtain ⟨g', cg', ev, hBg, hgl, d0, d1, d2, d3, dz⟩ := hL8.kr.at HKO.out.2.2.2.1
            obtain ⟨eg, hmL, ec⟩ := Value.slice.inj ev
            obtain rfl : g = g' := by simpa using eg
            rw [← HK2.out] at e2
            clear hL8 hv8 hn8 hio hB8 vLb ho hgr hgr2 hloc hgb hd8 ev eg hmL ec hBg d1 d2 d3 dz ez
            go_wp2_with fail
            refine hDr.mono ?_
            rintro e w9 ⟨zz, rfl, hdd⟩
            have HDD := Lib.hid hdd
            clear hDr hdd e0 e1 e2 e3 hLl8 d0
            go_wp2_with fail
            go_roundg (ks2.eraseIdx i).length
            case measure =>
              rw [HG.out.1, List.length_eraseIdx_of_lt (List.getElem?_eq_some_iff.1 HKO.out.2.2.2.1).1]
              have := (List.getElem?_eq_some_iff.1 HKO.out.2.2.2.1).1
              omega
            case rel =>
              rcases HDD.out with ⟨_, hno, _⟩ | ⟨_, i', x', v9, hi', he', hR9, sR9⟩
              · exact absurd rfl (hno y (List.mem_of_getElem? HKO.out.2.2.2.1))
              · have hii : i = i' := idx_eq HG.out.2.2.1.nn HKO.out.2.2.2.1 hi' he'
                subst hii
                obtain ⟨P4, D4, hs4, hn4⟩ := HG.out.2.2.1.left HKO.out.2.2.2.1 HKO.out.2.2.2.2.1
                have hout : ∀ k, (Value.slice av mv cv).ownBlock = some k → k ≠ L ∧ (Value.slice (some ⟨g, 0, none⟩) ks2.length cg).ownBlock ≠ some k := fun k hk => by
                  rcases H8.out.2.2.1 k hk with h3 | h3
                  · exact ⟨fun e => HKO.out.2.2.2.2.2.2.1 (by rw [← e, ← h3, own_len a5 l5 done.length c5]), HKO.out.2.2.2.2.2.2.2 k (by rw [← h3, own_len a5 l5 done.length c5])⟩
                  · exact ⟨fun e => by have := hLl; omega, fun e => by have := H8.out.2.2.2.2.2 k e; omega⟩
                refine ⟨v9, _, done ++ [y.n], P4, D4, rfl, hR9, hs4, ?_, irow_same H8.out.2.2.2.1 fun k hk => sR9.block k (H8.out.2.1 k hk) (hout k hk).1 (hout k hk).2, fun e => (hout L e).1 rfl, fun k hk e => ?_, ?_, ?_⟩
                · rw [hn4, ← HG.out.2.2.2.1, HKO.out.2.2.2.2.1, List.map_cons, List.append_assoc]; rfl
                · rcases sR9.own k e with h3 | h3
                  · exact (hout k hk).2 h3
                  · have := H8.out.2.1 k hk; omega
                · exact H8.out.2.2.2.2.1.trans ⟨sR9.os, sR9.tape, sR9.output, sR9.size, fun k hk => sR9.block k (Nat.lt_of_lt_of_le hk (Nat.le_trans hLa H8.out.2.2.2.2.1.size)) (by omega) fun e => by have := HKO.out.2.2.1.kr.lt k e; omega⟩
                · have h5 := (List.getElem?_eq_some_iff.1 HKO.out.2.2.2.1).1
                  have h6 := HG.out.2.2.2.2.2.2.2.2.1
                  show (done ++ [y.n]).length + (ks2.eraseIdx i).length ≤ j
                  rw [List.length_eraseIdx_of_lt h5]; simp; omega
          · have hLf := HG.out.2.1.below hbf
            have hof := irow_below HG.out.2.2.2.2.1 hbf
            have hPD : P2 ++ D2 = y :: (P3 ++ D2) := by rw [hP3]; rfl
            have hn1 := HG.out.2.2.2.2.2.1
            have hn2 := HG.out.2.2.2.2.2.2.1
            clear h1 hq hP3

            obtain ⟨e0, e1, e2, e3, ez⟩ := hLf.row.four
            have hLl := hLf.row.lt
            obtain ⟨g, cg, rfl, hBg, hgl, d0, d1, d2, d3, dz⟩ := hLf.kr.at hi
            have hil : i < ks2.length := (List.getElem?_eq_some_iff.1 hi).1
            rw [← HK2.out] at e2 hil
            obtain ⟨a5, c5, rfl⟩ := irow_shape hof
            obtain ⟨l5, hl5⟩ : ∃ l5, l5 = done.length := ⟨_, rfl⟩
            have hko : wf.ownsRow L tI 1 (.slice a5 l5 c5) l5 (ints done) := by have := hof; unfold World.irow at this; rw [hl5]; exact this
            have HKO := Lib.hid (And.intro hko (And.intro hl5 (And.intro hLf (And.intro hi (And.intro hPD (And.intro hbf (And.intro hn1 hn2)))))))
            have hl5b : l5 ≤ 64 := by have := HG.out.2.2.2.2.2.2.2.2.1; rw [hl5]; omega
            have hLlw : L ≤ wf.heap.size := Nat.le_of_lt hLl
            rw [← hl5]
            clear hko hl5 hLf hi hPD hof hBg d1 d2 d3 dz ez hn1 hn2 hbf
            go_wp2_with (at_builtin; refine wpList_append_own_at _ rfl _ _ 34 rfl L tI j0 (.int .i64 0) 1 8 Try.underlying34 HJN.out.1 HJN.out.2.1 HJN.out.2.2.1 HJN.out.2.2.2 rfl (by decide) _ _ _ rfl (HKO.out.1.alloc _) ⟨wf.heap.size, 0, none⟩ 1 1 [.int .i64 y.n] rfl rfl ?c1 ?c2 ?c3 ?c4 ?c5 ?_)
            case c1 => exact cellOne _ _ _
            case c2 => simp [Value.oneCell']
            case c3 => unfold maxLen; omega
            case c4 => omega
            case c5 => simp; omega
            intro v' w8 ho hgr _ hloc
            obtain ⟨av, mv, cv, rfl⟩ := own_shape ho
            have hgr2 := (World.grownBy_alloc wf (.cells #[.int .i64 y.n] tI) (Value.slice a5 l5 c5).ownBlock).trans hgr
            have vLb : ∀ k, (Value.slice (some ⟨g, 0, none⟩) ks2.length cg).ownBlock = some k → k < wf.heap.size := fun k hk => (HKO.out.2.2.1.kr.lt k hk).2
            have hL8 := HKO.out.2.2.1.keep (w' := w8) (hgr2.block L hLl fun e => HKO.out.2.2.2.2.2.2.1 (by rw [HKO.out.2.1] at e; exact e.symm)) (fun k hk => hgr2.block k (vLb k hk) fun e => HKO.out.2.2.2.2.2.2.2 k (by rw [HKO.out.2.1] at e; exact e.symm) hk)
            have hv8 : ∀ k, (Value.slice av mv cv).ownBlock = some k → k < w8.heap.size := fun k hk => (World.ownsRow.lt ho k hk).2
            have hn8 : ∀ k, (Value.slice av mv cv).ownBlock = some k → (Value.slice a5 l5 c5).ownBlock = some k ∨ wf.heap.size ≤ k := fun k hk => by
              rcases hloc with e | e
              · exact .inl (e ▸ hk)
              · rw [e] at hk; cases hk; exact .inr (by simp)
            have hd8 : done.length = l5 := HKO.out.2.1.symm
            have hio : w8.irow L tI (.slice av mv cv) (done ++ [y.n]) := irow_snoc (by rw [hd8]; exact ho)
            have hgb : ∀ k, (Value.slice a5 l5 c5).ownBlock = some k → L ≤ k := fun k hk => (HKO.out.1.lt k hk).1
            have hB8 : Below L w w8 := (HG.out.2.2.2.2.2.2.2.1.trans (HKO.out.2.2.2.2.2.1.mono (Nat.le_of_lt (HG.out.2.1.row.lt)))).trans ⟨hgr2.os, hgr2.tape, hgr2.output, hgr2.size, fun k hk => hgr2.block k (Nat.lt_of_lt_of_le hk hLlw) fun e => by have := hgb k e.symm; omega⟩
            have H8 := Lib.hid (And.intro hL8 (And.intro hv8 (And.intro hn8 (And.intro hio (And.intro hB8 vLb)))))
            have hDr := RDrop_any y.n w8 hL8 (by show ks2.length ≤ 1000; have := HK2.out; omega) (Nat.le_of_lt hL8.row.lt)
            obtain ⟨e0, e1, e2, e3, ez⟩ := hL8.row.four
            have hLl8 := hL8.row.lt
            obtain ⟨g', cg', ev, hBg, hgl, d0, d1, d2, d3, dz⟩ := hL8.kr.at HKO.out.2.2.2.1
            obtain ⟨eg, hmL, ec⟩ := Value.slice.inj ev
            obtain rfl : g = g' := by simpa using eg
            rw [← HK2.out] at e2
            clear hL8 hv8 hn8 hio hB8 vLb ho hgr hgr2 hloc hgb hd8 ev eg hmL ec hBg d1 d2 d3 dz ez
            go_wp2_with fail
            refine hDr.mono ?_
            rintro e w9 ⟨zz, rfl, hdd⟩
            have HDD := Lib.hid hdd
            clear hDr hdd e0 e1 e2 e3 hLl8 d0
            go_wp2_with fail
            go_roundg (ks2.eraseIdx i).length
            case measure =>
              rw [HG.out.1, List.length_eraseIdx_of_lt (List.getElem?_eq_some_iff.1 HKO.out.2.2.2.1).1]
              have := (List.getElem?_eq_some_iff.1 HKO.out.2.2.2.1).1
              omega
            case rel =>
              rcases HDD.out with ⟨_, hno, _⟩ | ⟨_, i', x', v9, hi', he', hR9, sR9⟩
              · exact absurd rfl (hno y (List.mem_of_getElem? HKO.out.2.2.2.1))
              · have hii : i = i' := idx_eq HG.out.2.2.1.nn HKO.out.2.2.2.1 hi' he'
                subst hii
                obtain ⟨P4, D4, hs4, hn4⟩ := HG.out.2.2.1.left HKO.out.2.2.2.1 HKO.out.2.2.2.2.1
                have hout : ∀ k, (Value.slice av mv cv).ownBlock = some k → k ≠ L ∧ (Value.slice (some ⟨g, 0, none⟩) ks2.length cg).ownBlock ≠ some k := fun k hk => by
                  rcases H8.out.2.2.1 k hk with h3 | h3
                  · exact ⟨fun e => HKO.out.2.2.2.2.2.2.1 (by rw [← e, ← h3, own_len a5 l5 done.length c5]), HKO.out.2.2.2.2.2.2.2 k (by rw [← h3, own_len a5 l5 done.length c5])⟩
                  · exact ⟨fun e => by have := hLl; omega, fun e => by have := H8.out.2.2.2.2.2 k e; omega⟩
                refine ⟨v9, _, done ++ [y.n], P4, D4, rfl, hR9, hs4, ?_, irow_same H8.out.2.2.2.1 fun k hk => sR9.block k (H8.out.2.1 k hk) (hout k hk).1 (hout k hk).2, fun e => (hout L e).1 rfl, fun k hk e => ?_, ?_, ?_⟩
                · rw [hn4, ← HG.out.2.2.2.1, HKO.out.2.2.2.2.1, List.map_cons, List.append_assoc]; rfl
                · rcases sR9.own k e with h3 | h3
                  · exact (hout k hk).2 h3
                  · have := H8.out.2.1 k hk; omega
                · exact H8.out.2.2.2.2.1.trans ⟨sR9.os, sR9.tape, sR9.output, sR9.size, fun k hk => sR9.block k (Nat.lt_of_lt_of_le hk (Nat.le_trans hLa H8.out.2.2.2.2.1.size)) (by omega) fun e => by have := HKO.out.2.2.1.kr.lt k e; omega⟩
                · have h5 := (List.getElem?_eq_some_iff.1 HKO.out.2.2.2.1).1
                  have h6 := HG.out.2.2.2.2.2.2.2.2.1
                  show (done ++ [y.n]).length + (ks2.eraseIdx i).length ≤ j
                  rw [List.length_eraseIdx_of_lt h5]; simp; omega
end Go.Proofs.Ytfbcgnehpkffeaa
