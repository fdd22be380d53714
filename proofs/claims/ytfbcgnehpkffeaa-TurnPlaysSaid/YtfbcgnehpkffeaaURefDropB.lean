/- The document's Drop, Victim: contracts. -/
import Derived.Test.YtfbcgnehpkffeaaURefDrop
namespace Go.Proofs.Ytfbcgnehpkffeaa
open Go Go.RowKit
set_option maxRecDepth 100000
variable {B r : Nat} {w w' w1 : World} {v v' v'' : Value} {R : RS} {ks ks' : List RK} {x y z : RK} {i : Nat} {T : TS} {P D : List RK}
theorem take_other {k : Nat} (hx : ks[k]? = some x) (hk : k ≠ i) : (ks.take (k + 1)).eraseIdx i = (ks.take k).eraseIdx i ++ [x] := by
  have hl := (List.getElem?_eq_some_iff.1 hx).1
  rw [List.take_add_one, hx]
  show (ks.take k ++ [x]).eraseIdx i = _
  by_cases h : i < (ks.take k).length
  · rw [List.eraseIdx_append_of_lt_length h]
  · have h2 : (ks.take k).length = k := by rw [List.length_take]; omega
    rw [List.eraseIdx_of_length_le (l := ks.take k) (by omega), List.eraseIdx_of_length_le (by simp; omega)]
theorem take_here (hi : i < ks.length) : (ks.take (i + 1)).eraseIdx i = (ks.take i).eraseIdx i := by
  have h2 : (ks.take i).length = i := by rw [List.length_take]; omega
  rw [List.take_add_one, List.getElem?_eq_getElem hi]
  show (ks.take i ++ [ks[i]]).eraseIdx i = _
  rw [List.eraseIdx_append_of_length_le (by omega), h2, Nat.sub_self, List.eraseIdx_of_length_le (l := ks.take i) (by omega)]
  simp
/-- Its keys are those of a row that was made since u. -/
theorem RefAt.keysFrom {u : World} (h : RefAt B w r v R) (hu : Below u.heap.size u w) (hr : r < u.heap.size) (ho : krow w u.heap.size v' ks) (hC : B ≤ u.heap.size) :
    RefAt B (w.setCell ⟨r, 2, none⟩ v') r v' { R with ks := ks } ∧ RStep r v v' u (w.setCell ⟨r, 2, none⟩ v') := by
  have hv' : v'.ownBlock ≠ some r := fun e => by have := (ho.lt r e).1; omega
  refine ⟨⟨h.row.set 2 _, krow_mono (ho.same fun k hk => setCell_else w r _ _ fun e => hv' (by rw [hk, e])) hC, hv', h.br⟩, hu.os, hu.tape, hu.output, by simp [World.setCell]; exact hu.size, fun k hk => .inr (ho.lt k hk).1, fun k hk hkr _ => ?_⟩
  rw [setCell_else w r _ _ hkr]
  exact hu.block k hk
/-- What Drop leaves. -/
def DropDone (B r : Nat) (v : Value) (R : RS) (k : Int) (w w' : World) (z : Bool) : Prop :=
  (z = false ∧ (∀ x ∈ R.ks, x.n ≠ k) ∧ w = w') ∨ (z = true ∧ ∃ (i : Nat) (x : RK) (v' : Value), R.ks[i]? = some x ∧ x.n = k ∧ RefAt B w' r v' { R with ks := R.ks.eraseIdx i } ∧ RStep r v v' w w')
set_option maxHeartbeats 2000000 in
theorem RDrop_any (k : Int) (w : World) (h : RefAt B w r v R) (hl : R.ks.length ≤ 1000) (hB : B ≤ w.heap.size) :
    Calls Try.prog 18 #[pt r, .int .i64 k] w fun e w' => ∃ z, e = .returned (.bool z) ∧ DropDone B r v R k w w' z := by
  have hF := Find_any k w h hl
  obtain ⟨i0, hi, hz0, hz1, hz2⟩ := info_key
  have HIN : Hid (Try.prog.info? kT = some i0 ∧ i0.zero = some kZero ∧ i0.size = 4 ∧ i0.bytes = 24) := ⟨hi, hz0, hz1, hz2⟩
  have HR := Lib.hid (And.intro h hB)
  clear hi hz0 hz1 hz2 h hB
  go_enter Try.func18, Try.ntmps18
  go_wp2_with fail
  refine hF.mono ?_
  rintro e w' ⟨⟨q, rfl, hq⟩, rfl⟩
  rcases hq with ⟨rfl, hno⟩ | ⟨i, x, rfl, hi, he⟩
  · have HNO := Lib.hid hno
    clear hF hno
    go_wp2_with fail
    go_returns
    exact ⟨false, rfl, .inl ⟨rfl, HNO.out, rfl⟩⟩
  · have hil : i < R.ks.length := (List.getElem?_eq_some_iff.1 hi).1
    have HI := Lib.hid (And.intro hi he)
    obtain ⟨c0, c1, c2, c3, cz⟩ := HR.out.1.row.four
    have hrl := HR.out.1.row.lt
    obtain ⟨a, c, rfl⟩ := HR.out.1.kr.shape
    obtain ⟨m, hm⟩ : ∃ m, m = R.ks.length := ⟨_, rfl⟩
    rw [← hm] at c2 hl hil
    have HM := Lib.hid hm
    clear hF hi he hm c0 c1 c2 c3 cz
    go_wp2_with fail
    go_loopw [6, 7] (fun s x wr => ∃ (j : Nat), j ≤ m ∧ x = .int .i64 j ∧ Below w.heap.size w wr ∧ krow wr w.heap.size s ((R.ks.take j).eraseIdx i)) (fun _ x _ => m - (intOf x).toNat)
    case atStart => exact ⟨0, by omega, rfl, Below.refl _ _, by rw [List.take_zero]; exact krow.nil _ _⟩
    case round =>
      obtain ⟨j, hj, rfl, hBl, hrow⟩ := hrel
      have hA := HR.out.1.below hBl
      obtain ⟨c0, c1, c2, c3, cz⟩ := hA.row.four
      rw [← HM.out] at c2
      have hrl2 := hA.row.lt
      have hbs := hBl.size
      obtain ⟨a6, c6, rfl⟩ := hrow.shape
      by_cases hlt : j < m
      · obtain ⟨y, hy⟩ : ∃ y, R.ks[j]? = some y := ⟨R.ks[j]'(by rw [← HM.out]; exact hlt), List.getElem?_eq_getElem (by rw [← HM.out]; exact hlt)⟩
        by_cases hji : j = i
        · have hth := take_here (ks := R.ks) (i := i) (by rw [← HM.out]; omega)
          rw [hji] at hrow
          rw [← hth] at hrow
          have hjI : (j : Int) = (i : Int) := by omega
          obtain ⟨l6, hl6⟩ : ∃ l6, l6 = ((R.ks.take j).eraseIdx i).length := ⟨_, rfl⟩
          have hl7 : ((R.ks.take (i + 1)).eraseIdx i).length = l6 := by rw [hl6, hji, hth]
          rw [hl7] at hrow
          rw [← hl6]
          have HRW := Lib.hid (And.intro hrow (And.intro hA hji))
          clear hrow hA hji hl6 hl7 hth hy
          go_wp2_with fail
          go_roundw
          case rel => exact ⟨i + 1, by omega, by go_num, hBl, HRW.out.1⟩
          case measure => simp [intOf] <;> omega
        · have hth := take_other hy hji
          obtain ⟨g, cg, ev, hBg, hgl, d0, d1, d2, d3, dz⟩ := hA.kr.at hy
          obtain ⟨rfl, hmL, rfl⟩ := Value.slice.inj ev
          obtain ⟨l6, hl6⟩ : ∃ l6, l6 = ((R.ks.take j).eraseIdx i).length := ⟨_, rfl⟩
          have hl6b : l6 ≤ m := by rw [hl6, List.length_eraseIdx, List.length_take]; have := HM.out; split <;> omega
          have hko : wr.ownsRow w.heap.size kT 4 (.slice a6 l6 c6) l6 (keyCells ((R.ks.take j).eraseIdx i)) := by rw [hl6]; exact hrow
          have HKO := Lib.hid (And.intro hko (And.intro hl6 (And.intro hth hA)))
          have hjI : ¬ (j : Int) = (i : Int) := by omega
          rw [← hl6]
          clear hmL ev hBg hrow hA hth hl6 hko hy dz
          go_wp2_with (at_builtin; refine wpList_append_own_at _ rfl _ _ 60 rfl w.heap.size kT i0 kZero 4 24 Try.underlying60 HIN.out.1 HIN.out.2.1 HIN.out.2.2.1 HIN.out.2.2.2 rfl (by decide) _ _ _ rfl (HKO.out.1.alloc _) ⟨wr.heap.size, 0, none⟩ 1 1 y.cells rfl rfl ?c1 ?c2 ?c3 ?c4 ?c5 ?_)
          case c1 => exact keyOne wr y
          case c2 => exact key_cell y
          case c3 => unfold maxLen; omega
          case c4 => omega
          case c5 => simp; omega
          intro v' w8 ho hgr _ hloc
          have hgr2 := (World.grownBy_alloc wr (.cells y.cells.toArray kT) (Value.slice a6 l6 c6).ownBlock).trans hgr
          have B8 : Below w.heap.size w w8 := hBl.trans ⟨hgr2.os, hgr2.tape, hgr2.output, hgr2.size, fun k hk => hgr2.block k (Nat.lt_of_lt_of_le hk hbs) fun e => by have := (HKO.out.1.lt k e.symm).1; omega⟩
          rw [HKO.out.2.1] at ho
          have ho2 := krow_snoc ho
          rw [← HKO.out.2.2.1] at ho2
          obtain ⟨a8, c8, rfl⟩ := ho2.shape
          have HO2 := Lib.hid (And.intro ho2 B8)
          clear ho hgr hgr2 hloc ho2 B8
          go_wp2_with fail
          go_roundw
          case rel => exact ⟨j + 1, by omega, by go_num, HO2.out.2, HO2.out.1⟩
          case measure => simp [intOf] <;> omega
      · have hfin : (R.ks.take j).eraseIdx i = R.ks.eraseIdx i := by rw [List.take_of_length_le (by have := HM.out; omega)]
        rw [hfin] at hrow ⊢
        obtain ⟨l6, hl6⟩ : ∃ l6, l6 = (R.ks.eraseIdx i).length := ⟨_, rfl⟩
        rw [← hl6] at hrow ⊢
        have HX := Lib.hid (And.intro hrow (And.intro hA hl6))
        clear hrow hA hfin hl6
        go_wp2_with fail
        go_returns
        obtain ⟨N1, N2⟩ := HX.out.2.1.keysFrom hBl HR.out.1.row.lt (by have := HX.out.1; rw [HX.out.2.2] at this; exact this) HR.out.2
        refine ⟨true, rfl, .inr ⟨rfl, i, x, .slice a6 l6 c6, HI.out.1, HI.out.2, ?_, ?_⟩⟩
        · rw [HX.out.2.2]; exact N1
        · rw [HX.out.2.2]; exact N2
theorem RVictim_any (w : World) (h : RefAt B w r v R) (hrel : Rel T R P D) (hg : Good T) :
    Calls Try.prog 32 #[pt r] w fun e w' => e = .returned (.tuple #[.int .i64 (T.victim.getD 0), .bool T.victim.isSome]) ∧ Below w.heap.size w w' := by
  have hl := hrel.len64 hg
  have h1 := first_any false true w h (by omega)
  have HR := Lib.hid (And.intro h hrel)
  clear h hrel hg
  go_enter Try.func32, Try.ntmps32
  go_wp2_with fail
  refine h1.mono ?_
  rintro e w2 ⟨⟨q, rfl, hq⟩, hb2⟩
  have hA := HR.out.1.below hb2
  have hcs : (∃ (i : Nat) (y : RK), q = (i : Int) ∧ R.ks[i]? = some y ∧ T.victim = some y.n) ∨ (q = -1 ∧ (P.find? fun z => !(true && z.pin)) = none) := (HR.out.2.vic1 hq).symm
  clear h1 hq
  rcases hcs with ⟨i, y, rfl, hi, hvic⟩ | ⟨rfl, hP⟩
  · obtain ⟨c0, c1, c2, c3, cz⟩ := hA.row.four
    have hrl := hA.row.lt
    obtain ⟨g, c, rfl, hBg, hgl, d0, d1, d2, d3, dz⟩ := hA.kr.at hi
    have hil : i < R.ks.length := (List.getElem?_eq_some_iff.1 hi).1
    obtain ⟨m, hm⟩ : ∃ m, m = R.ks.length := ⟨_, rfl⟩
    rw [← hm] at c2 hl hil
    have HV := Lib.hid hvic
    clear hi hvic hBg d1 d2 d3 hm hA
    go_wp2_with fail
    go_ret2
    rw [HV.out]
    exact ⟨rfl, hb2⟩
  · have h2 := first_any true true w2 hA (by omega)
    have HP := Lib.hid hP
    clear hP hA
    go_wp2_with fail
    refine h2.mono ?_
    rintro e w3 ⟨⟨q, rfl, hq⟩, hb3⟩
    have hA := (HR.out.1.below hb2).below hb3
    have hcs := HR.out.2.vic2 hq HP.out
    have B3 := hb2.trans (hb3.mono hb2.size)
    clear h2 hq
    rcases hcs with ⟨rfl, hvic⟩ | ⟨i, y, rfl, hi, hvic⟩
    · have HV := Lib.hid hvic
      clear hvic hA
      go_wp2_with fail
      go_ret2
      rw [HV.out]
      exact ⟨rfl, B3⟩
    · obtain ⟨c0, c1, c2, c3, cz⟩ := hA.row.four
      have hrl := hA.row.lt
      obtain ⟨g, c, rfl, hBg, hgl, d0, d1, d2, d3, dz⟩ := hA.kr.at hi
      have hil : i < R.ks.length := (List.getElem?_eq_some_iff.1 hi).1
      obtain ⟨m, hm⟩ : ∃ m, m = R.ks.length := ⟨_, rfl⟩
      rw [← hm] at c2 hl hil
      have HV := Lib.hid hvic
      clear hi hvic hBg d1 d2 d3 hm hA
      go_wp2_with fail
      go_ret2
      rw [HV.out]
      exact ⟨rfl, B3⟩
end Go.Proofs.Ytfbcgnehpkffeaa
