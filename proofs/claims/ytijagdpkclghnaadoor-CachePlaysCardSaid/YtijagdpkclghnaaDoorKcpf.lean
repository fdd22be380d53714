/- Several texts in one: KOut KOpen KPut KGet KDone CFull COpenB COpenG CPutG CKeys CDirty CPair. -/
import Derived.Test.YtijagdpkclghnaaDoorKcpe
import Derived.Laws.Closers25
import Derived.Deep.CutBlock
import Derived.Test.YtijagdpkclghnaaDoorRows
import Derived.Test.YtijagdpkclghnaaDoorProg
import Derived.Shelf.SlIterI.Nil
import Derived.Shelf.SortM.Plain
import Derived.Shelf.SortM.SortNone
import Derived.Ground.GgzProg
import Derived.Ground.SlgmProg
import Derived.Maps.OwnOps
import Derived.DeepKeys4
/- The document's cache: out: a contract. -/
namespace Go.Proofs.YtijagdpkclghnaaDoor
open Go Go.RowKit
set_option maxRecDepth 100000
variable {B data : Nat} {w w' : World} {M M' : RM} {R R' : RS} {cs cs' : List CL} {x y : CL} {T : TS} {P D : List RK}
def notS (i : Int) (x : CL) : Bool := !decide (x.s = i)
theorem filter_succ {k : Nat} (hx : cs[k]? = some x) (p : CL → Bool) : (cs.take (k + 1)).filter p = (cs.take k).filter p ++ (if p x then [x] else []) := by
  rw [List.take_add_one, hx, List.filter_append]
  cases h : p x <;> simp [List.filter, h]
/-- Its cells are those of a row that was made since u. -/
theorem RCAt.cellsFrom {u : World} {cv' : Value} (h : RCAt B w M data R cs) (hu : Below u.heap.size u w) (ho : crow w u.heap.size cv' cs') (hf : ∀ k, M.foot k → k < u.heap.size) (hC : B ≤ u.heap.size) :
    RCAt B (w.setCell ⟨M.q, 2, none⟩ cv') { M with cv := cv' } data R cs' ∧ MStep M { M with cv := cv' } u (w.setCell ⟨M.q, 2, none⟩ cv') := by
  have n1 : ∀ k, M.foot k → cv'.ownBlock ≠ some k := fun k hk e => by have := (ho.lt k e).1; have := hf k hk; omega
  refine ⟨⟨h.row.set 2 _, h.turn.keep (setCell_else w M.q _ _ (Ne.symm h.qr)) fun k hk => setCell_else w M.q _ _ fun e => h.qv (e ▸ hk), crow_mono (ho.same fun k hk => setCell_else w M.q _ _ fun e => n1 M.q (.inl rfl) (e ▸ hk)) hC, h.qr, h.qv, n1 _ (.inl rfl), n1 _ (.inr (.inl rfl)), ?_, h.bq⟩,
    rfl, rfl, hu.os, hu.tape, hu.output, by simp [World.setCell]; exact hu.size, fun k hk => ?_, fun k hk hn => ?_⟩
  · show cv'.ownBlock = none ∨ cv'.ownBlock ≠ M.v.ownBlock
    cases e : cv'.ownBlock with
    | none => exact .inl rfl
    | some k => exact .inr fun e2 => n1 k (.inr (.inr (.inl e2.symm))) e
  · rcases hk with hk | hk | hk | hk
    · exact .inl (.inl hk)
    · exact .inl (.inr (.inl hk))
    · exact .inl (.inr (.inr (.inl hk)))
    · exact .inr (ho.lt k hk).1
  · rw [setCell_else w M.q _ _ (fun e => hn (.inl e))]
    exact hu.block k hk
theorem Rel.out {k : Int} {z : Bool} (hrel : Rel T R P D) (hg : Good T) (hn : T.pins.Nodup) {r : Nat} {v : Value} (hd : DropDone B r v R k w w' z) (ht : RefAt B w r v R) :
    ∃ v' R' P' D', RefAt B w' r v' R' ∧ Rel (T.dropT k) R' P' D' ∧ RStep r v v' w w' ∧ R'.clock = R.clock := by
  rcases hd with ⟨rfl, hno, rfl⟩ | ⟨rfl, i, x, v', hi, he, hA, hS⟩
  · exact ⟨v, R, P, D, ht, by rw [hrel.drop_none (hrel.gone hno)]; exact hrel, RStep.refl _ _ _, rfl⟩
  · obtain ⟨P', D', hr⟩ := hrel.dropped hg hn hi he
    exact ⟨v', _, P', D', hA, hr, hS, rfl⟩
set_option maxHeartbeats 2000000 in
theorem ROut_any (k : Int) (w : World) (h : RCAt B w M data R cs) (hl : cs.length ≤ 1000) (hrel : Rel T R P D) (hg : Good T) (hn : T.pins.Nodup) :
    Calls Tryd.prog 46 #[pt M.q, .int .i64 k] w fun e w' => e = .returned (.tuple #[]) ∧ ∃ (M' : RM) (R' : RS) (P' D' : List RK), RCAt B w' M' data R' (cs.filter (notS k)) ∧ Rel (T.dropT k) R' P' D' ∧ MStep M M' w w' ∧ R'.clock = R.clock := by
  have hBw : B ≤ w.heap.size := Nat.le_trans h.bq (Nat.le_of_lt h.row.lt)
  have hD := RDrop_any k w h.turn (by have := hrel.len64 hg; omega) hBw
  obtain ⟨i0, hi, hz0, hz1, hz2⟩ := info_cel
  have HIN : Hid (Tryd.prog.info? cT = some i0 ∧ i0.zero = some cZero ∧ i0.size = 5 ∧ i0.bytes = 56) := ⟨hi, hz0, hz1, hz2⟩
  obtain ⟨c0, c1, c2, cz⟩ := h.three
  have HR := Lib.hid (And.intro h (And.intro hrel (And.intro hg (And.intro hn hl))))
  have HD := Lib.hid hD
  clear hi hz0 hz1 hz2 h hD hl hrel hg hn
  go_enter Tryd.func46, Tryd.ntmps46
  go_wp2_with fail
  refine HD.out.mono ?_
  rintro e w1 ⟨z, rfl, hdd⟩
  obtain ⟨v', R', P', D', hA, hrel', hS, hclk⟩ := Rel.out HR.out.2.1 HR.out.2.2.1 HR.out.2.2.2.1 hdd HR.out.1.turn
  obtain ⟨A1, S1⟩ := HR.out.1.turned hS hA
  obtain ⟨N, hN⟩ : ∃ N : RM, N = { M with v := v' } := ⟨_, rfl⟩
  have hNq : M.q = N.q := by rw [hN]
  have hB1 : B ≤ w1.heap.size := Nat.le_trans hBw hS.size
  rw [← hN] at A1 S1
  rw [hNq]
  have H1 := Lib.hid (And.intro A1 (And.intro S1 (And.intro hrel' (And.intro hclk hB1))))
  obtain ⟨a, c, hcv⟩ := A1.cr.shape
  obtain ⟨m, hm⟩ : ∃ m, m = cs.length := ⟨_, rfl⟩
  have HM := Lib.hid (And.intro hm hcv)
  clear hdd hA hrel' hS hclk A1 S1 hN hNq c0 c1 c2 cz hcv hBw hB1
  have hl : m ≤ 1000 := by rw [hm]; exact HR.out.2.2.2.2
  clear hm
  go_wp2_with fail
  go_loopw [4, 5] (fun s x wr => ∃ (j : Nat), j ≤ m ∧ x = .int .i64 j ∧ Below w1.heap.size w1 wr ∧ crow wr w1.heap.size s ((cs.take j).filter (notS k))) (fun _ x _ => m - (intOf x).toNat)
  case atStart => exact ⟨0, by omega, rfl, Below.refl _ _, by rw [List.take_zero]; exact crow.nil _ _⟩
  case round =>
    obtain ⟨j, hj, rfl, hBl, hrow⟩ := hrel
    have hA := H1.out.1.below hBl
    obtain ⟨c0, c1, c2, cz⟩ := hA.three
    rw [HM.out.2, ← HM.out.1] at c2
    have hrl2 := hA.row.lt
    have hbs := hBl.size
    obtain ⟨a6, c6, rfl⟩ := hrow.shape
    by_cases hlt : j < m
    · obtain ⟨y, hy⟩ : ∃ y, cs[j]? = some y := ⟨cs[j]'(by rw [← HM.out.1]; exact hlt), List.getElem?_eq_getElem (by rw [← HM.out.1]; exact hlt)⟩
      have hth := filter_succ hy (notS k)
      have hcr := hA.cr
      rw [HM.out.2, ← HM.out.1] at hcr
      obtain ⟨g, cg, ev, hBg, hgl, d0, d1, d2, d3, d4, dz⟩ := hcr.at hy
      obtain ⟨rfl, hmL, rfl⟩ := Value.slice.inj ev
      obtain ⟨l6, hl6⟩ : ∃ l6, l6 = ((cs.take j).filter (notS k)).length := ⟨_, rfl⟩
      have hl6b : l6 ≤ m := by
        have := List.length_filter_le (notS k) (cs.take j)
        rw [List.length_take] at this
        omega
      by_cases hji : y.s = k
      · have hp : notS k y = false := by unfold notS; simp [hji]
        rw [hp] at hth
        simp only [Bool.false_eq_true, if_false, List.append_nil] at hth
        have hl7 : ((cs.take (j + 1)).filter (notS k)).length = l6 := by rw [hl6, hth]
        rw [← hth, hl7] at hrow
        rw [← hl6]
        rw [hji] at d0
        have HRW := Lib.hid hrow
        clear hrow hA hji hl6 hl7 hth hy hp hmL ev hBg d1 d2 d3 d4 hcr
        go_wp2_with fail
        go_roundw
        case rel => exact ⟨j + 1, by omega, by go_num, hBl, HRW.out⟩
        case measure => simp [intOf] <;> omega
      · have hp : notS k y = true := by unfold notS; simp [hji]
        rw [hp] at hth
        simp only [if_true] at hth
        have hko : wr.ownsRow w1.heap.size cT 5 (.slice a6 l6 c6) l6 (celCells ((cs.take j).filter (notS k))) := by rw [hl6]; exact hrow
        have HKO := Lib.hid (And.intro hko (And.intro hl6 (And.intro hth hA)))
        rw [← hl6]
        clear hmL ev hBg hrow hA hth hl6 hko hy hp hcr
        go_wp2_with (at_builtin; refine wpList_append_own_at _ rfl _ _ 77 rfl w1.heap.size cT i0 cZero 5 56 Tryd.underlying77 HIN.out.1 HIN.out.2.1 HIN.out.2.2.1 HIN.out.2.2.2 rfl (by decide) _ _ _ rfl (HKO.out.1.alloc _) ⟨wr.heap.size, 0, none⟩ 1 1 y.cells rfl rfl ?c1 ?c2 ?c3 ?c4 ?c5 ?_)
        case c1 => exact celOne wr y
        case c2 => exact cell_cell y
        case c3 => unfold maxLen; omega
        case c4 => omega
        case c5 => simp; omega
        intro v' w8 ho hgr _ hloc
        have hgr2 := (World.grownBy_alloc wr (.cells y.cells.toArray cT) (Value.slice a6 l6 c6).ownBlock).trans hgr
        have B8 : Below w1.heap.size w1 w8 := hBl.trans ⟨hgr2.os, hgr2.tape, hgr2.output, hgr2.size, fun k hk => hgr2.block k (Nat.lt_of_lt_of_le hk hbs) fun e => by have := (HKO.out.1.lt k e.symm).1; omega⟩
        rw [HKO.out.2.1] at ho
        have ho2 := crow_snoc ho
        rw [← HKO.out.2.2.1] at ho2
        obtain ⟨a8, c8, rfl⟩ := ho2.shape
        have HO2 := Lib.hid (And.intro ho2 B8)
        clear ho hgr hgr2 hloc ho2 B8
        go_wp2_with fail
        go_roundw
        case rel => exact ⟨j + 1, by omega, by go_num, HO2.out.2, HO2.out.1⟩
        case measure => simp [intOf] <;> omega
    · have hfin : (cs.take j).filter (notS k) = cs.filter (notS k) := by rw [List.take_of_length_le (by have := HM.out.1; omega)]
      rw [hfin] at hrow ⊢
      obtain ⟨l6, hl6⟩ : ∃ l6, l6 = (cs.filter (notS k)).length := ⟨_, rfl⟩
      rw [← hl6] at hrow ⊢
      have HX := Lib.hid (And.intro hrow (And.intro hA hl6))
      clear hrow hA hfin hl6
      go_wp2_with fail
      go_returns
      obtain ⟨N1, N2⟩ := HX.out.2.1.cellsFrom hBl HX.out.1 (fun k hk => (H1.out.1.lts k hk).2) H1.out.2.2.2.2
      exact ⟨rfl, _, R', P', D', N1, H1.out.2.2.1, H1.out.2.1.trans N2, H1.out.2.2.2.1⟩
end Go.Proofs.YtijagdpkclghnaaDoor
/- The document's cache: open: contracts. -/
namespace Go.Proofs.YtijagdpkclghnaaDoor
open Go Go.RowKit
set_option maxRecDepth 100000
variable {B data : Nat} {w w' : World} {M M' : RM} {R R' : RS} {cs cs' cs0 cs1 : List CL} {x y : CL} {T T1 : TS} {P D : List RK} {i j : Int} {k : Nat}
/-- What an open leaves of the turn and of the cells. -/
def RoomR (T : TS) (cs : List CL) (i : Int) (T1 : TS) (cs0 : List CL) : Prop :=
  (T.has i = true ∧ T1 = T.touchT i ∧ cs0 = cs) ∨ (T.has i = false ∧ T.full = false ∧ T1 = T.addT i ∧ cs0 = cs) ∨ (T.has i = false ∧ T.full = true ∧ ∃ v, T.victim = some v ∧ T1 = (T.dropT v).addT i ∧ cs0 = cs.filter (notS v))
def InR (cs0 : List CL) (i j : Int) (k : Nat) (x : CL) (cs1 : List CL) : Prop :=
  (cs1 = cs0 ∧ cs0[k]? = some x ∧ x.s = i ∧ x.c = j) ∨ ((∀ y ∈ cs0, ¬ (y.s = i ∧ y.c = j)) ∧ k = cs0.length ∧ x = ⟨i, j, noB, noB, false⟩ ∧ cs1 = cs0 ++ [x])
theorem InR.at (h : InR cs0 i j k x cs1) : cs1[k]? = some x ∧ x.s = i ∧ x.c = j := by
  rcases h with ⟨rfl, h1, h2, h3⟩ | ⟨_, rfl, rfl, rfl⟩
  · exact ⟨h1, h2, h3⟩
  · exact ⟨by simp, rfl, rfl⟩
structure OpenedR (B data : Nat) (w w' : World) (M : RM) (T : TS) (R : RS) (cs : List CL) (i j : Int) (k : Nat) (x : CL) (M' : RM) (T1 : TS) (R' : RS) (cs0 cs1 : List CL) : Prop where
  at_ : RCAt B w' M' data R' cs1
  rel : ∃ P D, Rel T1 R' P D
  step : MStep M M' w w'
  clk : R'.clock ≤ R.clock + 2
  room : RoomR T cs i T1 cs0
  in_ : InR cs0 i j k x cs1
theorem ROpen_range (s : ByteArray) (w : World) (h : RCAt B w M data R cs) (hr : i < 0 ∨ 64 ≤ i ∨ j < 0 ∨ (data : Int) ≤ j) :
    Calls Tryd.prog 40 #[pt M.q, .int .i64 i, .int .i64 j, .string s] w fun e w' => e = .returned (.tuple #[.int .i64 0, .int .i64 3]) ∧ w = w' := by
  obtain ⟨c0, c1, c2, cz⟩ := h.three
  by_cases h1 : i < 0
  · clear hr
    go_enter Tryd.func40, Tryd.ntmps40
    go_wp2_with fail
    go_ret2
    exact ⟨rfl, rfl⟩
  · by_cases h2 : 64 ≤ i
    · clear hr
      go_enter Tryd.func40, Tryd.ntmps40
      go_wp2_with fail
      go_ret2
      exact ⟨rfl, rfl⟩
    · by_cases h3 : j < 0
      · clear hr
        go_enter Tryd.func40, Tryd.ntmps40
        go_wp2_with fail
        go_ret2
        exact ⟨rfl, rfl⟩
      · have h4 : (data : Int) ≤ j := by omega
        clear hr
        go_enter Tryd.func40, Tryd.ntmps40
        go_wp2_with fail
        go_ret2
        exact ⟨rfl, rfl⟩
theorem ROpen_form (s : ByteArray) (w : World) (h : RCAt B w M data R cs) (hi : 0 ≤ i) (hi2 : i < 64) (hj : 0 ≤ j) (hj2 : j < (data : Int)) (hs : s.size ≠ 64) :
    Calls Tryd.prog 40 #[pt M.q, .int .i64 i, .int .i64 j, .string s] w fun e w' => e = .returned (.tuple #[.int .i64 0, .int .i64 4]) ∧ w = w' := by
  obtain ⟨c0, c1, c2, cz⟩ := h.three
  have hsI : ¬ (s.size : Int) = 64 := by omega
  go_enter Tryd.func40, Tryd.ntmps40
  go_wp2_with fail
  go_ret2
  exact ⟨rfl, rfl⟩
theorem ROpen_full (s : ByteArray) (w : World) (h : RCAt B w M data R cs) (hrel : Rel T R P D) (hg : Good T) (hi : 0 ≤ i) (hi2 : i < 64) (hj : 0 ≤ j) (hj2 : j < (data : Int)) (hs : s.size = 64) (hh : T.has i = false) (hf : T.full = true) (hv : T.victim = none) :
    Calls Tryd.prog 40 #[pt M.q, .int .i64 i, .int .i64 j, .string s] w fun e w' => e = .returned (.tuple #[.int .i64 0, .int .i64 10]) ∧ Below w.heap.size w w' := by
  obtain ⟨c0, c1, c2, cz⟩ := h.three
  have hF := Find_any i w h.turn (by have := hrel.len64 hg; omega)
  have hV := fun w' (hb : Below w.heap.size w w') => RVictim_any w' (h.turn.below hb) hrel hg
  rw [hv] at hV
  have hfR : R.most ≤ R.ks.length := by
    have h1 := hrel.fullR
    rw [hf] at h1
    exact of_decide_eq_true h1.symm
  have H := Lib.hid (And.intro h (And.intro hrel hh))
  have HV := Lib.hid hV
  clear h hrel hg hh hf hv hV
  go_enter Tryd.func40, Tryd.ntmps40
  go_wp2_with fail
  refine hF.mono ?_
  rintro e w1 ⟨⟨z, rfl, hz⟩, rfl⟩
  rcases H.out.2.1.find hz with ⟨rfl, _⟩ | ⟨_, _, _, _, _, h2, _⟩
  case inr => rw [H.out.2.2] at h2; cases h2
  have ht := H.out.1.turn
  obtain ⟨d0, d1, d2, d3, dz⟩ := ht.row.four
  have hrl := ht.row.lt
  obtain ⟨a, c, hvv⟩ := ht.kr.shape
  rw [hvv] at d2
  obtain ⟨m, hm⟩ : ∃ m, m = R.ks.length := ⟨_, rfl⟩
  rw [← hm] at d2 hfR
  have hfI : (R.most : Int) ≤ (m : Int) := by omega
  clear hF hz ht hvv hm
  go_wp2_with fail
  go_quiet (fail)
  go_wp2_with fail
  refine (HV.out _ ((Below.refl _ _).drewN _)).mono ?_
  rintro e w2 ⟨rfl, b2⟩
  have HB := Lib.hid (((Below.refl w.heap.size w).drewN nq).trans b2)
  clear b2
  go_wp2_with fail
  go_ret2
  exact ⟨rfl, HB.out⟩
set_option maxHeartbeats 4000000 in
theorem ROpen_any (s : ByteArray) (w : World) (h : RCAt B w M data R cs) (hl : cs.length ≤ 900) (hrel : Rel T R P D) (hg : Good T) (hn : T.pins.Nodup) (hcl : R.clock ≤ 900) (hi : 0 ≤ i) (hi2 : i < 64) (hj : 0 ≤ j) (hj2 : j < (data : Int)) (hs : s.size = 64) (hok : T.has i = true ∨ T.full = false ∨ T.victim.isSome = true) :
    Calls Tryd.prog 40 #[pt M.q, .int .i64 i, .int .i64 j, .string s] w fun e w' => ∃ (k : Nat) (x : CL) (M' : RM) (T1 : TS) (R' : RS) (cs0 cs1 : List CL), e = .returned (.tuple #[.int .i64 (k : Int), .int .i64 0]) ∧ OpenedR B data w w' M T R cs i j k x M' T1 R' cs0 cs1 := by
  have hBw : B ≤ w.heap.size := Nat.le_trans h.bq (Nat.le_of_lt h.row.lt)
  obtain ⟨c0, c1, c2, cz⟩ := h.three
  obtain ⟨i0, hi0, hz0, hz1, hz2⟩ := info_cel
  have HIN : Hid (Tryd.prog.info? cT = some i0 ∧ i0.zero = some cZero ∧ i0.size = 5 ∧ i0.bytes = 56) := ⟨hi0, hz0, hz1, hz2⟩
  have hF := Find_any i w h.turn (by have := hrel.len64 hg; omega)
  have H := Lib.hid (And.intro h (And.intro hrel (And.intro hg (And.intro hn (And.intro hcl (And.intro hl hBw))))))
  have hfR := hrel.fullR
  clear hi0 hz0 hz1 hz2 h hrel hg hn hcl hl hBw
  go_enter Tryd.func40, Tryd.ntmps40
  go_wp2_with fail
  refine hF.mono ?_
  rintro e w1 ⟨⟨z, rfl, hz⟩, rfl⟩
  rcases H.out.2.1.find hz with ⟨rfl, hh⟩ | ⟨fi, fx, rfl, _, _, hh, _⟩
  case inr =>
    have HH := Lib.hid hh
    clear hF hz hfR hok hh
    go_wp2_with fail
    refine (RTouch_any i w H.out.1.turn H.out.2.1 H.out.2.2.1 (by have := H.out.2.2.2.2.1; omega)).mono ?_
    rintro e w2 ⟨rfl, R2, P2, D2, hA2, hr2, hS2, hk2⟩
    obtain ⟨A2, S2⟩ := H.out.1.turned hS2 hA2
    obtain ⟨N, hN⟩ : ∃ N : RM, N = M := ⟨_, rfl⟩
    have hNq : M.q = N.q := by rw [hN]
    have A2 : RCAt B w2 N data R2 cs := by rw [hN]; exact A2
    have S2 : MStep M N w w2 := by rw [hN]; exact S2
    rw [hNq]
    obtain ⟨T1, hT1⟩ : ∃ T1, T1 = T.touchT i := ⟨_, rfl⟩
    obtain ⟨cs0, hcs0⟩ : ∃ l, l = cs := ⟨_, rfl⟩
    have hRoom : RoomR T cs i T1 cs0 := .inl ⟨HH.out, hT1, hcs0⟩
    rw [← hT1] at hr2
    rw [← hcs0] at A2
    have hlen : cs0.length ≤ 900 := by rw [hcs0]; exact H.out.2.2.2.2.2.1
    have HA := Lib.hid (And.intro A2 (And.intro S2 (And.intro (show ∃ P' D', Rel T1 R2 P' D' from ⟨P2, D2, hr2⟩) (And.intro hk2 hRoom))))
    have hBX : B ≤ w2.heap.size := Nat.le_trans H.out.2.2.2.2.2.2 S2.size
    clear hA2 hr2 hS2 hk2 A2 S2 c0 c1 c2 cz hN hNq hT1 hcs0 hRoom
    go_wp2_with fail
    refine (RFindC_any i j _ HA.out.1 (by omega)).mono ?_
    rintro e w9 ⟨⟨z9, rfl, hz9⟩, rfl⟩
    rcases hz9 with ⟨rfl, hno⟩ | ⟨kk, x, rfl, hx, hxs, hxc⟩
    case inr =>
      have HX := Lib.hid (And.intro hx (And.intro hxs hxc))
      clear hx hxs hxc
      go_wp2_with fail
      go_ret2
      exact ⟨kk, x, N, T1, R2, cs0, cs0, rfl, HA.out.1, HA.out.2.2.1, HA.out.2.1, HA.out.2.2.2.1, HA.out.2.2.2.2, .inl ⟨rfl, HX.out⟩⟩
    obtain ⟨c0, c1, c2, cz⟩ := HA.out.1.three
    obtain ⟨a, c, hcv⟩ := HA.out.1.cr.shape
    obtain ⟨m, hm⟩ : ∃ m, m = cs0.length := ⟨_, rfl⟩
    rw [hcv, ← hm] at c2
    have hko := HA.out.1.cr
    unfold crow at hko
    rw [hcv, ← hm] at hko
    rw [← hm] at hlen
    have HK := Lib.hid (And.intro hko (And.intro hcv (And.intro hm hno)))
    have HN := Lib.hid HA.out.1
    clear hcv hm hko hno
    go_wp2_with (at_builtin; refine wpList_append_own_at _ rfl _ _ 77 rfl B cT i0 cZero 5 56 Tryd.underlying77 HIN.out.1 HIN.out.2.1 HIN.out.2.2.1 HIN.out.2.2.2 rfl (by decide) _ _ _ rfl (HK.out.1.alloc _) ⟨w2.heap.size, 0, none⟩ 1 1 (CL.cells ⟨i, j, noB, noB, false⟩) rfl rfl ?c1 ?c2 ?c3 ?c4 ?c5 ?_)
    case c1 => exact celOne w2 ⟨i, j, noB, noB, false⟩
    case c2 => exact cell_cell _
    case c3 => unfold maxLen; omega
    case c4 => omega
    case c5 => simp; omega
    intro v8 w8 ho hgr _ hloc
    have hgr2 := (World.grownBy_alloc w2 (.cells (CL.cells ⟨i, j, noB, noB, false⟩).toArray cT) (Value.slice a m c).ownBlock).trans hgr
    have hgr3 : (w2).grownBy w8 N.cv.ownBlock := by rw [HK.out.2.1, own_len a _ m c]; exact hgr2
    have hrow8 := HN.out.row.grown hgr3 (fun e => HN.out.qc e.symm)
    rw [HK.out.2.2.1] at ho
    have ho2 := crow_snoc ho
    have hloc2 : v8.ownBlock = N.cv.ownBlock ∨ ∃ k, v8.ownBlock = some k ∧ (w2).heap.size ≤ k := by
      rw [HK.out.2.1, own_len a _ m c]
      exact hloc.imp id fun e => ⟨_, e, by simp⟩
    obtain ⟨a8, c8, hv8⟩ := ho2.shape
    rw [List.length_append, ← HK.out.2.2.1] at hv8
    simp only [List.length_cons, List.length_nil, Nat.zero_add] at hv8
    subst hv8
    obtain ⟨N1, N2⟩ := HN.out.cells hgr3 ho2 hloc2
    have d2 := hrow8.cell 2 rfl
    have dz := hrow8.free
    have HY := Lib.hid (And.intro N1 N2)
    clear ho hgr hloc hgr2 hgr3 hrow8 ho2 hloc2 N1 N2 c0 c1 c2 cz
    go_upto_region 17 with fail
    refine wp_world (fun w10 => RCAt B w10 { N with cv := .slice a8 (m + 1) c8 } data R2 (cs0 ++ [⟨i, j, noB, noB, false⟩]) ∧ MStep N { N with cv := .slice a8 (m + 1) c8 } (w2) w10) HY.out ?_
    rintro w10 ⟨A10, S10⟩
    obtain ⟨e0, e1, e2, ez⟩ := A10.three
    have H10 := Lib.hid (And.intro A10 S10)
    clear A10 S10 d2 dz
    go_wp2_with fail
    go_ret2
    exact ⟨m, rfl, _, { N with cv := .slice a8 (m + 1) c8 }, T1, R2, cs0, _, H10.out.1, HA.out.2.2.1, HA.out.2.1.trans H10.out.2, HA.out.2.2.2.1, HA.out.2.2.2.2, .inr ⟨HK.out.2.2.2, HK.out.2.2.1, rfl, rfl⟩⟩
  have HH := Lib.hid hh
  have ht := H.out.1.turn
  obtain ⟨d0, d1, d2, d3, dz⟩ := ht.row.four
  have hrl := ht.row.lt
  obtain ⟨a, c, hvv⟩ := ht.kr.shape
  rw [hvv] at d2
  obtain ⟨m, hm⟩ : ∃ m, m = R.ks.length := ⟨_, rfl⟩
  rw [← hm] at d2 hfR
  have HM := Lib.hid hfR
  clear hF hz ht hvv hm hh hfR
  by_cases hfu : R.most ≤ m
  · have hfI : (R.most : Int) ≤ (m : Int) := by omega
    have hft : T.full = true := by rw [HM.out]; exact decide_eq_true hfu
    have HFT := Lib.hid hft
    obtain ⟨v, hv⟩ : ∃ v, T.victim = some v := by
      rcases hok with h1 | h1 | h1
      · rw [HH.out] at h1; cases h1
      · rw [hft] at h1; cases h1
      · exact Option.isSome_iff_exists.1 h1
    have HVC := Lib.hid hv
    have hV := fun w' (hb : Below w.heap.size w w') => RVictim_any w' (H.out.1.turn.below hb) H.out.2.1 H.out.2.2.1
    rw [hv] at hV
    have HV := Lib.hid hV
    clear hft hv hV hok
    go_wp2_with fail
    go_quiet (fail)
    go_wp2_with fail
    refine (HV.out _ ((Below.refl _ _).drewN _)).mono ?_
    rintro e w2 ⟨rfl, b2⟩
    have B2 := ((Below.refl w.heap.size w).drewN nq).trans b2
    have A2 := H.out.1.below B2
    have H2 := Lib.hid (And.intro A2 B2)
    have hO := ROut_any v w2 A2 (by have := H.out.2.2.2.2.2.1; omega) H.out.2.1 H.out.2.2.1 H.out.2.2.2.1
    have HO := Lib.hid hO
    clear b2 B2 A2 hO c0 c1 c2 cz d0 d1 d2 d3 dz
    go_wp2_with fail
    refine HO.out.mono ?_
    rintro e w3 ⟨rfl, M3, R3, P3, D3, A3, hr3, S3, hk3⟩
    have hq3 := S3.q
    rw [← hq3]
    obtain ⟨c0, c1, c2, cz⟩ := A3.three
    have HA3 := Lib.hid (And.intro A3 (And.intro hr3 (And.intro (S3.trans (MStep.refl _ _)) hk3)))
    have hBw3 : B ≤ w3.heap.size := Nat.le_trans A3.bq (Nat.le_of_lt A3.row.lt)
    have hAdd := RAdd_any i w3 A3.turn hr3 (H.out.2.2.1.drop v) (by have := H.out.2.2.2.2.1; omega) hBw3
    have HAdd := Lib.hid hAdd
    clear A3 hr3 S3 hk3 hq3 hAdd
    go_wp2_with fail
    refine HAdd.out.mono ?_
    rintro e w4 ⟨rfl, v4, R4, hA4, ⟨P4, D4, hr4⟩, hS4, hk4⟩
    obtain ⟨A4, S4⟩ := HA3.out.1.turned hS4 hA4
    obtain ⟨N, hN⟩ : ∃ N : RM, N = { M3 with v := v4 } := ⟨_, rfl⟩
    have hNq : M3.q = N.q := by rw [hN]
    have S5 : MStep M N w w4 := by rw [hN]; exact (MStep.of_below M H2.out.2).trans (HA3.out.2.2.1.trans S4)
    rw [← hN] at A4
    rw [hNq]
    obtain ⟨T1, hT1⟩ : ∃ T1, T1 = (T.dropT v).addT i := ⟨_, rfl⟩
    obtain ⟨cs0, hcs0⟩ : ∃ l, l = cs.filter (notS v) := ⟨_, rfl⟩
    have hRoom : RoomR T cs i T1 cs0 := .inr (.inr ⟨HH.out, HFT.out, v, HVC.out, hT1, hcs0⟩)
    rw [← hT1] at hr4
    rw [← hcs0] at A4
    have hlen : cs0.length ≤ 900 := by rw [hcs0]; have := List.length_filter_le (notS v) cs; have := H.out.2.2.2.2.2.1; omega
    obtain ⟨R2, hR2⟩ : ∃ R2, R2 = R4 := ⟨_, rfl⟩
    rw [← hR2] at A4 hr4 hk4
    have HA := Lib.hid (And.intro A4 (And.intro S5 (And.intro (show ∃ P' D', Rel T1 R2 P' D' from ⟨P4, D4, hr4⟩) (And.intro (show R2.clock ≤ R.clock + 2 by have := HA3.out.2.2.2; omega) hRoom))))
    have hBX : B ≤ w4.heap.size := Nat.le_trans hBw3 hS4.size
    clear hA4 hr4 hS4 hk4 A4 S4 c0 c1 c2 cz hN hNq hT1 hcs0 hRoom hBw3 S5 hR2
    go_wp2_with fail
    refine (RFindC_any i j _ HA.out.1 (by omega)).mono ?_
    rintro e w9 ⟨⟨z9, rfl, hz9⟩, rfl⟩
    rcases hz9 with ⟨rfl, hno⟩ | ⟨kk, x, rfl, hx, hxs, hxc⟩
    case inr =>
      have HX := Lib.hid (And.intro hx (And.intro hxs hxc))
      clear hx hxs hxc
      go_wp2_with fail
      go_ret2
      exact ⟨kk, x, N, T1, R2, cs0, cs0, rfl, HA.out.1, HA.out.2.2.1, HA.out.2.1, HA.out.2.2.2.1, HA.out.2.2.2.2, .inl ⟨rfl, HX.out⟩⟩
    obtain ⟨c0, c1, c2, cz⟩ := HA.out.1.three
    obtain ⟨a, c, hcv⟩ := HA.out.1.cr.shape
    obtain ⟨m, hm⟩ : ∃ m, m = cs0.length := ⟨_, rfl⟩
    rw [hcv, ← hm] at c2
    have hko := HA.out.1.cr
    unfold crow at hko
    rw [hcv, ← hm] at hko
    rw [← hm] at hlen
    have HK := Lib.hid (And.intro hko (And.intro hcv (And.intro hm hno)))
    have HN := Lib.hid HA.out.1
    clear hcv hm hko hno
    go_wp2_with (at_builtin; refine wpList_append_own_at _ rfl _ _ 77 rfl B cT i0 cZero 5 56 Tryd.underlying77 HIN.out.1 HIN.out.2.1 HIN.out.2.2.1 HIN.out.2.2.2 rfl (by decide) _ _ _ rfl (HK.out.1.alloc _) ⟨w4.heap.size, 0, none⟩ 1 1 (CL.cells ⟨i, j, noB, noB, false⟩) rfl rfl ?c1 ?c2 ?c3 ?c4 ?c5 ?_)
    case c1 => exact celOne w4 ⟨i, j, noB, noB, false⟩
    case c2 => exact cell_cell _
    case c3 => unfold maxLen; omega
    case c4 => omega
    case c5 => simp; omega
    intro v8 w8 ho hgr _ hloc
    have hgr2 := (World.grownBy_alloc w4 (.cells (CL.cells ⟨i, j, noB, noB, false⟩).toArray cT) (Value.slice a m c).ownBlock).trans hgr
    have hgr3 : (w4).grownBy w8 N.cv.ownBlock := by rw [HK.out.2.1, own_len a _ m c]; exact hgr2
    have hrow8 := HN.out.row.grown hgr3 (fun e => HN.out.qc e.symm)
    rw [HK.out.2.2.1] at ho
    have ho2 := crow_snoc ho
    have hloc2 : v8.ownBlock = N.cv.ownBlock ∨ ∃ k, v8.ownBlock = some k ∧ (w4).heap.size ≤ k := by
      rw [HK.out.2.1, own_len a _ m c]
      exact hloc.imp id fun e => ⟨_, e, by simp⟩
    obtain ⟨a8, c8, hv8⟩ := ho2.shape
    rw [List.length_append, ← HK.out.2.2.1] at hv8
    simp only [List.length_cons, List.length_nil, Nat.zero_add] at hv8
    subst hv8
    obtain ⟨N1, N2⟩ := HN.out.cells hgr3 ho2 hloc2
    have d2 := hrow8.cell 2 rfl
    have dz := hrow8.free
    have HY := Lib.hid (And.intro N1 N2)
    clear ho hgr hloc hgr2 hgr3 hrow8 ho2 hloc2 N1 N2 c0 c1 c2 cz
    go_upto_region 17 with fail
    refine wp_world (fun w10 => RCAt B w10 { N with cv := .slice a8 (m + 1) c8 } data R2 (cs0 ++ [⟨i, j, noB, noB, false⟩]) ∧ MStep N { N with cv := .slice a8 (m + 1) c8 } (w4) w10) HY.out ?_
    rintro w10 ⟨A10, S10⟩
    obtain ⟨e0, e1, e2, ez⟩ := A10.three
    have H10 := Lib.hid (And.intro A10 S10)
    clear A10 S10 d2 dz
    go_wp2_with fail
    go_ret2
    exact ⟨m, rfl, _, { N with cv := .slice a8 (m + 1) c8 }, T1, R2, cs0, _, H10.out.1, HA.out.2.2.1, HA.out.2.1.trans H10.out.2, HA.out.2.2.2.1, HA.out.2.2.2.2, .inr ⟨HK.out.2.2.2, HK.out.2.2.1, rfl, rfl⟩⟩
  · have hfI : ¬ (R.most : Int) ≤ (m : Int) := by omega
    have hft : T.full = false := by rw [HM.out]; exact decide_eq_false hfu
    have HFT := Lib.hid hft
    have hBn : Hid (B ≤ w.heap.size) := Lib.hid H.out.2.2.2.2.2.2
    have hAdd := fun w' (hb : Below w.heap.size w w') => RAdd_any i w' (H.out.1.turn.below hb) H.out.2.1 H.out.2.2.1 (by have := H.out.2.2.2.2.1; omega) (Nat.le_trans hBn.out hb.size)
    have HAdd := Lib.hid hAdd
    clear hft hAdd hok
    go_wp2_with fail
    go_quiet (fail)
    go_wp2_with fail
    refine (HAdd.out _ ((Below.refl _ _).drewN _)).mono ?_
    rintro e w4 ⟨rfl, v4, R4, hA4, ⟨P4, D4, hr4⟩, hS4, hk4⟩
    have b2 := (Below.refl w.heap.size w).drewN nq
    obtain ⟨A4, S4⟩ := (H.out.1.below b2).turned hS4 hA4
    obtain ⟨N, hN⟩ : ∃ N : RM, N = { M with v := v4 } := ⟨_, rfl⟩
    have hNq : M.q = N.q := by rw [hN]
    have S5 : MStep M N w w4 := by rw [hN]; exact (MStep.of_below M b2).trans S4
    rw [← hN] at A4
    rw [hNq]
    obtain ⟨T1, hT1⟩ : ∃ T1, T1 = T.addT i := ⟨_, rfl⟩
    obtain ⟨cs0, hcs0⟩ : ∃ l, l = cs := ⟨_, rfl⟩
    have hRoom : RoomR T cs i T1 cs0 := .inr (.inl ⟨HH.out, HFT.out, hT1, hcs0⟩)
    rw [← hT1] at hr4
    rw [← hcs0] at A4
    have hlen : cs0.length ≤ 900 := by rw [hcs0]; exact H.out.2.2.2.2.2.1
    obtain ⟨R2, hR2⟩ : ∃ R2, R2 = R4 := ⟨_, rfl⟩
    rw [← hR2] at A4 hr4 hk4
    have HA := Lib.hid (And.intro A4 (And.intro S5 (And.intro (show ∃ P' D', Rel T1 R2 P' D' from ⟨P4, D4, hr4⟩) (And.intro (show R2.clock ≤ R.clock + 2 by omega) hRoom))))
    have hBX : B ≤ w4.heap.size := Nat.le_trans hBn.out (Nat.le_trans b2.size hS4.size)
    clear hA4 hr4 hS4 hk4 A4 S4 c0 c1 c2 cz hN hNq hT1 hcs0 hRoom S5 hR2 b2 d0 d1 d2 d3 dz
    go_wp2_with fail
    refine (RFindC_any i j _ HA.out.1 (by omega)).mono ?_
    rintro e w9 ⟨⟨z9, rfl, hz9⟩, rfl⟩
    rcases hz9 with ⟨rfl, hno⟩ | ⟨kk, x, rfl, hx, hxs, hxc⟩
    case inr =>
      have HX := Lib.hid (And.intro hx (And.intro hxs hxc))
      clear hx hxs hxc
      go_wp2_with fail
      go_ret2
      exact ⟨kk, x, N, T1, R2, cs0, cs0, rfl, HA.out.1, HA.out.2.2.1, HA.out.2.1, HA.out.2.2.2.1, HA.out.2.2.2.2, .inl ⟨rfl, HX.out⟩⟩
    obtain ⟨c0, c1, c2, cz⟩ := HA.out.1.three
    obtain ⟨a, c, hcv⟩ := HA.out.1.cr.shape
    obtain ⟨m, hm⟩ : ∃ m, m = cs0.length := ⟨_, rfl⟩
    rw [hcv, ← hm] at c2
    have hko := HA.out.1.cr
    unfold crow at hko
    rw [hcv, ← hm] at hko
    rw [← hm] at hlen
    have HK := Lib.hid (And.intro hko (And.intro hcv (And.intro hm hno)))
    have HN := Lib.hid HA.out.1
    clear hcv hm hko hno
    go_wp2_with (at_builtin; refine wpList_append_own_at _ rfl _ _ 77 rfl B cT i0 cZero 5 56 Tryd.underlying77 HIN.out.1 HIN.out.2.1 HIN.out.2.2.1 HIN.out.2.2.2 rfl (by decide) _ _ _ rfl (HK.out.1.alloc _) ⟨w4.heap.size, 0, none⟩ 1 1 (CL.cells ⟨i, j, noB, noB, false⟩) rfl rfl ?c1 ?c2 ?c3 ?c4 ?c5 ?_)
    case c1 => exact celOne w4 ⟨i, j, noB, noB, false⟩
    case c2 => exact cell_cell _
    case c3 => unfold maxLen; omega
    case c4 => omega
    case c5 => simp; omega
    intro v8 w8 ho hgr _ hloc
    have hgr2 := (World.grownBy_alloc w4 (.cells (CL.cells ⟨i, j, noB, noB, false⟩).toArray cT) (Value.slice a m c).ownBlock).trans hgr
    have hgr3 : (w4).grownBy w8 N.cv.ownBlock := by rw [HK.out.2.1, own_len a _ m c]; exact hgr2
    have hrow8 := HN.out.row.grown hgr3 (fun e => HN.out.qc e.symm)
    rw [HK.out.2.2.1] at ho
    have ho2 := crow_snoc ho
    have hloc2 : v8.ownBlock = N.cv.ownBlock ∨ ∃ k, v8.ownBlock = some k ∧ (w4).heap.size ≤ k := by
      rw [HK.out.2.1, own_len a _ m c]
      exact hloc.imp id fun e => ⟨_, e, by simp⟩
    obtain ⟨a8, c8, hv8⟩ := ho2.shape
    rw [List.length_append, ← HK.out.2.2.1] at hv8
    simp only [List.length_cons, List.length_nil, Nat.zero_add] at hv8
    subst hv8
    obtain ⟨N1, N2⟩ := HN.out.cells hgr3 ho2 hloc2
    have d2 := hrow8.cell 2 rfl
    have dz := hrow8.free
    have HY := Lib.hid (And.intro N1 N2)
    clear ho hgr hloc hgr2 hgr3 hrow8 ho2 hloc2 N1 N2 c0 c1 c2 cz
    go_upto_region 17 with fail
    refine wp_world (fun w10 => RCAt B w10 { N with cv := .slice a8 (m + 1) c8 } data R2 (cs0 ++ [⟨i, j, noB, noB, false⟩]) ∧ MStep N { N with cv := .slice a8 (m + 1) c8 } (w4) w10) HY.out ?_
    rintro w10 ⟨A10, S10⟩
    obtain ⟨e0, e1, e2, ez⟩ := A10.three
    have H10 := Lib.hid (And.intro A10 S10)
    clear A10 S10 d2 dz
    go_wp2_with fail
    go_ret2
    exact ⟨m, rfl, _, { N with cv := .slice a8 (m + 1) c8 }, T1, R2, cs0, _, H10.out.1, HA.out.2.2.1, HA.out.2.1.trans H10.out.2, HA.out.2.2.2.1, HA.out.2.2.2.2, .inr ⟨HK.out.2.2.2, HK.out.2.2.1, rfl, rfl⟩⟩
end Go.Proofs.YtijagdpkclghnaaDoor
/- The document's cache: Put, Fill, Get: contracts. -/
namespace Go.Proofs.YtijagdpkclghnaaDoor
open Go Go.RowKit
set_option maxRecDepth 100000
variable {B data : Nat} {w w' : World} {M M' : RM} {R R' : RS} {cs cs' cs0 cs1 : List CL} {x y : CL} {T T1 : TS} {P D : List RK} {i j : Int} {k : Nat}
theorem set_at {l : List CL} (h : l[k]? = some x) : (l.set k y)[k]? = some y := by
  have := (List.getElem?_eq_some_iff.1 h).1
  simp [this]
theorem RCAt.len (h : RCAt B w M data R cs) : ∃ a c, M.cv = .slice a cs.length c := h.cr.shape
set_option maxHeartbeats 2000000 in
theorem RFill_yes (s : ByteArray) (w : World) (h : RCAt B w M data R cs) (hl : cs.length ≤ 900) (hrel : Rel T R P D) (hg : Good T) (hn : T.pins.Nodup) (hcl : R.clock ≤ 900) (hi : 0 ≤ i) (hi2 : i < 64) (hj : 0 ≤ j) (hj2 : j < (data : Int)) (hs : s.size = 64) (hok : T.has i = true ∨ T.full = false ∨ T.victim.isSome = true) :
    Calls Tryd.prog 19 #[pt M.q, .int .i64 i, .int .i64 j, .string s] w fun e w' => e = .returned (.int .i64 0) ∧ ∃ (k : Nat) (x : CL) (M' : RM) (T1 : TS) (R' : RS) (cs0 cs1 : List CL), RCAt B w' M' data R' (cs1.set k { x with old := s, now := if x.d then x.now else s }) ∧ (∃ P D, Rel T1 R' P D) ∧ MStep M M' w w' ∧ R'.clock ≤ R.clock + 2 ∧ RoomR T cs i T1 cs0 ∧ InR cs0 i j k x cs1 := by
  have hO := ROpen_any s w h hl hrel hg hn hcl hi hi2 hj hj2 hs hok
  have HO := Lib.hid hO
  clear hO h hl hrel hg hn hcl hok hs hi hi2 hj hj2
  go_enter Tryd.func19, Tryd.ntmps19
  go_wp2_with fail
  refine HO.out.mono ?_
  rintro e w1 ⟨k, x, M1, T1, R1, cs0, cs1, rfl, ho⟩
  have hx := ho.in_.at.1
  have hA := ho.at_
  have hq := ho.step.q
  have HP := Lib.hid ho
  rw [← hq]
  clear ho hq
  obtain ⟨c0, c1, c2, cz⟩ := hA.three
  obtain ⟨g, c', ev, hBg, hgl, d0, d1, d2, d3, d4, dz⟩ := hA.cr.at hx
  have hkl : k < cs1.length := (List.getElem?_eq_some_iff.1 hx).1
  obtain ⟨m, hm⟩ : ∃ m, m = cs1.length := ⟨_, rfl⟩
  rw [ev, ← hm] at c2
  rw [← hm] at hkl
  have hgq : g ≠ M1.q := fun e => hA.qc (by rw [ev, e]; rfl)
  obtain ⟨A2, S2⟩ := hA.cellSet ev hx 3 (by omega) (.string s) { x with old := s } rfl
  have H2 := Lib.hid (And.intro A2 (And.intro S2 (And.intro ev (And.intro hx hm))))
  clear A2 S2 hA hx ev hBg hm d0 d1 d2
  go_upto_region 5 with fail
  refine wp_world (fun w2 => RCAt B w2 M1 data R1 (cs1.set k { x with old := s }) ∧ MStep M1 M1 w1 w2) ⟨H2.out.1, H2.out.2.1⟩ ?_
  rintro w2 ⟨A2, S2⟩
  have hx2 := set_at (y := { x with old := s }) H2.out.2.2.2.1
  clear c0 c1 c2 cz d3 d4 dz
  obtain ⟨c0, c1, c2, cz⟩ := A2.three
  rw [H2.out.2.2.1, ← H2.out.2.2.2.2] at c2
  obtain ⟨g', c'', ev, hBg, hgl2, d0, d1, d2, d3, d4, dz⟩ := A2.cr.at hx2
  obtain ⟨hgg, _, _⟩ := Value.slice.inj (H2.out.2.2.1.symm.trans ev)
  have hgg : g = g' := by cases hgg; rfl
  subst hgg
  cases hd : x.d with
  | true =>
    rw [show ({ x with old := s } : CL).d = true from hd] at d4
    have H3 := Lib.hid (And.intro A2 (And.intro S2 hd))
    clear A2 S2 hx2 ev hBg hd d0 d1 d2 d3
    go_wp2_with fail
    go_returns
    exact ⟨rfl, k, x, M1, T1, R1, cs0, cs1, by rw [show (if x.d = true then x.now else s) = x.now by rw [H3.out.2.2]; rfl]; exact H3.out.1, HP.out.rel, HP.out.step.trans H3.out.2.1, HP.out.clk, HP.out.room, HP.out.in_⟩
  | false =>
    rw [show ({ x with old := s } : CL).d = false from hd] at d4
    obtain ⟨A3, S3⟩ := A2.cellSet H2.out.2.2.1 hx2 2 (by omega) (.string s) { x with old := s, now := s } rfl
    rw [List.set_set] at A3
    have H3 := Lib.hid (And.intro A3 (And.intro (S2.trans S3) hd))
    clear A2 S2 A3 S3 hx2 ev hBg hd d0 d1 d3
    go_wp2_with fail
    go_returns
    exact ⟨rfl, k, x, M1, T1, R1, cs0, cs1, by rw [show (if x.d = true then x.now else s) = s by rw [H3.out.2.2]; rfl]; exact H3.out.1, HP.out.rel, HP.out.step.trans H3.out.2.1, HP.out.clk, HP.out.room, HP.out.in_⟩
set_option maxHeartbeats 2000000 in
theorem RPut_yes (s : ByteArray) (w : World) (h : RCAt B w M data R cs) (hl : cs.length ≤ 900) (hrel : Rel T R P D) (hg : Good T) (hn : T.pins.Nodup) (hcl : R.clock ≤ 900) (hi : 0 ≤ i) (hi2 : i < 64) (hj : 0 ≤ j) (hj2 : j < (data : Int)) (hs : s.size = 64) (hok : T.has i = true ∨ T.full = false ∨ T.victim.isSome = true)
    (hgood : ∀ T1 cs0, RoomR T cs i T1 cs0 → Good T1 ∧ T1.pins.Nodup) :
    Calls Tryd.prog 23 #[pt M.q, .int .i64 i, .int .i64 j, .string s] w fun e w' => e = .returned (.int .i64 0) ∧ ∃ (k : Nat) (x : CL) (M' : RM) (T1 : TS) (R' : RS) (cs0 cs1 : List CL), RCAt B w' M' data R' (cs1.set k { x with now := s, d := true }) ∧ (∃ P D, Rel (T1.pinT i true) R' P D) ∧ MStep M M' w w' ∧ R'.clock ≤ R.clock + 2 ∧ RoomR T cs i T1 cs0 ∧ InR cs0 i j k x cs1 := by
  have hO := ROpen_any s w h hl hrel hg hn hcl hi hi2 hj hj2 hs hok
  have HO := Lib.hid hO
  have HG := Lib.hid hgood
  clear hO h hl hrel hg hn hcl hok hs hi hi2 hj hj2 hgood
  go_enter Tryd.func23, Tryd.ntmps23
  go_wp2_with fail
  refine HO.out.mono ?_
  rintro e w1 ⟨k, x, M1, T1, R1, cs0, cs1, rfl, ho⟩
  have hx := ho.in_.at.1
  have hA := ho.at_
  have hq := ho.step.q
  have HP := Lib.hid ho
  rw [← hq]
  clear ho hq
  obtain ⟨c0, c1, c2, cz⟩ := hA.three
  obtain ⟨g, c', ev, hBg, hgl, d0, d1, d2, d3, d4, dz⟩ := hA.cr.at hx
  have hkl : k < cs1.length := (List.getElem?_eq_some_iff.1 hx).1
  obtain ⟨m, hm⟩ : ∃ m, m = cs1.length := ⟨_, rfl⟩
  rw [ev, ← hm] at c2
  rw [← hm] at hkl
  have hgq : g ≠ M1.q := fun e => hA.qc (by rw [ev, e]; rfl)
  obtain ⟨A2, S2⟩ := hA.cellSet ev hx 2 (by omega) (.string s) { x with now := s } rfl
  have H2 := Lib.hid (And.intro A2 (And.intro S2 (And.intro ev (And.intro hx hm))))
  clear A2 S2 hA hx ev hBg hm d0 d1 d3
  go_upto_region 5 with fail
  refine wp_world (fun w2 => RCAt B w2 M1 data R1 (cs1.set k { x with now := s }) ∧ MStep M1 M1 w1 w2) ⟨H2.out.1, H2.out.2.1⟩ ?_
  rintro w2 ⟨A2, S2⟩
  have hx2 := set_at (y := { x with now := s }) H2.out.2.2.2.1
  clear c0 c1 c2 cz d2 d4 dz
  obtain ⟨c0, c1, c2, cz⟩ := A2.three
  rw [H2.out.2.2.1, ← H2.out.2.2.2.2] at c2
  obtain ⟨g', c'', ev, hBg, hgl2, d0, d1, d2, d3, d4, dz⟩ := A2.cr.at hx2
  obtain ⟨hgg, _, _⟩ := Value.slice.inj (H2.out.2.2.1.symm.trans ev)
  have hgg : g = g' := by cases hgg; rfl
  subst hgg
  obtain ⟨A3, S3⟩ := A2.cellSet H2.out.2.2.1 hx2 4 (by omega) (.bool true) { x with now := s, d := true } rfl
  rw [List.set_set] at A3
  have H3 := Lib.hid (And.intro A3 (S2.trans S3))
  clear A2 S2 A3 S3 hx2 ev hBg d0 d1 d2 d3
  go_upto_region 6 with fail
  refine wp_world (fun w3 => RCAt B w3 M1 data R1 (cs1.set k { x with now := s, d := true }) ∧ MStep M1 M1 w1 w3) ⟨H3.out.1, H3.out.2⟩ ?_
  rintro w3 ⟨A3, S3⟩
  clear c0 c1 c2 cz d4 dz
  obtain ⟨c0, c1, c2, cz⟩ := A3.three
  obtain ⟨P1, D1, hr1⟩ := HP.out.rel
  obtain ⟨hg1, hn1⟩ := HG.out _ _ HP.out.room
  have hPin := RPin_any i true w3 A3.turn hr1 hg1 hn1
  have HPin := Lib.hid hPin
  have H4 := Lib.hid (And.intro A3 S3)
  clear A3 S3 hr1 hg1 hn1 hPin
  go_wp2_with fail
  refine HPin.out.mono ?_
  rintro e w4 ⟨rfl, R4, P4, D4, hA4, hr4, hS4, hk4⟩
  obtain ⟨A4, S4⟩ := H4.out.1.turned hS4 hA4
  have H5 := Lib.hid (And.intro A4 (And.intro S4 (And.intro hr4 hk4)))
  clear hA4 hr4 hS4 hk4 A4 S4 c0 c1 c2 cz
  go_wp2_with fail
  go_returns
  exact ⟨rfl, k, x, _, T1, R4, cs0, cs1, H5.out.1, ⟨P4, D4, H5.out.2.2.1⟩, HP.out.step.trans (H4.out.2.trans H5.out.2.1), by have := HP.out.clk; have := H5.out.2.2.2; omega, HP.out.room, HP.out.in_⟩
end Go.Proofs.YtijagdpkclghnaaDoor
/- The document's cache: Put and Fill refused, Get, New: contracts. -/
namespace Go.Proofs.YtijagdpkclghnaaDoor
open Go Go.RowKit
set_option maxRecDepth 100000
variable {B data : Nat} {w w' : World} {M M' : RM} {R R' : RS} {cs cs' cs0 cs1 : List CL} {x y : CL} {T T1 : TS} {P D : List RK} {i j : Int} {k : Nat}
/-- How the walk reads a text's being empty. -/
theorem str_no {u : ByteArray} (h : u ≠ noB) : u.toList.isEmpty = false := by rw [← decide_eq_emptyBytes]; exact decide_eq_false h
theorem str_is (u : ByteArray) : u.toList.isEmpty = decide (u = noB) := (decide_eq_emptyBytes u).symm
theorem RFill_er (s : ByteArray) (er : Int) (w : World) (q : Nat) (he : er = 3 ∨ er = 4 ∨ er = 10) (hO : Calls Tryd.prog 40 #[pt q, .int .i64 i, .int .i64 j, .string s] w fun e w' => e = .returned (.tuple #[.int .i64 0, .int .i64 er]) ∧ Below w.heap.size w w') :
    Calls Tryd.prog 19 #[pt q, .int .i64 i, .int .i64 j, .string s] w fun e w' => e = .returned (.int .i64 er) ∧ Below w.heap.size w w' := by
  rcases he with rfl | rfl | rfl
  all_goals
    have HO := Lib.hid hO
    clear hO
    go_enter Tryd.func19, Tryd.ntmps19
    go_wp2_with fail
    refine Calls.pure_to HO.out ?_
    intro w1 b1
    go_wp2_with fail
    go_returns
    exact ⟨rfl, b1⟩
theorem RPut_er (s : ByteArray) (er : Int) (w : World) (q : Nat) (he : er = 3 ∨ er = 4 ∨ er = 10) (hO : Calls Tryd.prog 40 #[pt q, .int .i64 i, .int .i64 j, .string s] w fun e w' => e = .returned (.tuple #[.int .i64 0, .int .i64 er]) ∧ Below w.heap.size w w') :
    Calls Tryd.prog 23 #[pt q, .int .i64 i, .int .i64 j, .string s] w fun e w' => e = .returned (.int .i64 er) ∧ Below w.heap.size w w' := by
  rcases he with rfl | rfl | rfl
  all_goals
    have HO := Lib.hid hO
    clear hO
    go_enter Tryd.func23, Tryd.ntmps23
    go_wp2_with fail
    refine Calls.pure_to HO.out ?_
    intro w1 b1
    go_wp2_with fail
    go_returns
    exact ⟨rfl, b1⟩
theorem RGet_any (w : World) (h : RCAt B w M data R cs) (hl : cs.length ≤ 900) (hrel : Rel T R P D) (hg : Good T) (hcl : R.clock ≤ 900) (hne : ∀ x ∈ cs, x.now ≠ noB) :
    Calls Tryd.prog 20 #[pt M.q, .int .i64 i, .int .i64 j] w fun e w' => ((∀ x ∈ cs, ¬ (x.s = i ∧ x.c = j)) ∧ e = .returned (.tuple #[.string noB, .bool false]) ∧ w = w') ∨
      ∃ x ∈ cs, x.s = i ∧ x.c = j ∧ e = .returned (.tuple #[.string x.now, .bool true]) ∧ ∃ R' P' D', RCAt B w' M data R' cs ∧ Rel (T.touchT i) R' P' D' ∧ MStep M M w w' ∧ R'.clock ≤ R.clock + 2 := by
  obtain ⟨c0, c1, c2, cz⟩ := h.three
  have hF := RFindC_any i j w h (by omega)
  have HF := Lib.hid (And.intro hF (And.intro h (And.intro hrel (And.intro hg (And.intro hcl hne)))))
  clear hF h hrel hg hcl hne
  go_enter Tryd.func20, Tryd.ntmps20
  go_wp2_with fail
  refine HF.out.1.mono ?_
  rintro e w1 ⟨⟨z, rfl, hz⟩, rfl⟩
  rcases hz with ⟨rfl, hz⟩ | ⟨k, x, rfl, hx, hxs, hxc⟩
  · have HZ := Lib.hid hz
    clear hz
    go_wp2_with fail
    go_ret2
    exact .inl ⟨HZ.out, rfl, rfl⟩
  · obtain ⟨g, c', ev, hBg, hgl, d0, d1, d2, d3, d4, dz⟩ := HF.out.2.1.cr.at hx
    have hkl : k < cs.length := (List.getElem?_eq_some_iff.1 hx).1
    have hxe : x.now.toList.isEmpty = false := str_no (HF.out.2.2.2.2.2 x (List.mem_of_getElem? hx))
    have HX := Lib.hid (And.intro hx (And.intro hxs (And.intro hxc ev)))
    obtain ⟨m, hm⟩ : ∃ m, m = cs.length := ⟨_, rfl⟩
    have HM := Lib.hid hm
    rw [ev, ← hm] at c2
    rw [← hm] at hkl hl
    clear hx hxs hxc ev hBg d0 d1 d3 d4 hm
    obtain ⟨u, hu⟩ : ∃ u, u = x.now := ⟨_, rfl⟩
    have HU := Lib.hid hu
    rw [← hu] at d2 hxe
    clear hu
    go_wp2_with fail
    refine (RTouch_any i w HF.out.2.1.turn HF.out.2.2.1 HF.out.2.2.2.1 (by have := HF.out.2.2.2.2.1; omega)).mono ?_
    rintro e w2 ⟨rfl, R2, P2, D2, hA2, hr2, hS2, hk2⟩
    obtain ⟨A2, S2⟩ := HF.out.2.1.turned hS2 hA2
    have A2 : RCAt B w2 M data R2 cs := A2
    have S2 : MStep M M w w2 := S2
    clear c0 c1 c2 cz d2 dz hgl
    obtain ⟨c0, c1, c2, cz⟩ := A2.three
    obtain ⟨g', c'', ev, hBg, hgl, d0, d1, d2, d3, d4, dz⟩ := A2.cr.at HX.out.1
    rw [ev, ← HM.out] at c2
    rw [← HU.out] at d2
    have HA := Lib.hid (And.intro A2 (And.intro hr2 (And.intro S2 hk2)))
    clear A2 hr2 S2 hk2 hA2 hS2 ev hBg d0 d1 d3 d4
    go_wp2_with fail
    go_ret2
    exact .inr ⟨x, List.mem_of_getElem? HX.out.1, HX.out.2.1, HX.out.2.2.1, by rw [HU.out]; rfl, R2, P2, D2, HA.out.1, HA.out.2.1, HA.out.2.2.1, HA.out.2.2.2⟩
theorem R23New_no (most dear : Int) (w : World) (h : most < 1 ∨ 64 < most ∨ dear < 0 ∨ most ≤ dear) : Calls Tryd.prog 37 #[.int .i64 most, .int .i64 dear] w fun e w' => e = .returned (.tuple #[.pointer none, .int .i64 2]) ∧ w = w' := by
  by_cases h1 : most < 1
  · go_enter Tryd.func37, Tryd.ntmps37
    go_wp2_with fail
    go_ret2
    exact ⟨rfl, rfl⟩
  · by_cases h2 : 64 < most
    · go_enter Tryd.func37, Tryd.ntmps37
      go_wp2_with fail
      go_ret2
      exact ⟨rfl, rfl⟩
    · by_cases h3 : dear < 0
      · go_enter Tryd.func37, Tryd.ntmps37
        go_wp2_with fail
        go_ret2
        exact ⟨rfl, rfl⟩
      · have h4 : most ≤ dear := by omega
        go_enter Tryd.func37, Tryd.ntmps37
        go_wp2_with fail
        go_ret2
        exact ⟨rfl, rfl⟩
theorem R23New_ok (most limit : Nat) (w : World) (hB : B ≤ w.heap.size) (h1 : 1 ≤ most) (h2 : most ≤ 64) (h3 : limit < most) :
    Calls Tryd.prog 37 #[.int .i64 (most : Int), .int .i64 (limit : Int)] w fun e w' => e = .returned (.tuple #[pt w.heap.size, .int .i64 0]) ∧ RefAt B w' w.heap.size (.slice none 0 0) ⟨most, limit, [], 0⟩ ∧ Below w.heap.size w w' := by
  go_enter Tryd.func37, Tryd.ntmps37
  go_wp2_with fail
  go_ret2
  exact ⟨rfl, ⟨World.row.new _ _ _, krow.nil _ _, by simp [Value.ownBlock], hB⟩, (by repeat' (first | (with_reducible exact Below.refl _ _) | (with_reducible assumption) | (with_reducible refine Below.setCell ?_ ?_ _) | (with_reducible refine Below.ext ?_ _ ?_) | (with_reducible refine Below.alloc ?_ ?_ _) | (with_reducible refine Below.drew ?_) | (with_reducible refine Below.drewN ?_ _) | (with_reducible exact Nat.le_refl _) | (dsimp only; omega) | (simp <;> omega)))⟩
theorem RNew_bad (most dear dt : Int) (w : World) (h : most < 1 ∨ 64 < most ∨ dear < 0 ∨ most ≤ dear) : Calls Tryd.prog 17 #[.int .i64 most, .int .i64 dear, .int .i64 dt] w fun e w' => e = .returned (.tuple #[.pointer none, .int .i64 2]) ∧ Below w.heap.size w w' := by
  have HN := Lib.hid (R23New_no most dear w h)
  clear h
  go_enter Tryd.func17, Tryd.ntmps17
  go_wp2_with fail
  refine HN.out.mono ?_
  rintro e w1 ⟨rfl, rfl⟩
  go_wp2_with fail
  go_ret2
  exact ⟨rfl, Below.refl _ _⟩
theorem RNew_wide (most limit : Nat) (dt : Int) (w : World) (h1 : 1 ≤ most) (h2 : most ≤ 64) (h3 : limit < most) (h4 : dt < 2 ∨ 30 < dt) : Calls Tryd.prog 17 #[.int .i64 (most : Int), .int .i64 (limit : Int), .int .i64 dt] w fun e w' => e = .returned (.tuple #[.pointer none, .int .i64 2]) ∧ Below w.heap.size w w' := by
  have HN := Lib.hid (R23New_ok most limit w (Nat.le_refl _) h1 h2 h3)
  clear h1 h2 h3
  by_cases h5 : dt < 2
  · clear h4
    go_enter Tryd.func17, Tryd.ntmps17
    go_wp2_with fail
    refine HN.out.mono ?_
    rintro e w1 ⟨rfl, hA, hb⟩
    have HB := Lib.hid hb
    clear hb hA
    go_wp2_with fail
    go_ret2
    exact ⟨rfl, HB.out⟩
  · have h6 : 30 < dt := by omega
    clear h4
    go_enter Tryd.func17, Tryd.ntmps17
    go_wp2_with fail
    refine HN.out.mono ?_
    rintro e w1 ⟨rfl, hA, hb⟩
    have HB := Lib.hid hb
    clear hb hA
    go_wp2_with fail
    go_ret2
    exact ⟨rfl, HB.out⟩
theorem R24New_ok (most limit dt : Nat) (w : World) (hB : B ≤ w.heap.size) (h1 : 1 ≤ most) (h2 : most ≤ 64) (h3 : limit < most) (h4 : 2 ≤ dt) (h5 : dt ≤ 30) : Calls Tryd.prog 17 #[.int .i64 (most : Int), .int .i64 (limit : Int), .int .i64 (dt : Int)] w fun e w' => ∃ M, e = .returned (.tuple #[pt M.q, .int .i64 0]) ∧ RCAt B w' M dt ⟨most, limit, [], 0⟩ [] ∧ w.heap.size ≤ M.q ∧ Below w.heap.size w w' := by
  have HN := Lib.hid (R23New_ok most limit w hB h1 h2 h3)
  have HB0 := Lib.hid hB
  clear h1 h2 h3 hB
  go_enter Tryd.func17, Tryd.ntmps17
  go_wp2_with fail
  refine HN.out.mono ?_
  rintro e w1 ⟨rfl, hA, hb⟩
  have HA := Lib.hid (And.intro hA hb)
  have hr := hA.row.lt
  clear hb hA
  go_wp2_with fail
  go_ret2
  have hb1 := (Below.refl w1.heap.size w1).alloc (Nat.le_refl _) (.cells [pt w.heap.size, .int .i64 (dt : Int), .slice none 0 0].toArray rC)
  refine ⟨⟨w1.heap.size, w.heap.size, .slice none 0 0, .slice none 0 0⟩, rfl, ⟨World.row.new w1 [pt w.heap.size, .int .i64 (dt : Int), .slice none 0 0] rC, HA.out.1.below hb1, crow.nil _ _, ?_, by simp [Value.ownBlock], by simp [Value.ownBlock], by simp [Value.ownBlock], .inl rfl, ?_⟩, HA.out.2.size, HA.out.2.trans (hb1.mono HA.out.2.size)⟩
  · show w1.heap.size ≠ w.heap.size
    omega
  · show B ≤ w1.heap.size
    have := HB0.out; have := HA.out.2.size; omega
end Go.Proofs.YtijagdpkclghnaaDoor
/- The document's cache: Done: contracts. -/
namespace Go.Proofs.YtijagdpkclghnaaDoor
open Go Go.RowKit
set_option maxRecDepth 100000
variable {B data : Nat} {w w' : World} {M M' : RM} {R R' : RS} {cs cs' cs0 cs1 : List CL} {x y : CL} {T T1 : TS} {P D : List RK} {k : Nat}
/-- Done: what a cell is then. -/
def doneC (i : Int) (x : CL) : CL := if x.s = i then { x with d := false, old := x.now } else x
def doneTo (i : Int) (j : Nat) (cs : List CL) : List CL := (cs.take j).map (doneC i) ++ cs.drop j
theorem doneTo_len (i : Int) (j : Nat) (cs : List CL) : (doneTo i j cs).length = cs.length := by unfold doneTo; simp; omega
theorem doneTo_get (i : Int) {j : Nat} (hx : cs[j]? = some x) : (doneTo i j cs)[j]? = some x := by
  have hj := (List.getElem?_eq_some_iff.1 hx).1
  unfold doneTo
  rw [List.getElem?_append_right (by simp; omega), List.getElem?_drop]
  rw [show j + (j - ((cs.take j).map (doneC i)).length) = j by simp; omega]
  exact hx
theorem doneTo_set (i : Int) {j : Nat} (hx : cs[j]? = some x) : (doneTo i j cs).set j (doneC i x) = doneTo i (j + 1) cs := by
  have hj := (List.getElem?_eq_some_iff.1 hx).1
  unfold doneTo
  have h1 : ((cs.take j).map (doneC i)).length = j := by simp; omega
  have h2 : cs.drop j = x :: cs.drop (j + 1) := by
    rw [List.drop_eq_getElem_cons hj]
    congr 1
    exact (List.getElem?_eq_some_iff.1 hx).2
  rw [List.set_append_right _ _ (by omega), h1, Nat.sub_self, h2, List.set_cons_zero, List.take_add_one, hx, List.map_append, List.append_assoc]
  rfl
theorem doneTo_skip (i : Int) {j : Nat} (hx : cs[j]? = some x) (hs : x.s ≠ i) : doneTo i (j + 1) cs = doneTo i j cs := by
  rw [← doneTo_set i hx]
  have : doneC i x = x := by unfold doneC; rw [if_neg hs]
  rw [this]
  have h0 := doneTo_get i hx
  obtain ⟨h1, h2⟩ := List.getElem?_eq_some_iff.1 h0
  rw [← h2, List.set_getElem_self]
theorem RDone_no (i : Int) (w : World) (h : RCAt B w M data R cs) (hrel : Rel T R P D) (hg : Good T) (hh : T.has i = false) :
    Calls Tryd.prog 21 #[pt M.q, .int .i64 i] w fun e w' => e = .returned (.bool false) ∧ Below w.heap.size w w' := by
  obtain ⟨c0, c1, c2, cz⟩ := h.three
  have hF := Find_any i w h.turn (by have := hrel.len64 hg; omega)
  have H := Lib.hid (And.intro hF (And.intro hrel hh))
  clear hF hrel hg hh h
  go_enter Tryd.func21, Tryd.ntmps21
  go_wp2_with fail
  refine H.out.1.mono ?_
  rintro e w1 ⟨⟨z, rfl, hz⟩, rfl⟩
  rcases H.out.2.1.find hz with ⟨rfl, hh⟩ | ⟨fi, fx, rfl, _, _, hh, _⟩
  · clear hz hh
    go_wp2_with fail
    go_returns
    exact ⟨rfl, Below.refl _ _⟩
  · rw [H.out.2.2] at hh; cases hh
set_option maxHeartbeats 2000000 in
theorem RDone_yes (i : Int) (w : World) (h : RCAt B w M data R cs) (hl : cs.length ≤ 900) (hrel : Rel T R P D) (hg : Good T) (hn : T.pins.Nodup) (hh : T.has i = true) (hne : ∀ x ∈ cs, x.now ≠ noB) :
    Calls Tryd.prog 21 #[pt M.q, .int .i64 i] w fun e w' => e = .returned (.bool true) ∧ ∃ (R' : RS) (P' D' : List RK), RCAt B w' M data R' (cs.map (doneC i)) ∧ Rel (T.pinT i false) R' P' D' ∧ MStep M M w w' ∧ R'.clock ≤ R.clock := by
  obtain ⟨c0, c1, c2, cz⟩ := h.three
  have hF := Find_any i w h.turn (by have := hrel.len64 hg; omega)
  obtain ⟨m, hm⟩ : ∃ m, m = cs.length := ⟨_, rfl⟩
  obtain ⟨a0, cc0, hcv⟩ := h.cr.shape
  have hql0 := h.row.lt
  have H := Lib.hid (And.intro hF (And.intro hrel (And.intro hh (And.intro h (And.intro hg (And.intro hn (And.intro hne (And.intro hm hcv))))))))
  rw [← hm] at hl
  clear hF hrel hg hh h hn hne hm hcv
  go_enter Tryd.func21, Tryd.ntmps21
  go_wp2_with fail
  refine H.out.1.mono ?_
  rintro e w1 ⟨⟨z, rfl, hz⟩, rfl⟩
  rcases H.out.2.1.find hz with ⟨rfl, hh⟩ | ⟨fi, fx, rfl, _, _, hh, _⟩
  · rw [H.out.2.2.1] at hh; cases hh
  clear hz hh
  go_wp2_with fail
  go_loopw [6] (fun x wr => ∃ (j : Nat), j ≤ m ∧ x = .int .i64 j ∧ RCAt B wr M data R (doneTo i j cs) ∧ MStep M M w wr) (fun x _ => m - (intOf x).toNat)
  case atStart => exact ⟨0, by omega, rfl, by unfold doneTo; simpa using H.out.2.2.2.1, MStep.refl _ _⟩
  case round =>
    obtain ⟨j, hj, rfl, hA, hS⟩ := hrel
    obtain ⟨c0, c1, c2, cz⟩ := hA.three
    rw [H.out.2.2.2.2.2.2.2.2, ← H.out.2.2.2.2.2.2.2.1] at c2
    have hql := hA.row.lt
    by_cases hlt : j < m
    · obtain ⟨y, hy⟩ : ∃ y, cs[j]? = some y := ⟨cs[j]'(by rw [← H.out.2.2.2.2.2.2.2.1]; exact hlt), List.getElem?_eq_getElem (by rw [← H.out.2.2.2.2.2.2.2.1]; exact hlt)⟩
      have hyn : y.now.toList.isEmpty = false := str_no (H.out.2.2.2.2.2.2.1 y (List.mem_of_getElem? hy))
      have hy2 := doneTo_get i hy
      obtain ⟨g, cg, ev, hBg, hgl, d0, d1, d2, d3, d4, dz⟩ := hA.cr.at hy2
      have hgv := ev.symm.trans H.out.2.2.2.2.2.2.2.2
      obtain ⟨rfl, hmL, rfl⟩ := Value.slice.inj hgv
      have hgq : g ≠ M.q := fun e => hA.qc (by rw [ev, e]; rfl)
      by_cases hs : y.s = i
      · obtain ⟨A1, S1⟩ := hA.cellSet ev hy2 4 (by omega) (.bool false) { y with d := false } rfl
        obtain ⟨u, hu⟩ : ∃ u, u = y.now := ⟨_, rfl⟩
        rw [hs] at d0
        have H1 := Lib.hid (And.intro A1 (And.intro (hS.trans S1) (And.intro hy (And.intro hs (And.intro ev (And.intro hu (And.intro hyn hy2)))))))
        clear A1 S1 hS hy hs ev hu hyn hy2 hA hgv hmL hBg d1 d2 d3
        go_upto_region 9 with fail
        refine wp_world (fun w2 => RCAt B w2 M data R ((doneTo i j cs).set j { y with d := false }) ∧ MStep M M w w2) ⟨H1.out.1, H1.out.2.1⟩ ?_
        rintro w2 ⟨A2, S2⟩
        have hx2 := set_at (y := { y with d := false }) H1.out.2.2.2.2.2.2.2
        clear c0 c1 c2 cz d0 d4 dz
        obtain ⟨c0, c1, c2, cz⟩ := A2.three
        rw [H.out.2.2.2.2.2.2.2.2, ← H.out.2.2.2.2.2.2.2.1] at c2
        obtain ⟨g', c'', ev', hBg', hgl2, d0, d1, d2, d3, d4, dz⟩ := A2.cr.at hx2
        obtain ⟨hgg, _, _⟩ := Value.slice.inj (H.out.2.2.2.2.2.2.2.2.symm.trans ev')
        have hgg : g = g' := by cases hgg; rfl
        subst hgg
        have hun : u.toList.isEmpty = false := by rw [H1.out.2.2.2.2.2.1]; exact H1.out.2.2.2.2.2.2.1
        rw [show ({ y with d := false } : CL).now = u from H1.out.2.2.2.2.2.1.symm] at d2
        obtain ⟨A3, S3⟩ := A2.cellSet H.out.2.2.2.2.2.2.2.2 hx2 3 (by omega) (.string u) (doneC i y) (by unfold doneC; rw [if_pos H1.out.2.2.2.1, H1.out.2.2.2.2.2.1]; rfl)
        rw [List.set_set, doneTo_set i H1.out.2.2.1] at A3
        have H3 := Lib.hid (And.intro A3 (S2.trans S3))
        clear A2 S2 A3 S3 hx2 ev' hBg' d0 d1 d4
        go_wp2_with fail
        go_region
        all_goals
          go_wp2_with fail
          go_roundw
          case rel => first | exact ⟨j + 1, by omega, by go_num, H3.out.1, H3.out.2⟩ | exact ⟨j + 1, by omega, by go_num, H3.out.1.same fun _ _ => rfl, H3.out.2.trans (MStep.of_below M (Below.refl _ _).drew)⟩
          case measure => simp [intOf] <;> omega
      · have hsk := doneTo_skip i hy hs
        rw [← hsk] at hA
        have H1 := Lib.hid (And.intro hA hS)
        clear hA hS hy ev hyn hy2 hgv hmL hBg d1 d2 d3 d4 hsk
        go_wp2_with fail
        go_roundw
        case rel => exact ⟨j + 1, by omega, by go_num, H1.out.1, H1.out.2⟩
        case measure => simp [intOf] <;> omega
    · obtain rfl : j = m := by omega
      have hfin : doneTo i j cs = cs.map (doneC i) := by
        unfold doneTo
        rw [List.take_of_length_le (by have := H.out.2.2.2.2.2.2.2.1; omega), List.drop_eq_nil_of_le (by have := H.out.2.2.2.2.2.2.2.1; omega), List.append_nil]
      rw [hfin] at hA
      have hPin := RPin_any i false wr hA.turn H.out.2.1 H.out.2.2.2.2.1 H.out.2.2.2.2.2.1
      have HP := Lib.hid (And.intro hPin (And.intro hA hS))
      clear hPin hA hS hfin
      have hlc : (j : Int) ≤ j := Int.le_refl _
      go_wp2_with fail
      refine HP.out.1.mono ?_
      rintro e w4 ⟨rfl, R4, P4, D4, hA4, hr4, hS4, hk4⟩
      obtain ⟨A4, S4⟩ := HP.out.2.1.turned hS4 hA4
      have H5 := Lib.hid (And.intro A4 (And.intro S4 (And.intro hr4 hk4)))
      clear hA4 hr4 hS4 hk4 A4 S4 c0 c1 c2 cz
      go_wp2_with fail
      go_returns
      exact ⟨rfl, R4, P4, D4, H5.out.1, H5.out.2.2.1, HP.out.2.2.trans H5.out.2.1, by have := H5.out.2.2.2; omega⟩
end Go.Proofs.YtijagdpkclghnaaDoor
/- place of a full cache; Drop: contracts. -/
namespace Go.Proofs.YtijagdpkclghnaaDoor
open Go Go.RowKit
set_option maxRecDepth 100000
variable {B n data : Nat} {w w' w1 w2 : World} {C C' : CM} {T T' : TS} {M' : TM} {L L' : List Int} {f f' : Int → Option Ent} {E : Ent} {v : Int}
theorem drop_has (hg : Good T) (v k : Int) : (T.dropT v).has k = (T.has k && !(v == k)) := by
  have h1 := (List.nodup_append.1 hg.nodup).1
  have h2 := (List.nodup_append.1 hg.nodup).2.1
  unfold TS.has TS.dropT
  show ((T.dear.erase v).contains k || (T.plain.erase v).contains k) = _
  rw [erase_has h1, erase_has h2]
  cases T.dear.contains k <;> cases T.plain.contains k <;> cases (v == k) <;> rfl
/-- A stripe isn't there any more. -/
theorem CacheAt.dropped (h : CacheAt B n data w C T L f) (hS : Step C.M M' w w1) (hT : TurnAt B n w1 M' (T.dropT v)) (hm : w2.pmap Tryd.prog tI C.m n (L.erase v) (fun y => if y = v then none else (f y).map Ent.g)) (hg : w1.grownBy w2 (some C.m)) :
    CacheAt B n data w2 { C with M := M' } (T.dropT v) (L.erase v) (upd f v none) ∧ CStep C f { C with M := M' } (upd f v none) w w2 := by
  have s1 := hS.size
  have s2 := hg.size
  have hout : ∀ x, x < w.heap.size → ¬ C.M.foot x → ¬ M'.foot x := fun x hx hn => Step.out hS hx hn
  have k02 : ∀ x, x < w.heap.size → ¬ C.M.foot x → x ≠ C.m → w2.heap[x]? = w.heap[x]? := fun x hx hn hne => (hg.block x (by omega) (fun e => hne (Option.some.inj e))).trans (hS.block x hx hn)
  have hmM : ¬ M'.foot C.m := hout _ h.map.lt h.mM
  have hmap : (fun j => (upd f v none j).map Ent.g) = fun y => if y = v then none else (f y).map Ent.g := by
    funext j
    by_cases e : j = v
    · subst e; rw [upd_same, if_pos rfl]; rfl
    · rw [upd_other f _ e, if_neg e]
  have gone : ∀ j F, upd f v none j = some F → j ≠ v ∧ f j = some F := fun j F hF => by
    by_cases e : j = v
    · subst e; rw [upd_same] at hF; cases hF
    · rw [upd_other f _ e] at hF; exact ⟨e, hF⟩
  refine ⟨⟨?_, turnKeep hT fun x hx => hg.block x (hT.lts x hx).2 fun e => hmM (Option.some.inj e ▸ hx), h.good.drop v, by rw [hmap]; exact hm, fun j F hF => ?_, fun j F j' F' hF hF' hne x hx => ?_, fun j F hF x hx => ?_, h.gm, hout _ h.row.lt h.gM, hmM, h.bg, h.bm, fun k => ?_, h.d2, h.d30⟩, ?_⟩
  · have := rowSame h.row (k02 _ h.row.lt h.gM h.gm)
    show w2.row C.g [.pointer (some ⟨M'.g, 0, none⟩), _, _] tC
    rw [hS.g]; exact this
  · have hF := (gone j F hF).2
    exact (h.ent j F hF).same fun x hx => k02 x ((h.ent j F hF).lts x hx).2 (h.off j F hF x hx).2.2 (h.off j F hF x hx).2.1
  · exact h.apart j F j' F' (gone j F hF).2 (gone j' F' hF').2 hne x hx
  · have hF := (gone j F hF).2
    have ho := h.off j F hF x hx
    exact ⟨ho.1, ho.2.1, hout x ((h.ent j F hF).lts x hx).2 ho.2.2⟩
  · rw [drop_has h.good, h.keys, erase_has h.map.nodup]
  · refine ⟨rfl, hg.os.trans hS.os, hg.tape.trans hS.tape, hg.output.trans hS.output, by omega, fun x hx => ?_, fun x hx hn => k02 x hx (fun hf2 => hn (.inr (.inr (.inl hf2)))) fun e => hn (.inr (.inl e))⟩
    rcases hx with hx | hx | hx | ⟨j, F, hF, hx⟩
    · exact .inl (.inl hx)
    · exact .inl (.inr (.inl hx))
    · rcases hS.foot x hx with h1 | h1
      · exact .inl (.inr (.inr (.inl h1)))
      · exact .inr h1
    · exact .inl (.inr (.inr (.inr ⟨j, F, (gone j F hF).2, hx⟩)))
theorem victim_in (hv : T.victim = some v) : T.has v = true ∧ T.pins.contains v = false := by
  unfold TS.victim at hv
  have h1 := List.mem_of_find?_eq_some hv
  have h2 := List.find?_some hv
  exact ⟨(has_iff T v).2 h1, by simpa using h2⟩
theorem place_none (w : World) (h : CacheAt B n data w C T L f) (hn : T.full = true) (hv : T.victim = none) :
    Calls Tryd.prog 50 #[pt C.g] w fun e w' => e = .returned (.int .i64 10) ∧ Below w.heap.size w w' := by
  obtain ⟨c0, c1, c2⟩ := h.three
  have hF := Full_any w h.turn h.good
  rw [show decide (T.most ≤ T.plain.length + T.dear.length) = T.full from rfl, hn] at hF
  have HF := Lib.hid (And.intro hF (And.intro h hv))
  clear hF h hv
  go_enter Tryd.func50, Tryd.ntmps50
  go_wp2_with fail
  refine Calls.pure_to HF.out.1 ?_
  intro w1 b1
  have h1 := HF.out.2.1.below b1
  clear c0 c1 c2
  obtain ⟨c0, c1, c2⟩ := h1.three
  have H1 := Lib.hid (And.intro h1 b1)
  clear h1 b1
  go_wp2_with fail
  have hV := Victim_any w1 H1.out.1.turn H1.out.1.good
  rw [HF.out.2.2] at hV
  refine Calls.pure_to hV ?_
  intro w2 b2
  have B2 := Lib.hid (H1.out.2.trans (b2.mono H1.out.2.size))
  clear hV b2 c0 c1 c2
  go_wp2_with fail
  go_returns
  exact ⟨rfl, B2.out⟩
theorem place_some (w : World) (h : CacheAt B n data w C T L f) (hn : T.full = true) (hv : T.victim = some v) :
    Calls Tryd.prog 50 #[pt C.g] w fun e w' => e = .returned (.int .i64 0) ∧ ∃ M', CacheAt B n data w' { C with M := M' } (T.dropT v) (L.erase v) (upd f v none) ∧ CStep C f { C with M := M' } (upd f v none) w w' := by
  obtain ⟨c0, c1, c2⟩ := h.three
  have hF := Full_any w h.turn h.good
  rw [show decide (T.most ≤ T.plain.length + T.dear.length) = T.full from rfl, hn] at hF
  have hv64 : In64 v := h.good.in64 v ((has_iff T v).1 (victim_in hv).1)
  have HF := Lib.hid (And.intro hF (And.intro h (And.intro hv hv64)))
  clear hF h hv hv64
  go_enter Tryd.func50, Tryd.ntmps50
  go_wp2_with fail
  refine Calls.pure_to HF.out.1 ?_
  intro w1 b1
  have h1 := HF.out.2.1.below b1
  clear c0 c1 c2
  obtain ⟨c0, c1, c2⟩ := h1.three
  have H1 := Lib.hid (And.intro h1 b1)
  clear h1 b1
  go_wp2_with fail
  have hV := Victim_any w1 H1.out.1.turn H1.out.1.good
  rw [HF.out.2.2.1] at hV
  refine Calls.pure_to hV ?_
  intro w2 b2
  have h2 := H1.out.1.below b2
  clear c0 c1 c2
  obtain ⟨c0, c1, c2⟩ := h2.three
  have H2 := Lib.hid (And.intro h2 (H1.out.2.trans (b2.mono H1.out.2.size)))
  clear hV b2 h2
  simp only [Option.getD_some, Option.isSome_some]
  go_wp2_with fail
  refine (Drop_any v w2 H2.out.1.turn H2.out.1.good HF.out.2.2.2).mono ?_
  rintro e w3 ⟨rfl, M', hT3, hS3⟩
  have q2 := hS3.cell c2 H2.out.1.gM
  have hmp := H2.out.1.map.same (hS3.block _ H2.out.1.map.lt H2.out.1.mM)
  have H3 := Lib.hid (And.intro hT3 hS3)
  clear hT3 hS3 c0 c1 c2
  go_wp2_with (at_delete; refine wpList_delete_pm rfl _ _ 54 rfl Tryd.underlying3 Tryd.underlying54 rfl hmp v rfl HF.out.2.2.2 ?_; intro w4 hm4 hg4)
  go_returns
  obtain ⟨A1, A2⟩ := H2.out.1.dropped H3.out.2 H3.out.1 hm4 hg4
  exact ⟨rfl, M', A1, (CStep.of_below C f H2.out.2).trans A2⟩
/-- Drop. -/
def canDrop (f : Int → Option Ent) (i : Int) : Bool := match f i with
  | none => false
  | some E => E.dt.empty
theorem Drop_yes (i : Int) (w : World) (h : CacheAt B n data w C T L f) (hi : In64 i) (hc : canDrop f i = true) :
    Calls Tryd.prog 15 #[pt C.g, .int .i64 i] w fun e w' => e = .returned (.bool true) ∧ ∃ M', CacheAt B n data w' { C with M := M' } (T.dropT i) (L.erase i) (upd f i none) ∧ CStep C f { C with M := M' } (upd f i none) w w' := by
  have hR := row_any i w h hi
  unfold canDrop at hc
  cases hf : f i with
  | none => rw [hf] at hc; cases hc
  | some E =>
    rw [hf] at hc hR
    simp only [Option.map_some, ptrV] at hR hc
    have hM := Empty_any E.dt w
    rw [hc] at hM
    have hE := h.ent i E hf
    have k0 := hE.row.cell 10 rfl
    have k1 := hE.row.cell 11 rfl
    have k2 := hE.row.cell 12 rfl
    have k3 := hE.row.cell 13 rfl
    have HR := Lib.hid (And.intro hR (And.intro hM (And.intro h hi)))
    clear hR hM hE h hi
    go_enter Tryd.func15, Tryd.ntmps15
    go_wp2_with fail
    refine HR.out.1.mono ?_
    rintro e w1 ⟨rfl, rfl⟩
    go_wp2_with fail
    refine Calls.pure_to HR.out.2.1 ?_
    intro w2 b2
    have h2 := HR.out.2.2.1.below b2
    obtain ⟨c0, c1, c2⟩ := h2.three
    have H2 := Lib.hid (And.intro h2 b2)
    clear h2 b2 k0 k1 k2 k3
    go_wp2_with fail
    refine (Drop_any i w2 H2.out.1.turn H2.out.1.good HR.out.2.2.2).mono ?_
    rintro e w3 ⟨rfl, M', hT3, hS3⟩
    have q2 := hS3.cell c2 H2.out.1.gM
    have hmp := H2.out.1.map.same (hS3.block _ H2.out.1.map.lt H2.out.1.mM)
    have H3 := Lib.hid (And.intro hT3 hS3)
    clear hT3 hS3 c0 c1 c2
    go_wp2_with (at_delete; refine wpList_delete_pm rfl _ _ 54 rfl Tryd.underlying3 Tryd.underlying54 rfl hmp i rfl HR.out.2.2.2 ?_; intro w4 hm4 hg4)
    go_returns
    obtain ⟨A1, A2⟩ := H2.out.1.dropped H3.out.2 H3.out.1 hm4 hg4
    exact ⟨rfl, M', A1, (CStep.of_below C f H2.out.2).trans A2⟩
theorem Drop_no (i : Int) (w : World) (h : CacheAt B n data w C T L f) (hi : In64 i) (hc : canDrop f i = false) :
    Calls Tryd.prog 15 #[pt C.g, .int .i64 i] w fun e w' => e = .returned (.bool false) ∧ Below w.heap.size w w' := by
  have hR := row_any i w h hi
  unfold canDrop at hc
  cases hf : f i with
  | none =>
    rw [hf] at hR
    simp only [Option.map_none, ptrV] at hR
    have HR := Lib.hid hR
    clear hR h hi
    go_enter Tryd.func15, Tryd.ntmps15
    go_wp2_with fail
    refine HR.out.mono ?_
    rintro e w1 ⟨rfl, rfl⟩
    go_wp2_with fail
    go_returns
    exact ⟨rfl, Below.refl _ _⟩
  | some E =>
    rw [hf] at hc hR
    simp only [Option.map_some, ptrV] at hR hc
    have hM := Empty_any E.dt w
    rw [hc] at hM
    have hE := h.ent i E hf
    have k0 := hE.row.cell 10 rfl
    have k1 := hE.row.cell 11 rfl
    have k2 := hE.row.cell 12 rfl
    have k3 := hE.row.cell 13 rfl
    have HR := Lib.hid (And.intro hR hM)
    clear hR hM hE h hi
    go_enter Tryd.func15, Tryd.ntmps15
    go_wp2_with fail
    refine HR.out.1.mono ?_
    rintro e w1 ⟨rfl, rfl⟩
    go_wp2_with fail
    refine Calls.pure_to HR.out.2 ?_
    intro w2 b2
    clear k0 k1 k2 k3
    go_wp2_with fail
    go_returns
    exact ⟨rfl, b2⟩
end Go.Proofs.YtijagdpkclghnaaDoor
/- open of a cache, whatever place says: contracts. -/
namespace Go.Proofs.YtijagdpkclghnaaDoor
open Go Go.RowKit
set_option maxRecDepth 100000
variable {B n data : Nat} {w w' : World} {C C' : CM} {T T' : TS} {L L' : List Int} {f f' : Int → Option Ent} {E : Ent}
set_option maxHeartbeats 4000000 in
theorem open_by (i : Int) (c : Nat) (s : ByteArray) (w : World) (h : CacheAt B n data w C T L f) (hi : 0 ≤ i) (hi2 : i < 64) (hc : c < data) (hs : s.size = 64) (hf : f i = none) (hnn : n < 100000) (R : TS → (Int → Option Ent) → Prop)
    (hpl : Calls Tryd.prog 50 #[pt C.g] w fun e w' => e = .returned (.int .i64 0) ∧ ∃ (M0 : TM) (T0 : TS) (L0 : List Int) (f0 : Int → Option Ent), CacheAt B n data w' { C with M := M0 } T0 L0 f0 ∧ CStep C f { C with M := M0 } f0 w w' ∧ T0.full = false ∧ f0 i = none ∧ R T0 f0) :
    Calls Tryd.prog 26 #[pt C.g, .int .i64 i, .int .i64 (c : Int), .string s] w fun e w' => ∃ (C' : CM) (E : Ent), e = .returned (.tuple #[pt E.g, .int .i64 0]) ∧ ∃ (T0 : TS) (L0 : List Int) (f0 : Int → Option Ent), CacheAt B (n + 1) data w' C' (T0.addT i) (addTo L0 i) (upd f0 i (some E)) ∧ CStep C f C' (upd f0 i (some E)) w w' ∧ (T0.full = false ∧ f0 i = none ∧ T0.has i = false ∧ R T0 f0) ∧
      E.nt = Set4.zero ∧ E.ot = Set4.zero ∧ E.dt = Set4.zero ∧ E.nb = List.replicate data noB ∧ E.ob = List.replicate data noB := by
  have hh : T.has i = false := by
    rw [h.keys, ← h.map.some_, hf]; rfl
  obtain ⟨c0, c1, c2⟩ := h.three
  have hi64 : In64 i := ⟨by omega, by omega⟩
  have hcI : (c : Int) < (data : Int) := by omega
  have hsI : (s.size : Int) = 64 := by omega
  have hR := row_any i w h hi64
  rw [hf] at hR
  simp only [Option.map_none, ptrV] at hR
  have HR := Lib.hid (And.intro hR (And.intro hi64 hh))
  have HC := Lib.hid h
  have HPL := Lib.hid hpl
  clear hpl
  have hmk := run_make_row' (P := Tryd.prog) 64 tStr (.string noB) 16 Tryd.underlying64 infoStr rfl .i64 .i64 data (by have := h.d30; omega) (by have := h.d30; omega)
  have HM := Lib.hid hmk
  clear hR hi64 hh hmk
  go_enter Tryd.func26, Tryd.ntmps26
  go_wp2_with fail
  refine HR.out.1.mono ?_
  rintro e w1 ⟨rfl, rfl⟩
  go_wp2_with fail
  refine HPL.out.mono ?_
  rintro e w1 ⟨rfl, M0, T0, L0, f0, h1, hst, hfull, hf0, hRR⟩
  have hh0 : T0.has i = false := by rw [h1.keys, ← h1.map.some_, hf0]; rfl
  have HQ := Lib.hid (And.intro hfull (And.intro hf0 (And.intro hh0 hRR)))
  clear hfull hf0 hh0 hRR
  clear c0 c1 c2
  obtain ⟨c0, c1, c2⟩ := h1.three
  go_wp2_with fail
  refine (Add_any i w1 h1.turn h1.good).mono ?_
  rintro e w2 ⟨rfl, M', hT2, hS2⟩
  have hmk := HM.out
  have c1' := hS2.cell c1 h1.gM
  have c2' := hS2.cell c2 h1.gM
  have hlt : C.g < w2.heap.size := Nat.lt_of_lt_of_le h1.row.lt hS2.size
  clear c0 c1 c2
  go_wp2_with fail
  go_region
  · have hr : ∀ W : World, Below w2.heap.size w2 (((w2.alloc (Obj.cells (madeCells #[Value.string noB] data) tStr)).alloc (Obj.cells (madeCells #[Value.string noB] data) tStr)).alloc (Obj.cells (Ent.cells ⟨w2.heap.size + 1 + 1, w2.heap.size, (w2.heap.size + 1), Set4.zero, Set4.zero, Set4.zero, List.replicate data noB, List.replicate data noB⟩ data).toArray tE)).drew := fun _ => ((((Below.refl _ _).alloc (Nat.le_refl _) _).alloc (by simp) _).alloc (by simp; omega) _).drew
    have hE : EntAt B data (((w2.alloc (Obj.cells (madeCells #[Value.string noB] data) tStr)).alloc (Obj.cells (madeCells #[Value.string noB] data) tStr)).alloc (Obj.cells (Ent.cells ⟨w2.heap.size + 1 + 1, w2.heap.size, (w2.heap.size + 1), Set4.zero, Set4.zero, Set4.zero, List.replicate data noB, List.replicate data noB⟩ data).toArray tE)).drew ⟨w2.heap.size + 1 + 1, w2.heap.size, (w2.heap.size + 1), Set4.zero, Set4.zero, Set4.zero, List.replicate data noB, List.replicate data noB⟩ := by
      have hB2 := Nat.le_trans h1.bg (Nat.le_trans (Nat.le_of_lt h1.row.lt) hS2.size)
      have ra : ((w2.alloc (Obj.cells (madeCells #[Value.string noB] data) tStr)).alloc (Obj.cells (madeCells #[Value.string noB] data) tStr)).row w2.heap.size ((List.replicate data noB).map Value.string) tStr := by rw [made_strs]; exact (World.row.new' rfl).alloc _
      have rb : ((w2.alloc (Obj.cells (madeCells #[Value.string noB] data) tStr)).alloc (Obj.cells (madeCells #[Value.string noB] data) tStr)).row (w2.heap.size + 1) ((List.replicate data noB).map Value.string) tStr := by rw [made_strs]; exact World.row.new' (by simp)
      exact ⟨World.row.new' (by simp), (by first | exact ra.alloc _ | exact rb.alloc _), (by first | exact rb.alloc _ | exact ra.alloc _), by show w2.heap.size + 1 + 1 ≠ w2.heap.size; omega, by show w2.heap.size + 1 + 1 ≠ (w2.heap.size + 1); omega, by show w2.heap.size ≠ (w2.heap.size + 1); omega, by show B ≤ w2.heap.size + 1 + 1; omega, by show B ≤ w2.heap.size; omega, by show B ≤ (w2.heap.size + 1); omega, by simp, by simp, (fun i hi => by rw [Set4.has_zero] at hi; cases hi), (fun i hi => by rw [Set4.has_zero] at hi; cases hi)⟩
    have hnew : ∀ x, Ent.foot ⟨w2.heap.size + 1 + 1, w2.heap.size, (w2.heap.size + 1), Set4.zero, Set4.zero, Set4.zero, List.replicate data noB, List.replicate data noB⟩ x → w2.heap.size ≤ x := fun x hx => by
      rcases hx with e | e | e
      · have e : x = w2.heap.size + 1 + 1 := e; omega
      · have e : x = w2.heap.size := e; omega
      · have e : x = (w2.heap.size + 1) := e; omega
    go_upto_region 16 with fail
    refine wp_world (fun w3 => EntAt B data w3 ⟨w2.heap.size + 1 + 1, w2.heap.size, (w2.heap.size + 1), Set4.zero, Set4.zero, Set4.zero, List.replicate data noB, List.replicate data noB⟩ ∧ Below w2.heap.size w2 w3) ⟨hE, hr w2⟩ ?_
    clear hE hr c1'
    rintro w3 ⟨hE, hr⟩
    obtain ⟨E0, hE0⟩ : ∃ E0 : Ent, E0 = ⟨w2.heap.size + 1 + 1, w2.heap.size, (w2.heap.size + 1), Set4.zero, Set4.zero, Set4.zero, List.replicate data noB, List.replicate data noB⟩ := ⟨_, rfl⟩
    have hg0 : w2.heap.size + 1 + 1 = E0.g := by rw [hE0]
    rw [← hE0] at hE hnew
    rw [hg0]
    have HZ : Hid (E0.nt = Set4.zero ∧ E0.ot = Set4.zero ∧ E0.dt = Set4.zero ∧ E0.nb = List.replicate data noB ∧ E0.ob = List.replicate data noB) := Lib.hid (by rw [hE0]; exact ⟨rfl, rfl, rfl, rfl, rfl⟩)
    clear hg0 hE0
    have q2 := ((hS2.row h1.row h1.gM).below hr hlt).cell 2 rfl
    have hmp := (h1.map.same (hS2.block _ h1.map.lt h1.mM)).same (hr.block _ (Nat.lt_of_lt_of_le h1.map.lt hS2.size))
    have HE := Lib.hid (And.intro hr (And.intro hE (And.intro hnew (And.intro hS2 (And.intro hT2 (And.intro hst h1))))))
    clear hE hr hnew hS2 hT2 hst h1 c2' hmk
    go_wp2_with (at_mapUpdate; refine wpList_mapUpdate_pm rfl _ _ _ 54 rfl Tryd.underlying3 Tryd.underlying54 rfl hmp hnn i rfl HR.out.2.1 E0.g rfl ?_; intro w4 hm4 hg4)
    go_ret2
    obtain ⟨hr, hE, hnew, hS2, hT2, hst, h1⟩ := HE.out
    obtain ⟨A1, A2⟩ := h1.added hS2 hT2 (h1.good.add i HR.out.2.1) (fun k => by rw [add_has HQ.out.1 HQ.out.2.2.1, h1.keys, addTo_has]) hr hE hnew hm4 hg4 HQ.out.2.1
    exact ⟨_, E0, rfl, T0, L0, f0, A1, hst.trans A2, HQ.out, HZ.out⟩
  · have hr : ∀ W : World, Below w2.heap.size w2 (((w2.alloc (Obj.cells (madeCells #[Value.string noB] data) tStr)).alloc (Obj.cells (madeCells #[Value.string noB] data) tStr)).alloc (Obj.cells (Ent.cells ⟨w2.heap.size + 1 + 1, (w2.heap.size + 1), w2.heap.size, Set4.zero, Set4.zero, Set4.zero, List.replicate data noB, List.replicate data noB⟩ data).toArray tE)).drew := fun _ => ((((Below.refl _ _).alloc (Nat.le_refl _) _).alloc (by simp) _).alloc (by simp; omega) _).drew
    have hE : EntAt B data (((w2.alloc (Obj.cells (madeCells #[Value.string noB] data) tStr)).alloc (Obj.cells (madeCells #[Value.string noB] data) tStr)).alloc (Obj.cells (Ent.cells ⟨w2.heap.size + 1 + 1, (w2.heap.size + 1), w2.heap.size, Set4.zero, Set4.zero, Set4.zero, List.replicate data noB, List.replicate data noB⟩ data).toArray tE)).drew ⟨w2.heap.size + 1 + 1, (w2.heap.size + 1), w2.heap.size, Set4.zero, Set4.zero, Set4.zero, List.replicate data noB, List.replicate data noB⟩ := by
      have hB2 := Nat.le_trans h1.bg (Nat.le_trans (Nat.le_of_lt h1.row.lt) hS2.size)
      have ra : ((w2.alloc (Obj.cells (madeCells #[Value.string noB] data) tStr)).alloc (Obj.cells (madeCells #[Value.string noB] data) tStr)).row w2.heap.size ((List.replicate data noB).map Value.string) tStr := by rw [made_strs]; exact (World.row.new' rfl).alloc _
      have rb : ((w2.alloc (Obj.cells (madeCells #[Value.string noB] data) tStr)).alloc (Obj.cells (madeCells #[Value.string noB] data) tStr)).row (w2.heap.size + 1) ((List.replicate data noB).map Value.string) tStr := by rw [made_strs]; exact World.row.new' (by simp)
      exact ⟨World.row.new' (by simp), (by first | exact ra.alloc _ | exact rb.alloc _), (by first | exact rb.alloc _ | exact ra.alloc _), by show w2.heap.size + 1 + 1 ≠ (w2.heap.size + 1); omega, by show w2.heap.size + 1 + 1 ≠ w2.heap.size; omega, by show (w2.heap.size + 1) ≠ w2.heap.size; omega, by show B ≤ w2.heap.size + 1 + 1; omega, by show B ≤ (w2.heap.size + 1); omega, by show B ≤ w2.heap.size; omega, by simp, by simp, (fun i hi => by rw [Set4.has_zero] at hi; cases hi), (fun i hi => by rw [Set4.has_zero] at hi; cases hi)⟩
    have hnew : ∀ x, Ent.foot ⟨w2.heap.size + 1 + 1, (w2.heap.size + 1), w2.heap.size, Set4.zero, Set4.zero, Set4.zero, List.replicate data noB, List.replicate data noB⟩ x → w2.heap.size ≤ x := fun x hx => by
      rcases hx with e | e | e
      · have e : x = w2.heap.size + 1 + 1 := e; omega
      · have e : x = (w2.heap.size + 1) := e; omega
      · have e : x = w2.heap.size := e; omega
    go_upto_region 16 with fail
    refine wp_world (fun w3 => EntAt B data w3 ⟨w2.heap.size + 1 + 1, (w2.heap.size + 1), w2.heap.size, Set4.zero, Set4.zero, Set4.zero, List.replicate data noB, List.replicate data noB⟩ ∧ Below w2.heap.size w2 w3) ⟨hE, hr w2⟩ ?_
    clear hE hr c1'
    rintro w3 ⟨hE, hr⟩
    obtain ⟨E0, hE0⟩ : ∃ E0 : Ent, E0 = ⟨w2.heap.size + 1 + 1, (w2.heap.size + 1), w2.heap.size, Set4.zero, Set4.zero, Set4.zero, List.replicate data noB, List.replicate data noB⟩ := ⟨_, rfl⟩
    have hg0 : w2.heap.size + 1 + 1 = E0.g := by rw [hE0]
    rw [← hE0] at hE hnew
    rw [hg0]
    have HZ : Hid (E0.nt = Set4.zero ∧ E0.ot = Set4.zero ∧ E0.dt = Set4.zero ∧ E0.nb = List.replicate data noB ∧ E0.ob = List.replicate data noB) := Lib.hid (by rw [hE0]; exact ⟨rfl, rfl, rfl, rfl, rfl⟩)
    clear hg0 hE0
    have q2 := ((hS2.row h1.row h1.gM).below hr hlt).cell 2 rfl
    have hmp := (h1.map.same (hS2.block _ h1.map.lt h1.mM)).same (hr.block _ (Nat.lt_of_lt_of_le h1.map.lt hS2.size))
    have HE := Lib.hid (And.intro hr (And.intro hE (And.intro hnew (And.intro hS2 (And.intro hT2 (And.intro hst h1))))))
    clear hE hr hnew hS2 hT2 hst h1 c2' hmk
    go_wp2_with (at_mapUpdate; refine wpList_mapUpdate_pm rfl _ _ _ 54 rfl Tryd.underlying3 Tryd.underlying54 rfl hmp hnn i rfl HR.out.2.1 E0.g rfl ?_; intro w4 hm4 hg4)
    go_ret2
    obtain ⟨hr, hE, hnew, hS2, hT2, hst, h1⟩ := HE.out
    obtain ⟨A1, A2⟩ := h1.added hS2 hT2 (h1.good.add i HR.out.2.1) (fun k => by rw [add_has HQ.out.1 HQ.out.2.2.1, h1.keys, addTo_has]) hr hE hnew hm4 hg4 HQ.out.2.1
    exact ⟨_, E0, rfl, T0, L0, f0, A1, hst.trans A2, HQ.out, HZ.out⟩
end Go.Proofs.YtijagdpkclghnaaDoor
/- open of any cache: contracts. -/
namespace Go.Proofs.YtijagdpkclghnaaDoor
open Go Go.RowKit
set_option maxRecDepth 100000
variable {B n data : Nat} {w w' : World} {C C' : CM} {T T' T0 : TS} {L L' : List Int} {f f' f0 : Int → Option Ent} {E : Ent} {i v : Int}
/-- Where a place is made: of a turn and stripes, what they are then. -/
def RoomOf (T : TS) (f : Int → Option Ent) (T0 : TS) (f0 : Int → Option Ent) : Prop := (T.full = false ∧ T0 = T ∧ f0 = f) ∨ (T.full = true ∧ ∃ v, T.victim = some v ∧ T0 = T.dropT v ∧ f0 = upd f v none)
theorem drop_full (hg : Good T) (hv : T.has v = true) : (T.dropT v).full = false := by
  have hl := hg.len
  have hm := (has_iff T v).1 hv
  unfold TS.full TS.dropT
  show decide (T.most ≤ (T.plain.erase v).length + (T.dear.erase v).length) = false
  have l1 : (T.plain.erase v).length ≤ T.plain.length := List.length_erase_le
  have l2 : (T.dear.erase v).length ≤ T.dear.length := List.length_erase_le
  rcases List.mem_append.1 hm with h | h
  · have := erase_len h
    simp; omega
  · have := erase_len h
    simp; omega
/-- Behind an open: the stripe is there, as it was, or new, where there was a place or one was made. -/
structure OpenedG (B n data : Nat) (w : World) (C : CM) (T : TS) (f : Int → Option Ent) (i : Int) (w' : World) (C' : CM) (E : Ent) (T' : TS) (L' : List Int) (f' : Int → Option Ent) : Prop where
  at_ : CacheAt B (n + 1) data w' C' T' L' f'
  here : f' i = some E
  step : CStep C f C' f' w w'
  how : (f i = some E ∧ f' = f ∧ T' = T.touchT i) ∨ (f i = none ∧ ∃ T0 f0, RoomOf T f T0 f0 ∧ T0.has i = false ∧ T0.full = false ∧ f0 i = none ∧ T' = T0.addT i ∧ f' = upd f0 i (some E) ∧ E.nt = Set4.zero ∧ E.ot = Set4.zero ∧ E.dt = Set4.zero ∧ E.nb = List.replicate data noB ∧ E.ob = List.replicate data noB)
/-- Is there a place for stripe i, or can one be made? -/
def canOpen (T : TS) (f : Int → Option Ent) (i : Int) : Bool := (f i).isSome || (!T.full || T.victim.isSome)
theorem openG_yes (i : Int) (c : Nat) (s : ByteArray) (w : World) (h : CacheAt B n data w C T L f) (hi : 0 ≤ i) (hi2 : i < 64) (hc : c < data) (hs : s.size = 64) (hr : canOpen T f i = true) (hnn : n < 100000) :
    Calls Tryd.prog 26 #[pt C.g, .int .i64 i, .int .i64 (c : Int), .string s] w fun e w' => ∃ (C' : CM) (E : Ent) (T' : TS) (L' : List Int) (f' : Int → Option Ent), e = .returned (.tuple #[pt E.g, .int .i64 0]) ∧ OpenedG B n data w C T f i w' C' E T' L' f' := by
  cases hf : f i with
  | some E =>
    refine (open_here i c s w h hi hi2 hc hs hf).mono ?_
    rintro e w' ⟨M', rfl, A1, A2⟩
    exact ⟨_, E, _, _, _, rfl, A1.mono (by omega), hf, A2, .inl ⟨hf, rfl, rfl⟩⟩
  | none =>
    have key : Calls Tryd.prog 50 #[pt C.g] w fun e w' => e = .returned (.int .i64 0) ∧ ∃ (M0 : TM) (T0 : TS) (L0 : List Int) (f0 : Int → Option Ent), CacheAt B n data w' { C with M := M0 } T0 L0 f0 ∧ CStep C f { C with M := M0 } f0 w w' ∧ T0.full = false ∧ f0 i = none ∧ RoomOf T f T0 f0 := by
      cases hfull : T.full with
      | false =>
        refine (place_no w h hfull).mono ?_
        rintro e w' ⟨rfl, b⟩
        exact ⟨rfl, C.M, T, L, f, h.below b, CStep.of_below C f b, hfull, hf, .inl ⟨hfull, rfl, rfl⟩⟩
      | true =>
        unfold canOpen at hr
        rw [hf, hfull] at hr
        cases hv : T.victim with
        | none => rw [hv] at hr; simp at hr
        | some v =>
          refine (place_some w h hfull hv).mono ?_
          rintro e w' ⟨rfl, M', A1, A2⟩
          refine ⟨rfl, M', _, _, _, A1, A2, drop_full h.good (victim_in hv).1, ?_, .inr ⟨hfull, v, hv, rfl, rfl⟩⟩
          by_cases e : i = v
          · rw [e, upd_same]
          · rw [upd_other f _ e]; exact hf
    refine (open_by i c s w h hi hi2 hc hs hf hnn _ key).mono ?_
    rintro e w' ⟨C', E, rfl, T0, L0, f0, A1, A2, ⟨p1, p2, p3, p4⟩, z⟩
    exact ⟨C', E, _, _, _, rfl, A1, upd_same _ _ _, A2, .inr ⟨hf, T0, f0, p4, p3, p1, p2, rfl, rfl, z⟩⟩
set_option maxHeartbeats 1000000 in
theorem openG_no (i : Int) (c : Nat) (s : ByteArray) (w : World) (h : CacheAt B n data w C T L f) (hi : 0 ≤ i) (hi2 : i < 64) (hc : c < data) (hs : s.size = 64) (hr : canOpen T f i = false) :
    Calls Tryd.prog 26 #[pt C.g, .int .i64 i, .int .i64 (c : Int), .string s] w fun e w' => e = .returned (.tuple #[.pointer none, .int .i64 10]) ∧ Below w.heap.size w w' := by
  unfold canOpen at hr
  obtain ⟨hf, hr2⟩ := Bool.or_eq_false_iff.1 hr
  obtain ⟨hfull, hv⟩ := Bool.or_eq_false_iff.1 hr2
  have hf : f i = none := by simpa using hf
  have hv : T.victim = none := by simpa using hv
  have hfull : T.full = true := by simpa using hfull
  clear hr hr2
  obtain ⟨c0, c1, c2⟩ := h.three
  have hi64 : In64 i := ⟨by omega, by omega⟩
  have hcI : (c : Int) < (data : Int) := by omega
  have hsI : (s.size : Int) = 64 := by omega
  have hR := row_any i w h hi64
  rw [hf] at hR
  simp only [Option.map_none, ptrV] at hR
  have HR := Lib.hid (And.intro hR (place_none w h hfull hv))
  clear hR hi64 h hf hfull hv
  go_enter Tryd.func26, Tryd.ntmps26
  go_wp2_with fail
  refine HR.out.1.mono ?_
  rintro e w1 ⟨rfl, rfl⟩
  go_wp2_with fail
  refine Calls.pure_to HR.out.2 ?_
  intro w1 b1
  go_wp2_with fail
  go_ret2
  exact ⟨rfl, b1⟩
end Go.Proofs.YtijagdpkclghnaaDoor
/- Put, Fill of any cache: contracts. -/
namespace Go.Proofs.YtijagdpkclghnaaDoor
open Go Go.RowKit
set_option maxRecDepth 100000
variable {B n data : Nat} {w w' : World} {C C' : CM} {T T' : TS} {L L' : List Int} {f f' : Int → Option Ent} {E : Ent}
set_option maxHeartbeats 1000000 in
theorem Put_gen (i : Int) (c : Nat) (s : ByteArray) (w : World) (h : CacheAt B n data w C T L f) (hi : 0 ≤ i) (hi2 : i < 64) (hc : c < data) (hs : s.size = 64) (hr : canOpen T f i = true) (hnn : n < 90000) :
    Calls Tryd.prog 10 #[pt C.g, .int .i64 i, .int .i64 (c : Int), .string s] w fun e w' => e = .returned (.int .i64 0) ∧ ∃ (w1 : World) (C1 : CM) (E : Ent) (T1 : TS) (L1 : List Int) (f1 : Int → Option Ent) (C' : CM), OpenedG B n data w C T f i w1 C1 E T1 L1 f1 ∧ CacheAt B (n + 2) data w' C' (T1.pinT i true) L1 (upd f1 i (some (E.put c s))) ∧ CStep C f C' (upd f1 i (some (E.put c s))) w w' := by
  have hO := openG_yes i c s w h hi hi2 hc hs hr (by omega)
  have hc256 : c < 256 := by have := h.d30; omega
  have HO := Lib.hid hO
  have HC := Lib.hid (And.intro h (And.intro hi (And.intro hi2 (And.intro hc (And.intro hs hnn)))))
  clear hO h hi hi2 hs hr hnn
  go_enter Tryd.func10, Tryd.ntmps10
  go_wp2_with fail
  refine HO.out.mono ?_
  rintro e w1 ⟨C1, E, T1, L1, f1, rfl, hop⟩
  have HP := Lib.hid hop
  have hE1 := hop.at_.ent i E hop.here
  clear hop
  go_wp2_with fail
  refine (put_now c s w1 hE1 hc HP.out.at_.d30).mono ?_
  rintro e w2 ⟨rfl, hE2, hS2⟩
  have hA2 := HP.out.at_.entPut (E' := { E with nt := E.nt.with' c, nb := E.nb.set c s }) HP.out.here rfl rfl rfl hE2 hS2.os hS2.tape hS2.output hS2.size hS2.block
  have k0 := hE2.row.cell 10 rfl
  have k1 := hE2.row.cell 11 rfl
  have k2 := hE2.row.cell 12 rfl
  have k3 := hE2.row.cell 13 rfl
  have H2 := Lib.hid (And.intro hE2 hA2)
  clear hE1 hE2 hS2 hA2
  go_wp2_with fail
  refine Calls.pure_to (With_yes E.dt c w2 hc256) ?_
  intro w3 b3
  have hE3 := H2.out.1.below b3
  have hA3 := H2.out.2.1.below b3
  clear k0 k1 k2 k3
  have k0 := hE3.row.cell 10 rfl
  have k1 := hE3.row.cell 11 rfl
  have k2 := hE3.row.cell 12 rfl
  have k3 := hE3.row.cell 13 rfl
  have z0 := hE3.row.free
  have H3 := Lib.hid (And.intro hA3 b3)
  go_upto_region 6 with fail
  have hD := EntAt.dirty (t := E.dt.with' c) hE3
  refine wp_world (fun w4 => EntAt B data w4 { E with nt := E.nt.with' c, nb := E.nb.set c s, dt := E.dt.with' c } ∧ EStep E w3 w4) ⟨hD, EStep.dirty E w3 (E.dt.with' c)⟩ ?_
  clear hE3 hA3 b3 k0 k1 k2 k3 z0 hD
  rintro w4 ⟨hE4, hS4⟩
  replace hS4 := hS4.like (E' := { E with nt := E.nt.with' c, nb := E.nb.set c s }) rfl rfl rfl
  have hA4 := H3.out.1.entPut (E' := { E with nt := E.nt.with' c, nb := E.nb.set c s, dt := E.dt.with' c }) (upd_same f1 i (some { E with nt := E.nt.with' c, nb := E.nb.set c s })) rfl rfl rfl hE4 hS4.os hS4.tape hS4.output hS4.size hS4.block
  rw [upd_upd] at hA4
  obtain ⟨c0, c1, c2⟩ := hA4.1.three
  rw [HP.out.step.g] at c0 c1 c2
  have H4 := Lib.hid hA4
  clear hA4 hE4 hS4
  go_wp2_with fail
  refine (Pin_any i true w4 H4.out.1.turn (by have := HC.out.2.2.2.2.2; omega) ⟨by have := HC.out.2.1; omega, by have := HC.out.2.2.1; omega⟩).mono ?_
  rintro e w5 ⟨rfl, hT5, hS5⟩
  have H5 := Lib.hid (And.intro hT5 hS5)
  clear hT5 hS5 c0 c1 c2
  go_wp2_with fail
  go_returns
  obtain ⟨A1, A2⟩ := H4.out.1.turned H5.out.2 H5.out.1 (by omega) (H4.out.1.good.pin i true) (pin_has T1 i true)
  exact ⟨rfl, w1, C1, E, T1, L1, f1, _, HP.out, A1, HP.out.step.trans (H2.out.2.2.trans ((CStep.of_below _ _ H3.out.2).trans (H4.out.2.trans A2)))⟩
set_option maxHeartbeats 1000000 in
theorem Fill_gen (i : Int) (c : Nat) (s : ByteArray) (w : World) (h : CacheAt B n data w C T L f) (hi : 0 ≤ i) (hi2 : i < 64) (hc : c < data) (hs : s.size = 64) (hr : canOpen T f i = true) (hnn : n < 90000) :
    Calls Tryd.prog 11 #[pt C.g, .int .i64 i, .int .i64 (c : Int), .string s] w fun e w' => e = .returned (.int .i64 0) ∧ ∃ (w1 : World) (C1 : CM) (E : Ent) (T1 : TS) (L1 : List Int) (f1 : Int → Option Ent), OpenedG B n data w C T f i w1 C1 E T1 L1 f1 ∧ CacheAt B (n + 1) data w' C1 T1 L1 (upd f1 i (some (E.fill c s))) ∧ CStep C f C1 (upd f1 i (some (E.fill c s))) w w' := by
  have hO := openG_yes i c s w h hi hi2 hc hs hr (by omega)
  have hc256 : c < 256 := by have := h.d30; omega
  have HO := Lib.hid hO
  clear hO h hi hi2 hs hr hnn
  go_enter Tryd.func11, Tryd.ntmps11
  go_wp2_with fail
  refine HO.out.mono ?_
  rintro e w1 ⟨C1, E, T1, L1, f1, rfl, hop⟩
  have HP := Lib.hid hop
  have hE1 := hop.at_.ent i E hop.here
  clear hop
  go_wp2_with fail
  refine (put_old c s w1 hE1 hc HP.out.at_.d30).mono ?_
  rintro e w2 ⟨rfl, hE2, hS2⟩
  have hA2 := HP.out.at_.entPut (E' := { E with ot := E.ot.with' c, ob := E.ob.set c s }) HP.out.here rfl rfl rfl hE2 hS2.os hS2.tape hS2.output hS2.size hS2.block
  have k0 := hE2.row.cell 10 rfl
  have k1 := hE2.row.cell 11 rfl
  have k2 := hE2.row.cell 12 rfl
  have k3 := hE2.row.cell 13 rfl
  have H2 := Lib.hid (And.intro hE2 hA2)
  clear hE1 hE2 hS2 hA2
  have hH := Lib.hid (Has_yes E.dt c w2 hc256)
  cases e : E.dt.has c
  · rw [e] at hH
    go_wp2_with fail
    refine Calls.pure_to hH.out ?_
    intro w3 b3
    have hE3 := H2.out.1.below b3
    have hA3 := H2.out.2.1.below b3
    have H3 := Lib.hid (And.intro hA3 b3)
    clear k0 k1 k2 k3 hA3 b3
    go_wp2_with fail
    have hP := put_now c s w3 hE3 hc HP.out.at_.d30
    refine hP.mono ?_
    rintro e w4 ⟨rfl, hE4, hS4⟩
    have hA4 := H3.out.1.entPut (E' := { E with ot := E.ot.with' c, ob := E.ob.set c s, nt := E.nt.with' c, nb := E.nb.set c s }) (upd_same f1 i (some { E with ot := E.ot.with' c, ob := E.ob.set c s })) rfl rfl rfl hE4 hS4.os hS4.tape hS4.output hS4.size hS4.block
    rw [upd_upd] at hA4
    have H4 := Lib.hid hA4
    clear hA4 hE4 hS4 hE3 hP
    go_wp2_with fail
    go_returns
    have hfl : E.fill c s = { E with ot := E.ot.with' c, ob := E.ob.set c s, nt := E.nt.with' c, nb := E.nb.set c s } := by unfold Ent.fill; rw [e]; rfl
    rw [← hfl] at H4
    exact ⟨rfl, w1, C1, E, T1, L1, f1, HP.out, H4.out.1, HP.out.step.trans (H2.out.2.2.trans ((CStep.of_below _ _ H3.out.2).trans H4.out.2))⟩
  · rw [e] at hH
    go_wp2_with fail
    refine Calls.pure_to hH.out ?_
    intro w3 b3
    have hA3 := H2.out.2.1.below b3
    have H3 := Lib.hid (And.intro hA3 b3)
    clear k0 k1 k2 k3 hA3 b3
    go_wp2_with fail
    go_returns
    have hfl : E.fill c s = { E with ot := E.ot.with' c, ob := E.ob.set c s } := by unfold Ent.fill; rw [e]; rfl
    rw [← hfl] at H3
    have hS := H2.out.2.2
    rw [← hfl] at hS
    exact ⟨rfl, w1, C1, E, T1, L1, f1, HP.out, H3.out.1, HP.out.step.trans (hS.trans (CStep.of_below _ _ H3.out.2))⟩
theorem Put_no (i : Int) (c : Nat) (s : ByteArray) (w : World) (h : CacheAt B n data w C T L f) (hi : 0 ≤ i) (hi2 : i < 64) (hc : c < data) (hs : s.size = 64) (hr : canOpen T f i = false) :
    Calls Tryd.prog 10 #[pt C.g, .int .i64 i, .int .i64 (c : Int), .string s] w fun e w' => e = .returned (.int .i64 10) ∧ Below w.heap.size w w' := by
  have HO := Lib.hid (openG_no i c s w h hi hi2 hc hs hr)
  clear h hi hi2 hs hr
  go_enter Tryd.func10, Tryd.ntmps10
  go_wp2_with fail
  refine Calls.pure_to HO.out ?_
  intro w1 b1
  go_wp2_with fail
  go_returns
  exact ⟨rfl, b1⟩
theorem Fill_no (i : Int) (c : Nat) (s : ByteArray) (w : World) (h : CacheAt B n data w C T L f) (hi : 0 ≤ i) (hi2 : i < 64) (hc : c < data) (hs : s.size = 64) (hr : canOpen T f i = false) :
    Calls Tryd.prog 11 #[pt C.g, .int .i64 i, .int .i64 (c : Int), .string s] w fun e w' => e = .returned (.int .i64 10) ∧ Below w.heap.size w w' := by
  have HO := Lib.hid (openG_no i c s w h hi hi2 hc hs hr)
  clear h hi hi2 hs hr
  go_enter Tryd.func11, Tryd.ntmps11
  go_wp2_with fail
  refine Calls.pure_to HO.out ?_
  intro w1 b1
  go_wp2_with fail
  go_returns
  exact ⟨rfl, b1⟩
end Go.Proofs.YtijagdpkclghnaaDoor
/- The sorted keys of a map to pointers: contracts over the shelf's. -/
namespace Go.Proofs.YtijagdpkclghnaaDoor
open Go Go.RowKit Go.Maps Go.Sort Go.Shelf
set_option maxRecDepth 100000
shelf_lay_g SlLaysZI.n7 Ggz 7 at Tryd 39 as keysL
shelf_lay_g SlLaysZI.n6 Ggz 6 at Tryd 38 as sortedL
shelf_lay_g SlLaysM.n5 Slgm 5 at Tryd 59 as sortL
theorem sortsL (m : Nat) : AnyZI.SortsIn Tryd.prog sortedL_ren Fence.wide m :=
  ⟨fun blk off cap ss W hH hblk hsz => callsIn_wide.2 (AnyM.slices_Sort_int sortL blk off cap ss W hH hblk hsz),
   fun p cap W => callsIn_wide.2 (AnyM.slices_Sort_int_none sortL p cap W)⟩
theorem keys_any (mb : Option Nat) (w : World) : Calls Tryd.prog 39 #[.map mb] w fun e w' => e = .returned (.func (.func 60) #[] #[.pointer (some ⟨w.heap.size, 0, none⟩)]) ∧ w' = w.alloc (.cells #[.map mb] 54) :=
  callsIn_wide.1 (AnyZI.keys_in keysL Fence.wide 5 trivial rfl mb w)
theorem sorted_any {b n : Nat} {D : DataW Unit} (w : World) (hown : w.ownsMap Tryd.prog 3 ptrElem b n D) (hs : Maps.size D ≤ 100000) :
    Calls Tryd.prog 38 #[.func (.func 60) #[] #[.pointer (some ⟨w.heap.size, 0, none⟩)]] (w.alloc (.cells #[.map (some b)] 54)) fun e w' => ∃ (v : Value) (ss : List Int), e = .returned v ∧ ss.Perm (intKeys D) ∧
      w'.ownsRow (w.heap.size + 1) 3 1 v ss.length ((ss.mergeSort (fun x y => decide (x ≤ y))).map encZ) ∧ Below (w.heap.size + 1) (w.alloc (.cells #[.map (some b)] 54)) w' := by
  have hbl := hown.lt
  have hseq : SeqGives Fence.wide 2 Tryd.prog 60 #[.pointer (some ⟨w.heap.size, 0, none⟩)] encZ (fun ss => ss.Perm (intKeys D)) (Maps.size D) (w.alloc (.cells #[.map (some b)] 54)) :=
    AnyZI.keys_gives (ρ := keysL_ren) { keysL with } Fence.wide _ trivial rfl (by omega) w.heap.size b n D _ (by simp) (by simp) (by
      obtain ⟨es, clock, hb, Ft, hs, hD⟩ := hown
      exact ⟨es, clock, (Below.heap_alloc _ _ b hbl).trans hb, Ft, hs, hD⟩)
  have cS := AnyZI.sorted_in sortedL Fence.wide 5 trivial trivial trivial trivial rfl (by omega) (sortsL _) (enters_of Tryd.func59 (by kernel_rfl) rfl) 60 #[.pointer (some ⟨w.heap.size, 0, none⟩)] trivial (enters_of Tryd.func60 (by kernel_rfl) rfl) _ _ (by unfold maxLen; omega) (by omega) _ hseq
  refine (callsIn_wide.1 cS).mono ?_
  rintro e w' ⟨v, ss, rfl, h1, h2, _, h3⟩
  have e : (w.alloc (.cells #[.map (some b)] 54)).heap.size = w.heap.size + 1 := by simp
  rw [e] at h2 h3
  exact ⟨v, ss, rfl, h1, h2, h3⟩
/-- The keys of L, rising. -/
def rising (L : List Int) : List Int := L.mergeSort fun x y => decide (x ≤ y)
end Go.Proofs.YtijagdpkclghnaaDoor
/- Dirty, Len of a cache: contracts. -/
namespace Go
open Go.RowKit Go.Maps
theorem keys_pm {P : Program} {k : TypeId} {R : Value → Option (DataW Unit × List MemPlace)} {w : World} {b n : Nat} {D : DataW Unit} {L : List Int} {f : Int → Option Nat} (h : PM D L f) (hown : w.ownsMap P k R b n D) (K : Keyed P k) (hk : P.underlying k = some (.int .i64)) : L.Perm (intKeys D) := by
  obtain ⟨es, hD, hpw, _⟩ := hown.entries K
  obtain ⟨es', hD', hko⟩ := hown.keysOf
  obtain rfl : es = es' := by rw [hD] at hD'; simpa using hD'
  have hh := h.has
  subst hD
  exact perm_intKeys hpw (fun p hp => by obtain ⟨v, hv⟩ := hko p hp; obtain ⟨x, _, hx, _⟩ := Maps.keyOf_i64 hk hv; exact ⟨x, hx⟩) h.nodup (fun x => by rw [hh x]; simp)
end Go
namespace Go.Proofs.YtijagdpkclghnaaDoor
open Go Go.RowKit
set_option maxRecDepth 100000
variable {B n data : Nat} {w w' : World} {C C' : CM} {T T' : TS} {L L' : List Int} {f f' : Int → Option Ent} {E : Ent} {i v : Int}
theorem rising_perm (L : List Int) : (rising L).Perm L := List.mergeSort_perm _ _
theorem rising_len (L : List Int) : (rising L).length = L.length := (rising_perm L).length_eq
theorem sortedKeys {b n : Nat} {g : Int → Option Nat} (w : World) (h : w.pmap Tryd.prog tI b n L g) (hn : n ≤ 100000) :
    Calls Tryd.prog 38 #[.func (.func 60) #[] #[.pointer (some ⟨w.heap.size, 0, none⟩)]] (w.alloc (.cells #[.map (some b)] 54)) fun e w' => (∃ v : Value, e = .returned v ∧ w'.ownsRow (w.heap.size + 1) tI 1 v L.length ((rising L).map (Value.int .i64))) ∧ Below (w.heap.size + 1) (w.alloc (.cells #[.map (some b)] 54)) w' := by
  obtain ⟨D, hown, hP⟩ := h
  have hsz : Maps.size D ≤ 100000 := Nat.le_trans hown.size_le hn
  refine (sorted_any w hown hsz).mono ?_
  rintro e w' ⟨v, ss, rfl, h1, h2, h3⟩
  have hp : ss.Perm L := h1.trans (keys_pm hP hown (Maps.int_keyed Tryd.underlying3) Tryd.underlying3).symm
  have hl := hp.length_eq
  rw [mergeSort_of_perm_i hp, hl] at h2
  exact ⟨⟨v, rfl, h2⟩, h3⟩
theorem wpList_lookup_pms {P : Program} {w : World} {ops : Array Oper} {rest : List Oper} {o : Oper} {a : Act} {Q : Exit → Act → World → Prop} {k e : TypeId} {b n : Nat} {L : List Int} {f : Int → Option Nat} (hg : o.guard = none) (m x : Operand) (t : TypeId) (hop : o.op = Op.lookup t m x false) (hk : P.underlying k = some (.int .i64)) (ht : P.underlying t = some (.map k e)) (hz : ∀ w, (zeroValue e).run P w = .ok (.pointer none) w)
    (hm : a.eval m = .map (some b)) (h : w.pmap P k b n L f) (i : Int) (hx : a.eval x = .int .i64 i) (hi : In64 i) (r : Nat) (hr : f i = some r)
    (hK : wpList P ops Q rest (a.put o.dst (.pointer (some ⟨r, 0, none⟩))) w) : wpList P ops Q (o :: rest) a w := wpList_lookup_pm hg m x t hop hk ht hz hm h i hx hi (some r) hr hK
def dirtyOf (f : Int → Option Ent) (k : Int) : Bool := match f k with
  | none => false
  | some E => !E.dt.empty
theorem buildSlice_i (x : Int) (w : World) : (Instr.buildSlice 45 1 #[(0, .int .i64 x)]).run Tryd.prog w = .ok (.slice (some ⟨w.heap.size, 0, none⟩) 1 1) (w.alloc (.cells [Value.int .i64 x].toArray tI)) := by kernel_rfl
set_option maxHeartbeats 2000000 in
theorem Dirty_any (w : World) (h : CacheAt B n data w C T L f) (hn : n ≤ 90000) :
    Calls Tryd.prog 18 #[pt C.g] w fun e w' => (∃ v, e = .returned v ∧ w'.irow w.heap.size tI v ((rising L).filter (dirtyOf f))) ∧ Below w.heap.size w w' := by
  have hz : Hid (∀ w, (zeroValue 58).run Tryd.prog w = .ok (.pointer none) w) := Lib.hid fun w => by kernel_rfl
  obtain ⟨c0, c1, c2⟩ := h.three
  have HC := Lib.hid (And.intro h hn)
  clear h hn
  go_enter Tryd.func18, Tryd.ntmps18
  go_wp2_with fail
  refine (keys_any (some C.m) w).mono ?_
  rintro e w1 ⟨rfl, rfl⟩
  go_wp2_with fail
  refine (sortedKeys w HC.out.1.map (by have := HC.out.2; omega)).mono ?_
  rintro e w2 ⟨⟨vl, rfl, ho⟩, b2⟩
  have B2 : Below w.heap.size w w2 := ((Below.refl w.heap.size w).alloc (Nat.le_refl _) (.cells #[.map (some C.m)] 54)).trans (b2.mono (Nat.le_succ _))
  have h2 := HC.out.1.below B2
  obtain ⟨m, hm⟩ : ∃ m, m = L.length := ⟨_, rfl⟩
  have hm2 : m ≤ 90000 := by
    have := HC.out.1.map
    obtain ⟨D, hown, hP⟩ := this
    have h9 := hown.size_le
    rw [hP.size] at h9
    have := HC.out.2
    omega
  rw [← hm] at ho
  obtain ⟨a2, c2', hv⟩ : ∃ a c, vl = .slice a m c := by
    rcases own_form ho with ⟨h1, h3⟩ | ⟨g, cap, h1, _⟩
    · exact ⟨none, 0, by rw [h1, h3]⟩
    · exact ⟨_, _, h1⟩
  subst hv
  have H2 := Lib.hid (And.intro ho (And.intro B2 (And.intro h2 hm)))
  have O2 : w2.irow w2.heap.size tI (.slice none 0 0) [] := World.irow.nil _ _ _
  have HO := Lib.hid O2
  clear ho B2 b2 h2 hm c0 c1 c2 O2
  go_wp2_with fail
  go_loopw [15, 3] (fun j v wr => ∃ (k : Nat), k ≤ m ∧ j = .int .i64 k ∧ wr.irow w2.heap.size tI v (((rising L).take k).filter (dirtyOf f)) ∧ Below w2.heap.size w2 wr) (fun j _ _ => m - (intOf j).toNat)
  case atStart => exact ⟨0, Nat.zero_le _, rfl, HO.out, Below.refl _ _⟩
  case round =>
    obtain ⟨k, hk, rfl, hr, hB⟩ := hrel
    by_cases hlt : k < m
    · have hrl := rising_len L
      obtain ⟨x, hx⟩ : ∃ x, (rising L)[k]? = some x := ⟨_, List.getElem?_eq_getElem (by rw [hrl, ← H2.out.2.2.2]; exact hlt)⟩
      have hxL : x ∈ L := (rising_perm L).mem_iff.1 (List.mem_of_getElem? hx)
      have hx64 : In64 x := H2.out.2.2.1.good.in64 x ((has_iff T x).1 (by rw [H2.out.2.2.1.keys]; simpa using hxL))
      have hsome := H2.out.2.2.1.map.some_ x
      rw [show L.contains x = true by simpa using hxL] at hsome
      obtain ⟨E, hE⟩ : ∃ E, f x = some E := by
        cases e : f x with
        | none => rw [e] at hsome; simp at hsome
        | some E => exact ⟨E, rfl⟩
      have hnext : ((rising L).take (k + 1)).filter (dirtyOf f) = ((rising L).take k).filter (dirtyOf f) ++ (if E.dt.empty = true then [] else [x]) := by
        rw [List.take_add_one, hx, List.filter_append]
        congr 1
        show [x].filter (dirtyOf f) = _
        have : dirtyOf f x = !E.dt.empty := by unfold dirtyOf; rw [hE]
        cases hd : E.dt.empty
        · simp [List.filter, this, hd]
        · simp [List.filter, this, hd]
      rcases own_form H2.out.1 with ⟨_, h3⟩ | ⟨gl, cap, hv, hgl, hgs, h3, h4, hcell, _⟩
      · omega
      obtain ⟨e1, e2, e3⟩ := Value.slice.inj hv
      subst e1
      clear e2 e3 hv
      have ck := hcell k (.int .i64 x) (by rw [List.getElem?_map, hx]; rfl)
      have ck : wr.cell? ⟨gl, k, none⟩ = some (.int .i64 x) := (hB.cell (p := ⟨gl, k, none⟩) hgs).trans ck
      have hA := H2.out.2.2.1.below hB
      obtain ⟨c0, c1, c2⟩ := hA.three
      have hEn := hA.ent x E hE
      have k0 := hEn.row.cell 10 rfl
      have k1 := hEn.row.cell 11 rfl
      have k2 := hEn.row.cell 12 rfl
      have k3 := hEn.row.cell 13 rfl
      have hlen : (((rising L).take k).filter (dirtyOf f)).length ≤ 90000 := by
        have h5 := List.length_filter_le (dirtyOf f) ((rising L).take k)
        rw [List.length_take] at h5
        omega
      obtain ⟨av, nv, cv, rfl⟩ := own_shape hr
      have HX := Lib.hid (And.intro hr (And.intro hB (And.intro hnext (And.intro hlen (And.intro hE hx64)))))
      have hmp := hA.map
      have hf2 : (f x).map Ent.g = some E.g := by rw [hE]; rfl
      clear hr hB hnext hlen hE hcell hxL hsome hx hA hEn hx64
      go_wp2_with (at_lookup; refine wpList_lookup_pms rfl _ _ 54 rfl Tryd.underlying3 Tryd.underlying54 hz.out rfl hmp x rfl HX.out.2.2.2.2.2 _ hf2 ?_)
      refine Calls.pure_to (Empty_any E.dt wr) ?_
      intro w5 b5
      have H5 := Lib.hid (And.intro (irow_below HX.out.1 b5) (HX.out.2.1.trans (b5.mono HX.out.2.1.size)))
      clear b5 k0 k1 k2 k3 c0 c1 c2 ck hmp hf2
      obtain ⟨be, hbe⟩ : ∃ b, b = E.dt.empty := ⟨_, rfl⟩
      rw [← hbe]
      have HE := Lib.hid hbe
      clear hbe
      cases be
      · have hs5 := H5.out.2.size
        go_upto_region 8 with fail
        go_step
        with_reducible apply op_mv
        (case hw => rfl)
        simp only [Act.put, Act.eval, List.setIfInBounds_toArray, List.set_cons_zero, List.set_cons_succ]
        with_reducible apply op_mv
        (case hw => rfl)
        simp only [Act.put, Act.eval, List.setIfInBounds_toArray, List.set_cons_zero, List.set_cons_succ]
        with_reducible apply op_bs1
        (case hw => rfl)
        (case hx => rfl)
        (case hb => exact buildSlice_i x)
        simp only [Act.put, List.setIfInBounds_toArray, List.set_cons_zero, List.set_cons_succ]
        with_reducible apply op_append1
        (case hw => rfl)
        (case ht => exact Tryd.underlying45)
        (case hi => exact infoInt)
        (case hzs => rfl)
        (case hsz => decide)
        (case hown => exact World.ownsRow.alloc H5.out.1 _)
        (case hs => rfl)
        (case hx => rfl)
        (case hr => exact World.row.new' (cs := [Value.int .i64 x]) rfl)
        (case hl => rfl)
        (case h1 => intro u hu; rw [List.mem_singleton.1 hu]; rfl)
        (case h63 => have := HX.out.2.2.2.1; omega)
        (case hbb => decide)
        (case hbase => simp; omega)
        intro v' w9 ho hgr hloc
        simp only [Act.put, List.setIfInBounds_toArray, List.set_cons_zero, List.set_cons_succ]
        have B9 := below_own (H5.out.2.alloc (by omega) (.cells [Value.int .i64 x].toArray tI)) hgr (World.ownsRow.alloc H5.out.1 _) (Nat.le_refl _) (by simp; omega)
        have H9 := Lib.hid (And.intro (irow_snoc ho) B9)
        clear ho B9 hgr hloc
        go_wp2_with fail
        go_roundw
        case rel => exact ⟨k + 1, by omega, by go_num, by rw [HX.out.2.2.1, ← HE.out]; exact H9.out.1, H9.out.2⟩
        case measure => simp [intOf] <;> omega
      · go_wp2_with fail
        go_roundw
        case rel => exact ⟨k + 1, by omega, by go_num, by rw [HX.out.2.2.1, ← HE.out, if_pos rfl, List.append_nil]; exact H5.out.1, H5.out.2⟩
        case measure => simp [intOf] <;> omega
    · obtain rfl : k = m := by omega
      have hrl := rising_len L
      rw [H2.out.2.2.2, ← hrl, List.take_length] at hr
      have HB := Lib.hid (And.intro (irow_mono hr H2.out.2.1.size) (H2.out.2.1.trans (hB.mono H2.out.2.1.size)))
      clear hr hB hrl
      go_wp2_with fail
      go_returns
      exact ⟨⟨_, rfl, HB.out.1⟩, HB.out.2⟩
end Go.Proofs.YtijagdpkclghnaaDoor
/- Maps from pairs of integers to strings: laws of my own over the kit's. -/
namespace Go.Proofs.YtijagdpkclghnaaDoor
open Go Go.RowKit Go.Maps
set_option maxRecDepth 100000
abbrev tK : TypeId := 22
abbrev tM2 : TypeId := 38
abbrev kv (i j : Int) : Value := .agg #[.int .i64 i, .int .i64 j]
theorem pairLaid : laidOutB Tryd.prog = true := by kernel_rfl
theorem pairRow : tK < Tryd.prog.types.size := of_decide_eq_true (by kernel_rfl)
theorem pairWide : (match Tryd.prog.underlying tK with | some (.array _ _) | some (.struct _) => true | _ => false) = true := by rw [Tryd.underlying22]
theorem pairLaw : WideMaps.KeyLaw Tryd.prog tK := deep_law_laid pairLaid (m := 2) (by omega) pairRow (by kernel_rfl) pairWide
theorem pairKeyed : Keyed Tryd.prog tK := Keyed.of_law pairLaw
def kl (i j : Int) : Lit := .string (keyBytes [.int .i64 i, .int .i64 j])
theorem pairCells : Tryd.prog.cellsOf tK = 2 := by kernel_rfl
theorem intCells : Tryd.prog.cellsOf 3 = 1 := by kernel_rfl
theorem pairType : Tryd.prog.keyType tK = true := by kernel_rfl
theorem keyOf_pair (i j : Int) (hi : In64 i) (hj : In64 j) : keyOf Tryd.prog tK (kv i j) = some (kl i j) := by
  have hf : (kv i j).formed Tryd.prog tK = true := by simp [Value.formed, Tryd.underlying22, pairCells]
  have hlits : ∀ d, Tryd.prog.keyLits (d + 2) tK [.int .i64 i, .int .i64 j] = some [.int .i64 i, .int .i64 j] := fun d => by
    show Tryd.prog.keyLits ((d + 1) + 1) tK _ = _
    simp only [Program.keyLits, Tryd.underlying22, pairCells, intCells]
    simp [List.range_succ, Tryd.underlying3, wf_in64 hi, wf_in64 hj]
  unfold keyOf
  rw [Tryd.underlying22]
  simp only [pairType, hf, Bool.and_self, if_true]
  obtain ⟨d, hd⟩ : ∃ d, Tryd.prog.types.size + 1 = d + 2 := ⟨Tryd.prog.types.size - 1, by have h9 : 0 < Tryd.prog.types.size := Nat.lt_of_le_of_lt (Nat.zero_le _) pairRow; omega⟩
  rw [hd]
  show (Tryd.prog.keyLits (d + 2) tK [.int .i64 i, .int .i64 j]).map _ = _
  rw [hlits d]; rfl
theorem kl_ne {i j i' j' : Int} (hi : In64 i) (hj : In64 j) (hi' : In64 i') (hj' : In64 j') (h : ¬ (i' = i ∧ j' = j)) : kl i' j' ≠ kl i j := fun e => by
  have h1 := keyOf_pair i j hi hj
  have h2 := keyOf_pair i' j' hi' hj'
  rw [e] at h2
  have := pairKeyed.inj h2 h1
  simp at this
  exact h this
theorem kl_key (i j : Int) : WideAt.IsKeyLit (kl i j) := by trivial
/-- The datum D holds g, "" where there is none. -/
structure SM (D : DataW Unit) (g : Int → Int → ByteArray) : Prop where
  m : Maps.IsMap D
  at_ : ∀ i j, In64 i → In64 j → D.atKey (kl i j) (.lit (.string [])) = .lit (.string (g i j).data.toList)
def World.smap (w : World) (b n : Nat) (g : Int → Int → ByteArray) : Prop := ∃ D : DataW Unit, w.ownsMap Tryd.prog tK (plainElem Tryd.prog 9) b n D ∧ SM D g
variable {w w' : World} {b n : Nat} {g : Int → Int → ByteArray}
theorem World.smap.lt (h : World.smap w b n g) : b < w.heap.size := by obtain ⟨D, h1, _⟩ := h; exact h1.lt
theorem World.smap.same (h : World.smap w b n g) (hb : w'.heap[b]? = w.heap[b]?) : World.smap w' b n g := by
  obtain ⟨D, ⟨es, clock, h1, h2⟩, h3⟩ := h
  exact ⟨D, ⟨es, clock, hb.trans h1, h2⟩, h3⟩
theorem World.smap_made (w : World) : World.smap (w.alloc (.map #[] 0)) w.heap.size 0 (fun _ _ => { data := #[] }) := ⟨_, World.ownsMap_made _ _ _ _, Maps.isMap_empty, fun _ _ _ _ => rfl⟩
theorem bytes_ext {a b : ByteArray} (h : a.data.toList = b.data.toList) : a = b := by
  cases a; cases b; simp at h; rw [h]
theorem plainElem_string_inv {v : Value} {z : DataW Unit × List MemPlace} (h : plainElem Tryd.prog 9 v = some z) : ∃ s : ByteArray, v = .string s ∧ z = (.lit (.string s.data.toList), []) := by
  unfold plainElem at h
  rw [Tryd.underlying9] at h
  cases v <;> simp at h
  rename_i s
  exact ⟨s, rfl, h.2.symm⟩
section
variable {ops : Array Oper} {rest : List Oper} {o : Oper} {a : Act} {Q : Exit → Act → World → Prop}
theorem wpList_lookup_sm (hw : Region.wanted o (yielded ops a.tmps) = true) (m x : Operand) (hop : o.op = Op.lookup tM2 m x false) (hm : a.eval m = .map (some b)) (h : World.smap w b n g) (i j : Int) (hx : a.eval x = kv i j) (hi : In64 i) (hj : In64 j)
    (hK : wpList Tryd.prog ops Q rest (a.put o.dst (.string (g i j))) w) : wpList Tryd.prog ops Q (o :: rest) a w := by
  refine BigFrame.wpList_want hw fun K' hK' => ?_
  obtain ⟨D, hown, hB⟩ := h
  have hz : (zeroValue 9).run Tryd.prog w = .ok (.string { data := #[] }) w := by kernel_rfl
  obtain ⟨v, ps, hrun, hv⟩ := hown.lookup pairKeyed Tryd.underlying38 hz (plainElem_string Tryd.underlying9 (by decide)) (keyOf_pair i j hi hj)
  obtain ⟨s, rfl, hy⟩ := plainElem_string_inv hv
  have e1 := congrArg Prod.fst hy
  simp only at e1
  have e3 := hB.at_ i j hi hj
  have e4 : D.atKey (kl i j) (.lit (.string [])) = .lit (.string s.data.toList) := e1
  rw [e3] at e4
  have e2 : g i j = s := bytes_ext (by simpa using e4)
  subst e2
  unfold Oper.wp
  simp [execOp, hop, hm, hx, hrun, Result.andThen]
  exact hK' _ _ (by simpa using hK)
theorem wpList_mapUpdate_sm (hg : o.guard = none) (m x v : Operand) (hop : o.op = Op.mapUpdate tM2 m x v) (hm : a.eval m = .map (some b)) (h : World.smap w b n g) (hn : n < 100000) (i j : Int) (hx : a.eval x = kv i j) (hi : In64 i) (hj : In64 j) (s : ByteArray) (hv : a.eval v = .string s) (hs : s.size ≤ maxLen)
    (hK : ∀ w', World.smap w' b (n + 1) (fun i' j' => if i' = i ∧ j' = j then s else g i' j') → w.grownBy w' (some b) → wpList Tryd.prog ops Q rest (a.put o.dst undef) w') : wpList Tryd.prog ops Q (o :: rest) a w := by
  obtain ⟨D, hown, hB⟩ := h
  refine wpList_mapUpdate_own w hg m x v tM2 hop tK 9 pairKeyed Tryd.underlying38 _ b n D hm hown (by unfold maxLen; omega) _ _ _ hx hv (keyOf_pair i j hi hj) _ [] (plainElem_string Tryd.underlying9 hs) ?_
  intro w' h1 h2
  refine hK w' ⟨_, h1, hB.m.put _ _, fun i' j' hi' hj' => ?_⟩ h2
  show _ = DataW.lit (Lit.string (if i' = i ∧ j' = j then s else g i' j').data.toList)
  by_cases e : i' = i ∧ j' = j
  · obtain ⟨rfl, rfl⟩ := e
    rw [if_pos ⟨rfl, rfl⟩]
    exact Maps.atKey_put_same hB.m (kl_key i' j') _ _
  · rw [if_neg e, Maps.atKey_put_other (kl_ne hi hj hi' hj' e)]
    exact hB.at_ i' j' hi' hj'
end
end Go.Proofs.YtijagdpkclghnaaDoor
