/- The document's Pin, Touch: contracts. -/
import Derived.Test.YtfbcgnehpkffeaaURefFirst
import Derived.StillTailTactics
namespace Go.Proofs.Ytfbcgnehpkffeaa
open Go Go.RowKit
set_option maxRecDepth 100000
/-- What a call on the document's turn leaves. -/
structure RStep (r : Nat) (v v' : Value) (w w' : World) : Prop where
  os : w'.os = w.os
  tape : w'.tape = w.tape
  output : w'.output = w.output
  size : w.heap.size ≤ w'.heap.size
  own : ∀ k, v'.ownBlock = some k → v.ownBlock = some k ∨ w.heap.size ≤ k
  block : ∀ k, k < w.heap.size → k ≠ r → v.ownBlock ≠ some k → w'.heap[k]? = w.heap[k]?
variable {B r : Nat} {w w' w'' : World} {v v' v'' : Value} {R : RS} {ks : List RK} {x y z : RK} {i : Nat} {T : TS} {P D : List RK}
theorem RStep.of_below (h : Below w.heap.size w w') : RStep r v v w w' := ⟨h.os, h.tape, h.output, h.size, fun _ h => .inl h, fun k hk _ _ => h.block k hk⟩
theorem RStep.refl (r : Nat) (v : Value) (w : World) : RStep r v v w w := ⟨rfl, rfl, rfl, Nat.le_refl _, fun _ h => .inl h, fun _ _ _ _ => rfl⟩
theorem RStep.trans (h : RStep r v v' w w') (h2 : RStep r v' v'' w' w'') : RStep r v v'' w w'' :=
  ⟨h2.os.trans h.os, h2.tape.trans h.tape, h2.output.trans h.output, Nat.le_trans h.size h2.size, fun k hk => (h2.own k hk).elim (h.own k) fun h3 => .inr (Nat.le_trans h.size h3),
    fun k hk hr hv => (h2.block k (Nat.lt_of_lt_of_le hk h.size) hr fun e => (h.own k e).elim hv fun h3 => by omega).trans (h.block k hk hr hv)⟩
theorem setCell_else (w : World) (b o : Nat) (u : Value) {k : Nat} (hk : k ≠ b) : (w.setCell ⟨b, o, none⟩ u).heap[k]? = w.heap[k]? := by simp [World.setCell, Array.getElem?_modify, Ne.symm hk]
/-- A field of a key is set. -/
theorem RefAt.keySet {g m c : Nat} (h : RefAt B w r (.slice (some ⟨g, 0, none⟩) m c) R) (hi : R.ks[i]? = some x) (j : Nat) (hj : j < 4) (u : Value) (y : RK) (hy : x.cells.set j u = y.cells) :
    RefAt B (w.setCell ⟨g, i * 4 + j, none⟩ u) r (.slice (some ⟨g, 0, none⟩) m c) { R with ks := R.ks.set i y } ∧ RStep r (.slice (some ⟨g, 0, none⟩) m c) (.slice (some ⟨g, 0, none⟩) m c) w (w.setCell ⟨g, i * 4 + j, none⟩ u) := by
  obtain ⟨h1, h2⟩ := h.kr.set hi j hj u y hy
  have hgr : g ≠ r := fun e => h.vr (by rw [e]; rfl)
  refine ⟨⟨h.row.other _ _ hgr, h1, h.vr, h.br⟩, h2.os, h2.tape, h2.output, h2.size, fun k hk => .inl hk, fun k _ _ hv => setCell_else w g _ u fun e => hv (by rw [e]; rfl)⟩
/-- Its clock goes on. -/
theorem RefAt.tick (h : RefAt B w r v R) (c : Nat) : RefAt B (w.setCell ⟨r, 3, none⟩ (.int .i64 (c : Int))) r v { R with clock := c } ∧ RStep r v v w (w.setCell ⟨r, 3, none⟩ (.int .i64 (c : Int))) :=
  ⟨⟨h.row.set 3 _, h.kr.same fun k hk => setCell_else w r _ _ fun e => h.vr (by rw [hk, e]), h.vr, h.br⟩, rfl, rfl, rfl, by simp [World.setCell], fun k hk => .inl hk, fun k _ hr _ => setCell_else w r _ _ hr⟩
theorem RefAt.drew (h : RefAt B w r v R) : RefAt B w.drew r v R := h.keep rfl fun _ _ => rfl
theorem Rel.find (hrel : Rel T R P D) {k q : Int} (h : IsFind R.ks k q) : (q = -1 ∧ T.has k = false) ∨ ∃ (i : Nat) (x : RK), q = (i : Int) ∧ R.ks[i]? = some x ∧ x.n = k ∧ T.has k = true ∧ T.dear.contains k = x.dear := by
  rcases h with ⟨h1, h2⟩ | ⟨i, x, h1, h2, h3⟩
  · exact .inl ⟨h1, hrel.gone h2⟩
  · exact .inr ⟨i, x, h1, h2, h3, hrel.there h2 h3⟩
theorem Rel.len64 (hrel : Rel T R P D) (hg : Good T) : R.ks.length ≤ 64 := by
  have h1 := hg.len
  have h2 := hg.m64
  rw [hrel.len]; omega
theorem RPin_any (k : Int) (on : Bool) (w : World) (h : RefAt B w r v R) (hrel : Rel T R P D) (hg : Good T) (hn : T.pins.Nodup) :
    Calls Try.prog 17 #[pt r, .int .i64 k, .bool on] w fun e w' => e = .returned (.bool (T.has k)) ∧ ∃ R' P' D', RefAt B w' r v R' ∧ Rel (T.pinT k on) R' P' D' ∧ RStep r v v w w' ∧ R'.clock = R.clock := by
  have hl := hrel.len64 hg
  have hF := Find_any k w h (by omega)
  have HR := Lib.hid (And.intro h (And.intro hrel hn))
  clear h hrel hg hn
  go_enter Try.func17, Try.ntmps17
  go_wp2_with fail
  refine hF.mono ?_
  rintro e w' ⟨⟨q, rfl, hq⟩, rfl⟩
  rcases HR.out.2.1.find hq with ⟨rfl, hh⟩ | ⟨i, x, rfl, hi, he, hh, hd⟩
  · have HH := Lib.hid hh
    clear hF hq hh
    go_wp2_with fail
    go_returns
    refine ⟨by rw [HH.out]; rfl, R, P, D, HR.out.1, ?_, RStep.refl _ _ _, rfl⟩
    unfold TS.pinT
    rw [HH.out]
    exact HR.out.2.1
  · obtain ⟨c0, c1, c2, c3, cz⟩ := HR.out.1.row.four
    have hrl := HR.out.1.row.lt
    obtain ⟨g, c, rfl, hBg, hgl, d0, d1, d2, d3, dz⟩ := HR.out.1.kr.at hi
    have hil : i < R.ks.length := (List.getElem?_eq_some_iff.1 hi).1
    have HI := Lib.hid (And.intro hi (And.intro he (And.intro hh hd)))
    obtain ⟨m, hm⟩ : ∃ m, m = R.ks.length := ⟨_, rfl⟩
    rw [← hm] at c2 hl hil
    have HM := Lib.hid hm
    clear hF hq hh hi he hd hBg d0 d1 d3 hm
    go_wp2_with fail
    go_returns
    obtain ⟨N1, N2⟩ := HR.out.1.keySet HI.out.1 2 (by omega) (.bool on) { x with pin := on } rfl
    obtain ⟨P', D', N3⟩ := HR.out.2.1.pinned HR.out.2.2 HI.out.1 HI.out.2.1 on
    exact ⟨by rw [HI.out.2.2.1]; rfl, _, P', D', N1, N3, N2, rfl⟩
end Go.Proofs.Ytfbcgnehpkffeaa
