/- TurnPlays: both turns at once, in memory. -/
import Derived.Test.YtfbcgnehpkffeaaUNil
import Derived.Test.YtfbcgnehpkffeaaULawUsed
namespace Go.Proofs.Ytfbcgnehpkffeaa
open Go Go.RowKit
variable {B n r : Nat} {w w' w0 : World} {M M' : TM} {T T' : TS} {v v' : Value} {R R' : RS} {P D : List RK}
theorem TurnAt.keepB (h : TurnAt B n w M T) (hb : ∀ k, M.foot k → w'.heap[k]? = w.heap[k]?) : TurnAt B n w' M T :=
  ⟨by have h1 := h.row; unfold World.row at *; rw [hb _ (.inl rfl)]; exact h1, irow_same h.o1 fun k hk => hb k (.inr (.inr (.inl hk))), irow_same h.o2 fun k hk => hb k (.inr (.inr (.inr hk))), h.pm.same (hb _ (.inr (.inl rfl))), h.gm, h.g1, h.g2, h.m1, h.m2, h.d12, h.bg, h.bm⟩
/-- The turn's blocks are none of the document's. -/
def Apart (M : TM) (r : Nat) (v : Value) : Prop := ∀ k, M.foot k → k ≠ r ∧ v.ownBlock ≠ some k
/-- A call on the turn leaves the document's alone. -/
theorem step_ref (hR : RefAt B w r v R) (ha : Apart M r v) (st : Step M M' w w') : RefAt B w' r v R ∧ Apart M' r v := by
  have hrl := hR.row.lt
  refine ⟨hR.keep (st.block r hrl fun hf => (ha r hf).1 rfl) fun k hk => st.block k (hR.kr.lt k hk).2 fun hf => (ha k hf).2 hk, fun k hk => ?_⟩
  rcases st.foot k hk with h | h
  · exact ha k h
  · exact ⟨by omega, fun e => by have := (hR.kr.lt k e).2; omega⟩
/-- A call on the document's leaves the turn alone. -/
theorem rstep_turn (hT : TurnAt B n w M T) (ha : Apart M r v) (st : RStep r v v' w w') : TurnAt B n w' M T ∧ Apart M r v' := by
  refine ⟨hT.keepB fun k hk => st.block k (hT.lts k hk).2 (ha k hk).1 (ha k hk).2, fun k hk => ⟨(ha k hk).1, fun e => ?_⟩⟩
  rcases st.own k e with h | h
  · exact (ha k hk).2 h
  · have := (hT.lts k hk).2; omega
theorem RStep.under {C : Nat} (st : RStep r v v' w w') (hC : C ≤ w.heap.size) (hr : C ≤ r) (hv : ∀ k, v.ownBlock = some k → C ≤ k) (hu : Below C w0 w) : Below C w0 w' :=
  hu.trans ⟨st.os, st.tape, st.output, st.size, fun k hk => st.block k (Nat.lt_of_lt_of_le hk hC) (by omega) fun e => by have := hv k e; omega⟩
/-- The state of a play. -/
structure PlayAt (w0 : World) (n clk g r : Nat) (w : World) (M : TM) (T : TS) (v : Value) (R : RS) (P D : List RK) : Prop where
  t : TurnAt w0.heap.size n w M T
  good : Good T
  g : M.g = g
  ref : RefAt w0.heap.size w r v R
  rel : Rel T R P D
  clk : R.clock ≤ clk
  ap : Apart M r v
  b : Below w0.heap.size w0 w
variable {clk g : Nat}
theorem PlayAt.below (h : PlayAt w0 n clk g r w M T v R P D) (hb : Below w.heap.size w w') : PlayAt w0 n clk g r w' M T v R P D :=
  ⟨h.t.below' hb, h.good, h.g, h.ref.below hb, h.rel, h.clk, h.ap, h.b.trans (hb.mono h.b.size)⟩
theorem PlayAt.out (h : PlayAt w0 n clk g r w M T v R P D) {k : Nat} (hk : w.heap.size ≤ k) : ¬ M.foot k ∧ k ≠ r ∧ v.ownBlock ≠ some k :=
  ⟨fun hf => by have := (h.t.lts k hf).2; omega, fun e => by have := h.ref.row.lt; omega, fun e => by have := (h.ref.kr.lt k e).2; omega⟩
/-- Behind both calls. -/
theorem PlayAt.step (h : PlayAt w0 n clk g r w M T v R P D) {n' clk' : Nat} {w1 w2 : World} {P' D' : List RK} (hT : TurnAt w0.heap.size n' w1 M' T') (st : Step M M' w w1) (hg : Good T') (hR : RefAt w0.heap.size w2 r v' R') (hrel : Rel T' R' P' D') (rs : RStep r v v' w1 w2) (hc : R'.clock ≤ clk') :
    PlayAt w0 n' clk' g r w2 M' T' v' R' P' D' := by
  obtain ⟨h1, h2⟩ := step_ref h.ref h.ap st
  obtain ⟨h3, h4⟩ := rstep_turn hT h2 rs
  exact ⟨h3, hg, st.g.trans h.g, hR, hrel, hc, h4, rs.under (Nat.le_trans h.t.le st.size) h.ref.br (fun k hk => (h.ref.kr.lt k hk).1) (st.under h.t h.t.le h.b)⟩
/-- A block that is none of both stays. -/
theorem PlayAt.stay (_h : PlayAt w0 n clk g r w M T v R P D) {w1 w2 : World} {k : Nat} (hk : k < w.heap.size) (ho : ¬ M.foot k ∧ k ≠ r ∧ v.ownBlock ≠ some k) (st : Step M M' w w1) (rs : RStep r v v' w1 w2) : w1.heap[k]? = w.heap[k]? ∧ w2.heap[k]? = w.heap[k]? := by
  have h1 := st.block k hk ho.1
  exact ⟨h1, (rs.block k (Nat.lt_of_lt_of_le hk st.size) ho.2.1 ho.2.2).trans h1⟩
theorem PlayAt.mono (h : PlayAt w0 n clk g r w M T v R P D) {n' clk' : Nat} (h1 : n ≤ n') (h2 : clk ≤ clk') : PlayAt w0 n' clk' g r w M T v R P D := ⟨h.t.mono h1, h.good, h.g, h.ref, h.rel, Nat.le_trans h.clk h2, h.ap, h.b⟩
theorem row_same {b : Nat} {cs : List Value} {t : TypeId} (h : w.row b cs t) (e : w'.heap[b]? = w.heap[b]?) : w'.row b cs t := by unfold World.row at *; rw [e]; exact h
theorem Good.victim64 (h : Good T) : In64 (T.victim.getD 0) := by
  cases e : T.victim with
  | none => exact ⟨by simp, by simp⟩
  | some k => exact h.in64 k (victim_free e).1
theorem RDrop_rel (k : Int) (w : World) (h : RefAt B w r v R) (hrel : Rel T R P D) (hg : Good T) (hn : T.pins.Nodup) (hB : B ≤ w.heap.size) :
    Calls Try.prog 18 #[pt r, .int .i64 k] w fun e w' => e = .returned (.bool (T.has k)) ∧ ∃ v' R' P' D', RefAt B w' r v' R' ∧ Rel (T.dropT k) R' P' D' ∧ RStep r v v' w w' ∧ R'.clock = R.clock := by
  refine (RDrop_any k w h (by have := hrel.len64 hg; omega) hB).mono ?_
  rintro e w' ⟨z, rfl, hd⟩
  rcases hd with ⟨rfl, hno, rfl⟩ | ⟨rfl, i, x, v', hi, he, hR, hS⟩
  · have hh := hrel.gone hno
    exact ⟨by rw [hh], v, R, P, D, h, by rw [hrel.drop_none hh]; exact hrel, RStep.refl _ _ _, rfl⟩
  · have hh := (hrel.there hi he).1
    obtain ⟨P', D', h2⟩ := hrel.dropped hg hn hi he
    exact ⟨by rw [hh], v', _, P', D', hR, h2, hS, rfl⟩
end Go.Proofs.Ytfbcgnehpkffeaa
