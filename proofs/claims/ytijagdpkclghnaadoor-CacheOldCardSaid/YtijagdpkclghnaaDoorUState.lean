/- A turn: what it is, where it lies, what a call may touch of it. -/
import Derived.Test.YtijagdpkclghnaaDoorUShelf
import Derived.Test.YtijagdpkclghnaaDoorExt3
import Derived.Maps.AppendAt
namespace Go.Proofs.YtijagdpkclghnaaDoor
open Go Go.RowKit
/-- A turn's sizes, its plain and its dear keys in order, the pinned ones. -/
structure TS where
  most : Nat
  limit : Nat
  plain : List Int
  dear : List Int
  pins : List Int
/-- Where it lies: its block, its map's, its two rows. -/
structure TM where
  g : Nat
  m : Nat
  v1 : Value
  v2 : Value
def TM.foot (M : TM) (k : Nat) : Prop := k = M.g ∨ k = M.m ∨ M.v1.ownBlock = some k ∨ M.v2.ownBlock = some k
abbrev tT : TypeId := 101
abbrev TM.cells (M : TM) (T : TS) : List Value := [.int .i64 (T.most : Int), .int .i64 (T.limit : Int), M.v1, M.v2, .map (some M.m)]
/-- It lies so, no block below B, its map of at most n entries. -/
structure TurnAt (B n : Nat) (w : World) (M : TM) (T : TS) : Prop where
  row : w.row M.g (M.cells T) tT
  o1 : w.irow B tI M.v1 T.plain
  o2 : w.irow B tI M.v2 T.dear
  pm : w.bmap Tryd.prog tI 4 M.m n T.pins
  gm : M.m ≠ M.g
  g1 : M.v1.ownBlock ≠ some M.g
  g2 : M.v2.ownBlock ≠ some M.g
  m1 : M.v1.ownBlock ≠ some M.m
  m2 : M.v2.ownBlock ≠ some M.m
  d12 : M.v1.ownBlock = none ∨ M.v1.ownBlock ≠ M.v2.ownBlock
  bg : B ≤ M.g
  bm : B ≤ M.m
/-- Its sizes are good, it keeps them; its keys are there once. -/
structure Good (T : TS) : Prop where
  m1 : 1 ≤ T.most
  m64 : T.most ≤ 64
  lim : T.limit < T.most
  len : T.plain.length + T.dear.length ≤ T.most
  dlen : T.dear.length ≤ T.limit
  nodup : (T.plain ++ T.dear).Nodup
  in64 : ∀ k ∈ T.plain ++ T.dear, In64 k
/-- What a call on it leaves. -/
structure Step (M M' : TM) (w w' : World) : Prop where
  g : M'.g = M.g
  m : M'.m = M.m
  os : w'.os = w.os
  tape : w'.tape = w.tape
  output : w'.output = w.output
  size : w.heap.size ≤ w'.heap.size
  foot : ∀ k, M'.foot k → M.foot k ∨ w.heap.size ≤ k
  block : ∀ k, k < w.heap.size → ¬ M.foot k → w'.heap[k]? = w.heap[k]?
variable {B n : Nat} {w w' w'' : World} {M M' M'' : TM} {T T' : TS}
theorem Step.refl (M : TM) (w : World) : Step M M w w := ⟨rfl, rfl, rfl, rfl, rfl, Nat.le_refl _, fun _ h => .inl h, fun _ _ _ => rfl⟩
theorem Step.trans (h : Step M M' w w') (h2 : Step M' M'' w' w'') : Step M M'' w w'' :=
  ⟨h2.g.trans h.g, h2.m.trans h.m, h2.os.trans h.os, h2.tape.trans h.tape, h2.output.trans h.output, Nat.le_trans h.size h2.size,
    fun k hk => (h2.foot k hk).elim (h.foot k) fun h3 => .inr (Nat.le_trans h.size h3),
    fun k hk hn => (h2.block k (Nat.lt_of_lt_of_le hk h.size) fun h3 => (h.foot k h3).elim hn (fun h4 => by omega)).trans (h.block k hk hn)⟩
theorem Step.of_below (M : TM) (h : Below w.heap.size w w') : Step M M w w' := ⟨rfl, rfl, h.os, h.tape, h.output, h.size, fun _ h => .inl h, fun k hk _ => h.block k hk⟩
theorem TurnAt.lts (h : TurnAt B n w M T) (k : Nat) (hk : M.foot k) : B ≤ k ∧ k < w.heap.size := by
  rcases hk with rfl | rfl | hk | hk
  · exact ⟨h.bg, h.row.lt⟩
  · exact ⟨h.bm, h.pm.lt⟩
  · exact h.o1.lt k hk
  · exact h.o2.lt k hk
theorem irow_same {xs : List Int} {v : Value} (h : w.irow B tI v xs) (hb : ∀ k, v.ownBlock = some k → w'.heap[k]? = w.heap[k]?) : w'.irow B tI v xs := by
  obtain ⟨hl, h⟩ := h
  refine ⟨hl, ?_⟩
  rcases h with h | ⟨g, cap, cur, hv, hB, hh, r⟩
  · exact .inl h
  · exact .inr ⟨g, cap, cur, hv, hB, (hb g (by rw [hv]; rfl)).trans hh, r⟩
theorem TurnAt.below' (h : TurnAt B n w M T) (hb : Below w.heap.size w w') : TurnAt B n w' M T :=
  ⟨h.row.below hb h.row.lt, irow_same h.o1 fun k hk => hb.block k (h.o1.lt k hk).2, irow_same h.o2 fun k hk => hb.block k (h.o2.lt k hk).2, h.pm.same (hb.block _ h.pm.lt), h.gm, h.g1, h.g2, h.m1, h.m2, h.d12, h.bg, h.bm⟩
theorem TurnAt.mono {m : Nat} (h : TurnAt B n w M T) (hm : n ≤ m) : TurnAt B m w M T := ⟨h.row, h.o1, h.o2, h.pm.mono hm, h.gm, h.g1, h.g2, h.m1, h.m2, h.d12, h.bg, h.bm⟩
/-- All below the turn is as it was. -/
theorem Step.under (h : Step M M' w w') (hT : TurnAt B n w M T) (hB : B ≤ w.heap.size) {u : World} (hu : Below B u w) : Below B u w' :=
  hu.trans ⟨h.os, h.tape, h.output, h.size, fun k hk => h.block k (Nat.lt_of_lt_of_le hk hB) fun hf => by have := (hT.lts k hf).1; omega⟩
theorem TurnAt.le (h : TurnAt B n w M T) : B ≤ w.heap.size := Nat.le_trans h.bg (Nat.le_of_lt h.row.lt)
/-- What is no part of the turn stays. -/
theorem Step.row (h : Step M M' w w') {b : Nat} {cs : List Value} {t : TypeId} (hr : w.row b cs t) (hn : ¬ M.foot b) : w'.row b cs t := by
  have hl := World.row.lt hr
  unfold World.row at *; rw [h.block b hl hn]; exact hr
theorem Step.cell (h : Step M M' w w') {p : Addr} {v : Value} (hc : w.cell? p = some v) (hn : ¬ M.foot p.block) : w'.cell? p = some v := by
  have e := h.block p.block (block_lt_of_cell hc) hn
  unfold World.cell? at *
  rw [e]; exact hc
theorem Step.out (h : Step M M' w w') {b : Nat} (hb : b < w.heap.size) (hn : ¬ M.foot b) : ¬ M'.foot b := fun hf => (h.foot b hf).elim hn (fun h2 => by omega)
/-- The cells of a turn, for the walk. -/
theorem TurnAt.five (h : TurnAt B n w M T) : w.cell? ⟨M.g, 0, none⟩ = some (.int .i64 (T.most : Int)) ∧ w.cell? ⟨M.g, 1, none⟩ = some (.int .i64 (T.limit : Int)) ∧ w.cell? ⟨M.g, 2, none⟩ = some M.v1 ∧ w.cell? ⟨M.g, 3, none⟩ = some M.v2 ∧ w.cell? ⟨M.g, 4, none⟩ = some (.map (some M.m)) ∧ (∀ i, w.frozen? ⟨M.g, i, none⟩ = false) :=
  ⟨h.row.cell 0 rfl, h.row.cell 1 rfl, h.row.cell 2 rfl, h.row.cell 3 rfl, h.row.cell 4 rfl, h.row.free⟩
/-- The plain row is another one: it was turned in its block (or laid anew), then its value stored. -/
theorem TurnAt.set1 {w1 : World} {v : Value} {xs : List Int} (h : TurnAt B n w M T) (hg : w.grownBy w1 M.v1.ownBlock) (ho : w1.irow B tI v xs) (hv : v.ownBlock = M.v1.ownBlock ∨ ∃ k, v.ownBlock = some k ∧ w.heap.size ≤ k) :
    TurnAt B n (w1.setCell ⟨M.g, 2, none⟩ v) { M with v1 := v } { T with plain := xs } ∧ Step M { M with v1 := v } w (w1.setCell ⟨M.g, 2, none⟩ v) := by
  have r1 := h.row.grown hg (fun e => h.g1 e.symm)
  have n1 : v.ownBlock ≠ some M.g := by
    rcases hv with e | ⟨k, e, hk⟩
    · rw [e]; exact h.g1
    · rw [e]; intro e2; cases e2; have := h.row.lt; omega
  have n2 : v.ownBlock ≠ some M.m := by
    rcases hv with e | ⟨k, e, hk⟩
    · rw [e]; exact h.m1
    · rw [e]; intro e2; cases e2; have := h.pm.lt; omega
  have n3 : v.ownBlock = none ∨ v.ownBlock ≠ M.v2.ownBlock := by
    rcases hv with e | ⟨k, e, hk⟩
    · rw [e]; exact h.d12
    · right; rw [e]; intro e2; have := (h.o2.lt k e2.symm).2; omega
  have hs : ∀ k, k ≠ M.g → (w1.setCell ⟨M.g, 2, none⟩ v).heap[k]? = w1.heap[k]? := fun k hk => by simp [World.setCell, Array.getElem?_modify, Ne.symm hk]
  have h2 : ∀ k, M.v2.ownBlock = some k → some k ≠ M.v1.ownBlock := fun k hk e => h.d12.elim (fun e2 => by rw [e2] at e; cases e) fun e2 => e2 (e.symm.trans hk.symm)
  refine ⟨⟨r1.set 2 v, irow_same ho fun k hk => hs k (fun e => n1 (by rw [hk, e])), irow_same h.o2 fun k hk => ?_, h.pm.same ?_, h.gm, n1, h.g2, n2, h.m2, n3, h.bg, h.bm⟩, ⟨rfl, rfl, hg.os, hg.tape, hg.output, by simp [World.setCell]; exact hg.size, fun k hk => ?_, fun k hk hn => ?_⟩⟩
  · rw [hs k (fun e => h.g2 (by rw [hk, e]))]
    exact hg.block k (h.o2.lt k hk).2 (h2 k hk)
  · rw [hs _ h.gm]
    exact hg.block _ h.pm.lt (fun e => h.m1 e.symm)
  · rcases hk with e | e | e | e
    · exact .inl (.inl e)
    · exact .inl (.inr (.inl e))
    · rcases hv with e2 | ⟨k', e2, hk'⟩
      · exact .inl (.inr (.inr (.inl (e2 ▸ e))))
      · have e3 : v.ownBlock = some k := e
        rw [e2] at e3; cases e3; exact .inr hk'
    · exact .inl (.inr (.inr (.inr e)))
  · rw [hs k (fun e => hn (.inl e))]
    exact hg.block k hk (fun e => hn (.inr (.inr (.inl e.symm))))
theorem TurnAt.set2 {w1 : World} {v : Value} {xs : List Int} (h : TurnAt B n w M T) (hg : w.grownBy w1 M.v2.ownBlock) (ho : w1.irow B tI v xs) (hv : v.ownBlock = M.v2.ownBlock ∨ ∃ k, v.ownBlock = some k ∧ w.heap.size ≤ k) :
    TurnAt B n (w1.setCell ⟨M.g, 3, none⟩ v) { M with v2 := v } { T with dear := xs } ∧ Step M { M with v2 := v } w (w1.setCell ⟨M.g, 3, none⟩ v) := by
  have r1 := h.row.grown hg (fun e => h.g2 e.symm)
  have n1 : v.ownBlock ≠ some M.g := by
    rcases hv with e | ⟨k, e, hk⟩
    · rw [e]; exact h.g2
    · rw [e]; intro e2; cases e2; have := h.row.lt; omega
  have n2 : v.ownBlock ≠ some M.m := by
    rcases hv with e | ⟨k, e, hk⟩
    · rw [e]; exact h.m2
    · rw [e]; intro e2; cases e2; have := h.pm.lt; omega
  have n3 : M.v1.ownBlock = none ∨ M.v1.ownBlock ≠ v.ownBlock := by
    rcases hv with e | ⟨k, e, hk⟩
    · rw [e]; exact h.d12
    · right; rw [e]; intro e2; have := (h.o1.lt k e2).2; omega
  have hs : ∀ k, k ≠ M.g → (w1.setCell ⟨M.g, 3, none⟩ v).heap[k]? = w1.heap[k]? := fun k hk => by simp [World.setCell, Array.getElem?_modify, Ne.symm hk]
  have h2 : ∀ k, M.v1.ownBlock = some k → some k ≠ M.v2.ownBlock := fun k hk e => h.d12.elim (fun e2 => by rw [e2] at hk; cases hk) fun e2 => e2 (hk.trans e)
  refine ⟨⟨r1.set 3 v, irow_same h.o1 fun k hk => ?_, irow_same ho fun k hk => hs k (fun e => n1 (by rw [hk, e])), h.pm.same ?_, h.gm, h.g1, n1, h.m1, n2, n3, h.bg, h.bm⟩, ⟨rfl, rfl, hg.os, hg.tape, hg.output, by simp [World.setCell]; exact hg.size, fun k hk => ?_, fun k hk hn => ?_⟩⟩
  · rw [hs k (fun e => h.g1 (by rw [hk, e]))]
    exact hg.block k (h.o1.lt k hk).2 (h2 k hk)
  · rw [hs _ h.gm]
    exact hg.block _ h.pm.lt (fun e => h.m2 e.symm)
  · rcases hk with e | e | e | e
    · exact .inl (.inl e)
    · exact .inl (.inr (.inl e))
    · exact .inl (.inr (.inr (.inl e)))
    · rcases hv with e2 | ⟨k', e2, hk'⟩
      · exact .inl (.inr (.inr (.inr (e2 ▸ e))))
      · have e3 : v.ownBlock = some k := e
        rw [e2] at e3; cases e3; exact .inr hk'
  · rw [hs k (fun e => hn (.inl e))]
    exact hg.block k hk (fun e => hn (.inr (.inr (.inr e.symm))))
/-- Its map has turned. -/
theorem TurnAt.setM {w1 : World} {m : Nat} {L : List Int} (h : TurnAt B n w M T) (hg : w.grownBy w1 (some M.m)) (hp : w1.bmap Tryd.prog tI 4 M.m m L) :
    TurnAt B m w1 M { T with pins := L } ∧ Step M M w w1 := by
  refine ⟨⟨h.row.grown hg (fun e => h.gm (Option.some.inj e).symm), irow_same h.o1 fun k hk => hg.block k (h.o1.lt k hk).2 (fun e => h.m1 (by rw [hk, e])), irow_same h.o2 fun k hk => hg.block k (h.o2.lt k hk).2 (fun e => h.m2 (by rw [hk, e])), hp, h.gm, h.g1, h.g2, h.m1, h.m2, h.d12, h.bg, h.bm⟩, ⟨rfl, rfl, hg.os, hg.tape, hg.output, hg.size, fun k hk => .inl hk, fun k hk hn => hg.block k hk (fun e => hn (.inr (.inl (Option.some.inj e))))⟩⟩
end Go.Proofs.YtijagdpkclghnaaDoor
