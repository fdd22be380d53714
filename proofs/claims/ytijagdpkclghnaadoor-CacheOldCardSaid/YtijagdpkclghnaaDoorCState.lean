/- A cache: what it is, where it lies, what a call may touch of it. -/
import Derived.Test.YtijagdpkclghnaaDoorCMap
import Derived.Test.YtijagdpkclghnaaDoorUConcat
import Derived.Test.YtijagdpkclghnaaDoorUTouch
import Derived.Test.YtijagdpkclghnaaDoorMList
namespace Go.Proofs.YtijagdpkclghnaaDoor
open Go Go.RowKit
set_option maxRecDepth 100000
/-- A stripe: its block, those of its bytes, now and old; which columns; which are dirty. -/
structure Ent where
  g : Nat
  b1 : Nat
  b2 : Nat
  nt : Set4
  ot : Set4
  dt : Set4
  nb : List ByteArray
  ob : List ByteArray
def Ent.foot (E : Ent) (k : Nat) : Prop := k = E.g ∨ k = E.b1 ∨ k = E.b2
abbrev tE : TypeId := 68
abbrev tC : TypeId := 56
abbrev tStr : TypeId := 9
abbrev slV (b n : Nat) : Value := .slice (some ⟨b, 0, none⟩) n n
abbrev Ent.cells (E : Ent) (data : Nat) : List Value := [.int .u64 (E.nt.a : Int), .int .u64 (E.nt.b : Int), .int .u64 (E.nt.c : Int), .int .u64 (E.nt.d : Int), slV E.b1 data,
  .int .u64 (E.ot.a : Int), .int .u64 (E.ot.b : Int), .int .u64 (E.ot.c : Int), .int .u64 (E.ot.d : Int), slV E.b2 data, .int .u64 (E.dt.a : Int), .int .u64 (E.dt.b : Int), .int .u64 (E.dt.c : Int), .int .u64 (E.dt.d : Int)]
structure EntAt (B data : Nat) (w : World) (E : Ent) : Prop where
  row : w.row E.g (E.cells data) tE
  r1 : w.row E.b1 (E.nb.map Value.string) tStr
  r2 : w.row E.b2 (E.ob.map Value.string) tStr
  g1 : E.g ≠ E.b1
  g2 : E.g ≠ E.b2
  b12 : E.b1 ≠ E.b2
  bg : B ≤ E.g
  bb1 : B ≤ E.b1
  bb2 : B ≤ E.b2
  l1 : E.nb.length = data
  l2 : E.ob.length = data
  i1 : ∀ i, E.nt.has i = true → i < data
  i2 : ∀ i, E.ot.has i = true → i < data
/-- Where a cache lies: its block, its map's, its turn. -/
structure CM where
  g : Nat
  m : Nat
  M : TM
def CM.foot (C : CM) (f : Int → Option Ent) (k : Nat) : Prop := k = C.g ∨ k = C.m ∨ C.M.foot k ∨ ∃ i E, f i = some E ∧ E.foot k
abbrev CM.cells (C : CM) (data : Nat) : List Value := [.pointer (some ⟨C.M.g, 0, none⟩), .int .i64 (data : Int), .map (some C.m)]
structure CacheAt (B n data : Nat) (w : World) (C : CM) (T : TS) (L : List Int) (f : Int → Option Ent) : Prop where
  row : w.row C.g (C.cells data) tC
  turn : TurnAt B n w C.M T
  good : Good T
  map : w.pmap Tryd.prog tI C.m n L (fun k => (f k).map Ent.g)
  ent : ∀ k E, f k = some E → EntAt B data w E
  apart : ∀ k E k' E', f k = some E → f k' = some E' → k ≠ k' → ∀ x, E.foot x → ¬ E'.foot x
  off : ∀ k E, f k = some E → ∀ x, E.foot x → x ≠ C.g ∧ x ≠ C.m ∧ ¬ C.M.foot x
  gm : C.g ≠ C.m
  gM : ¬ C.M.foot C.g
  mM : ¬ C.M.foot C.m
  bg : B ≤ C.g
  bm : B ≤ C.m
  keys : ∀ k, T.has k = L.contains k
  d2 : 2 ≤ data
  d30 : data ≤ 30
/-- What a call on it leaves. -/
structure CStep (C : CM) (f : Int → Option Ent) (C' : CM) (f' : Int → Option Ent) (w w' : World) : Prop where
  g : C'.g = C.g
  os : w'.os = w.os
  tape : w'.tape = w.tape
  output : w'.output = w.output
  size : w.heap.size ≤ w'.heap.size
  foot : ∀ k, C'.foot f' k → C.foot f k ∨ w.heap.size ≤ k
  block : ∀ k, k < w.heap.size → ¬ C.foot f k → w'.heap[k]? = w.heap[k]?
variable {B n data : Nat} {w w' w'' : World} {C C' C'' : CM} {T T' : TS} {L L' : List Int} {f f' f'' : Int → Option Ent} {E E' : Ent} {k : Int}
theorem CStep.refl (C : CM) (f : Int → Option Ent) (w : World) : CStep C f C f w w := ⟨rfl, rfl, rfl, rfl, Nat.le_refl _, fun _ h => .inl h, fun _ _ _ => rfl⟩
theorem CStep.trans (h : CStep C f C' f' w w') (h2 : CStep C' f' C'' f'' w' w'') : CStep C f C'' f'' w w'' :=
  ⟨h2.g.trans h.g, h2.os.trans h.os, h2.tape.trans h.tape, h2.output.trans h.output, Nat.le_trans h.size h2.size,
    fun k hk => (h2.foot k hk).elim (h.foot k) fun h3 => .inr (Nat.le_trans h.size h3),
    fun k hk hn => (h2.block k (Nat.lt_of_lt_of_le hk h.size) fun h3 => (h.foot k h3).elim hn (fun h4 => by omega)).trans (h.block k hk hn)⟩
theorem CStep.of_below (C : CM) (f : Int → Option Ent) (h : Below w.heap.size w w') : CStep C f C f w w' := ⟨rfl, h.os, h.tape, h.output, h.size, fun _ h => .inl h, fun k hk _ => h.block k hk⟩
theorem EntAt.lts (h : EntAt B data w E) (k : Nat) (hk : E.foot k) : B ≤ k ∧ k < w.heap.size := by
  rcases hk with rfl | rfl | rfl
  · exact ⟨h.bg, h.row.lt⟩
  · exact ⟨h.bb1, h.r1.lt⟩
  · exact ⟨h.bb2, h.r2.lt⟩
theorem rowSame {b : Nat} {cs : List Value} {t : TypeId} (h : w.row b cs t) (e : w'.heap[b]? = w.heap[b]?) : w'.row b cs t := by unfold World.row at *; rw [e]; exact h
theorem EntAt.same (h : EntAt B data w E) (hb : ∀ k, E.foot k → w'.heap[k]? = w.heap[k]?) : EntAt B data w' E :=
  ⟨rowSame h.row (hb _ (.inl rfl)), rowSame h.r1 (hb _ (.inr (.inl rfl))), rowSame h.r2 (hb _ (.inr (.inr rfl))), h.g1, h.g2, h.b12, h.bg, h.bb1, h.bb2, h.l1, h.l2, h.i1, h.i2⟩
theorem EntAt.below (h : EntAt B data w E) (hb : Below w.heap.size w w') : EntAt B data w' E := h.same fun k hk => hb.block k (h.lts k hk).2
theorem CacheAt.lts (h : CacheAt B n data w C T L f) (k : Nat) (hk : C.foot f k) : B ≤ k ∧ k < w.heap.size := by
  rcases hk with rfl | rfl | hk | ⟨i, E, hE, hk⟩
  · exact ⟨h.bg, h.row.lt⟩
  · exact ⟨h.bm, h.map.lt⟩
  · exact h.turn.lts k hk
  · exact (h.ent i E hE).lts k hk
theorem CacheAt.below (h : CacheAt B n data w C T L f) (hb : Below w.heap.size w w') : CacheAt B n data w' C T L f :=
  ⟨h.row.below hb h.row.lt, h.turn.below' hb, h.good, h.map.same (hb.block _ h.map.lt), fun k E hE => (h.ent k E hE).below hb, h.apart, h.off, h.gm, h.gM, h.mM, h.bg, h.bm, h.keys, h.d2, h.d30⟩
theorem CacheAt.mono {m : Nat} (h : CacheAt B n data w C T L f) (hm : n ≤ m) : CacheAt B m data w C T L f :=
  ⟨h.row, h.turn.mono hm, h.good, h.map.mono hm, h.ent, h.apart, h.off, h.gm, h.gM, h.mM, h.bg, h.bm, h.keys, h.d2, h.d30⟩
/-- All below the cache is as it was. -/
theorem CStep.under (h : CStep C f C' f' w w') (hT : CacheAt B n data w C T L f) {u : World} (hu : Below B u w) : Below B u w' :=
  hu.trans ⟨h.os, h.tape, h.output, h.size, fun k hk => h.block k (Nat.lt_of_lt_of_le hk (Nat.le_trans hT.bg (Nat.le_of_lt hT.row.lt))) fun hf => by have := (hT.lts k hf).1; omega⟩
/-- Its turn was turned. -/
theorem CacheAt.turned {M' : TM} {m : Nat} (h : CacheAt B n data w C T L f) (hs : Step C.M M' w w') (ht : TurnAt B m w' M' T') (hn : n ≤ m) (hg : Good T') (hk : ∀ k, T'.has k = T.has k) :
    CacheAt B m data w' { C with M := M' } T' L f ∧ CStep C f { C with M := M' } f w w' := by
  have hoff : ∀ x, x < w.heap.size → ¬ C.M.foot x → ¬ M'.foot x := fun x hx hn => Step.out hs hx hn
  refine ⟨⟨?_, ht, hg, (h.map.same (hs.block _ h.map.lt h.mM)).mono hn, fun k E hE => (h.ent k E hE).same fun x hx => hs.block x ((h.ent k E hE).lts x hx).2 (h.off k E hE x hx).2.2, h.apart, fun k E hE x hx => ?_, h.gm, hoff _ h.row.lt h.gM, hoff _ h.map.lt h.mM, h.bg, h.bm, fun k => (hk k).trans (h.keys k), h.d2, h.d30⟩, ?_⟩
  · have := hs.row h.row h.gM
    show w'.row C.g [.pointer (some ⟨M'.g, 0, none⟩), _, _] tC
    rw [hs.g]; exact this
  · exact ⟨(h.off k E hE x hx).1, (h.off k E hE x hx).2.1, hoff x ((h.ent k E hE).lts x hx).2 (h.off k E hE x hx).2.2⟩
  · refine ⟨rfl, hs.os, hs.tape, hs.output, hs.size, fun x hx => ?_, fun x hx hn => hs.block x hx fun hf => hn (.inr (.inr (.inl hf)))⟩
    rcases hx with hx | hx | hx | hx
    · exact .inl (.inl hx)
    · exact .inl (.inr (.inl hx))
    · rcases hs.foot x hx with h1 | h1
      · exact .inl (.inr (.inr (.inl h1)))
      · exact .inr h1
    · exact .inl (.inr (.inr (.inr hx)))
def upd (f : Int → Option Ent) (k : Int) (E : Option Ent) (j : Int) : Option Ent := if j = k then E else f j
theorem upd_same (f : Int → Option Ent) (k : Int) (E : Option Ent) : upd f k E k = E := by unfold upd; rw [if_pos rfl]
theorem upd_other (f : Int → Option Ent) {k j : Int} (E : Option Ent) (h : j ≠ k) : upd f k E j = f j := by unfold upd; rw [if_neg h]
/-- One stripe was turned in its blocks. -/
theorem CacheAt.entPut (h : CacheAt B n data w C T L f) (hf : f k = some E) (hg : E'.g = E.g) (h1 : E'.b1 = E.b1) (h2 : E'.b2 = E.b2) (hE : EntAt B data w' E') (hos : w'.os = w.os) (htape : w'.tape = w.tape) (hout : w'.output = w.output)
    (hsz : w.heap.size ≤ w'.heap.size) (hb : ∀ x, x < w.heap.size → ¬ E.foot x → w'.heap[x]? = w.heap[x]?) : CacheAt B n data w' C T L (upd f k (some E')) ∧ CStep C f C (upd f k (some E')) w w' := by
  have hfoot : ∀ x, E'.foot x ↔ E.foot x := fun x => by unfold Ent.foot; rw [hg, h1, h2]
  have hoff := h.off k E hf
  have hmap : (fun j => (upd f k (some E') j).map Ent.g) = fun j => (f j).map Ent.g := by
    funext j
    by_cases e : j = k
    · subst e; rw [upd_same, hf]; simp [hg]
    · rw [upd_other f _ e]
  have keep : ∀ x, x < w.heap.size → ¬ E.foot x → w'.heap[x]? = w.heap[x]? := hb
  refine ⟨⟨rowSame h.row (keep _ h.row.lt fun hx => (hoff _ hx).1 rfl), ?_, h.good, ?_, fun j F hF => ?_, fun j F j' F' hF hF' hne x hx => ?_, fun j F hF x hx => ?_, h.gm, h.gM, h.mM, h.bg, h.bm, h.keys, h.d2, h.d30⟩, ?_⟩
  · exact ⟨rowSame h.turn.row (keep _ h.turn.row.lt fun hx => (hoff _ hx).2.2 (.inl rfl)), irow_same h.turn.o1 fun x hx => keep x (h.turn.o1.lt x hx).2 fun hx2 => (hoff _ hx2).2.2 (.inr (.inr (.inl hx))), irow_same h.turn.o2 fun x hx => keep x (h.turn.o2.lt x hx).2 fun hx2 => (hoff _ hx2).2.2 (.inr (.inr (.inr hx))), h.turn.pm.same (keep _ h.turn.pm.lt fun hx => (hoff _ hx).2.2 (.inr (.inl rfl))), h.turn.gm, h.turn.g1, h.turn.g2, h.turn.m1, h.turn.m2, h.turn.d12, h.turn.bg, h.turn.bm⟩
  · rw [hmap]
    exact h.map.same (keep _ h.map.lt fun hx => (hoff _ hx).2.1 rfl)
  · by_cases e : j = k
    · subst e
      rw [upd_same] at hF
      cases hF
      exact hE
    · rw [upd_other f _ e] at hF
      exact (h.ent j F hF).same fun x hx => keep x ((h.ent j F hF).lts x hx).2 fun hx2 => h.apart j F k E hF hf e x hx hx2
  · by_cases e : j = k
    · subst e
      rw [upd_same] at hF
      cases hF
      rw [upd_other f _ (Ne.symm hne)] at hF'
      exact h.apart j E j' F' hf hF' hne x ((hfoot x).1 hx)
    · rw [upd_other f _ e] at hF
      by_cases e' : j' = k
      · subst e'
        rw [upd_same] at hF'
        cases hF'
        exact fun hx2 => h.apart j F j' E hF hf hne x hx ((hfoot x).1 hx2)
      · rw [upd_other f _ e'] at hF'
        exact h.apart j F j' F' hF hF' hne x hx
  · by_cases e : j = k
    · subst e
      rw [upd_same] at hF
      cases hF
      exact hoff x ((hfoot x).1 hx)
    · rw [upd_other f _ e] at hF
      exact h.off j F hF x hx
  · refine ⟨rfl, hos, htape, hout, hsz, fun x hx => ?_, fun x hx hn => keep x hx fun hx2 => hn (.inr (.inr (.inr ⟨k, E, hf, hx2⟩)))⟩
    rcases hx with hx | hx | hx | ⟨j, F, hF, hx⟩
    · exact .inl (.inl hx)
    · exact .inl (.inr (.inl hx))
    · exact .inl (.inr (.inr (.inl hx)))
    · by_cases e : j = k
      · subst e
        rw [upd_same] at hF
        cases hF
        exact .inl (.inr (.inr (.inr ⟨j, E, hf, (hfoot x).1 hx⟩)))
      · rw [upd_other f _ e] at hF
        exact .inl (.inr (.inr (.inr ⟨j, F, hF, hx⟩)))
/-- The cells of a cache and of a stripe, for the walk. -/
theorem CacheAt.three (h : CacheAt B n data w C T L f) : w.cell? ⟨C.g, 0, none⟩ = some (.pointer (some ⟨C.M.g, 0, none⟩)) ∧ w.cell? ⟨C.g, 1, none⟩ = some (.int .i64 (data : Int)) ∧ w.cell? ⟨C.g, 2, none⟩ = some (.map (some C.m)) :=
  ⟨h.row.cell 0 rfl, h.row.cell 1 rfl, h.row.cell 2 rfl⟩
end Go.Proofs.YtijagdpkclghnaaDoor
