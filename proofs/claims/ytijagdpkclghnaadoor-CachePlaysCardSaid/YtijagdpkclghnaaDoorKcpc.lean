/- Several texts in one: URow UShelf Ext3 UState USpec UGet UDo UTouch UConcat MList CState CGet CShelf. -/
import Derived.Test.YtijagdpkclghnaaDoorKcpb
import Derived.Shelf.SlicesG.Delete
import Derived.Laws.OwnMore
import Derived.Shelf.SlGeneric
import Derived.Ground.SlgnProg
import Derived.Shelf.SlicesG.Turned
import Derived.Test.YtijagdpkclghnaaDoorRows
import Derived.Test.YtijagdpkclghnaaDoorProg
import Derived.Handy
import Derived.Lib.Hide
import Derived.Maps.AppendAt
import Derived.Deep.DeepCutAuto
import Derived.Deep.LoopGhost
import Derived.Deep.RegionHeld3
import Derived.Deep.RegionLaw
import Derived.Deep.AppendLies
import Derived.Shelf.Spec.SlicesGrow
import Derived.Ground.Names8Prog
/- Owned rows of integers: laws of my own, no program in them. -/
namespace Go
open Go.RowKit Go.Sort
def ints (l : List Int) : List Value := l.map (Value.int .i64)
theorem ints_len (l : List Int) : (ints l).length = l.length := by simp [ints]
theorem ints_get (l : List Int) (j : Nat) {x : Int} (h : l[j]? = some x) : (ints l)[j]? = some (.int .i64 x) := by simp [ints, h]
theorem ints_append (a b : List Int) : ints (a ++ b) = ints a ++ ints b := by simp [ints]
/-- The row of integers xs that v owns, no block of it below B. -/
def World.irow (w : World) (B : Nat) (e : TypeId) (v : Value) (xs : List Int) : Prop := w.ownsRow B e 1 v xs.length (ints xs)
variable {w w' : World} {B : Nat} {e : TypeId} {v : Value} {xs : List Int}
theorem World.irow.form (h : w.irow B e v xs) : (v = .slice none 0 0 ∧ xs = []) ∨ ∃ g cap, v = .slice (some ⟨g, 0, none⟩) xs.length cap ∧ B ≤ g ∧ g < w.heap.size ∧ xs.length ≤ cap ∧ cap ≤ maxLen ∧ ∀ j x, xs[j]? = some x → w.cell? ⟨g, j, none⟩ = some (.int .i64 x) := by
  have hlt := h.lt
  obtain ⟨hl, h⟩ := h
  rcases h with ⟨h1, h2⟩ | ⟨g, cap, cur, hv, hB, hh, h1, h2, hs, ht⟩
  · exact .inl ⟨h1, List.length_eq_zero_iff.1 h2⟩
  · refine .inr ⟨g, cap, hv, hB, (hlt g (by rw [hv]; rfl)).2, h1, h2, fun j x hj => ?_⟩
    have h3 : cur[j]? = some (.int .i64 x) := by
      have h4 := ints_get xs j hj
      rw [← ht] at h4
      rw [List.getElem?_take] at h4
      split at h4
      · simpa using h4
      · cases h4
    simp [World.cell?, hh, h3]
theorem World.irow.cellD {g n cap : Nat} (h : w.irow B e (.slice (some ⟨g, 0, none⟩) n cap) xs) : n = xs.length ∧ n ≤ cap ∧ cap ≤ maxLen ∧ B ≤ g ∧ g < w.heap.size ∧ (∀ j, j < xs.length → w.cell? ⟨g, 0 + j, none⟩ = some (.int .i64 (xs.getD j 0))) ∧ ∀ j, w.frozen? ⟨g, j, none⟩ = false := by
  have h0 := h
  rcases h.form with ⟨h1, _⟩ | ⟨g', cap', hv, hB, hg, h1, h2, hc⟩
  · cases h1
  · obtain ⟨⟨rfl, _⟩, rfl, rfl⟩ := by simpa using hv
    refine ⟨rfl, h1, h2, hB, hg, fun j hj => ?_, fun j => World.ownsRow.frozenAt h0 j⟩
    rw [Nat.zero_add]
    exact hc j _ (by simp [List.getD, hj])
theorem World.irow.nil (w : World) (B : Nat) (e : TypeId) : w.irow B e (.slice none 0 0) [] := World.ownsRow_nil _ _ _ _
/-- An element taken out: what slices.Delete leaves. -/
theorem World.irow.cut {g n cap i : Nat} (h : w.irow B e (.slice (some ⟨g, 0, none⟩) n cap) xs) (hi : i < xs.length) (q : Nat) :
    (putRow (Value.int .i64) (Sort.ahead w q) g 0 (xs.take i ++ xs.drop (i + 1) ++ List.replicate (i + 1 - i) 0).toArray).irow B e (.slice (some ⟨g, 0, none⟩) (n - (i + 1 - i)) cap) (xs.eraseIdx i) ∧
    w.grownBy (putRow (Value.int .i64) (Sort.ahead w q) g 0 (xs.take i ++ xs.drop (i + 1) ++ List.replicate (i + 1 - i) 0).toArray) (some g) := by
  have hn := h.cellD.1
  subst hn
  obtain ⟨hl, h⟩ := h
  rcases h with ⟨h1, _⟩ | ⟨g', cap', cur, hv, hB, hh, h1, h2, hs, ht⟩
  · cases h1
  obtain ⟨rfl, rfl⟩ : g = g' ∧ cap = cap' := by simpa using hv
  rw [Nat.mul_one] at hs ht
  have e1 : i + 1 - i = 1 := by omega
  rw [e1]
  have hel : (xs.eraseIdx i).length = xs.length - 1 := List.length_eraseIdx_of_lt hi
  have hdl : (xs.take i ++ xs.drop (i + 1) ++ List.replicate 1 0).length = xs.length := by simp; omega
  have hb : (putRow (Value.int .i64) (Sort.ahead w q) g 0 (xs.take i ++ xs.drop (i + 1) ++ List.replicate 1 0).toArray).heap[g]? = some (.cells (putCells (Value.int .i64) 0 (xs.take i ++ xs.drop (i + 1) ++ List.replicate 1 0).toArray cur) e (0, 0)) := by
    unfold putRow mapBlock Sort.ahead
    simp [Array.getElem?_modify, hh, onCells]
  refine ⟨⟨by rw [ints_len, Nat.mul_one], .inr ⟨g, cap, _, by rw [hel], hB, hb, by omega, h2, by simp [putCells, hs], ?_⟩⟩, ⟨rfl, rfl, rfl, by simp [putRow, mapBlock, Sort.ahead], fun k _ hk => ?_⟩⟩
  · rw [Nat.mul_one, hel]
    apply List.ext_getElem?
    intro j
    rw [List.getElem?_take]
    by_cases hj : j < xs.length - 1
    · rw [if_pos hj]
      have hjc : j < cur.size := by omega
      have hx : (xs.eraseIdx i)[j]? = some ((xs.eraseIdx i)[j]'(by omega)) := List.getElem?_eq_getElem (by omega)
      rw [ints_get _ j hx]
      have hd : (xs.take i ++ xs.drop (i + 1) ++ List.replicate 1 0)[j]? = (xs.eraseIdx i)[j]? := by
        rw [List.eraseIdx_eq_take_drop_succ, List.getElem?_append_left (by simp; omega)]
      rw [hx] at hd
      have hd2 : (xs.take i ++ xs.drop (i + 1) ++ List.replicate 1 0).toArray[j]! = (xs.eraseIdx i)[j]'(by omega) := by
        rw [getElem!_def]
        simp only [List.getElem?_toArray, hd]
      unfold putCells
      rw [← List.getElem?_toArray, Array.toArray_toList, Array.getElem?_mapIdx, Array.getElem?_eq_getElem hjc, Option.map_some, if_pos ⟨Nat.zero_le _, by simp only [List.size_toArray]; omega⟩, Nat.sub_zero, hd2]
    · rw [if_neg hj, List.getElem?_eq_none (by rw [ints_len]; omega)]
  · unfold putRow mapBlock Sort.ahead
    simp [Array.getElem?_modify, show g ≠ k from fun e => hk (by rw [e])]
end Go
/- slices.Index, Contains, Delete off the shelf, and the row's 'out': contracts over owned rows. -/
namespace Go.Proofs.YtijagdpkclghnaaDoor
open Go Go.RowKit Go.Shelf
set_option maxRecDepth 100000
shelf_lay_g SlLaysN.n29 Slgn 29 at Tryd 69 as idxL
shelf_lay_g SlLaysN.n31 Slgn 31 at Tryd 68 as conL
shelf_lay_g SlLaysN.n45 Slgn 45 at Tryd 70 as delL
variable {w : World} {B : Nat}
abbrev tI : TypeId := 3
theorem idx_any {v : Value} {xs : List Int} (x : Int) (h : w.irow B tI v xs) : Calls Tryd.prog 69 #[v, .int .i64 x] w fun e w' => e = .returned (.int .i64 (Lib.idxOf xs x)) ∧ w = w' := by
  rcases h.form with ⟨rfl, rfl⟩ | ⟨g, cap, rfl, _⟩
  · exact (AnyG.slices_Index_int_empty idxL none 0 x w).mono fun e w' ⟨h1, h2⟩ => ⟨h1, h2.symm⟩
  · obtain ⟨_, h1, h2, _, _, hc, _⟩ := h.cellD
    have := AnyG.slices_Index_int idxL g 0 xs.length cap xs x w (Nat.le_refl _) (by unfold maxLen at h2; omega) hc
    rw [List.take_of_length_le (Nat.le_refl _)] at this
    exact this.mono fun e w' ⟨h1, h2⟩ => ⟨h1, h2.symm⟩
theorem con_any {v : Value} {xs : List Int} (x : Int) (h : w.irow B tI v xs) : Calls Tryd.prog 68 #[v, .int .i64 x] w fun e w' => e = .returned (.bool (xs.contains x)) ∧ w = w' := by
  rcases h.form with ⟨rfl, rfl⟩ | ⟨g, cap, rfl, _⟩
  · exact (AnyG.slices_Contains_int_empty conL none 0 x w).mono fun e w' ⟨h1, h2⟩ => ⟨h1, h2.symm⟩
  · obtain ⟨_, h1, h2, _, _, hc, _⟩ := h.cellD
    have := AnyG.slices_Contains_int conL g 0 xs.length cap xs x w (Nat.le_refl _) (by unfold maxLen at h2; omega) hc
    rw [List.take_of_length_le (Nat.le_refl _)] at this
    exact this.mono fun e w' ⟨h1, h2⟩ => ⟨h1, h2.symm⟩
theorem del_any {g n cap : Nat} {xs : List Int} (i j : Nat) (h : w.irow B tI (.slice (some ⟨g, 0, none⟩) n cap) xs) (hi : i < xs.length) (hj : j = i + 1) :
    Calls Tryd.prog 70 #[.slice (some ⟨g, 0, none⟩) n cap, .int .i64 (i : Int), .int .i64 (j : Int)] w fun e w' => e = .returned (.slice (some ⟨g, 0, none⟩) (n - 1) cap) ∧ w'.irow B tI (.slice (some ⟨g, 0, none⟩) (n - 1) cap) (xs.eraseIdx i) ∧ w.grownBy w' (some g) := by
  subst hj
  obtain ⟨rfl, h1, h2, _, _, hc, hz⟩ := h.cellD
  have hH : Sort.Holds (Value.int .i64) w g 0 xs.toArray := fun j hj => by
    have hj' : j < xs.length := by simpa using hj
    refine ⟨?_, hz (0 + j)⟩
    rw [hc j hj']
    congr 2
    rw [getElem!_def]
    simp [List.getD, hj']
  refine (AnyG.slices_Delete_int delL g 0 cap i (i + 1) xs w hH h1 (by unfold maxLen at h2; omega) (by omega) (by omega)).mono ?_
  rintro e w' ⟨he, q, rfl⟩
  have e1 : xs.length - (i + 1 - i) = xs.length - 1 := by omega
  obtain ⟨c1, c2⟩ := h.cut hi q
  rw [e1] at he c1
  exact ⟨he, c1, c2⟩
theorem idxFrom_spec (x : Int) : ∀ (zs : List Int) (i : Nat), (zs.contains x = false ∧ Lib.idxFrom zs x i = -1) ∨ ∃ k, k < zs.length ∧ Lib.idxFrom zs x i = ((i + k : Nat) : Int) ∧ zs.eraseIdx k = zs.erase x ∧ zs.contains x = true
  | [], i => .inl ⟨rfl, rfl⟩
  | z :: zs, i => by
    by_cases e : z = x
    · subst e
      exact .inr ⟨0, by simp, by simp [Lib.idxFrom], by simp, by simp⟩
    · have e2 : (z == x) = false := beq_eq_false_iff_ne.2 e
      have e3 : (x == z) = false := beq_eq_false_iff_ne.2 (Ne.symm e)
      have e4 : Lib.idxFrom (z :: zs) x i = Lib.idxFrom zs x (i + 1) := by simp [Lib.idxFrom, e]
      rcases idxFrom_spec x zs (i + 1) with ⟨h1, h2⟩ | ⟨k, h1, h2, h3, h4⟩
      · exact .inl ⟨by rw [List.contains_cons, e3, h1]; rfl, by rw [e4, h2]⟩
      · refine .inr ⟨k + 1, by simp; omega, by rw [e4, h2]; congr 1; omega, ?_, by rw [List.contains_cons, h4]; simp⟩
        rw [List.eraseIdx_cons_succ, h3, List.erase_cons, e2]
        simp
theorem out_any {v : Value} {xs : List Int} (x : Int) (h : w.irow B tI v xs) (hb : xs.length ≤ 1000) :
    Calls Tryd.prog 56 #[v, .int .i64 x] w fun e w' => ∃ v', e = .returned (.tuple #[v', .bool (xs.contains x)]) ∧ w'.irow B tI v' (xs.erase x) ∧ v'.ownBlock = v.ownBlock ∧ w.grownBy w' v.ownBlock := by
  rcases idxFrom_spec x xs 0 with ⟨h1, h2⟩ | ⟨k, h1, h2, h3, h4⟩
  · have hx : xs.erase x = xs := List.erase_of_not_mem (by simpa using h1)
    rw [hx, h1]
    go_enter Tryd.func56, Tryd.ntmps56
    go_wp2_with fail
    refine (idx_any x h).mono ?_
    rintro e w' ⟨rfl, rfl⟩
    rw [show Lib.idxOf xs x = -1 from h2]
    go_wp2_with fail
    go_ret2
    exact ⟨v, rfl, h, rfl, World.grownBy.refl _ _⟩
  · rw [h4, ← h3]
    rcases h.form with ⟨_, rfl⟩ | ⟨g, cap, rfl, _⟩
    · simp at h1
    obtain ⟨j, hj⟩ : ∃ j, j = k + 1 := ⟨_, rfl⟩
    have ej : (k : Int) + 1 = (j : Int) := by omega
    have hk : k < 1000 := by omega
    have HJ := Go.Lib.hid hj
    clear hj
    go_enter Tryd.func56, Tryd.ntmps56
    go_wp2_with fail
    refine (idx_any x h).mono ?_
    rintro e w' ⟨rfl, rfl⟩
    rw [show Lib.idxOf xs x = (k : Int) by rw [show Lib.idxOf xs x = Lib.idxFrom xs x 0 from rfl, h2, Nat.zero_add]]
    go_wp2_with fail
    refine (del_any k j h h1 HJ.out).mono ?_
    rintro e w' ⟨rfl, c1, c2⟩
    go_wp2_with fail
    go_ret2
    exact ⟨_, rfl, c1, rfl, c2⟩
end Go.Proofs.YtijagdpkclghnaaDoor
/- Slices that are read, with or without elements: laws of my own, no program in them. -/
namespace Go
open Go.RowKit
/-- The slice v reads as the list vs (elements of one cell). -/
def World.rd (w : World) (v : Value) (vs : List Value) : Prop :=
  ∃ a c, v = .slice a vs.length c ∧ (vs = [] ∨ ∃ b o, a = some ⟨b, o, none⟩ ∧ ∀ j u, vs[j]? = some u → w.cell? ⟨b, o + j, none⟩ = some u)
namespace World
variable {w w' : World} {v : Value} {vs : List Value}
theorem rd.below {B : Nat} (h : w.rd v vs) (hb : Below B w w') (hB : w.heap.size ≤ B) : w'.rd v vs := by
  obtain ⟨a, c, hv, h⟩ := h
  refine ⟨a, c, hv, ?_⟩
  rcases h with h | ⟨b, o, ha, hc⟩
  · exact .inl h
  · refine .inr ⟨b, o, ha, fun j u hj => ?_⟩
    have h1 := hc j u hj
    rw [hb.cell (p := ⟨b, o + j, none⟩) (Nat.lt_of_lt_of_le (block_lt_of_cell h1) hB)]
    exact h1
theorem rd.cases (h : w.rd v vs) : (vs = [] ∧ ∃ a c, v = .slice a 0 c) ∨ (vs ≠ [] ∧ ∃ b o c, v = .slice (some ⟨b, o, none⟩) vs.length c ∧ ∀ j u, vs[j]? = some u → w.cell? ⟨b, o + j, none⟩ = some u) := by
  obtain ⟨a, c, hv, h⟩ := h
  by_cases e : vs = []
  · subst e; exact .inl ⟨rfl, a, c, hv⟩
  · rcases h with h | ⟨b, o, ha, hc⟩
    · exact absurd h e
    · subst ha; exact .inr ⟨e, b, o, c, hv, hc⟩
theorem ownsRow.rd {base : Nat} {e : TypeId} {n : Nat} {xs : List Value} (h : w.ownsRow base e 1 v n xs) : w.rd v xs := by
  obtain ⟨hl, h⟩ := h
  have hn : n = xs.length := by omega
  rcases h with ⟨h1, h2⟩ | ⟨g, cap, cur, hv, _, hh, h1, _, hs, ht⟩
  · subst h2; exact ⟨none, 0, by rw [h1, ← hn], .inl (List.length_eq_zero_iff.1 hn.symm)⟩
  · refine ⟨_, cap, by rw [hv, hn], .inr ⟨g, 0, rfl, fun j u hj => ?_⟩⟩
    have h2 : cur[j]? = some u := by
      rw [← ht] at hj
      rw [List.getElem?_take] at hj
      split at hj
      · simpa using hj
      · cases hj
    simp [World.cell?, hh, h2]
/-- A slice cut off behind m elements. -/
theorem rd.cut (h : w.rd v vs) (m : Nat) (hm : m ≤ vs.length) {a : Option Addr} {n c : Nat} (hv : v = .slice a n c) : w.rd (.slice a m c) (vs.take m) := by
  obtain ⟨a', c', hv', h⟩ := h
  rw [hv] at hv'
  obtain ⟨rfl, _, rfl⟩ := Value.slice.inj hv'
  refine ⟨a, c, by rw [List.length_take]; congr 1; omega, ?_⟩
  rcases h with h | ⟨b, o, ha, hc⟩
  · left; rw [h]; simp
  · right
    refine ⟨b, o, ha, fun j u hj => hc j u ?_⟩
    rw [List.getElem?_take] at hj
    split at hj
    · exact hj
    · cases hj
end World
end Go
/- A turn: what it is, where it lies, what a call may touch of it. -/
namespace Go.Proofs.YtijagdpkclghnaaDoor
open Go Go.RowKit
/-- A turn's sizes, its plain and its dear keys in order, the pinned ones. -/
structure TS where
  most : Nat
  limit : Nat
  plain : List Int
  dear : List Int
  pins : List Int
/-- Where it lies: its block, its map's, its two rows. -/
structure TM where
  g : Nat
  m : Nat
  v1 : Value
  v2 : Value
def TM.foot (M : TM) (k : Nat) : Prop := k = M.g ∨ k = M.m ∨ M.v1.ownBlock = some k ∨ M.v2.ownBlock = some k
abbrev tT : TypeId := 101
abbrev TM.cells (M : TM) (T : TS) : List Value := [.int .i64 (T.most : Int), .int .i64 (T.limit : Int), M.v1, M.v2, .map (some M.m)]
/-- It lies so, no block below B, its map of at most n entries. -/
structure TurnAt (B n : Nat) (w : World) (M : TM) (T : TS) : Prop where
  row : w.row M.g (M.cells T) tT
  o1 : w.irow B tI M.v1 T.plain
  o2 : w.irow B tI M.v2 T.dear
  pm : w.bmap Tryd.prog tI 4 M.m n T.pins
  gm : M.m ≠ M.g
  g1 : M.v1.ownBlock ≠ some M.g
  g2 : M.v2.ownBlock ≠ some M.g
  m1 : M.v1.ownBlock ≠ some M.m
  m2 : M.v2.ownBlock ≠ some M.m
  d12 : M.v1.ownBlock = none ∨ M.v1.ownBlock ≠ M.v2.ownBlock
  bg : B ≤ M.g
  bm : B ≤ M.m
/-- Its sizes are good, it keeps them; its keys are there once. -/
structure Good (T : TS) : Prop where
  m1 : 1 ≤ T.most
  m64 : T.most ≤ 64
  lim : T.limit < T.most
  len : T.plain.length + T.dear.length ≤ T.most
  dlen : T.dear.length ≤ T.limit
  nodup : (T.plain ++ T.dear).Nodup
  in64 : ∀ k ∈ T.plain ++ T.dear, In64 k
/-- What a call on it leaves. -/
structure Step (M M' : TM) (w w' : World) : Prop where
  g : M'.g = M.g
  m : M'.m = M.m
  os : w'.os = w.os
  tape : w'.tape = w.tape
  output : w'.output = w.output
  size : w.heap.size ≤ w'.heap.size
  foot : ∀ k, M'.foot k → M.foot k ∨ w.heap.size ≤ k
  block : ∀ k, k < w.heap.size → ¬ M.foot k → w'.heap[k]? = w.heap[k]?
variable {B n : Nat} {w w' w'' : World} {M M' M'' : TM} {T T' : TS}
theorem Step.refl (M : TM) (w : World) : Step M M w w := ⟨rfl, rfl, rfl, rfl, rfl, Nat.le_refl _, fun _ h => .inl h, fun _ _ _ => rfl⟩
theorem Step.trans (h : Step M M' w w') (h2 : Step M' M'' w' w'') : Step M M'' w w'' :=
  ⟨h2.g.trans h.g, h2.m.trans h.m, h2.os.trans h.os, h2.tape.trans h.tape, h2.output.trans h.output, Nat.le_trans h.size h2.size,
    fun k hk => (h2.foot k hk).elim (h.foot k) fun h3 => .inr (Nat.le_trans h.size h3),
    fun k hk hn => (h2.block k (Nat.lt_of_lt_of_le hk h.size) fun h3 => (h.foot k h3).elim hn (fun h4 => by omega)).trans (h.block k hk hn)⟩
theorem Step.of_below (M : TM) (h : Below w.heap.size w w') : Step M M w w' := ⟨rfl, rfl, h.os, h.tape, h.output, h.size, fun _ h => .inl h, fun k hk _ => h.block k hk⟩
theorem TurnAt.lts (h : TurnAt B n w M T) (k : Nat) (hk : M.foot k) : B ≤ k ∧ k < w.heap.size := by
  rcases hk with rfl | rfl | hk | hk
  · exact ⟨h.bg, h.row.lt⟩
  · exact ⟨h.bm, h.pm.lt⟩
  · exact h.o1.lt k hk
  · exact h.o2.lt k hk
theorem irow_same {xs : List Int} {v : Value} (h : w.irow B tI v xs) (hb : ∀ k, v.ownBlock = some k → w'.heap[k]? = w.heap[k]?) : w'.irow B tI v xs := by
  obtain ⟨hl, h⟩ := h
  refine ⟨hl, ?_⟩
  rcases h with h | ⟨g, cap, cur, hv, hB, hh, r⟩
  · exact .inl h
  · exact .inr ⟨g, cap, cur, hv, hB, (hb g (by rw [hv]; rfl)).trans hh, r⟩
theorem TurnAt.below' (h : TurnAt B n w M T) (hb : Below w.heap.size w w') : TurnAt B n w' M T :=
  ⟨h.row.below hb h.row.lt, irow_same h.o1 fun k hk => hb.block k (h.o1.lt k hk).2, irow_same h.o2 fun k hk => hb.block k (h.o2.lt k hk).2, h.pm.same (hb.block _ h.pm.lt), h.gm, h.g1, h.g2, h.m1, h.m2, h.d12, h.bg, h.bm⟩
theorem TurnAt.mono {m : Nat} (h : TurnAt B n w M T) (hm : n ≤ m) : TurnAt B m w M T := ⟨h.row, h.o1, h.o2, h.pm.mono hm, h.gm, h.g1, h.g2, h.m1, h.m2, h.d12, h.bg, h.bm⟩
/-- All below the turn is as it was. -/
theorem Step.under (h : Step M M' w w') (hT : TurnAt B n w M T) (hB : B ≤ w.heap.size) {u : World} (hu : Below B u w) : Below B u w' :=
  hu.trans ⟨h.os, h.tape, h.output, h.size, fun k hk => h.block k (Nat.lt_of_lt_of_le hk hB) fun hf => by have := (hT.lts k hf).1; omega⟩
theorem TurnAt.le (h : TurnAt B n w M T) : B ≤ w.heap.size := Nat.le_trans h.bg (Nat.le_of_lt h.row.lt)
/-- What is no part of the turn stays. -/
theorem Step.row (h : Step M M' w w') {b : Nat} {cs : List Value} {t : TypeId} (hr : w.row b cs t) (hn : ¬ M.foot b) : w'.row b cs t := by
  have hl := World.row.lt hr
  unfold World.row at *; rw [h.block b hl hn]; exact hr
theorem Step.cell (h : Step M M' w w') {p : Addr} {v : Value} (hc : w.cell? p = some v) (hn : ¬ M.foot p.block) : w'.cell? p = some v := by
  have e := h.block p.block (block_lt_of_cell hc) hn
  unfold World.cell? at *
  rw [e]; exact hc
theorem Step.out (h : Step M M' w w') {b : Nat} (hb : b < w.heap.size) (hn : ¬ M.foot b) : ¬ M'.foot b := fun hf => (h.foot b hf).elim hn (fun h2 => by omega)
/-- The cells of a turn, for the walk. -/
theorem TurnAt.five (h : TurnAt B n w M T) : w.cell? ⟨M.g, 0, none⟩ = some (.int .i64 (T.most : Int)) ∧ w.cell? ⟨M.g, 1, none⟩ = some (.int .i64 (T.limit : Int)) ∧ w.cell? ⟨M.g, 2, none⟩ = some M.v1 ∧ w.cell? ⟨M.g, 3, none⟩ = some M.v2 ∧ w.cell? ⟨M.g, 4, none⟩ = some (.map (some M.m)) ∧ (∀ i, w.frozen? ⟨M.g, i, none⟩ = false) :=
  ⟨h.row.cell 0 rfl, h.row.cell 1 rfl, h.row.cell 2 rfl, h.row.cell 3 rfl, h.row.cell 4 rfl, h.row.free⟩
/-- The plain row is another one: it was turned in its block (or laid anew), then its value stored. -/
theorem TurnAt.set1 {w1 : World} {v : Value} {xs : List Int} (h : TurnAt B n w M T) (hg : w.grownBy w1 M.v1.ownBlock) (ho : w1.irow B tI v xs) (hv : v.ownBlock = M.v1.ownBlock ∨ ∃ k, v.ownBlock = some k ∧ w.heap.size ≤ k) :
    TurnAt B n (w1.setCell ⟨M.g, 2, none⟩ v) { M with v1 := v } { T with plain := xs } ∧ Step M { M with v1 := v } w (w1.setCell ⟨M.g, 2, none⟩ v) := by
  have r1 := h.row.grown hg (fun e => h.g1 e.symm)
  have n1 : v.ownBlock ≠ some M.g := by
    rcases hv with e | ⟨k, e, hk⟩
    · rw [e]; exact h.g1
    · rw [e]; intro e2; cases e2; have := h.row.lt; omega
  have n2 : v.ownBlock ≠ some M.m := by
    rcases hv with e | ⟨k, e, hk⟩
    · rw [e]; exact h.m1
    · rw [e]; intro e2; cases e2; have := h.pm.lt; omega
  have n3 : v.ownBlock = none ∨ v.ownBlock ≠ M.v2.ownBlock := by
    rcases hv with e | ⟨k, e, hk⟩
    · rw [e]; exact h.d12
    · right; rw [e]; intro e2; have := (h.o2.lt k e2.symm).2; omega
  have hs : ∀ k, k ≠ M.g → (w1.setCell ⟨M.g, 2, none⟩ v).heap[k]? = w1.heap[k]? := fun k hk => by simp [World.setCell, Array.getElem?_modify, Ne.symm hk]
  have h2 : ∀ k, M.v2.ownBlock = some k → some k ≠ M.v1.ownBlock := fun k hk e => h.d12.elim (fun e2 => by rw [e2] at e; cases e) fun e2 => e2 (e.symm.trans hk.symm)
  refine ⟨⟨r1.set 2 v, irow_same ho fun k hk => hs k (fun e => n1 (by rw [hk, e])), irow_same h.o2 fun k hk => ?_, h.pm.same ?_, h.gm, n1, h.g2, n2, h.m2, n3, h.bg, h.bm⟩, ⟨rfl, rfl, hg.os, hg.tape, hg.output, by simp [World.setCell]; exact hg.size, fun k hk => ?_, fun k hk hn => ?_⟩⟩
  · rw [hs k (fun e => h.g2 (by rw [hk, e]))]
    exact hg.block k (h.o2.lt k hk).2 (h2 k hk)
  · rw [hs _ h.gm]
    exact hg.block _ h.pm.lt (fun e => h.m1 e.symm)
  · rcases hk with e | e | e | e
    · exact .inl (.inl e)
    · exact .inl (.inr (.inl e))
    · rcases hv with e2 | ⟨k', e2, hk'⟩
      · exact .inl (.inr (.inr (.inl (e2 ▸ e))))
      · have e3 : v.ownBlock = some k := e
        rw [e2] at e3; cases e3; exact .inr hk'
    · exact .inl (.inr (.inr (.inr e)))
  · rw [hs k (fun e => hn (.inl e))]
    exact hg.block k hk (fun e => hn (.inr (.inr (.inl e.symm))))
theorem TurnAt.set2 {w1 : World} {v : Value} {xs : List Int} (h : TurnAt B n w M T) (hg : w.grownBy w1 M.v2.ownBlock) (ho : w1.irow B tI v xs) (hv : v.ownBlock = M.v2.ownBlock ∨ ∃ k, v.ownBlock = some k ∧ w.heap.size ≤ k) :
    TurnAt B n (w1.setCell ⟨M.g, 3, none⟩ v) { M with v2 := v } { T with dear := xs } ∧ Step M { M with v2 := v } w (w1.setCell ⟨M.g, 3, none⟩ v) := by
  have r1 := h.row.grown hg (fun e => h.g2 e.symm)
  have n1 : v.ownBlock ≠ some M.g := by
    rcases hv with e | ⟨k, e, hk⟩
    · rw [e]; exact h.g2
    · rw [e]; intro e2; cases e2; have := h.row.lt; omega
  have n2 : v.ownBlock ≠ some M.m := by
    rcases hv with e | ⟨k, e, hk⟩
    · rw [e]; exact h.m2
    · rw [e]; intro e2; cases e2; have := h.pm.lt; omega
  have n3 : M.v1.ownBlock = none ∨ M.v1.ownBlock ≠ v.ownBlock := by
    rcases hv with e | ⟨k, e, hk⟩
    · rw [e]; exact h.d12
    · right; rw [e]; intro e2; have := (h.o1.lt k e2).2; omega
  have hs : ∀ k, k ≠ M.g → (w1.setCell ⟨M.g, 3, none⟩ v).heap[k]? = w1.heap[k]? := fun k hk => by simp [World.setCell, Array.getElem?_modify, Ne.symm hk]
  have h2 : ∀ k, M.v1.ownBlock = some k → some k ≠ M.v2.ownBlock := fun k hk e => h.d12.elim (fun e2 => by rw [e2] at hk; cases hk) fun e2 => e2 (hk.trans e)
  refine ⟨⟨r1.set 3 v, irow_same h.o1 fun k hk => ?_, irow_same ho fun k hk => hs k (fun e => n1 (by rw [hk, e])), h.pm.same ?_, h.gm, h.g1, n1, h.m1, n2, n3, h.bg, h.bm⟩, ⟨rfl, rfl, hg.os, hg.tape, hg.output, by simp [World.setCell]; exact hg.size, fun k hk => ?_, fun k hk hn => ?_⟩⟩
  · rw [hs k (fun e => h.g1 (by rw [hk, e]))]
    exact hg.block k (h.o1.lt k hk).2 (h2 k hk)
  · rw [hs _ h.gm]
    exact hg.block _ h.pm.lt (fun e => h.m2 e.symm)
  · rcases hk with e | e | e | e
    · exact .inl (.inl e)
    · exact .inl (.inr (.inl e))
    · exact .inl (.inr (.inr (.inl e)))
    · rcases hv with e2 | ⟨k', e2, hk'⟩
      · exact .inl (.inr (.inr (.inr (e2 ▸ e))))
      · have e3 : v.ownBlock = some k := e
        rw [e2] at e3; cases e3; exact .inr hk'
  · rw [hs k (fun e => hn (.inl e))]
    exact hg.block k hk (fun e => hn (.inr (.inr (.inr e.symm))))
/-- Its map has turned. -/
theorem TurnAt.setM {w1 : World} {m : Nat} {L : List Int} (h : TurnAt B n w M T) (hg : w.grownBy w1 (some M.m)) (hp : w1.bmap Tryd.prog tI 4 M.m m L) :
    TurnAt B m w1 M { T with pins := L } ∧ Step M M w w1 := by
  refine ⟨⟨h.row.grown hg (fun e => h.gm (Option.some.inj e).symm), irow_same h.o1 fun k hk => hg.block k (h.o1.lt k hk).2 (fun e => h.m1 (by rw [hk, e])), irow_same h.o2 fun k hk => hg.block k (h.o2.lt k hk).2 (fun e => h.m2 (by rw [hk, e])), hp, h.gm, h.g1, h.g2, h.m1, h.m2, h.d12, h.bg, h.bm⟩, ⟨rfl, rfl, hg.os, hg.tape, hg.output, hg.size, fun k hk => .inl hk, fun k hk hn => hg.block k hk (fun e => hn (.inr (.inl (Option.some.inj e))))⟩⟩
end Go.Proofs.YtijagdpkclghnaaDoor
/- What a turn's calls make of it: plain laws. -/
namespace Go.Proofs.YtijagdpkclghnaaDoor
open Go Go.RowKit
namespace TS
variable (T : TS)
def keys : List Int := T.plain ++ T.dear
def has (k : Int) : Bool := T.dear.contains k || T.plain.contains k
def full : Bool := decide (T.most ≤ T.plain.length + T.dear.length)
def addE (k : Int) : Int := if T.has k then 11 else if T.full then 10 else 0
def addT (k : Int) : TS := if T.has k then T else if T.full then T else { T with plain := T.plain ++ [k] }
def fallT : TS := match T.dear with
  | [] => T
  | d :: ds => if T.limit < T.dear.length then { T with plain := T.plain ++ [d], dear := ds } else T
def moved (k : Int) : TS := { T with plain := T.plain.erase k, dear := T.dear.erase k ++ [k] }
def touchT (k : Int) : TS := if T.has k then (T.moved k).fallT else T
def dropT (k : Int) : TS := { T with plain := T.plain.erase k, dear := T.dear.erase k, pins := T.pins.erase k }
def pinT (k : Int) (on : Bool) : TS := if T.has k then { T with pins := if on then addTo T.pins k else T.pins.erase k } else T
end TS
theorem TS.fallT_yes {T : TS} {d : Int} {ds : List Int} (hd : T.dear = d :: ds) (h : T.limit < T.dear.length) : T.fallT = { T with plain := T.plain ++ [d], dear := ds } := by
  unfold TS.fallT
  split
  · next e => rw [e] at hd; cases hd
  · next d' ds' e => rw [e] at hd; cases hd; rw [if_pos h]
theorem TS.fallT_no {T : TS} (h : ¬ T.limit < T.dear.length) : T.fallT = T := by
  unfold TS.fallT
  split
  · rfl
  · rw [if_neg h]
variable {T : TS}
theorem has_iff (T : TS) (k : Int) : T.has k = true ↔ k ∈ T.plain ++ T.dear := by
  unfold TS.has
  rw [Bool.or_eq_true, List.contains_eq_mem, List.contains_eq_mem, decide_eq_true_eq, decide_eq_true_eq, List.mem_append]
  exact Or.comm
theorem Good.add (h : Good T) (k : Int) (hk : In64 k) : Good (T.addT k) := by
  unfold TS.addT
  cases hh : T.has k with
  | true => simpa using h
  | false =>
    cases hf : T.full with
    | true => simpa using h
    | false =>
      simp only [Bool.false_eq_true, if_false]
      have hn : k ∉ T.plain ++ T.dear := fun hm => by rw [(has_iff T k).2 hm] at hh; cases hh
      have hl : ¬ T.most ≤ T.plain.length + T.dear.length := by simpa [TS.full] using hf
      have hp : ((T.plain ++ [k]) ++ T.dear).Perm (k :: (T.plain ++ T.dear)) := by
        rw [List.append_assoc]
        exact List.perm_middle
      refine ⟨h.m1, h.m64, h.lim, by simp; omega, h.dlen, hp.nodup_iff.2 (List.nodup_cons.2 ⟨hn, h.nodup⟩), fun x hx => ?_⟩
      rcases List.mem_cons.1 (hp.mem_iff.1 hx) with rfl | hx
      · exact hk
      · exact h.in64 x hx
theorem Good.drop (h : Good T) (k : Int) : Good (T.dropT k) := by
  have hs : ((T.plain.erase k) ++ (T.dear.erase k)).Sublist (T.plain ++ T.dear) := (List.erase_sublist).append (List.erase_sublist)
  have l1 : (T.plain.erase k).length ≤ T.plain.length := List.length_erase_le
  have l2 : (T.dear.erase k).length ≤ T.dear.length := List.length_erase_le
  have e1 := h.len
  have e2 := h.dlen
  exact ⟨h.m1, h.m64, h.lim, by show (T.plain.erase k).length + (T.dear.erase k).length ≤ T.most; omega, by show (T.dear.erase k).length ≤ T.limit; omega, h.nodup.sublist hs, fun x hx => h.in64 x (hs.subset hx)⟩
theorem Good.pin (h : Good T) (k : Int) (on : Bool) : Good (T.pinT k on) := by
  unfold TS.pinT
  split
  · exact ⟨h.m1, h.m64, h.lim, h.len, h.dlen, h.nodup, h.in64⟩
  · exact h
theorem erase_len {l : List Int} {k : Int} (h : k ∈ l) : (l.erase k).length + 1 = l.length := by
  have := List.length_erase_of_mem h
  have h2 : 0 < l.length := List.length_pos_of_mem h
  omega
theorem moved_perm (h : Good T) (k : Int) (hk : T.has k = true) : ((T.moved k).plain ++ (T.moved k).dear).Perm (T.plain ++ T.dear) := by
  have hm := (has_iff T k).1 hk
  show (T.plain.erase k ++ (T.dear.erase k ++ [k])).Perm _
  rcases List.mem_append.1 hm with h1 | h1
  · have h2 : k ∉ T.dear := fun h2 => (List.nodup_append.1 h.nodup).2.2 k h1 k h2 rfl
    rw [List.erase_of_not_mem h2]
    have p1 : (T.plain.erase k ++ (T.dear ++ [k])).Perm (k :: (T.plain.erase k ++ T.dear)) := by
      rw [← List.append_assoc]
      exact List.perm_append_singleton k _
    have p2 : (k :: (T.plain.erase k ++ T.dear)).Perm (T.plain ++ T.dear) := by
      rw [← List.cons_append]
      exact (List.perm_cons_erase h1).symm.append_right _
    exact p1.trans p2
  · have h2 : k ∉ T.plain := fun h2 => (List.nodup_append.1 h.nodup).2.2 k h2 k h1 rfl
    rw [List.erase_of_not_mem h2]
    refine List.Perm.append_left _ ?_
    exact (List.perm_append_singleton k _).trans (List.perm_cons_erase h1).symm
theorem moved_len (h : Good T) (k : Int) (hk : T.has k = true) : (T.moved k).plain.length + (T.moved k).dear.length = T.plain.length + T.dear.length := by
  have := (moved_perm h k hk).length_eq
  simpa using this
theorem moved_dear (T : TS) (k : Int) : (T.moved k).dear.length ≤ T.dear.length + 1 := by
  have : (T.dear.erase k).length ≤ T.dear.length := List.length_erase_le
  show (T.dear.erase k ++ [k]).length ≤ _
  simp; omega
theorem Good.touch (h : Good T) (k : Int) : Good (T.touchT k) := by
  unfold TS.touchT
  by_cases hk : T.has k = true
  · rw [if_pos hk]
    have hp := moved_perm h k hk
    have hl := moved_len h k hk
    have hd := moved_dear T k
    have e1 := h.len
    have e2 := h.dlen
    unfold TS.fallT
    cases hc : (T.moved k).dear with
    | nil => exact absurd hc (by simp [TS.moved])
    | cons d ds =>
      rw [hc] at hp hl hd
      simp only [List.length_cons] at hl hd ⊢
      by_cases hlim : (T.moved k).limit < ds.length + 1
      · rw [if_pos hlim]
        have hl2 : T.limit < ds.length + 1 := hlim
        have p2 : (((T.moved k).plain ++ [d]) ++ ds).Perm (T.plain ++ T.dear) := by
          rw [List.append_assoc]; exact hp
        exact ⟨h.m1, h.m64, h.lim, by show ((T.moved k).plain ++ [d]).length + ds.length ≤ T.most; simp; omega, by show ds.length ≤ T.limit; omega, p2.nodup_iff.2 h.nodup, fun x hx => h.in64 x (p2.mem_iff.1 hx)⟩
      · rw [if_neg hlim]
        have hl2 : ¬ T.limit < ds.length + 1 := hlim
        exact ⟨h.m1, h.m64, h.lim, by show (T.moved k).plain.length + (T.moved k).dear.length ≤ T.most; rw [hc]; simp; omega, by show (T.moved k).dear.length ≤ T.limit; rw [hc]; simp; omega, by rw [hc]; exact hp.nodup_iff.2 h.nodup, fun x hx => h.in64 x (by rw [hc] at hx; exact hp.mem_iff.1 hx)⟩
  · rw [if_neg hk]; exact h
end Go.Proofs.YtijagdpkclghnaaDoor
/- New, Has, Len, Full of a turn: contracts. -/
namespace Go.Proofs.YtijagdpkclghnaaDoor
open Go Go.RowKit
set_option maxRecDepth 100000
abbrev pt (g : Nat) : Value := .pointer (some ⟨g, 0, none⟩)
variable {B n : Nat} {w : World} {M : TM} {T : TS}
theorem irow_shape {v : Value} {xs : List Int} (h : w.irow B tI v xs) : ∃ a c, v = .slice a xs.length c := by
  rcases h.form with ⟨rfl, rfl⟩ | ⟨g, cap, rfl, _⟩
  · exact ⟨none, 0, rfl⟩
  · exact ⟨_, _, rfl⟩
theorem New_ok (most limit : Nat) (w : World) (hB : B ≤ w.heap.size) (h1 : 1 ≤ most) (h2 : most ≤ 64) (h3 : limit < most) :
    Calls Tryd.prog 25 #[.int .i64 (most : Int), .int .i64 (limit : Int)] w fun e w' => ∃ M : TM, e = .returned (.tuple #[pt M.g, .int .i64 0]) ∧ TurnAt B 0 w' M ⟨most, limit, [], [], []⟩ ∧ Below w.heap.size w w' ∧ ∀ k, M.foot k → w.heap.size ≤ k := by
  have hmm := @run_makeMap Tryd.prog
  go_enter Tryd.func25, Tryd.ntmps25
  go_wp2_with fail
  go_ret2
  have hr := World.row.new (w.alloc (.map #[] 0)) [.int .i64 (most : Int), .int .i64 (limit : Int), .slice none 0 0, .slice none 0 0, .map (some w.heap.size)] tT
  refine ⟨⟨(w.alloc (.map #[] 0)).heap.size, w.heap.size, .slice none 0 0, .slice none 0 0⟩, by simp, ⟨hr, World.irow.nil _ _ _, World.irow.nil _ _ _, (World.bmap_made w Tryd.prog tI 4).alloc _, by simp, by simp [Value.ownBlock], by simp [Value.ownBlock], by simp [Value.ownBlock], by simp [Value.ownBlock], .inl rfl, by simp; omega, hB⟩, ?_, ?_⟩
  · exact ((Below.refl _ _).alloc (Nat.le_refl _) _).alloc (by simp) _
  · intro k hk
    rcases hk with hk | hk | hk | hk
    · simp at hk; omega
    · simp at hk; omega
    · cases hk
    · cases hk
theorem Has_any (x : Int) (w : World) (h : TurnAt B n w M T) :
    Calls Tryd.prog 54 #[pt M.g, .int .i64 x] w fun e w' => e = .returned (.tuple #[.bool (T.dear.contains x || T.plain.contains x), .bool (T.dear.contains x)]) ∧ w = w' := by
  obtain ⟨c0, c1, c2, c3, c4, z⟩ := h.five
  go_enter Tryd.func54, Tryd.ntmps54
  go_wp2_with fail
  refine (con_any x h.o2).mono ?_
  rintro e w' ⟨rfl, rfl⟩
  cases hd : T.dear.contains x with
  | true =>
    go_wp2_with fail
    go_ret2
    exact ⟨by rw [hd]; rfl, rfl⟩
  | false =>
    go_wp2_with fail
    refine (con_any x h.o1).mono ?_
    rintro e w' ⟨rfl, rfl⟩
    obtain ⟨p, hp⟩ : ∃ p, p = T.plain.contains x := ⟨_, rfl⟩
    rw [← hp]
    have HP := Lib.hid hp
    clear hp
    go_wp2_with fail
    go_ret2
    exact ⟨by rw [hd, ← HP.out]; rfl, rfl⟩
theorem Len_any (w : World) (h : TurnAt B n w M T) (hg : Good T) :
    Calls Tryd.prog 74 #[pt M.g] w fun e w' => e = .returned (.tuple #[.int .i64 ((T.plain.length + T.dear.length : Nat) : Int), .int .i64 (T.dear.length : Int)]) ∧ Below w.heap.size w w' := by
  obtain ⟨c0, c1, c2, c3, c4, z⟩ := h.five
  obtain ⟨a1, k1, e1⟩ := irow_shape h.o1
  obtain ⟨a2, k2, e2⟩ := irow_shape h.o2
  rw [e1] at c2
  rw [e2] at c3
  obtain ⟨p, hp⟩ : ∃ p, p = T.plain.length := ⟨_, rfl⟩
  obtain ⟨d, hd⟩ : ∃ d, d = T.dear.length := ⟨_, rfl⟩
  have hl := hg.len
  have h64 := hg.m64
  rw [← hp, ← hd] at hl
  rw [← hp] at c2 ⊢
  rw [← hd] at c3 ⊢
  have hlt := h.row.lt
  clear hp hd e1 e2 hg h
  go_enter Tryd.func74, Tryd.ntmps74
  go_wp2_with fail
  go_quiet (fail)
  go_wp2_with fail
  go_ret2
  exact ⟨rfl, (by repeat' (first | (with_reducible exact Below.refl _ _) | (with_reducible assumption) | (with_reducible refine Below.setCell ?_ ?_ _) | (with_reducible refine Below.ext ?_ _ ?_) | (with_reducible refine Below.alloc ?_ ?_ _) | (with_reducible refine Below.drew ?_) | (with_reducible refine Below.drewN ?_ _) | (with_reducible exact Nat.le_refl _) | (dsimp only; omega) | (simp <;> omega)))⟩
theorem Full_any (w : World) (h : TurnAt B n w M T) (hg : Good T) :
    Calls Tryd.prog 66 #[pt M.g] w fun e w' => e = .returned (.bool (decide (T.most ≤ T.plain.length + T.dear.length))) ∧ Below w.heap.size w w' := by
  have hl := hg.len
  have h64 := hg.m64
  go_enter Tryd.func66, Tryd.ntmps66
  go_wp2_with fail
  refine Calls.pure_to (Len_any w h hg) ?_
  intro w1 hb1
  have h1 := h.below' hb1
  obtain ⟨c0, c1, c2, c3, c4, z⟩ := h1.five
  obtain ⟨p, hp⟩ : ∃ p, p = T.plain.length + T.dear.length := ⟨_, rfl⟩
  rw [← hp] at hl
  have HP := Lib.hid hp
  rw [← hp]
  clear hp
  go_wp2_with fail
  go_returns
  refine ⟨?_, hb1⟩
  rw [← HP.out]
  simp
end Go.Proofs.YtijagdpkclghnaaDoor
/- Add, falls, Touch, Pin, Drop of a turn: contracts. -/
namespace Go.Proofs.YtijagdpkclghnaaDoor
open Go Go.RowKit
set_option maxRecDepth 100000
variable {B n : Nat} {w : World} {M : TM} {T : TS}
theorem infoInt : (Tryd.prog.info? tI).map (fun i => (i.zero, i.size, i.bytes)) = some (some (.int .i64 0), 1, 8) := by kernel_rfl
theorem info_parts {o : Option TypeInfo} {z : Option Value} {s b : Nat} (h : o.map (fun i => (i.zero, i.size, i.bytes)) = some (z, s, b)) : ∃ i, o = some i ∧ i.zero = z ∧ i.size = s ∧ i.bytes = b := by
  cases o with
  | none => cases h
  | some i => simp at h; exact ⟨i, rfl, h.1, h.2.1, h.2.2⟩
theorem cellOne (w : World) (v : Value) (t : TypeId) : ∀ (j : Nat) (u : Value), [v][j]? = some u → (w.alloc (.cells #[v] t)).cell? ((⟨w.heap.size, 0, none⟩ : Addr).add j) = some u := by
  intro j u h
  cases j with
  | zero => simp at h; subst h; simp [Addr.add]
  | succ j => simp at h
theorem own_shape {w : World} {v : Value} {n : Nat} {xs : List Value} (h : w.ownsRow B tI 1 v n xs) : ∃ a m c, v = .slice a m c := by
  rcases h.2 with ⟨h1, _⟩ | ⟨g, cap, cur, h1, _⟩
  · exact ⟨_, _, _, h1⟩
  · exact ⟨_, _, _, h1⟩
/-- A row with one element more. -/
theorem irow_snoc {w : World} {v : Value} {xs : List Int} {x : Int} (h : w.ownsRow B tI 1 v (xs.length + 1) (ints xs ++ [.int .i64 x])) : w.irow B tI v (xs ++ [x]) := by
  unfold World.irow
  rw [ints_append, List.length_append]
  exact h
theorem Add_any (x : Int) (w : World) (h : TurnAt B n w M T) (hg : Good T) :
    Calls Tryd.prog 51 #[pt M.g, .int .i64 x] w fun e w' => e = .returned (.int .i64 (T.addE x)) ∧ ∃ M', TurnAt B n w' M' (T.addT x) ∧ Step M M' w w' := by
  obtain ⟨i0, hi, hz0, hz1, hz2⟩ := info_parts infoInt
  have HI : Hid (Tryd.prog.info? tI = some i0 ∧ i0.zero = some (.int .i64 0) ∧ i0.size = 1 ∧ i0.bytes = 8) := ⟨hi, hz0, hz1, hz2⟩
  clear hi hz0 hz1 hz2
  have hH := Has_any x w h
  unfold TS.addE TS.addT
  rw [show (T.dear.contains x || T.plain.contains x) = T.has x from rfl] at hH
  cases hh : T.has x with
  | true =>
    rw [hh] at hH
    simp only [if_true]
    go_enter Tryd.func51, Tryd.ntmps51
    go_wp2_with fail
    refine hH.mono ?_
    rintro e w' ⟨rfl, rfl⟩
    go_wp2_with fail
    go_returns
    exact ⟨rfl, M, h, Step.refl _ _⟩
  | false =>
    rw [hh] at hH
    have hF := Full_any w h hg
    rw [show decide (T.most ≤ T.plain.length + T.dear.length) = T.full from rfl] at hF
    simp only [Bool.false_eq_true, if_false]
    cases hf : T.full with
    | true =>
      rw [hf] at hF
      simp only [if_true]
      go_enter Tryd.func51, Tryd.ntmps51
      go_wp2_with fail
      refine hH.mono ?_
      rintro e w' ⟨rfl, rfl⟩
      go_wp2_with fail
      refine Calls.pure_to hF ?_
      intro w1 hb1
      go_wp2_with fail
      go_returns
      exact ⟨rfl, M, h.below' hb1, Step.of_below M hb1⟩
    | false =>
      rw [hf] at hF
      simp only [Bool.false_eq_true, if_false]
      have hl := hg.len
      have h64 := hg.m64
      have hdl : Hid (T.plain.length ≤ 64) := Lib.hid (by omega)
      clear hl h64
      go_enter Tryd.func51, Tryd.ntmps51
      go_wp2_with fail
      refine hH.mono ?_
      rintro e w' ⟨rfl, rfl⟩
      go_wp2_with fail
      refine Calls.pure_to hF ?_
      intro w1 hb1
      have h1 := h.below' hb1
      have S1 := Step.of_below M hb1
      obtain ⟨c0, c1, c2, c3, c4, z⟩ := h1.five
      have gl := h1.row.lt
      clear hb1
      go_wp2_with (at_builtin; refine wpList_append_own_at _ rfl _ _ 99 rfl B tI i0 (.int .i64 0) 1 8 Tryd.underlying99 HI.out.1 HI.out.2.1 HI.out.2.2.1 HI.out.2.2.2 rfl (by decide) _ _ _ rfl (h1.o1.alloc _) ⟨w1.heap.size, 0, none⟩ 1 1 [.int .i64 x] rfl rfl ?c1 ?c2 ?c3 ?c4 ?c5 ?_)
      case c1 => exact cellOne _ _ _
      case c2 => simp [Value.oneCell']
      case c3 => have := hdl.out; unfold maxLen; omega
      case c4 => have := hdl.out; omega
      case c5 => have := h1.le; simp; omega
      intro v' w2 ho hgr _ hloc
      obtain ⟨av, mv, cv, rfl⟩ := own_shape ho
      have hgr2 := (World.grownBy_alloc w1 (.cells #[.int .i64 x] tI) M.v1.ownBlock).trans hgr
      have r2 := h1.row.grown hgr2 (fun e => h1.g1 e.symm)
      have k2 := r2.cell 2 rfl
      have z2 := r2.free 2
      obtain ⟨N1, N2⟩ := h1.set1 hgr2 (irow_snoc ho) (hloc.imp id fun e => ⟨_, e, by simp⟩)
      clear ho hgr hgr2 hloc r2 c0 c1 c2 c3 c4 z
      go_wp2_with fail
      go_returns
      exact ⟨rfl, _, N1, S1.trans N2⟩
theorem irow_below {w' : World} {v : Value} {xs : List Int} (h : w.irow B tI v xs) (hb : Below w.heap.size w w') : w'.irow B tI v xs := irow_same h fun k hk => hb.block k (h.lt k hk).2
theorem del_first {g n cap : Nat} {x : Int} {xs : List Int} (h : w.irow B tI (.slice (some ⟨g, 0, none⟩) n cap) (x :: xs)) :
    Calls Tryd.prog 70 #[.slice (some ⟨g, 0, none⟩) n cap, .int .i64 0, .int .i64 1] w fun e w' => e = .returned (.slice (some ⟨g, 0, none⟩) (n - 1) cap) ∧ w'.irow B tI (.slice (some ⟨g, 0, none⟩) (n - 1) cap) xs ∧ w.grownBy w' (some g) := by
  have := del_any 0 1 h (by simp) rfl
  simpa using this
theorem falls_any (w : World) (h : TurnAt B n w M T) (hl : T.plain.length + T.dear.length ≤ 1000) :
    Calls Tryd.prog 57 #[pt M.g] w fun e w' => e = .returned (.tuple #[]) ∧ ∃ M', TurnAt B n w' M' T.fallT ∧ Step M M' w w' := by
  obtain ⟨i0, hi, hz0, hz1, hz2⟩ := info_parts infoInt
  have HI : Hid (Tryd.prog.info? tI = some i0 ∧ i0.zero = some (.int .i64 0) ∧ i0.size = 1 ∧ i0.bytes = 8) := ⟨hi, hz0, hz1, hz2⟩
  clear hi hz0 hz1 hz2
  obtain ⟨c0, c1, c2, c3, c4, z⟩ := h.five
  obtain ⟨a2, k2, e2⟩ := irow_shape h.o2
  rw [e2] at c3
  have gl := h.row.lt
  by_cases hlim : T.limit < T.dear.length
  · cases hd : T.dear with
    | nil => rw [hd] at hlim; simp at hlim
    | cons d ds =>
      have HH := Lib.hid h
      have ho2 := h.o2
      rw [hd] at ho2
      obtain ⟨g2, cap2, hv2, _, g2lt, _, _, hc2⟩ := ho2.form.resolve_left (by simp)
      have cd := hc2 0 d rfl
      rw [hv2] at e2
      obtain ⟨rfl, _, rfl⟩ := Value.slice.inj e2
      have hll : T.plain.length ≤ 1000 := by omega
      obtain ⟨p, hp⟩ : ∃ p, p = T.plain.length := ⟨_, rfl⟩
      obtain ⟨q, hq⟩ : ∃ q, q = T.dear.length := ⟨_, rfl⟩
      have hq0 : 0 < q := by rw [hq, hd]; simp
      have hq1 : q ≤ 1000 := by omega
      rw [TS.fallT_yes hd hlim]
      rw [← hq] at c3 hlim
      have il : (T.limit : Int) < (q : Int) := by omega
      have hv3 : M.v2 = .slice (some ⟨g2, 0, none⟩) q cap2 := by rw [hv2, hq, hd]
      have HL := Lib.hid (And.intro hll (And.intro hq hv3))
      clear hll hl hp hq hlim h ho2 hc2 hv2 hv3 e2
      go_enter Tryd.func57, Tryd.ntmps57
      go_upto_region 0 with fail
      go_quiet (fail)
      go_upto_region 1 with fail
      refine wp_world (fun wa => Below w.heap.size w wa) (by repeat' (first | (with_reducible exact Below.refl _ _) | (with_reducible assumption) | (with_reducible refine Below.setCell ?_ ?_ _) | (with_reducible refine Below.ext ?_ _ ?_) | (with_reducible refine Below.alloc ?_ ?_ _) | (with_reducible refine Below.drew ?_) | (with_reducible refine Below.drewN ?_ _) | (with_reducible exact Nat.le_refl _) | (dsimp only; omega) | (simp <;> omega))) ?_
      intro wa ha
      have hA := HH.out.below' ha
      have cd' := (ha.cell (p := ⟨g2, 0, none⟩) g2lt).trans cd
      obtain ⟨d0, d1, d2, d3, d4, dz⟩ := hA.five
      rw [HL.out.2.2] at d3
      have gla := hA.row.lt
      have g2la : g2 < wa.heap.size := Nat.lt_of_lt_of_le g2lt ha.size
      have SA := Step.of_below M ha
      clear c0 c1 c2 c3 c4 z cd g2lt gl ha
      go_cut [] (fun wc => ∃ v', TurnAt B n wc { M with v1 := v' } { T with plain := T.plain ++ [d] } ∧ Step M { M with v1 := v' } w wc)
      case first =>
        have HO := Lib.hid hA.o1
        have HS : Hid (∀ o, (wa.alloc o).cell? ⟨M.g, 2, none⟩ = some M.v1 ∧ (wa.alloc o).cell? ⟨M.g, 3, none⟩ = some (.slice (some ⟨g2, 0, none⟩) q cap2) ∧ (wa.alloc o).cell? ⟨g2, 0, none⟩ = some (.int .i64 d) ∧ (wa.alloc o).frozen? ⟨M.g, 2, none⟩ = false) := Lib.hid fun o =>
          ⟨(hA.row.alloc o).cell 2 rfl, (((Below.refl wa.heap.size wa).alloc (Nat.le_refl _) o).cell (p := ⟨M.g, 3, none⟩) hA.row.lt).trans d3, (((Below.refl wa.heap.size wa).alloc (Nat.le_refl _) o).cell (p := ⟨g2, 0, none⟩) g2la).trans cd', (hA.row.alloc o).free 2⟩
        have HNE : Hid (some M.g ≠ M.v1.ownBlock ∧ some g2 ≠ M.v1.ownBlock) := Lib.hid ⟨fun e => hA.g1 e.symm, fun e => by
          have e2 : M.v2.ownBlock = some g2 := by rw [HL.out.2.2]; rfl
          rcases hA.d12 with e3 | e3
          · rw [e3] at e; cases e
          · exact e3 (e.symm.trans e2.symm)⟩
        go_region_law
          ((refine step_append_lies _ (by rfl) (.tmp 16) (.tmp 23) 99 (by rfl) B tI i0 (.int .i64 0) 1 8 Tryd.underlying99 HI.out.1 HI.out.2.1 HI.out.2.2.1 HI.out.2.2.2 rfl (by decide) M.v1 T.plain.length (ints T.plain) (by rfl) (HO.out.alloc _) ⟨wa.heap.size, 0, none⟩ 1 1 [.int .i64 d] (by rfl) rfl (cellOne _ _ _) (by simp [Value.oneCell']) (by decide) (by have := HL.out.1; unfold maxLen; omega) (by have := HL.out.1; omega) (by have := hA.le; simp; omega) _ rfl ?_; intro g1 cap1 w1 hown hgrow hat hlt1; have hk2 := hgrow.cell (HS.out (.cells #[.int .i64 d] tI)).1 HNE.out.1; have hz2 := (hgrow.frozen_far ⟨M.g, 2, none⟩ (by simp; omega) HNE.out.1).trans (HS.out (.cells #[.int .i64 d] tI)).2.2.2))
        all_goals (
          have hgrow' : (wa.alloc (.cells #[.int .i64 d] tI)).grownBy w1 M.v1.ownBlock := ⟨hgrow.os, hgrow.tape, hgrow.output, hgrow.size, hgrow.block⟩
          have hgr2 := (World.grownBy_alloc wa (.cells #[.int .i64 d] tI) M.v1.ownBlock).trans hgrow'
          obtain ⟨N1, N2⟩ := hA.set1 (w1 := w1) hgr2 (irow_snoc hown) (hat.imp (fun e => by rw [e]; rfl) fun e => ⟨g1, rfl, by rw [e]; simp⟩)
          go_wp2_with fail
          go_meet
          case rel => exact ⟨_, N1, SA.trans N2⟩)
      case rest =>
        obtain ⟨v1', N1, S1⟩ := hcut
        clear d0 d1 d2 d3 d4 dz cd' gla g2la hA SA
        have ho2 := N1.o2
        rw [HL.out.2.2, show T.dear = d :: ds from hd] at ho2
        have hgr3 : ∀ w4, wc.grownBy w4 (some g2) → wc.grownBy w4 M.v2.ownBlock := fun w4 h4 => by rw [HL.out.2.2]; exact h4
        have hob : M.v2.ownBlock = some g2 := by rw [HL.out.2.2]; rfl
        obtain ⟨b0, b1, b2, b3, b4, bz⟩ := N1.five
        rw [HL.out.2.2] at b3
        have gl3 := N1.row.lt
        have HN := Lib.hid (And.intro N1 S1)
        clear N1 S1
        go_wp2_with fail
        refine (del_first ho2).mono ?_
        rintro e w4 ⟨rfl, k1, k2⟩
        have k3 := hgr3 _ k2
        obtain ⟨N2, S2⟩ := HN.out.1.set2 (w1 := w4) k3 k1 (.inl (by rw [hob]; rfl))
        have r4 := HN.out.1.row.grown k3 (fun e => HN.out.1.g2 e.symm)
        have q3 := r4.cell 3 rfl
        have qz := r4.free 3
        have S3 := HN.out.2.trans S2
        clear k1 k2 k3 r4 ho2 hgr3 hob b0 b1 b2 b3 b4 bz S2
        go_wp2_with fail
        go_end0
        exact ⟨rfl, _, N2, S3⟩
  · rw [TS.fallT_no hlim]
    obtain ⟨q, hq⟩ : ∃ q, q = T.dear.length := ⟨_, rfl⟩
    have hq1 : q ≤ 1000 := by omega
    rw [← hq] at c3 hlim
    have il : ¬ (T.limit : Int) < (q : Int) := by omega
    have HH := Lib.hid h
    clear hq hl h hlim
    go_enter Tryd.func57, Tryd.ntmps57
    go_upto_region 0 with fail
    go_quiet (fail)
    go_wp2_with fail
    go_end0
    exact ⟨rfl, M, HH.out.below' (by repeat' (first | (with_reducible exact Below.refl _ _) | (with_reducible assumption) | (with_reducible refine Below.setCell ?_ ?_ _) | (with_reducible refine Below.ext ?_ _ ?_) | (with_reducible refine Below.alloc ?_ ?_ _) | (with_reducible refine Below.drew ?_) | (with_reducible refine Below.drewN ?_ _) | (with_reducible exact Nat.le_refl _) | (dsimp only; omega) | (simp <;> omega))), Step.of_below M (by repeat' (first | (with_reducible exact Below.refl _ _) | (with_reducible assumption) | (with_reducible refine Below.setCell ?_ ?_ _) | (with_reducible refine Below.ext ?_ _ ?_) | (with_reducible refine Below.alloc ?_ ?_ _) | (with_reducible refine Below.drew ?_) | (with_reducible refine Below.drewN ?_ _) | (with_reducible exact Nat.le_refl _) | (dsimp only; omega) | (simp <;> omega)))⟩
end Go.Proofs.YtijagdpkclghnaaDoor
/- Touch, Drop, Pin of a turn: contracts. -/
namespace Go.Proofs.YtijagdpkclghnaaDoor
open Go Go.RowKit
set_option maxRecDepth 100000
variable {B n : Nat} {w : World} {M : TM} {T : TS}
/-- The turn without a key in its rows. -/
def TS.outs (T : TS) (k : Int) : TS := { T with plain := T.plain.erase k, dear := T.dear.erase k }
theorem TS.outs_no (T : TS) (k : Int) (h : T.has k = false) : T.outs k = T := by
  unfold TS.has at h
  rw [Bool.or_eq_false_iff] at h
  unfold TS.outs
  rw [List.erase_of_not_mem (by simpa using h.2), List.erase_of_not_mem (by simpa using h.1)]
set_option maxHeartbeats 1000000 in
theorem Touch_any (x : Int) (w : World) (h : TurnAt B n w M T) (hg : Good T) :
    Calls Tryd.prog 34 #[pt M.g, .int .i64 x] w fun e w' => e = .returned (.bool (T.has x)) ∧ ∃ M', TurnAt B n w' M' (T.touchT x) ∧ Step M M' w w' := by
  obtain ⟨i0, hi, hz0, hz1, hz2⟩ := info_parts infoInt
  have HI : Hid (Tryd.prog.info? tI = some i0 ∧ i0.zero = some (.int .i64 0) ∧ i0.size = 1 ∧ i0.bytes = 8) := ⟨hi, hz0, hz1, hz2⟩
  clear hi hz0 hz1 hz2
  have hl := hg.len
  have h64 := hg.m64
  have HL : Hid (T.plain.length ≤ 64 ∧ T.dear.length ≤ 64) := Lib.hid ⟨by omega, by omega⟩
  clear hl h64
  obtain ⟨c0, c1, c2, c3, c4, z⟩ := h.five
  have HW : Hid (T.has x = (T.dear.contains x || T.plain.contains x)) := Lib.hid rfl
  have HO := Lib.hid (TS.outs_no T x)
  obtain ⟨p, hp⟩ : ∃ p, p = T.plain.contains x := ⟨_, rfl⟩
  obtain ⟨d, hd⟩ : ∃ d, d = T.dear.contains x := ⟨_, rfl⟩
  rw [← hp, ← hd] at HW
  have HH := Lib.hid h
  go_enter Tryd.func34, Tryd.ntmps34
  go_wp2_with fail
  refine (out_any x h.o1 (by have := HL.out.1; omega)).mono ?_
  rintro e w1 ⟨v1', rfl, ho1, hv1, hg1⟩
  obtain ⟨a1, m1, k1, rfl⟩ := own_shape ho1
  rw [← hp]
  have r1 := HH.out.row.grown hg1 (fun e => HH.out.g1 e.symm)
  have e2 := r1.cell 2 rfl
  have z2 := r1.free 2
  obtain ⟨N1, S1⟩ := HH.out.set1 hg1 ho1 (.inl hv1)
  clear c0 c1 c2 c3 c4 z h ho1 hv1 hg1 r1 hp
  go_upto_region 5 with fail
  obtain ⟨w2, hw2⟩ : ∃ w2, w2 = w1.setCell ⟨M.g, 2, none⟩ (.slice a1 m1 k1) := ⟨_, rfl⟩
  rw [← hw2] at N1 S1 ⊢
  clear hw2 e2 z2
  obtain ⟨c0, c1, c2, c3, c4, z⟩ := N1.five
  have HN := Lib.hid (And.intro N1 S1)
  go_wp2_with fail
  refine (out_any x N1.o2 (Nat.le_trans HL.out.2 (by decide))).mono ?_
  rintro e w3 ⟨v2', rfl, ho2, hv2, hg2⟩
  obtain ⟨a2, m2, k2, rfl⟩ := own_shape ho2
  have hd' : T.dear.contains x = d := hd.symm
  rw [show ({ T with plain := T.plain.erase x } : TS).dear.contains x = d from hd']
  have r2 := HN.out.1.row.grown hg2 (fun e => HN.out.1.g2 e.symm)
  have e3 := r2.cell 3 rfl
  have z3 := r2.free 3
  obtain ⟨N2, S2⟩ := HN.out.1.set2 hg2 ho2 (.inl hv2)
  have S3 := HN.out.2.trans S2
  clear c0 c1 c2 c3 c4 z N1 S1 S2 ho2 hv2 hg2 r2 hd hd'
  go_upto_region 6 with fail
  obtain ⟨w4, hw4⟩ : ∃ w4, w4 = w3.setCell ⟨M.g, 3, none⟩ (.slice a2 m2 k2) := ⟨_, rfl⟩
  rw [← hw4] at N2 S3 ⊢
  clear hw4 e3 z3
  have N3 : TurnAt B n w4 { M with v1 := .slice a1 m1 k1, v2 := .slice a2 m2 k2 } (T.outs x) := N2
  clear N2
  by_cases hh : p = false ∧ d = false
  · obtain ⟨rfl, rfl⟩ := hh
    go_wp2_with fail
    go_returns
    have hf : T.has x = false := HW.out
    refine ⟨by rw [hf]; rfl, _, ?_, S3⟩
    rw [HO.out hf] at N3
    unfold TS.touchT
    rw [if_neg (by rw [hf]; simp)]
    exact N3
  · have ht : Hid (T.has x = true) := Lib.hid (by rw [HW.out]; cases p <;> cases d <;> simp_all)
    have HNN := Lib.hid (And.intro N3 S3)
    obtain ⟨c0, c1, c2, c3, c4, z⟩ := N3.five
    have gl := N3.row.lt
    clear S3
    have hpd : p = true ∨ (p = false ∧ d = true) := by cases p <;> cases d <;> simp_all
    clear hh N3
    rcases hpd with rfl | ⟨rfl, rfl⟩
    all_goals (
      go_wp2_with (at_builtin; refine wpList_append_own_at _ rfl _ _ 99 rfl B tI i0 (.int .i64 0) 1 8 Tryd.underlying99 HI.out.1 HI.out.2.1 HI.out.2.2.1 HI.out.2.2.2 rfl (by decide) _ _ _ rfl (HNN.out.1.o2.alloc _) ⟨w4.heap.size, 0, none⟩ 1 1 [.int .i64 x] rfl rfl ?c1 ?c2 ?c3 ?c4 ?c5 ?_)
      case c2 => simp [Value.oneCell']
      case c3 => have h1 := HL.out.2; have h2 : (T.dear.erase x).length ≤ T.dear.length := List.length_erase_le; unfold maxLen; show (T.dear.erase x).length + 1 ≤ _; omega
      case c4 => have h1 := HL.out.2; have h2 : (T.dear.erase x).length ≤ T.dear.length := List.length_erase_le; show ((T.dear.erase x).length + 1) * 8 ≤ _; omega
      case c5 => have := HNN.out.1.le; simp; omega
      intro v' w5 ho hgr _ hloc
      obtain ⟨av, mv, cv, rfl⟩ := own_shape ho
      have hgr2 := (World.grownBy_alloc w4 (.cells #[.int .i64 x] tI) (Value.slice a2 m2 k2).ownBlock).trans hgr
      have r2 := HNN.out.1.row.grown hgr2 (fun e => HNN.out.1.g2 e.symm)
      have k3 := r2.cell 3 rfl
      have z3 := r2.free 3
      obtain ⟨N4, S4⟩ := HNN.out.1.set2 hgr2 (irow_snoc ho) (hloc.imp id fun e => ⟨_, e, by simp⟩)
      have S5 := HNN.out.2.trans S4
      clear ho hgr hgr2 hloc r2 c0 c1 c2 c3 c4 z gl S4
      go_upto_region 9 with fail
      obtain ⟨w6, hw6⟩ : ∃ w6, w6 = w5.setCell ⟨M.g, 3, none⟩ (.slice av mv cv) := ⟨_, rfl⟩
      rw [← hw6] at N4 S5 ⊢
      clear hw6 k3 z3
      have N5 : TurnAt B n w6 { M with v1 := .slice a1 m1 k1, v2 := .slice av mv cv } (T.moved x) := N4
      have hlen := moved_len hg x ht.out
      have hl5 : (T.moved x).plain.length + (T.moved x).dear.length ≤ 1000 := by have := hg.len; have := hg.m64; omega
      clear N4 hlen
      have hF := falls_any w6 N5 hl5
      clear hl5
      go_wp2_with fail
      refine hF.mono ?_
      rintro e w7 ⟨rfl, M', N6, S6⟩
      go_wp2_with fail
      go_returns
      refine ⟨by rw [ht.out]; rfl, M', ?_, S5.trans S6⟩
      unfold TS.touchT
      rw [if_pos ht.out]
      exact N6)
set_option maxHeartbeats 1000000 in
theorem Drop_any (x : Int) (w : World) (h : TurnAt B n w M T) (hg : Good T) (hx : In64 x) :
    Calls Tryd.prog 36 #[pt M.g, .int .i64 x] w fun e w' => e = .returned (.bool (T.has x)) ∧ ∃ M', TurnAt B n w' M' (T.dropT x) ∧ Step M M' w w' := by
  have hl := hg.len
  have h64 := hg.m64
  have HL : Hid (T.plain.length ≤ 64 ∧ T.dear.length ≤ 64) := Lib.hid ⟨by omega, by omega⟩
  clear hl h64
  obtain ⟨c0, c1, c2, c3, c4, z⟩ := h.five
  have HW : Hid (T.has x = (T.dear.contains x || T.plain.contains x)) := Lib.hid rfl
  obtain ⟨p, hp⟩ : ∃ p, p = T.plain.contains x := ⟨_, rfl⟩
  obtain ⟨d, hd⟩ : ∃ d, d = T.dear.contains x := ⟨_, rfl⟩
  rw [← hp, ← hd] at HW
  have HH := Lib.hid h
  have HX := Lib.hid hx
  clear hx
  go_enter Tryd.func36, Tryd.ntmps36
  go_wp2_with fail
  refine (out_any x h.o1 (by have := HL.out.1; omega)).mono ?_
  rintro e w1 ⟨v1', rfl, ho1, hv1, hg1⟩
  obtain ⟨a1, m1, k1, rfl⟩ := own_shape ho1
  rw [← hp]
  have r1 := HH.out.row.grown hg1 (fun e => HH.out.g1 e.symm)
  have e2 := r1.cell 2 rfl
  have z2 := r1.free 2
  obtain ⟨N1, S1⟩ := HH.out.set1 hg1 ho1 (.inl hv1)
  clear c0 c1 c2 c3 c4 z h ho1 hv1 hg1 r1 hp
  go_upto_region 5 with fail
  obtain ⟨w2, hw2⟩ : ∃ w2, w2 = w1.setCell ⟨M.g, 2, none⟩ (.slice a1 m1 k1) := ⟨_, rfl⟩
  rw [← hw2] at N1 S1 ⊢
  clear hw2 e2 z2
  obtain ⟨c0, c1, c2, c3, c4, z⟩ := N1.five
  have HN := Lib.hid (And.intro N1 S1)
  go_wp2_with fail
  refine (out_any x N1.o2 (Nat.le_trans HL.out.2 (by decide))).mono ?_
  rintro e w3 ⟨v2', rfl, ho2, hv2, hg2⟩
  obtain ⟨a2, m2, k2, rfl⟩ := own_shape ho2
  have hd' : T.dear.contains x = d := hd.symm
  rw [show ({ T with plain := T.plain.erase x } : TS).dear.contains x = d from hd']
  have r2 := HN.out.1.row.grown hg2 (fun e => HN.out.1.g2 e.symm)
  have e3 := r2.cell 3 rfl
  have z3 := r2.free 3
  obtain ⟨N2, S2⟩ := HN.out.1.set2 hg2 ho2 (.inl hv2)
  have S3 := HN.out.2.trans S2
  clear c0 c1 c2 c3 c4 z N1 S1 S2 ho2 hv2 hg2 r2 hd hd'
  go_upto_region 6 with fail
  obtain ⟨w4, hw4⟩ : ∃ w4, w4 = w3.setCell ⟨M.g, 3, none⟩ (.slice a2 m2 k2) := ⟨_, rfl⟩
  rw [← hw4] at N2 S3 ⊢
  clear hw4 e3 z3
  have N3 : TurnAt B n w4 { M with v1 := .slice a1 m1 k1, v2 := .slice a2 m2 k2 } (T.outs x) := N2
  clear N2
  obtain ⟨c0, c1, c2, c3, c4, z⟩ := N3.five
  have HNN := Lib.hid (And.intro N3 S3)
  clear N3 S3
  go_wp2_with (at_delete; refine wpList_delete_bm rfl _ _ 98 rfl Tryd.underlying3 Tryd.underlying98 rfl HNN.out.1.pm x rfl HX.out ?_)
  intro w5 hb5 hg5
  obtain ⟨N4, S4⟩ := HNN.out.1.setM hg5 hb5
  have S5 := HNN.out.2.trans S4
  clear hb5 hg5 c0 c1 c2 c3 c4 z S4
  go_wp2_with fail
  all_goals (
    go_returns
    refine ⟨by rw [HW.out]; cases p <;> cases d <;> first | rfl | simp_all, _, N4, S5⟩)
theorem Pin_any (x : Int) (on : Bool) (w : World) (h : TurnAt B n w M T) (hn : n < 100000) (hx : In64 x) :
    Calls Tryd.prog 29 #[pt M.g, .int .i64 x, .bool on] w fun e w' => e = .returned (.bool (T.has x)) ∧ TurnAt B (n + 1) w' M (T.pinT x on) ∧ Step M M w w' := by
  have hH := Has_any x w h
  rw [show (T.dear.contains x || T.plain.contains x) = T.has x from rfl] at hH
  have HX := Lib.hid hx
  have HN := Lib.hid hn
  have HT := Lib.hid h
  clear hx hn
  obtain ⟨c0, c1, c2, c3, c4, z⟩ := h.five
  unfold TS.pinT
  cases hh : T.has x with
  | false =>
    rw [hh] at hH
    go_enter Tryd.func29, Tryd.ntmps29
    go_wp2_with fail
    refine hH.mono ?_
    rintro e w' ⟨rfl, rfl⟩
    go_wp2_with fail
    go_returns
    exact ⟨rfl, HT.out.mono (by omega), Step.refl _ _⟩
  | true =>
    rw [hh] at hH
    simp only [if_true]
    cases on with
    | true =>
      simp only [if_true]
      go_enter Tryd.func29, Tryd.ntmps29
      go_wp2_with fail
      refine hH.mono ?_
      rintro e w' ⟨rfl, rfl⟩
      go_wp2_with (at_mapUpdate; refine wpList_mapUpdate_bm rfl _ _ _ 98 rfl Tryd.underlying3 Tryd.underlying98 Tryd.underlying4 rfl h.pm HN.out x rfl HX.out rfl ?_)
      intro w5 hb5 hg5
      obtain ⟨N4, S4⟩ := h.setM hg5 hb5
      go_wp2_with fail
      go_returns
      exact ⟨rfl, N4, S4⟩
    | false =>
      simp only [Bool.false_eq_true, if_false]
      go_enter Tryd.func29, Tryd.ntmps29
      go_wp2_with fail
      refine hH.mono ?_
      rintro e w' ⟨rfl, rfl⟩
      go_wp2_with (at_delete; refine wpList_delete_bm rfl _ _ 98 rfl Tryd.underlying3 Tryd.underlying98 rfl h.pm x rfl HX.out ?_)
      intro w5 hb5 hg5
      obtain ⟨N4, S4⟩ := h.setM hg5 hb5
      go_wp2_with fail
      go_returns
      exact ⟨rfl, N4.mono (by omega), S4⟩
end Go.Proofs.YtijagdpkclghnaaDoor
/- slices.Grow off the shelf, slices.Concat of two rows, Order, Victim: contracts. -/
namespace Go
open Go.RowKit
/-- An append of one owned row to another. -/
theorem wpList_append_irow {P : Program} (w : World) {ops : Array Oper} {rest : List Oper} {o : Oper} {a : Act} {Q : Exit → Act → World → Prop} (hgd : o.guard = none) (s x : Operand) (t e : TypeId) (i : TypeInfo)
    (ho : o.op = .call { callee := .builtin .append, args := #[s, x], argTypes := #[t, t] }) (ht : P.underlying t = some (.slice e)) (hi : P.info? e = some i) (hz : i.zero = some (.int .i64 0)) (hsize : i.size = 1) (hby : i.bytes = 8)
    {B C : Nat} {v u : Value} {xs ys : List Int} (hs : a.eval s = v) (hx : a.eval x = u) (hown : w.irow B e v xs) (hu : w.irow C e u ys) (hb : xs.length + ys.length ≤ 100000) (hbase : B ≤ w.heap.size)
    (h : ∀ v' w', w'.irow B e v' (xs ++ ys) → w.grownBy w' v.ownBlock → wpList P ops Q rest (a.put o.dst v') w') : wpList P ops Q (o :: rest) a w := by
  rcases hu.form with ⟨rfl, rfl⟩ | ⟨g, cap, rfl, _, _, _, _, hc⟩
  · refine wpList_plain hgd fun K hK => ?_
    have hr := run_append_owned_none (P := P) (w := w) B t o.type e i 1 ht hi v _ _ hown
    unfold Oper.wp execOp
    simp only [ho, resolve, invoke, builtin, Sem.run_bind, Sem.run_pure, Result.andThen_ok, List.map_toArray, List.map_cons, List.map_nil, hs, hx, hr]
    exact hK _ _ (h v w (by rw [List.append_nil]; exact hown) (World.grownBy.refl _ _))
  · refine wpList_append_own w hgd s x t ho B e i (.int .i64 0) 1 8 ht hi hz hsize hby rfl (by decide) v xs.length (ints xs) hs hown ⟨g, 0, none⟩ ys.length cap (ints ys) hx (by rw [ints_len, Nat.mul_one]) (fun j y hj => ?_) (fun y hy => ?_) (by unfold maxLen; omega) (by omega) hbase ?_
    · unfold ints at hj
      rw [List.getElem?_map] at hj
      cases hy : ys[j]? with
      | none => rw [hy] at hj; cases hj
      | some z =>
        rw [hy] at hj
        simp only [Option.map_some, Option.some.injEq] at hj
        rw [addr_add', Nat.zero_add, ← hj]
        exact hc j z hy
    · unfold ints at hy
      obtain ⟨z, _, rfl⟩ := List.mem_map.1 hy
      rfl
    · intro v' w' h1 h2 _
      refine h v' w' ?_ h2
      unfold World.irow
      rw [List.length_append, ints_append]
      exact h1
end Go
namespace Go.Proofs.YtijagdpkclghnaaDoor
open Go Go.RowKit Go.Shelf
set_option maxRecDepth 100000
variable {B n : Nat} {w : World} {M : TM} {T : TS}
shelf_lay_g Lays8.n4 Nm8 4 at Tryd 94 as growL
theorem Grow_any (m : Nat) (w : World) (hm : m ≤ 1000) : Calls Tryd.prog 94 #[.slice none 0 0, .int .i64 (m : Int)] w fun e w' => (∃ v, e = .returned v ∧ w'.irow w.heap.size tI v []) ∧ Below w.heap.size w w' := by
  by_cases h0 : m = 0
  · subst h0
    refine (Any8.slices_Grow_room growL none 0 0 0 w (by decide) (by decide) (by decide) (by decide)).mono ?_
    rintro e w' ⟨h1, rfl⟩
    exact ⟨⟨_, h1, World.irow.nil _ _ _⟩, Below.refl _ _⟩
  · obtain ⟨i0, hi, hz0, hz1, hz2⟩ := info_parts infoInt
    refine (Any8.slices_Grow_grow growL i0 (.int .i64 0) hi hz0 (by omega) none 0 0 m [] w (by decide) (by omega) (by rw [hz2]; omega) (by omega) (by simp) (fun _ => rfl) (fun a h => by cases h)).mono ?_
    rintro e w' ⟨h1, rfl⟩
    refine ⟨⟨_, h1, ?_⟩, (Below.refl _ _).drew.alloc (Nat.le_refl _) _⟩
    have g1 := grownCap_ge w (0 + m) 0 tI
    have g2 := grownCap_le_maxLen w (0 + m) 0 tI (by unfold maxLen; omega)
    refine World.ownsRow_made w.drew _ _ (Nat.le_refl _) g2 ?_
    simp only [Builtin.zeroCells, Array.size_append, Array.size_map, Array.size_range, Value.cells]
    show 0 + (0 + m - 0) * 1 + (grownCap w (0 + m) 0 tI - (0 + m)) * 1 = grownCap w (0 + m) 0 tI * 1
    omega
theorem Concat_any {S : Nat} {v1 v2 : Value} {xs ys : List Int} {C : Nat} (w : World) (hr : w.row S [v1, v2] 99) (h1 : w.irow C tI v1 xs) (h2 : w.irow C tI v2 ys) (hl : xs.length + ys.length ≤ 1000) :
    Calls Tryd.prog 87 #[.slice (some ⟨S, 0, none⟩) 2 2] w fun e w' => (∃ v, e = .returned v ∧ w'.irow w.heap.size tI v (xs ++ ys)) ∧ Below w.heap.size w w' := by
  obtain ⟨i0, hi, hz0, hz1, hz2⟩ := info_parts infoInt
  have HI : Hid (Tryd.prog.info? tI = some i0 ∧ i0.zero = some (.int .i64 0) ∧ i0.size = 1 ∧ i0.bytes = 8) := ⟨hi, hz0, hz1, hz2⟩
  clear hi hz0 hz1 hz2
  obtain ⟨a1, k1, e1⟩ := irow_shape h1
  obtain ⟨a2, k2, e2⟩ := irow_shape h2
  subst e1
  subst e2
  obtain ⟨p, hp⟩ : ∃ p, p = xs.length := ⟨_, rfl⟩
  obtain ⟨q, hq⟩ : ∃ q, q = ys.length := ⟨_, rfl⟩
  rw [← hp] at hr h1 hl
  rw [← hq] at hr h2 hl
  have HL := Lib.hid (And.intro hp (And.intro hq (And.intro h1 h2)))
  have HR := Lib.hid hr
  obtain ⟨c0, c1, z⟩ := hr.two
  clear hp hq h1 h2 hr
  go_enter Tryd.func87, Tryd.ntmps87
  go_wp2_with fail
  refine wp_loop_rounds 3 ?_
  rw [rounds_succ]
  go_wp2_with fail
  rw [rounds_succ]
  go_wp2_with fail
  rw [rounds_succ]
  go_wp2_with fail
  have hG := Grow_any (p + q) w hl
  simp only [Int.natCast_add] at hG
  refine hG.mono ?_
  rintro e w1 ⟨⟨v, rfl, hv⟩, hb1⟩
  clear hG c0 c1 z
  have hr1 := HR.out.below hb1 HR.out.lt
  obtain ⟨c0, c1, z⟩ := hr1.two
  have hu1 := irow_below HL.out.2.2.1 hb1
  go_wp2_with fail
  refine wp_loop_rounds 3 ?_
  rw [rounds_succ]
  go_wp2_with (at_builtin; refine wpList_append_irow _ rfl _ _ 99 tI i0 rfl Tryd.underlying99 HI.out.1 HI.out.2.1 HI.out.2.2.1 HI.out.2.2.2 rfl rfl hv hu1 (by have := HL.out.1; simp; omega) hb1.size ?_)
  intro v2' w2 ho2 hg2
  have B2 := hb1.grown hg2 hb1.size (fun k hk => (hv.lt k hk).1)
  have hu2 := irow_below HL.out.2.2.2 B2
  have hr2 := HR.out.below B2 HR.out.lt
  clear c0 c1 z hr1 hu1 hv hb1 hg2
  obtain ⟨c0, c1, z⟩ := hr2.two
  go_wp2_with fail
  rw [rounds_succ]
  go_wp2_with (at_builtin; refine wpList_append_irow _ rfl _ _ 99 tI i0 rfl Tryd.underlying99 HI.out.1 HI.out.2.1 HI.out.2.2.1 HI.out.2.2.2 rfl rfl ho2 hu2 (by have h1 := HL.out.1; have h2 := HL.out.2.1; simp; omega) B2.size ?_)
  intro v3' w3 ho3 hg3
  have B3 := B2.grown hg3 B2.size (fun k hk => (ho2.lt k hk).1)
  clear c0 c1 z hr2 hu2 ho2 B2 hg3
  go_wp2_with fail
  rw [rounds_succ]
  go_wp2_with fail
  go_returns
  exact ⟨⟨v3', rfl, ho3⟩, B3⟩
theorem irow_mono {B' : Nat} {v : Value} {xs : List Int} (h : w.irow B tI v xs) (hb : B' ≤ B) : w.irow B' tI v xs :=
  ⟨h.1, h.2.imp id fun ⟨g, cap, cur, hv, hB, r⟩ => ⟨g, cap, cur, hv, Nat.le_trans hb hB, r⟩⟩
theorem Order_any (w : World) (h : TurnAt B n w M T) (hg : Good T) :
    Calls Tryd.prog 75 #[pt M.g] w fun e w' => (∃ v, e = .returned v ∧ w'.irow w.heap.size tI v T.keys) ∧ Below w.heap.size w w' := by
  have hl : T.plain.length + T.dear.length ≤ 1000 := by have := hg.len; have := hg.m64; omega
  obtain ⟨c0, c1, c2, c3, c4, z⟩ := h.five
  have gl := h.row.lt
  obtain ⟨a1, k1, e1⟩ := irow_shape h.o1
  obtain ⟨a2, k2, e2⟩ := irow_shape h.o2
  have ho1 := h.o1
  have ho2 := h.o2
  rw [e1] at c2 ho1
  rw [e2] at c3 ho2
  obtain ⟨p, hp⟩ : ∃ p, p = T.plain.length := ⟨_, rfl⟩
  obtain ⟨q, hq⟩ : ∃ q, q = T.dear.length := ⟨_, rfl⟩
  rw [← hp] at c2 ho1
  rw [← hq] at c3 ho2
  have HH := Lib.hid (And.intro h hl)
  have H12 := Lib.hid (And.intro ho1 ho2)
  clear h hl hg ho1 ho2 e1 e2 hp hq
  go_enter Tryd.func75, Tryd.ntmps75
  go_upto_region 3 with fail
  refine wp_region_ext_head 8 w.heap.size (Nat.le_refl _) (by kernel_rfl) (by kernel_rfl) ?_
  intro _
  simp only [List.take_succ_cons, List.take_zero, List.drop_succ_cons, List.drop_zero]
  repeat (go_big_quiet_step (fail))
  refine wpQuiet_nil ?_
  intro x
  have bx := World.ext_below x
  obtain ⟨wx, hwx⟩ : ∃ wx, wx = w.ext w.heap.size x := ⟨_, rfl⟩
  rw [← hwx] at bx ⊢
  clear hwx
  have hr := World.row.new wx [.slice a1 p k1, .slice a2 q k2] 99
  have b1 := bx.alloc bx.size (.cells #[.slice a1 p k1, .slice a2 q k2] 99)
  have i1 := irow_below H12.out.1 b1
  have i2 := irow_below H12.out.2 b1
  go_wp2_with fail
  refine (Concat_any _ hr i1 i2 HH.out.2).mono ?_
  rintro e w2 ⟨⟨v, rfl, hv⟩, hb2⟩
  have b2 := b1.trans (hb2.mono b1.size)
  have hv2 : w2.irow w.heap.size tI v T.keys := irow_mono hv b1.size
  go_wp2_with fail
  go_returns
  exact ⟨⟨v, rfl, hv2⟩, b2⟩
theorem find_first {p : Int → Bool} : ∀ (l : List Int) (i : Nat) (y : Int), l[i]? = some y → p y = true → (∀ j z, j < i → l[j]? = some z → p z = false) → l.find? p = some y
  | [], i, y, h, _, _ => by simp at h
  | x :: l, 0, y, h, hp, _ => by
    simp at h; subst h
    rw [List.find?_cons_of_pos hp]
  | x :: l, i + 1, y, h, hp, hn => by
    have h0 := hn 0 x (by omega) rfl
    rw [List.find?_cons_of_neg (by rw [h0]; simp)]
    exact find_first l i y (by simpa using h) hp fun j z hj hz => hn (j + 1) z (by omega) (by simpa using hz)
/-- The key that goes: the first one that isn't pinned. -/
def TS.victim (T : TS) : Option Int := T.keys.find? fun k => !T.pins.contains k
set_option maxHeartbeats 1000000 in
theorem Victim_any (w : World) (h : TurnAt B n w M T) (hg : Good T) :
    Calls Tryd.prog 67 #[pt M.g] w fun e w' => e = .returned (.tuple #[.int .i64 (T.victim.getD 0), .bool T.victim.isSome]) ∧ Below w.heap.size w w' := by
  have hl : T.keys.length ≤ 1000 := by have := hg.len; have := hg.m64; unfold TS.keys; rw [List.length_append]; omega
  have HH := Lib.hid (And.intro h (And.intro hg.in64 hl))
  have hO := Order_any w h hg
  have hmz : ∀ w, (zeroValue 4).run Tryd.prog w = .ok (.bool false) w := fun w => by kernel_rfl
  have HZ := Lib.hid hmz
  clear hl h hg hmz
  go_enter Tryd.func67, Tryd.ntmps67
  go_wp2_with fail
  refine hO.mono ?_
  rintro e w1 ⟨⟨v, rfl, hv⟩, hb1⟩
  obtain ⟨a, c, rfl⟩ := irow_shape hv
  have HV := Lib.hid (And.intro hv hb1)
  obtain ⟨m, hm⟩ : ∃ m, m = T.keys.length := ⟨_, rfl⟩
  rw [← hm]
  have hm1 : m ≤ 1000 := by rw [hm]; exact HH.out.2.2
  have HM := Lib.hid hm
  clear hO hv hb1 hm
  go_wp2_with fail
  go_loopw [9] (fun x wr => ∃ (i : Nat), i ≤ m ∧ x = .int .i64 i ∧ Below w.heap.size w wr ∧ Below w1.heap.size w1 wr ∧ ∀ j y, j < i → T.keys[j]? = some y → T.pins.contains y = true) (fun x _ => m - (intOf x).toNat)
  case atStart => exact ⟨0, by omega, rfl, HV.out.2, Below.refl _ _, fun j y hj => by omega⟩
  case round =>
    obtain ⟨i, hi, rfl, hB, hB1, hall⟩ := hrel
    have HA := Lib.hid hall
    clear hall
    by_cases hlt : i < m
    · have hil : i < T.keys.length := by rw [← HM.out]; exact hlt
      obtain ⟨y, hy⟩ : ∃ y, T.keys[i]? = some y := ⟨T.keys[i], List.getElem?_eq_getElem hil⟩
      have hvr := irow_below HV.out.1 hB1
      obtain ⟨g1, cap1, ev, _, _, _, _, hcell⟩ := hvr.form.resolve_left (fun e => by rw [e.2] at hil; simp at hil)
      have cy := hcell i y hy
      have hyin := HH.out.2.1 y (List.mem_of_getElem? hy)
      obtain ⟨rfl, _, rfl⟩ := Value.slice.inj ev
      have hT := HH.out.1.below' hB
      obtain ⟨c0, c1, c2, c3, c4, z⟩ := hT.five
      have HT := Lib.hid hT
      have HY := Lib.hid (And.intro hy hyin)
      clear hvr hcell ev hy hyin hT hil
      cases hp : T.pins.contains y with
      | false =>
        have HP := Lib.hid hp
        clear hp
        go_wp2_with (at_lookup; refine wpList_lookup_bmr rfl _ _ 98 rfl Tryd.underlying3 Tryd.underlying98 Tryd.underlying4 HZ.out rfl HT.out.pm y rfl HY.out.2 false HP.out ?_)
        go_ret2
        have hv : T.victim = some y := by
          unfold TS.victim
          exact find_first T.keys i y HY.out.1 (by rw [HP.out]; rfl) fun j z hj hz => by rw [HA.out j z hj hz]; rfl
        refine ⟨?_, hB⟩
        rw [hv]
        rfl
      | true =>
        have HP := Lib.hid hp
        clear hp
        go_wp2_with (at_lookup; refine wpList_lookup_bmr rfl _ _ 98 rfl Tryd.underlying3 Tryd.underlying98 Tryd.underlying4 HZ.out rfl HT.out.pm y rfl HY.out.2 true HP.out ?_)
        go_roundw
        case rel =>
          refine ⟨i + 1, by omega, by go_num, hB, hB1, fun j z hj hz => ?_⟩
          by_cases e : j = i
          · subst e
            have := HY.out.1.symm.trans hz
            cases this
            exact HP.out
          · exact HA.out j z (by omega) hz
        case measure => simp [intOf] <;> omega
    · have hn : T.victim = none := by
        unfold TS.victim
        rw [List.find?_eq_none]
        intro z hz
        obtain ⟨j, hj, rfl⟩ := List.getElem_of_mem hz
        have := HA.out j _ (by have := HM.out; omega) (List.getElem?_eq_getElem hj)
        rw [this]; simp
      go_wp2_with fail
      go_ret2
      refine ⟨?_, hB⟩
      rw [hn]
      rfl
end Go.Proofs.YtijagdpkclghnaaDoor
namespace Go.Proofs.YtijagdpkclghnaaDoor
open Go Go.RowKit
set_option maxRecDepth 100000
def nats (l : List Nat) : List Value := l.map fun n : Nat => Value.int .i64 (n : Int)
theorem nats_append (a b : List Nat) : nats (a ++ b) = nats a ++ nats b := by unfold nats; simp
theorem nats_length (a : List Nat) : (nats a).length = a.length := by unfold nats; simp
theorem infoIntM : (Tryd.prog.info? 3).map (fun i => (i.zero, i.size, i.bytes)) = some (some (.int .i64 0), 1, 8) := by kernel_rfl
theorem bitsOf_len (base y : Nat) : (bitsOf base y).length ≤ 64 := by
  unfold bitsOf
  rw [List.length_map]
  exact Nat.le_trans (List.length_filter_le _ _) (by simp)
theorem clear_bits (y : Nat) (hy : y < 18446744073709551616) (h0 : y ≠ 0) : bits .and .u64 (y : Int) ((y : Int) - 1) = ((y &&& (y - 1) : Nat) : Int) := by
  rw [show (y : Int) - 1 = ((y - 1 : Nat) : Int) by omega, u64_and_nat y _ hy (by omega)]
/-- The numbers of the words from k on. -/
def tails (s : Set4) (k : Nat) : List Nat := if k = 0 then s.list else if k = 1 then bitsOf 64 s.b ++ (bitsOf 128 s.c ++ bitsOf 192 s.d) else if k = 2 then bitsOf 128 s.c ++ bitsOf 192 s.d else if k = 3 then bitsOf 192 s.d else []
theorem tails_step (s : Set4) (k : Nat) (hk : k < 4) : tails s k = bitsOf (64 * k) (s.word k) ++ tails s (k + 1) := by
  have : k = 0 ∨ k = 1 ∨ k = 2 ∨ k = 3 := by omega
  rcases this with rfl | rfl | rfl | rfl
  · exact s.list_words
  · rfl
  · rfl
  · exact (List.append_nil _).symm
theorem list_len (s : Set4) : s.list.length ≤ 256 := by unfold Set4.list; exact Nat.le_trans (List.length_filter_le _ _) (by simp)
theorem part_len {a b c : List Nat} {s : Set4} (h : a ++ (b ++ c) = s.list) : a.length ≤ 256 := by have := list_len s; rw [← h] at this; simp at this; omega
theorem cellOneM (w : World) (v : Value) (t : TypeId) : ∀ (j : Nat) (u : Value), [v][j]? = some u → (w.alloc (.cells #[v] t)).cell? ((⟨w.heap.size, 0, none⟩ : Addr).add j) = some u := by
  intro j u h
  cases j with
  | zero => simp at h; subst h; simp [Addr.add]
  | succ j => simp at h
theorem own_snoc {w : World} {B : Nat} {E : TypeId} {v : Value} {l : List Nat} {z : Int} (h : w.ownsRow B E 1 v (l.length + 1) (nats l ++ [.int .i64 z])) (n : Nat) (hz : z = (n : Int)) : w.ownsRow B E 1 v (l ++ [n]).length (nats (l ++ [n])) := by
  subst hz
  rw [nats_append, List.length_append]
  exact h
set_option maxHeartbeats 4000000 in
theorem List_any (s : Set4) (w : World) (hT : Tab w) : Calls Tryd.prog 32 #[s.val] w fun e w' => (∃ v, e = .returned v ∧ w'.ownsRow w.heap.size 3 1 v s.list.length (nats s.list)) ∧ Below w.heap.size w w' := by
  have hlt := hT.lt
  have HT := Lib.hid hT
  clear hT
  obtain ⟨i0, hi, hz0, hz1, hz2⟩ := info_parts infoIntM
  have HI : Hid (Tryd.prog.info? 3 = some i0 ∧ i0.zero = some (.int .i64 0) ∧ i0.size = 1 ∧ i0.bytes = 8) := ⟨hi, hz0, hz1, hz2⟩
  clear hi hz0 hz1 hz2
  go_enter Tryd.func32, Tryd.ntmps32
  go_wp2
  go_loopw [3, 7] (fun v i wr => ∃ (k : Nat) (l : List Nat), k ≤ 4 ∧ i = .int .i64 k ∧ l ++ tails s k = s.list ∧ Below w.heap.size w wr ∧ w.heap.size + 1 ≤ wr.heap.size ∧ wr.ownsRow w.heap.size 3 1 v l.length (nats l)) (fun _ i _ => 4 - (intOf i).toNat)
  case atStart => exact ⟨0, [], by omega, rfl, rfl, (by repeat' (first | (with_reducible exact Below.refl _ _) | (with_reducible assumption) | (with_reducible refine Below.setCell ?_ ?_ _) | (with_reducible refine Below.ext ?_ _ ?_) | (with_reducible refine Below.alloc ?_ ?_ _) | (with_reducible refine Below.drew ?_) | (with_reducible refine Below.drewN ?_ _) | (with_reducible exact Nat.le_refl _) | (dsimp only; omega) | (simp <;> omega))), by simp, World.ownsRow_nil _ _ _ _⟩
  case round =>
    obtain ⟨k, l, hk, rfl, hl, hB, hz, ho⟩ := hrel
    have HLl := Lib.hid hl
    clear hl
    by_cases h4 : k = 4
    · subst h4
      go_wp2
      go_ret
      have hl := HLl.out
      rw [show tails s 4 = [] by rfl, List.append_nil] at hl
      rw [hl] at ho
      exact ⟨⟨_, rfl, ho⟩, hB⟩
    · obtain rfl | rfl | rfl | rfl : k = 0 ∨ k = 1 ∨ k = 2 ∨ k = 3 := by omega
      · go_wp2
        obtain ⟨wo, rfl⟩ : ∃ wo : World, wo = wr := ⟨_, rfl⟩
        go_loopw [3, 5] (fun v x wr => ∃ (l : List Nat) (y : Nat), y < 18446744073709551616 ∧ x = .int .u64 y ∧ l ++ (bitsOf (64 * 0) y ++ tails s (0 + 1)) = s.list ∧ Below w.heap.size w wr ∧ w.heap.size + 1 ≤ wr.heap.size ∧ wr.ownsRow w.heap.size 3 1 v l.length (nats l)) (fun _ x _ => (intOf x).toNat)
        case atStart => exact ⟨l, s.word 0, s.word_lt 0, rfl, by rw [← tails_step s 0 (by omega)]; exact HLl.out, hB, hz, ho⟩
        case round =>
          clear hB hz ho HLl
          obtain ⟨l2, y, hy, rfl, hl, hB, hz, ho⟩ := hrel
          have HTr := Lib.hid (HT.out.below hB hlt)
          have hlen := part_len hl
          have HLl := Lib.hid hl
          clear hl
          by_cases h0 : y = 0
          · subst h0
            go_wp2
            go_roundw
            case rel => exact ⟨0 + 1, l2, by omega, by go_num, by have := HLl.out; rw [bitsOf_zero, List.nil_append] at this; exact this, hB, hz, ho⟩
            case measure => simp [intOf]
          · have e0 : ((y : Int) == 0) = false := by rw [beq_cast]; exact beq_eq_false_iff_ne.2 h0
            have hk2 := (ctz_spec y h0 hy).1
            have Z := Lib.hid h0
            clear h0
            go_wp2_with (first | (go_at_call 55; refine (Trail_any _ _ hy Z.out HTr.out).mono ?_; rintro e w' ⟨rfl, rfl⟩) | (at_builtin; refine wpList_append_own _ rfl _ _ 45 rfl w.heap.size 3 i0 (.int .i64 0) 1 8 Tryd.underlying45 HI.out.1 HI.out.2.1 HI.out.2.2.1 HI.out.2.2.2 rfl (by decide) _ _ _ rfl (ho.alloc _) ⟨wr.heap.size, 0, none⟩ 1 1 [.int .i64 (Lib.ctz 64 y : Nat)] rfl rfl ?c1 ?c2 ?c3 ?c4 ?c5 ?_))
            case c1 => exact cellOneM _ _ _
            case c2 => simp [Value.oneCell']
            case c3 => unfold maxLen; omega
            case c4 => omega
            case c5 => simp; omega
            intro v' w1 ho1 hg _
            have hB1 : Below w.heap.size w w1 := (hB.alloc (by omega) _).grown hg (by simp; omega) (fun k hk => (ho.lt k hk).1)
            have hz1 : w.heap.size + 1 ≤ w1.heap.size := by have := hg.size; simp at this; omega
            have ho2 := own_snoc ho1 (64 * 0 + Lib.ctz 64 y) (by simp)
            have HC := Lib.hid (clear_bits y hy Z.out)
            have hlt2 := clear_lt y Z.out
            clear ho ho1 hg hB hz
            go_wp2
            go_roundw
            case rel =>
              (repeat apply Exists.intro)
              refine ⟨⟨l2 ++ [64 * 0 + Lib.ctz 64 y], y &&& (y - 1), Nat.lt_trans hlt2 hy, by rw [HC.out], ?_, hB1, hz1, ho2⟩, rfl⟩
              have := HLl.out
              rw [bitsOf_step _ y Z.out hy] at this
              rw [← this]; simp
            case measure =>
              show (bits .and .u64 (y : Int) ((y : Int) - 1)).toNat < (y : Int).toNat
              rw [HC.out]; omega
      · go_wp2
        obtain ⟨wo, rfl⟩ : ∃ wo : World, wo = wr := ⟨_, rfl⟩
        go_loopw [3, 5] (fun v x wr => ∃ (l : List Nat) (y : Nat), y < 18446744073709551616 ∧ x = .int .u64 y ∧ l ++ (bitsOf (64 * 1) y ++ tails s (1 + 1)) = s.list ∧ Below w.heap.size w wr ∧ w.heap.size + 1 ≤ wr.heap.size ∧ wr.ownsRow w.heap.size 3 1 v l.length (nats l)) (fun _ x _ => (intOf x).toNat)
        case atStart => exact ⟨l, s.word 1, s.word_lt 1, rfl, by rw [← tails_step s 1 (by omega)]; exact HLl.out, hB, hz, ho⟩
        case round =>
          clear hB hz ho HLl
          obtain ⟨l2, y, hy, rfl, hl, hB, hz, ho⟩ := hrel
          have HTr := Lib.hid (HT.out.below hB hlt)
          have hlen := part_len hl
          have HLl := Lib.hid hl
          clear hl
          by_cases h0 : y = 0
          · subst h0
            go_wp2
            go_roundw
            case rel => exact ⟨1 + 1, l2, by omega, by go_num, by have := HLl.out; rw [bitsOf_zero, List.nil_append] at this; exact this, hB, hz, ho⟩
            case measure => simp [intOf]
          · have e0 : ((y : Int) == 0) = false := by rw [beq_cast]; exact beq_eq_false_iff_ne.2 h0
            have hk2 := (ctz_spec y h0 hy).1
            have Z := Lib.hid h0
            clear h0
            go_wp2_with (first | (go_at_call 55; refine (Trail_any _ _ hy Z.out HTr.out).mono ?_; rintro e w' ⟨rfl, rfl⟩) | (at_builtin; refine wpList_append_own _ rfl _ _ 45 rfl w.heap.size 3 i0 (.int .i64 0) 1 8 Tryd.underlying45 HI.out.1 HI.out.2.1 HI.out.2.2.1 HI.out.2.2.2 rfl (by decide) _ _ _ rfl (ho.alloc _) ⟨wr.heap.size, 0, none⟩ 1 1 [.int .i64 (64 + (Lib.ctz 64 y : Nat))] rfl rfl ?c1 ?c2 ?c3 ?c4 ?c5 ?_))
            case c1 => exact cellOneM _ _ _
            case c2 => simp [Value.oneCell']
            case c3 => unfold maxLen; omega
            case c4 => omega
            case c5 => simp; omega
            intro v' w1 ho1 hg _
            have hB1 : Below w.heap.size w w1 := (hB.alloc (by omega) _).grown hg (by simp; omega) (fun k hk => (ho.lt k hk).1)
            have hz1 : w.heap.size + 1 ≤ w1.heap.size := by have := hg.size; simp at this; omega
            have ho2 := own_snoc ho1 (64 * 1 + Lib.ctz 64 y) (by simp)
            have HC := Lib.hid (clear_bits y hy Z.out)
            have hlt2 := clear_lt y Z.out
            clear ho ho1 hg hB hz
            go_wp2
            go_roundw
            case rel =>
              (repeat apply Exists.intro)
              refine ⟨⟨l2 ++ [64 * 1 + Lib.ctz 64 y], y &&& (y - 1), Nat.lt_trans hlt2 hy, by rw [HC.out], ?_, hB1, hz1, ho2⟩, rfl⟩
              have := HLl.out
              rw [bitsOf_step _ y Z.out hy] at this
              rw [← this]; simp
            case measure =>
              show (bits .and .u64 (y : Int) ((y : Int) - 1)).toNat < (y : Int).toNat
              rw [HC.out]; omega
      · go_wp2
        obtain ⟨wo, rfl⟩ : ∃ wo : World, wo = wr := ⟨_, rfl⟩
        go_loopw [3, 5] (fun v x wr => ∃ (l : List Nat) (y : Nat), y < 18446744073709551616 ∧ x = .int .u64 y ∧ l ++ (bitsOf (64 * 2) y ++ tails s (2 + 1)) = s.list ∧ Below w.heap.size w wr ∧ w.heap.size + 1 ≤ wr.heap.size ∧ wr.ownsRow w.heap.size 3 1 v l.length (nats l)) (fun _ x _ => (intOf x).toNat)
        case atStart => exact ⟨l, s.word 2, s.word_lt 2, rfl, by rw [← tails_step s 2 (by omega)]; exact HLl.out, hB, hz, ho⟩
        case round =>
          clear hB hz ho HLl
          obtain ⟨l2, y, hy, rfl, hl, hB, hz, ho⟩ := hrel
          have HTr := Lib.hid (HT.out.below hB hlt)
          have hlen := part_len hl
          have HLl := Lib.hid hl
          clear hl
          by_cases h0 : y = 0
          · subst h0
            go_wp2
            go_roundw
            case rel => exact ⟨2 + 1, l2, by omega, by go_num, by have := HLl.out; rw [bitsOf_zero, List.nil_append] at this; exact this, hB, hz, ho⟩
            case measure => simp [intOf]
          · have e0 : ((y : Int) == 0) = false := by rw [beq_cast]; exact beq_eq_false_iff_ne.2 h0
            have hk2 := (ctz_spec y h0 hy).1
            have Z := Lib.hid h0
            clear h0
            go_wp2_with (first | (go_at_call 55; refine (Trail_any _ _ hy Z.out HTr.out).mono ?_; rintro e w' ⟨rfl, rfl⟩) | (at_builtin; refine wpList_append_own _ rfl _ _ 45 rfl w.heap.size 3 i0 (.int .i64 0) 1 8 Tryd.underlying45 HI.out.1 HI.out.2.1 HI.out.2.2.1 HI.out.2.2.2 rfl (by decide) _ _ _ rfl (ho.alloc _) ⟨wr.heap.size, 0, none⟩ 1 1 [.int .i64 (128 + (Lib.ctz 64 y : Nat))] rfl rfl ?c1 ?c2 ?c3 ?c4 ?c5 ?_))
            case c1 => exact cellOneM _ _ _
            case c2 => simp [Value.oneCell']
            case c3 => unfold maxLen; omega
            case c4 => omega
            case c5 => simp; omega
            intro v' w1 ho1 hg _
            have hB1 : Below w.heap.size w w1 := (hB.alloc (by omega) _).grown hg (by simp; omega) (fun k hk => (ho.lt k hk).1)
            have hz1 : w.heap.size + 1 ≤ w1.heap.size := by have := hg.size; simp at this; omega
            have ho2 := own_snoc ho1 (64 * 2 + Lib.ctz 64 y) (by simp)
            have HC := Lib.hid (clear_bits y hy Z.out)
            have hlt2 := clear_lt y Z.out
            clear ho ho1 hg hB hz
            go_wp2
            go_roundw
            case rel =>
              (repeat apply Exists.intro)
              refine ⟨⟨l2 ++ [64 * 2 + Lib.ctz 64 y], y &&& (y - 1), Nat.lt_trans hlt2 hy, by rw [HC.out], ?_, hB1, hz1, ho2⟩, rfl⟩
              have := HLl.out
              rw [bitsOf_step _ y Z.out hy] at this
              rw [← this]; simp
            case measure =>
              show (bits .and .u64 (y : Int) ((y : Int) - 1)).toNat < (y : Int).toNat
              rw [HC.out]; omega
      · go_wp2
        obtain ⟨wo, rfl⟩ : ∃ wo : World, wo = wr := ⟨_, rfl⟩
        go_loopw [3, 5] (fun v x wr => ∃ (l : List Nat) (y : Nat), y < 18446744073709551616 ∧ x = .int .u64 y ∧ l ++ (bitsOf (64 * 3) y ++ tails s (3 + 1)) = s.list ∧ Below w.heap.size w wr ∧ w.heap.size + 1 ≤ wr.heap.size ∧ wr.ownsRow w.heap.size 3 1 v l.length (nats l)) (fun _ x _ => (intOf x).toNat)
        case atStart => exact ⟨l, s.word 3, s.word_lt 3, rfl, by rw [← tails_step s 3 (by omega)]; exact HLl.out, hB, hz, ho⟩
        case round =>
          clear hB hz ho HLl
          obtain ⟨l2, y, hy, rfl, hl, hB, hz, ho⟩ := hrel
          have HTr := Lib.hid (HT.out.below hB hlt)
          have hlen := part_len hl
          have HLl := Lib.hid hl
          clear hl
          by_cases h0 : y = 0
          · subst h0
            go_wp2
            go_roundw
            case rel => exact ⟨3 + 1, l2, by omega, by go_num, by have := HLl.out; rw [bitsOf_zero, List.nil_append] at this; exact this, hB, hz, ho⟩
            case measure => simp [intOf]
          · have e0 : ((y : Int) == 0) = false := by rw [beq_cast]; exact beq_eq_false_iff_ne.2 h0
            have hk2 := (ctz_spec y h0 hy).1
            have Z := Lib.hid h0
            clear h0
            go_wp2_with (first | (go_at_call 55; refine (Trail_any _ _ hy Z.out HTr.out).mono ?_; rintro e w' ⟨rfl, rfl⟩) | (at_builtin; refine wpList_append_own _ rfl _ _ 45 rfl w.heap.size 3 i0 (.int .i64 0) 1 8 Tryd.underlying45 HI.out.1 HI.out.2.1 HI.out.2.2.1 HI.out.2.2.2 rfl (by decide) _ _ _ rfl (ho.alloc _) ⟨wr.heap.size, 0, none⟩ 1 1 [.int .i64 (192 + (Lib.ctz 64 y : Nat))] rfl rfl ?c1 ?c2 ?c3 ?c4 ?c5 ?_))
            case c1 => exact cellOneM _ _ _
            case c2 => simp [Value.oneCell']
            case c3 => unfold maxLen; omega
            case c4 => omega
            case c5 => simp; omega
            intro v' w1 ho1 hg _
            have hB1 : Below w.heap.size w w1 := (hB.alloc (by omega) _).grown hg (by simp; omega) (fun k hk => (ho.lt k hk).1)
            have hz1 : w.heap.size + 1 ≤ w1.heap.size := by have := hg.size; simp at this; omega
            have ho2 := own_snoc ho1 (64 * 3 + Lib.ctz 64 y) (by simp)
            have HC := Lib.hid (clear_bits y hy Z.out)
            have hlt2 := clear_lt y Z.out
            clear ho ho1 hg hB hz
            go_wp2
            go_roundw
            case rel =>
              (repeat apply Exists.intro)
              refine ⟨⟨l2 ++ [64 * 3 + Lib.ctz 64 y], y &&& (y - 1), Nat.lt_trans hlt2 hy, by rw [HC.out], ?_, hB1, hz1, ho2⟩, rfl⟩
              have := HLl.out
              rw [bitsOf_step _ y Z.out hy] at this
              rw [← this]; simp
            case measure =>
              show (bits .and .u64 (y : Int) ((y : Int) - 1)).toNat < (y : Int).toNat
              rw [HC.out]; omega
end Go.Proofs.YtijagdpkclghnaaDoor
/- A cache: what it is, where it lies, what a call may touch of it. -/
namespace Go.Proofs.YtijagdpkclghnaaDoor
open Go Go.RowKit
set_option maxRecDepth 100000
/-- A stripe: its block, those of its bytes, now and old; which columns; which are dirty. -/
structure Ent where
  g : Nat
  b1 : Nat
  b2 : Nat
  nt : Set4
  ot : Set4
  dt : Set4
  nb : List ByteArray
  ob : List ByteArray
def Ent.foot (E : Ent) (k : Nat) : Prop := k = E.g ∨ k = E.b1 ∨ k = E.b2
abbrev tE : TypeId := 68
abbrev tC : TypeId := 56
abbrev tStr : TypeId := 9
abbrev slV (b n : Nat) : Value := .slice (some ⟨b, 0, none⟩) n n
abbrev Ent.cells (E : Ent) (data : Nat) : List Value := [.int .u64 (E.nt.a : Int), .int .u64 (E.nt.b : Int), .int .u64 (E.nt.c : Int), .int .u64 (E.nt.d : Int), slV E.b1 data,
  .int .u64 (E.ot.a : Int), .int .u64 (E.ot.b : Int), .int .u64 (E.ot.c : Int), .int .u64 (E.ot.d : Int), slV E.b2 data, .int .u64 (E.dt.a : Int), .int .u64 (E.dt.b : Int), .int .u64 (E.dt.c : Int), .int .u64 (E.dt.d : Int)]
structure EntAt (B data : Nat) (w : World) (E : Ent) : Prop where
  row : w.row E.g (E.cells data) tE
  r1 : w.row E.b1 (E.nb.map Value.string) tStr
  r2 : w.row E.b2 (E.ob.map Value.string) tStr
  g1 : E.g ≠ E.b1
  g2 : E.g ≠ E.b2
  b12 : E.b1 ≠ E.b2
  bg : B ≤ E.g
  bb1 : B ≤ E.b1
  bb2 : B ≤ E.b2
  l1 : E.nb.length = data
  l2 : E.ob.length = data
  i1 : ∀ i, E.nt.has i = true → i < data
  i2 : ∀ i, E.ot.has i = true → i < data
/-- Where a cache lies: its block, its map's, its turn. -/
structure CM where
  g : Nat
  m : Nat
  M : TM
def CM.foot (C : CM) (f : Int → Option Ent) (k : Nat) : Prop := k = C.g ∨ k = C.m ∨ C.M.foot k ∨ ∃ i E, f i = some E ∧ E.foot k
abbrev CM.cells (C : CM) (data : Nat) : List Value := [.pointer (some ⟨C.M.g, 0, none⟩), .int .i64 (data : Int), .map (some C.m)]
structure CacheAt (B n data : Nat) (w : World) (C : CM) (T : TS) (L : List Int) (f : Int → Option Ent) : Prop where
  row : w.row C.g (C.cells data) tC
  turn : TurnAt B n w C.M T
  good : Good T
  map : w.pmap Tryd.prog tI C.m n L (fun k => (f k).map Ent.g)
  ent : ∀ k E, f k = some E → EntAt B data w E
  apart : ∀ k E k' E', f k = some E → f k' = some E' → k ≠ k' → ∀ x, E.foot x → ¬ E'.foot x
  off : ∀ k E, f k = some E → ∀ x, E.foot x → x ≠ C.g ∧ x ≠ C.m ∧ ¬ C.M.foot x
  gm : C.g ≠ C.m
  gM : ¬ C.M.foot C.g
  mM : ¬ C.M.foot C.m
  bg : B ≤ C.g
  bm : B ≤ C.m
  keys : ∀ k, T.has k = L.contains k
  d2 : 2 ≤ data
  d30 : data ≤ 30
/-- What a call on it leaves. -/
structure CStep (C : CM) (f : Int → Option Ent) (C' : CM) (f' : Int → Option Ent) (w w' : World) : Prop where
  g : C'.g = C.g
  os : w'.os = w.os
  tape : w'.tape = w.tape
  output : w'.output = w.output
  size : w.heap.size ≤ w'.heap.size
  foot : ∀ k, C'.foot f' k → C.foot f k ∨ w.heap.size ≤ k
  block : ∀ k, k < w.heap.size → ¬ C.foot f k → w'.heap[k]? = w.heap[k]?
variable {B n data : Nat} {w w' w'' : World} {C C' C'' : CM} {T T' : TS} {L L' : List Int} {f f' f'' : Int → Option Ent} {E E' : Ent} {k : Int}
theorem CStep.refl (C : CM) (f : Int → Option Ent) (w : World) : CStep C f C f w w := ⟨rfl, rfl, rfl, rfl, Nat.le_refl _, fun _ h => .inl h, fun _ _ _ => rfl⟩
theorem CStep.trans (h : CStep C f C' f' w w') (h2 : CStep C' f' C'' f'' w' w'') : CStep C f C'' f'' w w'' :=
  ⟨h2.g.trans h.g, h2.os.trans h.os, h2.tape.trans h.tape, h2.output.trans h.output, Nat.le_trans h.size h2.size,
    fun k hk => (h2.foot k hk).elim (h.foot k) fun h3 => .inr (Nat.le_trans h.size h3),
    fun k hk hn => (h2.block k (Nat.lt_of_lt_of_le hk h.size) fun h3 => (h.foot k h3).elim hn (fun h4 => by omega)).trans (h.block k hk hn)⟩
theorem CStep.of_below (C : CM) (f : Int → Option Ent) (h : Below w.heap.size w w') : CStep C f C f w w' := ⟨rfl, h.os, h.tape, h.output, h.size, fun _ h => .inl h, fun k hk _ => h.block k hk⟩
theorem EntAt.lts (h : EntAt B data w E) (k : Nat) (hk : E.foot k) : B ≤ k ∧ k < w.heap.size := by
  rcases hk with rfl | rfl | rfl
  · exact ⟨h.bg, h.row.lt⟩
  · exact ⟨h.bb1, h.r1.lt⟩
  · exact ⟨h.bb2, h.r2.lt⟩
theorem rowSame {b : Nat} {cs : List Value} {t : TypeId} (h : w.row b cs t) (e : w'.heap[b]? = w.heap[b]?) : w'.row b cs t := by unfold World.row at *; rw [e]; exact h
theorem EntAt.same (h : EntAt B data w E) (hb : ∀ k, E.foot k → w'.heap[k]? = w.heap[k]?) : EntAt B data w' E :=
  ⟨rowSame h.row (hb _ (.inl rfl)), rowSame h.r1 (hb _ (.inr (.inl rfl))), rowSame h.r2 (hb _ (.inr (.inr rfl))), h.g1, h.g2, h.b12, h.bg, h.bb1, h.bb2, h.l1, h.l2, h.i1, h.i2⟩
theorem EntAt.below (h : EntAt B data w E) (hb : Below w.heap.size w w') : EntAt B data w' E := h.same fun k hk => hb.block k (h.lts k hk).2
theorem CacheAt.lts (h : CacheAt B n data w C T L f) (k : Nat) (hk : C.foot f k) : B ≤ k ∧ k < w.heap.size := by
  rcases hk with rfl | rfl | hk | ⟨i, E, hE, hk⟩
  · exact ⟨h.bg, h.row.lt⟩
  · exact ⟨h.bm, h.map.lt⟩
  · exact h.turn.lts k hk
  · exact (h.ent i E hE).lts k hk
theorem CacheAt.below (h : CacheAt B n data w C T L f) (hb : Below w.heap.size w w') : CacheAt B n data w' C T L f :=
  ⟨h.row.below hb h.row.lt, h.turn.below' hb, h.good, h.map.same (hb.block _ h.map.lt), fun k E hE => (h.ent k E hE).below hb, h.apart, h.off, h.gm, h.gM, h.mM, h.bg, h.bm, h.keys, h.d2, h.d30⟩
theorem CacheAt.mono {m : Nat} (h : CacheAt B n data w C T L f) (hm : n ≤ m) : CacheAt B m data w C T L f :=
  ⟨h.row, h.turn.mono hm, h.good, h.map.mono hm, h.ent, h.apart, h.off, h.gm, h.gM, h.mM, h.bg, h.bm, h.keys, h.d2, h.d30⟩
/-- All below the cache is as it was. -/
theorem CStep.under (h : CStep C f C' f' w w') (hT : CacheAt B n data w C T L f) {u : World} (hu : Below B u w) : Below B u w' :=
  hu.trans ⟨h.os, h.tape, h.output, h.size, fun k hk => h.block k (Nat.lt_of_lt_of_le hk (Nat.le_trans hT.bg (Nat.le_of_lt hT.row.lt))) fun hf => by have := (hT.lts k hf).1; omega⟩
/-- Its turn was turned. -/
theorem CacheAt.turned {M' : TM} {m : Nat} (h : CacheAt B n data w C T L f) (hs : Step C.M M' w w') (ht : TurnAt B m w' M' T') (hn : n ≤ m) (hg : Good T') (hk : ∀ k, T'.has k = T.has k) :
    CacheAt B m data w' { C with M := M' } T' L f ∧ CStep C f { C with M := M' } f w w' := by
  have hoff : ∀ x, x < w.heap.size → ¬ C.M.foot x → ¬ M'.foot x := fun x hx hn => Step.out hs hx hn
  refine ⟨⟨?_, ht, hg, (h.map.same (hs.block _ h.map.lt h.mM)).mono hn, fun k E hE => (h.ent k E hE).same fun x hx => hs.block x ((h.ent k E hE).lts x hx).2 (h.off k E hE x hx).2.2, h.apart, fun k E hE x hx => ?_, h.gm, hoff _ h.row.lt h.gM, hoff _ h.map.lt h.mM, h.bg, h.bm, fun k => (hk k).trans (h.keys k), h.d2, h.d30⟩, ?_⟩
  · have := hs.row h.row h.gM
    show w'.row C.g [.pointer (some ⟨M'.g, 0, none⟩), _, _] tC
    rw [hs.g]; exact this
  · exact ⟨(h.off k E hE x hx).1, (h.off k E hE x hx).2.1, hoff x ((h.ent k E hE).lts x hx).2 (h.off k E hE x hx).2.2⟩
  · refine ⟨rfl, hs.os, hs.tape, hs.output, hs.size, fun x hx => ?_, fun x hx hn => hs.block x hx fun hf => hn (.inr (.inr (.inl hf)))⟩
    rcases hx with hx | hx | hx | hx
    · exact .inl (.inl hx)
    · exact .inl (.inr (.inl hx))
    · rcases hs.foot x hx with h1 | h1
      · exact .inl (.inr (.inr (.inl h1)))
      · exact .inr h1
    · exact .inl (.inr (.inr (.inr hx)))
def upd (f : Int → Option Ent) (k : Int) (E : Option Ent) (j : Int) : Option Ent := if j = k then E else f j
theorem upd_same (f : Int → Option Ent) (k : Int) (E : Option Ent) : upd f k E k = E := by unfold upd; rw [if_pos rfl]
theorem upd_other (f : Int → Option Ent) {k j : Int} (E : Option Ent) (h : j ≠ k) : upd f k E j = f j := by unfold upd; rw [if_neg h]
/-- One stripe was turned in its blocks. -/
theorem CacheAt.entPut (h : CacheAt B n data w C T L f) (hf : f k = some E) (hg : E'.g = E.g) (h1 : E'.b1 = E.b1) (h2 : E'.b2 = E.b2) (hE : EntAt B data w' E') (hos : w'.os = w.os) (htape : w'.tape = w.tape) (hout : w'.output = w.output)
    (hsz : w.heap.size ≤ w'.heap.size) (hb : ∀ x, x < w.heap.size → ¬ E.foot x → w'.heap[x]? = w.heap[x]?) : CacheAt B n data w' C T L (upd f k (some E')) ∧ CStep C f C (upd f k (some E')) w w' := by
  have hfoot : ∀ x, E'.foot x ↔ E.foot x := fun x => by unfold Ent.foot; rw [hg, h1, h2]
  have hoff := h.off k E hf
  have hmap : (fun j => (upd f k (some E') j).map Ent.g) = fun j => (f j).map Ent.g := by
    funext j
    by_cases e : j = k
    · subst e; rw [upd_same, hf]; simp [hg]
    · rw [upd_other f _ e]
  have keep : ∀ x, x < w.heap.size → ¬ E.foot x → w'.heap[x]? = w.heap[x]? := hb
  refine ⟨⟨rowSame h.row (keep _ h.row.lt fun hx => (hoff _ hx).1 rfl), ?_, h.good, ?_, fun j F hF => ?_, fun j F j' F' hF hF' hne x hx => ?_, fun j F hF x hx => ?_, h.gm, h.gM, h.mM, h.bg, h.bm, h.keys, h.d2, h.d30⟩, ?_⟩
  · exact ⟨rowSame h.turn.row (keep _ h.turn.row.lt fun hx => (hoff _ hx).2.2 (.inl rfl)), irow_same h.turn.o1 fun x hx => keep x (h.turn.o1.lt x hx).2 fun hx2 => (hoff _ hx2).2.2 (.inr (.inr (.inl hx))), irow_same h.turn.o2 fun x hx => keep x (h.turn.o2.lt x hx).2 fun hx2 => (hoff _ hx2).2.2 (.inr (.inr (.inr hx))), h.turn.pm.same (keep _ h.turn.pm.lt fun hx => (hoff _ hx).2.2 (.inr (.inl rfl))), h.turn.gm, h.turn.g1, h.turn.g2, h.turn.m1, h.turn.m2, h.turn.d12, h.turn.bg, h.turn.bm⟩
  · rw [hmap]
    exact h.map.same (keep _ h.map.lt fun hx => (hoff _ hx).2.1 rfl)
  · by_cases e : j = k
    · subst e
      rw [upd_same] at hF
      cases hF
      exact hE
    · rw [upd_other f _ e] at hF
      exact (h.ent j F hF).same fun x hx => keep x ((h.ent j F hF).lts x hx).2 fun hx2 => h.apart j F k E hF hf e x hx hx2
  · by_cases e : j = k
    · subst e
      rw [upd_same] at hF
      cases hF
      rw [upd_other f _ (Ne.symm hne)] at hF'
      exact h.apart j E j' F' hf hF' hne x ((hfoot x).1 hx)
    · rw [upd_other f _ e] at hF
      by_cases e' : j' = k
      · subst e'
        rw [upd_same] at hF'
        cases hF'
        exact fun hx2 => h.apart j F j' E hF hf hne x hx ((hfoot x).1 hx2)
      · rw [upd_other f _ e'] at hF'
        exact h.apart j F j' F' hF hF' hne x hx
  · by_cases e : j = k
    · subst e
      rw [upd_same] at hF
      cases hF
      exact hoff x ((hfoot x).1 hx)
    · rw [upd_other f _ e] at hF
      exact h.off j F hF x hx
  · refine ⟨rfl, hos, htape, hout, hsz, fun x hx => ?_, fun x hx hn => keep x hx fun hx2 => hn (.inr (.inr (.inr ⟨k, E, hf, hx2⟩)))⟩
    rcases hx with hx | hx | hx | ⟨j, F, hF, hx⟩
    · exact .inl (.inl hx)
    · exact .inl (.inr (.inl hx))
    · exact .inl (.inr (.inr (.inl hx)))
    · by_cases e : j = k
      · subst e
        rw [upd_same] at hF
        cases hF
        exact .inl (.inr (.inr (.inr ⟨j, E, hf, (hfoot x).1 hx⟩)))
      · rw [upd_other f _ e] at hF
        exact .inl (.inr (.inr (.inr ⟨j, F, hF, hx⟩)))
/-- The cells of a cache and of a stripe, for the walk. -/
theorem CacheAt.three (h : CacheAt B n data w C T L f) : w.cell? ⟨C.g, 0, none⟩ = some (.pointer (some ⟨C.M.g, 0, none⟩)) ∧ w.cell? ⟨C.g, 1, none⟩ = some (.int .i64 (data : Int)) ∧ w.cell? ⟨C.g, 2, none⟩ = some (.map (some C.m)) :=
  ⟨h.row.cell 0 rfl, h.row.cell 1 rfl, h.row.cell 2 rfl⟩
end Go.Proofs.YtijagdpkclghnaaDoor
/- New, row of a cache; get, put of a shelf: contracts. -/
namespace Go.Proofs.YtijagdpkclghnaaDoor
open Go Go.RowKit
set_option maxRecDepth 100000
variable {B n data : Nat} {w w' : World} {C : CM} {T : TS} {L : List Int} {f : Int → Option Ent} {E : Ent}
theorem CNew_ok (most limit data : Nat) (w : World) (hB : B ≤ w.heap.size) (h1 : 1 ≤ most) (h2 : most ≤ 64) (h3 : limit < most) (h4 : 2 ≤ data) (h5 : data ≤ 30) :
    Calls Tryd.prog 7 #[.int .i64 (most : Int), .int .i64 (limit : Int), .int .i64 (data : Int)] w fun e w' => ∃ C : CM, e = .returned (.tuple #[pt C.g, .int .i64 0]) ∧ CacheAt B 0 data w' C ⟨most, limit, [], [], []⟩ [] (fun _ => none) ∧ Below w.heap.size w w' ∧ ∀ k, C.foot (fun _ => none) k → w.heap.size ≤ k := by
  have hmm := @run_makeMap Tryd.prog
  have h4I : ¬ ((data : Int) < 2) := by omega
  have h5I : ¬ (30 < (data : Int)) := by omega
  have HH := Lib.hid (And.intro h1 (And.intro h2 (And.intro h3 (And.intro h4 h5))))
  clear h1 h2 h3 h4 h5
  go_enter Tryd.func7, Tryd.ntmps7
  go_wp2_with fail
  refine (New_ok most limit w hB HH.out.1 HH.out.2.1 HH.out.2.2.1).mono ?_
  rintro e w1 ⟨M, rfl, hT, hb, hf⟩
  have HT := Lib.hid (And.intro hT (And.intro hb hf))
  clear hT hb hf
  go_wp2_with fail
  go_ret2
  obtain ⟨hT, hb, hf⟩ := HT.out
  have hs := hb.size
  have hr := World.row.new (w1.alloc (.map #[] 0)) [.pointer (some ⟨M.g, 0, none⟩), .int .i64 (data : Int), .map (some w1.heap.size)] tC
  have hb2 : Below w1.heap.size w1 ((w1.alloc (.map #[] 0)).alloc (.cells [Value.pointer (some ⟨M.g, 0, none⟩), .int .i64 (data : Int), .map (some w1.heap.size)].toArray tC)) := ((Below.refl _ _).alloc (Nat.le_refl _) _).alloc (by simp) _
  refine ⟨⟨(w1.alloc (.map #[] 0)).heap.size, w1.heap.size, M⟩, by simp, ⟨hr, hT.below' hb2, ⟨HH.out.1, HH.out.2.1, HH.out.2.2.1, by simp, by simp, by simp, by simp⟩, (World.pmap_made w1 Tryd.prog tI).alloc _, (fun _ _ h => by cases h), (fun _ _ _ _ h => by cases h), (fun _ _ h => by cases h), by simp, fun h => by have := (hT.lts _ h).2; simp at this; omega, fun h => by have := (hT.lts _ h).2; simp at this, by simp; omega, by simp; omega, fun _ => rfl, HH.out.2.2.2.1, HH.out.2.2.2.2⟩, hb.trans (hb2.mono hs), ?_⟩
  intro k hk
  rcases hk with hk | hk | hk | ⟨_, _, h, _⟩
  · simp at hk; omega
  · simp at hk; omega
  · exact hf k hk
  · cases h
theorem row_any (i : Int) (w : World) (h : CacheAt B n data w C T L f) (hi : In64 i) :
    Calls Tryd.prog 31 #[pt C.g, .int .i64 i] w fun e w' => e = .returned (ptrV ((f i).map Ent.g)) ∧ w = w' := by
  have hz : Hid (∀ w, (zeroValue 58).run Tryd.prog w = .ok (.pointer none) w) := Lib.hid fun w => by kernel_rfl
  obtain ⟨c0, c1, c2⟩ := h.three
  have HI := Lib.hid hi
  have HC := Lib.hid h.map
  clear hi
  go_enter Tryd.func31, Tryd.ntmps31
  go_wp2_with (at_lookup; refine wpList_lookup_pm rfl _ _ 54 rfl Tryd.underlying3 Tryd.underlying54 hz.out rfl HC.out i rfl HI.out _ rfl ?_)
  go_returns
  exact ⟨rfl, rfl⟩
end Go.Proofs.YtijagdpkclghnaaDoor
/- get, put of a shelf: contracts. -/
namespace Go.Proofs.YtijagdpkclghnaaDoor
open Go Go.RowKit
set_option maxRecDepth 100000
variable {B n data : Nat} {w w' : World} {C : CM} {T : TS} {L : List Int} {f : Int → Option Ent} {E : Ent}
abbrev noB : ByteArray := { data := #[] }
/-- What a call on a stripe leaves. -/
structure EStep (E : Ent) (w w' : World) : Prop where
  os : w'.os = w.os
  tape : w'.tape = w.tape
  output : w'.output = w.output
  size : w.heap.size ≤ w'.heap.size
  block : ∀ k, k < w.heap.size → ¬ E.foot k → w'.heap[k]? = w.heap[k]?
theorem EStep.of_below {w w' : World} (E : Ent) (h : Below w.heap.size w w') : EStep E w w' := ⟨h.os, h.tape, h.output, h.size, fun k hk _ => h.block k hk⟩
theorem EStep.trans {w w' w'' : World} (h : EStep E w w') (h2 : EStep E w' w'') : EStep E w w'' :=
  ⟨h2.os.trans h.os, h2.tape.trans h.tape, h2.output.trans h.output, Nat.le_trans h.size h2.size, fun k hk hn => (h2.block k (Nat.lt_of_lt_of_le hk h.size) hn).trans (h.block k hk hn)⟩
theorem EStep.setCell {w w' : World} (h : EStep E w w') (a : Addr) (v : Value) (ha : E.foot a.block) : EStep E w (w'.setCell a v) :=
  ⟨h.os, h.tape, h.output, by simpa using h.size, fun k hk hn => by
    have hne : a.block ≠ k := fun e => hn (e ▸ ha)
    have : (w'.setCell a v).heap[k]? = w'.heap[k]? := by simp [World.setCell, Array.getElem?_modify, hne]
    rw [this]; exact h.block k hk hn⟩
theorem Set4.with_has (s : Set4) (i j : Nat) : (s.with' i).has j = true → j = i ∨ s.has j = true := by
  unfold Set4.with'
  rw [Set4.has_of]
  simp
def atB (l : List ByteArray) (c : Nat) : ByteArray := l.getD c noB
theorem atB_get {l : List ByteArray} {c : Nat} (h : c < l.length) : l[c]? = some (atB l c) := by unfold atB; simp [List.getD, h]
theorem get_now (c : Nat) (w : World) (h : EntAt B data w E) (hc : c < data) (hd : data ≤ 30) :
    Calls Tryd.prog 33 #[.pointer (some ⟨E.g, 0, none⟩), .int .i64 (c : Int)] w fun e w' => e = .returned (.tuple #[.string (if E.nt.has c = true then atB E.nb c else noB), .bool (E.nt.has c)]) ∧ Below w.heap.size w w' := by
  have k0 := h.row.cell 0 rfl
  have k1 := h.row.cell 1 rfl
  have k2 := h.row.cell 2 rfl
  have k3 := h.row.cell 3 rfl
  have hH := Lib.hid (Has_yes E.nt c w (by omega))
  have HC := Lib.hid h
  cases e : E.nt.has c
  · rw [e] at hH
    simp only [Bool.false_eq_true, if_false]
    go_enter Tryd.func33, Tryd.ntmps33
    go_wp2_with fail
    refine Calls.pure_to hH.out ?_
    intro w1 b1
    clear k0 k1 k2 k3
    go_wp2_with fail
    go_ret2
    exact ⟨rfl, b1⟩
  · rw [e] at hH
    simp only [if_true]
    go_enter Tryd.func33, Tryd.ntmps33
    go_wp2_with fail
    refine Calls.pure_to hH.out ?_
    intro w1 b1
    clear k0 k1 k2 k3
    have h1 := HC.out.below b1
    have k4 := h1.row.cell 4 rfl
    have k5 := h1.r1.cell c (v := .string (atB E.nb c)) (by rw [List.getElem?_map, atB_get (by rw [h1.l1]; exact hc)]; rfl)
    have hcI : (c : Int) < (data : Int) := by omega
    have HS := Lib.hid b1
    clear b1 h1
    go_wp2_with fail
    go_ret2
    exact ⟨rfl, HS.out⟩
theorem put_now (c : Nat) (s : ByteArray) (w : World) (h : EntAt B data w E) (hc : c < data) (hd : data ≤ 30) :
    Calls Tryd.prog 27 #[.pointer (some ⟨E.g, 0, none⟩), .int .i64 (c : Int), .string s] w fun e w' => e = .returned (.tuple #[]) ∧ EntAt B data w' { E with nt := E.nt.with' c, nb := E.nb.set c s } ∧ EStep E w w' := by
  have k0 := h.row.cell 0 rfl
  have k1 := h.row.cell 1 rfl
  have k2 := h.row.cell 2 rfl
  have k3 := h.row.cell 3 rfl
  have hH := Lib.hid (With_yes E.nt c w (by omega))
  have HC := Lib.hid h
  go_enter Tryd.func27, Tryd.ntmps27
  go_wp2_with fail
  refine Calls.pure_to hH.out ?_
  intro w1 b1
  clear k0 k1 k2 k3
  have h1 := HC.out.below b1
  have k0 := h1.row.cell 0 rfl
  have k1 := h1.row.cell 1 rfl
  have k2 := h1.row.cell 2 rfl
  have k3 := h1.row.cell 3 rfl
  have k4 := h1.row.cell 4 rfl
  have k5 := h1.r1.cell c (v := .string (atB E.nb c)) (by rw [List.getElem?_map, atB_get (by rw [h1.l1]; exact hc)]; rfl)
  have z0 := h1.row.free
  have z1 := h1.r1.free
  have hcI : (c : Int) < (data : Int) := by omega
  have hne := h1.g1
  have HS := Lib.hid (And.intro b1 h1)
  clear b1 h1
  go_wp2_with fail
  go_returns
  obtain ⟨b1, h1⟩ := HS.out
  have hs := b1.size
  refine ⟨rfl, ⟨?_, ?_, ?_, h1.g1, h1.g2, h1.b12, h1.bg, h1.bb1, h1.bb2, (List.length_set).trans h1.l1, h1.l2, fun i hi => (Set4.with_has _ _ _ hi).elim (fun e => e ▸ hc) (h1.i1 i), h1.i2⟩, ?_⟩
  · exact (((((h1.row.set 0 _).set 1 _).set 2 _).set 3 _).other _ _ (Ne.symm hne))
  · have := ((((h1.r1.other ⟨E.g, 0, none⟩ (.int .u64 ((E.nt.with' c).a : Int)) h1.g1).other ⟨E.g, 1, none⟩ (.int .u64 ((E.nt.with' c).b : Int)) h1.g1).other ⟨E.g, 2, none⟩ (.int .u64 ((E.nt.with' c).c : Int)) h1.g1).other ⟨E.g, 3, none⟩ (.int .u64 ((E.nt.with' c).d : Int)) h1.g1).set c (.string s)
    rw [List.map_set]
    exact this
  · exact (((((h1.r2.other _ _ h1.g2).other _ _ h1.g2).other _ _ h1.g2).other _ _ h1.g2).other _ _ h1.b12)
  · exact (((((EStep.of_below E b1).setCell _ _ (.inl rfl)).setCell _ _ (.inl rfl)).setCell _ _ (.inl rfl)).setCell _ _ (.inl rfl)).setCell _ _ (.inr (.inl rfl))
theorem get_old (c : Nat) (w : World) (h : EntAt B data w E) (hc : c < data) (hd : data ≤ 30) :
    Calls Tryd.prog 33 #[.pointer (some ⟨E.g, 5, none⟩), .int .i64 (c : Int)] w fun e w' => e = .returned (.tuple #[.string (if E.ot.has c = true then atB E.ob c else noB), .bool (E.ot.has c)]) ∧ Below w.heap.size w w' := by
  have k0 := h.row.cell 5 rfl
  have k1 := h.row.cell 6 rfl
  have k2 := h.row.cell 7 rfl
  have k3 := h.row.cell 8 rfl
  have hH := Lib.hid (Has_yes E.ot c w (by omega))
  have HC := Lib.hid h
  cases e : E.ot.has c
  · rw [e] at hH
    simp only [Bool.false_eq_true, if_false]
    go_enter Tryd.func33, Tryd.ntmps33
    go_wp2_with fail
    refine Calls.pure_to hH.out ?_
    intro w1 b1
    clear k0 k1 k2 k3
    go_wp2_with fail
    go_ret2
    exact ⟨rfl, b1⟩
  · rw [e] at hH
    simp only [if_true]
    go_enter Tryd.func33, Tryd.ntmps33
    go_wp2_with fail
    refine Calls.pure_to hH.out ?_
    intro w1 b1
    clear k0 k1 k2 k3
    have h1 := HC.out.below b1
    have k4 := h1.row.cell 9 rfl
    have k5 := h1.r2.cell c (v := .string (atB E.ob c)) (by rw [List.getElem?_map, atB_get (by rw [h1.l2]; exact hc)]; rfl)
    have hcI : (c : Int) < (data : Int) := by omega
    have HS := Lib.hid b1
    clear b1 h1
    go_wp2_with fail
    go_ret2
    exact ⟨rfl, HS.out⟩
theorem put_old (c : Nat) (s : ByteArray) (w : World) (h : EntAt B data w E) (hc : c < data) (hd : data ≤ 30) :
    Calls Tryd.prog 27 #[.pointer (some ⟨E.g, 5, none⟩), .int .i64 (c : Int), .string s] w fun e w' => e = .returned (.tuple #[]) ∧ EntAt B data w' { E with ot := E.ot.with' c, ob := E.ob.set c s } ∧ EStep E w w' := by
  have k0 := h.row.cell 5 rfl
  have k1 := h.row.cell 6 rfl
  have k2 := h.row.cell 7 rfl
  have k3 := h.row.cell 8 rfl
  have hH := Lib.hid (With_yes E.ot c w (by omega))
  have HC := Lib.hid h
  go_enter Tryd.func27, Tryd.ntmps27
  go_wp2_with fail
  refine Calls.pure_to hH.out ?_
  intro w1 b1
  clear k0 k1 k2 k3
  have h1 := HC.out.below b1
  have k0 := h1.row.cell 5 rfl
  have k1 := h1.row.cell 6 rfl
  have k2 := h1.row.cell 7 rfl
  have k3 := h1.row.cell 8 rfl
  have k4 := h1.row.cell 9 rfl
  have k5 := h1.r2.cell c (v := .string (atB E.ob c)) (by rw [List.getElem?_map, atB_get (by rw [h1.l2]; exact hc)]; rfl)
  have z0 := h1.row.free
  have z1 := h1.r2.free
  have hcI : (c : Int) < (data : Int) := by omega
  have hne := h1.g2
  have HS := Lib.hid (And.intro b1 h1)
  clear b1 h1
  go_wp2_with fail
  go_returns
  obtain ⟨b1, h1⟩ := HS.out
  have hs := b1.size
  refine ⟨rfl, ⟨?_, ?_, ?_, h1.g1, h1.g2, h1.b12, h1.bg, h1.bb1, h1.bb2, h1.l1, (List.length_set).trans h1.l2, h1.i1, fun i hi => (Set4.with_has _ _ _ hi).elim (fun e => e ▸ hc) (h1.i2 i)⟩, ?_⟩
  · exact (((((h1.row.set 5 _).set 6 _).set 7 _).set 8 _).other _ _ (Ne.symm hne))
  · exact (((((h1.r1.other _ _ h1.g1).other _ _ h1.g1).other _ _ h1.g1).other _ _ h1.g1).other _ _ (Ne.symm h1.b12))
  · have := ((((h1.r2.other ⟨E.g, 5, none⟩ (.int .u64 ((E.ot.with' c).a : Int)) h1.g2).other ⟨E.g, 6, none⟩ (.int .u64 ((E.ot.with' c).b : Int)) h1.g2).other ⟨E.g, 7, none⟩ (.int .u64 ((E.ot.with' c).c : Int)) h1.g2).other ⟨E.g, 8, none⟩ (.int .u64 ((E.ot.with' c).d : Int)) h1.g2).set c (.string s)
    rw [List.map_set]
    exact this
  · exact (((((EStep.of_below E b1).setCell _ _ (.inl rfl)).setCell _ _ (.inl rfl)).setCell _ _ (.inl rfl)).setCell _ _ (.inl rfl)).setCell _ _ (.inr (.inr rfl))
end Go.Proofs.YtijagdpkclghnaaDoor
