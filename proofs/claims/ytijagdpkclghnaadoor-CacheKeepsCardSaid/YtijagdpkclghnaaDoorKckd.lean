/- Several texts in one: CMap URow UShelf Ext3 UState USpec UGet UDo UTouch. -/
import Derived.Test.YtijagdpkclghnaaDoorKckc
import Derived.Shelf.SlicesG.Delete
import Derived.Laws.OwnMore
import Derived.Shelf.SlGeneric
import Derived.Ground.SlgnProg
import Derived.Shelf.SlicesG.Turned
import Derived.Test.YtijagdpkclghnaaDoorRows
import Derived.Test.YtijagdpkclghnaaDoorProg
import Derived.Handy
import Derived.Lib.Hide
import Derived.Maps.AppendAt
import Derived.Deep.DeepCutAuto
import Derived.Deep.LoopGhost
import Derived.Deep.RegionHeld3
import Derived.Deep.RegionLaw
import Derived.Deep.AppendLies
/- Maps from integers to blocks: laws of my own over the kit's, no program in them. -/
namespace Go
open Go.Maps (Keyed)
open Go.RowKit
/-- A pointer as a datum. -/
def ptrElem : Value → Option (DataW Unit × List MemPlace)
  | .pointer none => some (.lit (.int .i64 (-1)), [])
  | .pointer (some ⟨g, 0, none⟩) => some (.lit (.int .i64 (g : Int)), [])
  | _ => none
def ptrV : Option Nat → Value
  | none => .pointer none
  | some g => .pointer (some ⟨g, 0, none⟩)
def ptrD : Option Nat → DataW Unit
  | none => .lit (.int .i64 (-1))
  | some g => .lit (.int .i64 (g : Int))
theorem ptrElem_mk (p : Option Nat) : ptrElem (ptrV p) = some (ptrD p, []) := by cases p <;> rfl
theorem ptrElem_inv {v : Value} {z : DataW Unit × List MemPlace} (h : ptrElem v = some z) : ∃ p, v = ptrV p ∧ z = (ptrD p, []) := by
  unfold ptrElem at h
  split at h
  · exact ⟨none, rfl, (Option.some.inj h).symm⟩
  · rename_i g; exact ⟨some g, rfl, (Option.some.inj h).symm⟩
  · cases h
theorem ptrD_inj {p q : Option Nat} (h : ptrD p = ptrD q) : p = q := by
  cases p with
  | none => cases q with
    | none => rfl
    | some b => simp only [ptrD, DataW.lit.injEq, Lit.int.injEq, true_and] at h; omega
  | some a => cases q with
    | none => simp only [ptrD, DataW.lit.injEq, Lit.int.injEq, true_and] at h; omega
    | some b => simp only [ptrD, DataW.lit.injEq, Lit.int.injEq, true_and] at h; congr 1; omega
/-- The datum D holds pointers: f, just at the keys of L. -/
structure PM (D : DataW Unit) (L : List Int) (f : Int → Option Nat) : Prop where
  tidy : Maps.Tidy D
  has : ∀ x, Maps.has D (.int .i64 x) = L.contains x
  at_ : ∀ x, D.atKey (.int .i64 x) (ptrD none) = ptrD (f x)
  some_ : ∀ x, (f x).isSome = L.contains x
  size : Maps.size D = L.length
  nodup : L.Nodup
theorem PM.empty : PM (.map []) [] (fun _ => none) := ⟨Maps.tidy_empty, fun _ => rfl, fun _ => rfl, fun _ => rfl, rfl, List.nodup_nil⟩
theorem PM.put {D : DataW Unit} {L : List Int} {f : Int → Option Nat} (h : PM D L f) (x : Int) (g : Nat) : PM (D.put (.int .i64 x) (ptrD (some g))) (addTo L x) (fun y => if y = x then some g else f y) := by
  refine ⟨h.tidy.put (keyLit x) _, fun y => ?_, fun y => ?_, fun y => ?_, ?_, ?_⟩
  · rw [addTo_has]
    by_cases e : y = x
    · subst e; rw [Maps.has_put_same h.tidy.isMap (keyLit y)]; simp
    · rw [Maps.has_put_other (litne e), h.has, show (x == y) = false from beq_eq_false_iff_ne.2 (Ne.symm e), Bool.or_false]
  · by_cases e : y = x
    · subst e; rw [Maps.atKey_put_same h.tidy.isMap (keyLit y), if_pos rfl]
    · rw [Maps.atKey_put_other (litne e), h.at_, if_neg e]
  · rw [addTo_has]
    by_cases e : y = x
    · subst e; simp
    · rw [if_neg e, h.some_, show (x == y) = false from beq_eq_false_iff_ne.2 (Ne.symm e), Bool.or_false]
  · rw [Maps.size_put h.tidy, h.has, h.size]
    unfold addTo
    split <;> simp
  · unfold addTo
    split
    · exact h.nodup
    · next hn => exact List.nodup_append.2 ⟨h.nodup, by simp, fun a ha b hb => by
        rw [List.mem_singleton.1 hb]
        intro e; subst e
        exact hn (by simpa using ha)⟩
theorem PM.del {D : DataW Unit} {L : List Int} {f : Int → Option Nat} (h : PM D L f) (x : Int) : PM (D.del (.int .i64 x)) (L.erase x) (fun y => if y = x then none else f y) := by
  refine ⟨h.tidy.del _, fun y => ?_, fun y => ?_, fun y => ?_, ?_, h.nodup.erase x⟩
  · rw [erase_has h.nodup]
    by_cases e : y = x
    · subst e; rw [Maps.has_del_same]; simp
    · rw [Maps.has_del_other (litne e), h.has, show (x == y) = false from beq_eq_false_iff_ne.2 (Ne.symm e)]; simp
  · by_cases e : y = x
    · subst e; rw [Maps.atKey_del_same, if_pos rfl]
    · rw [Maps.atKey_del_other (litne e), h.at_, if_neg e]
  · rw [erase_has h.nodup]
    by_cases e : y = x
    · subst e; simp
    · rw [if_neg e, h.some_, show (x == y) = false from beq_eq_false_iff_ne.2 (Ne.symm e)]; simp
  · have := Maps.size_del (k := .int .i64 x) h.tidy
    rw [h.has, h.size] at this
    by_cases e : L.contains x
    · rw [if_pos e] at this
      rw [List.length_erase_of_mem (by simpa using e)]
      omega
    · rw [if_neg e] at this
      rw [List.erase_of_not_mem (by simpa using e)]
      omega
/-- Block b is such a map, of at most n entries. -/
def World.pmap (w : World) (P : Program) (k : TypeId) (b n : Nat) (L : List Int) (f : Int → Option Nat) : Prop := ∃ D : DataW Unit, w.ownsMap P k ptrElem b n D ∧ PM D L f
namespace World
variable {w w' : World} {P : Program} {k e : TypeId} {b n : Nat} {L : List Int} {f : Int → Option Nat}
theorem pmap.lt (h : w.pmap P k b n L f) : b < w.heap.size := by obtain ⟨D, h1, _⟩ := h; exact h1.lt
theorem pmap.kept {row : Option Nat} (h : w.pmap P k b n L f) (hg : w.grownBy w' row) (hne : some b ≠ row) : w'.pmap P k b n L f := by obtain ⟨D, h1, h2⟩ := h; exact ⟨D, h1.kept hg hne, h2⟩
theorem pmap.alloc (h : w.pmap P k b n L f) (o : Obj) : (w.alloc o).pmap P k b n L f := by obtain ⟨D, h1, h2⟩ := h; exact ⟨D, h1.alloc o, h2⟩
theorem pmap.mono {m : Nat} (h : w.pmap P k b n L f) (hm : n ≤ m) : w.pmap P k b m L f := by obtain ⟨D, h1, h2⟩ := h; exact ⟨D, h1.mono hm, h2⟩
theorem pmap_made (w : World) (P : Program) (k : TypeId) : (w.alloc (.map #[] 0)).pmap P k w.heap.size 0 [] (fun _ => none) := ⟨_, World.ownsMap_made _ _ _ _, PM.empty⟩
theorem pmap.same (h : w.pmap P k b n L f) (hb : w'.heap[b]? = w.heap[b]?) : w'.pmap P k b n L f := by
  obtain ⟨D, ⟨es, clock, h1, h2⟩, h3⟩ := h
  exact ⟨D, ⟨es, clock, hb.trans h1, h2⟩, h3⟩
theorem pmap.some_ (h : w.pmap P k b n L f) (x : Int) : (f x).isSome = L.contains x := by obtain ⟨D, _, h2⟩ := h; exact h2.some_ x
theorem pmap.nodup (h : w.pmap P k b n L f) : L.Nodup := by obtain ⟨D, _, h2⟩ := h; exact h2.nodup
end World
section
variable {P : Program} {w : World} {ops : Array Oper} {rest : List Oper} {o : Oper} {a : Act} {Q : Exit → Act → World → Prop} {k e : TypeId} {b n : Nat} {L : List Int} {f : Int → Option Nat}
theorem wpList_lookup_pm (hg : o.guard = none) (m x : Operand) (t : TypeId) (hop : o.op = Op.lookup t m x false) (hk : P.underlying k = some (.int .i64)) (ht : P.underlying t = some (.map k e)) (hz : ∀ w, (zeroValue e).run P w = .ok (.pointer none) w)
    (hm : a.eval m = .map (some b)) (h : w.pmap P k b n L f) (i : Int) (hx : a.eval x = .int .i64 i) (hi : In64 i) (r : Option Nat) (hr : f i = r)
    (hK : wpList P ops Q rest (a.put o.dst (ptrV r)) w) : wpList P ops Q (o :: rest) a w := by
  refine wpList_plain hg fun K' hK' => ?_
  obtain ⟨D, hown, hB⟩ := h
  obtain ⟨v, ps, hrun, hv⟩ := hown.lookup (Maps.int_keyed hk) ht (hz w) (ptrElem_mk none) (Maps.keyOf_int_mk hk (a := i) (wf_in64 hi))
  obtain ⟨p, rfl, hy⟩ := ptrElem_inv hv
  have e1 := congrArg Prod.fst hy
  simp only at e1
  rw [hB.at_, hr] at e1
  have e2 : r = p := ptrD_inj e1
  subst e2
  unfold Oper.wp
  simp [execOp, hop, hm, hx, hrun, Result.andThen]
  exact hK' _ _ (by simpa using hK)
theorem wpList_mapUpdate_pm (hg : o.guard = none) (m x v : Operand) (t : TypeId) (hop : o.op = Op.mapUpdate t m x v) (hk : P.underlying k = some (.int .i64)) (ht : P.underlying t = some (.map k e))
    (hm : a.eval m = .map (some b)) (h : w.pmap P k b n L f) (hn : n < 100000) (i : Int) (hx : a.eval x = .int .i64 i) (hi : In64 i) (g : Nat) (hv : a.eval v = .pointer (some ⟨g, 0, none⟩))
    (hK : ∀ w', w'.pmap P k b (n + 1) (addTo L i) (fun y => if y = i then some g else f y) → w.grownBy w' (some b) → wpList P ops Q rest (a.put o.dst undef) w') : wpList P ops Q (o :: rest) a w := by
  obtain ⟨D, hown, hB⟩ := h
  refine wpList_mapUpdate_own w hg m x v t hop k e (Maps.int_keyed hk) ht _ b n D hm hown (by unfold maxLen; omega) _ _ _ hx hv (Maps.keyOf_int_mk hk (a := i) (wf_in64 hi)) _ [] (ptrElem_mk (some g)) ?_
  intro w' h1 h2
  exact hK w' ⟨_, h1, hB.put i g⟩ h2
theorem wpList_delete_pm (hg : o.guard = none) (m x : Operand) (t : TypeId) (hop : o.op = Op.call { callee := Callee.builtin Builtin.delete, args := #[m, x], argTypes := #[t, k] }) (hk : P.underlying k = some (.int .i64)) (ht : P.underlying t = some (.map k e))
    (hm : a.eval m = .map (some b)) (h : w.pmap P k b n L f) (i : Int) (hx : a.eval x = .int .i64 i) (hi : In64 i)
    (hK : ∀ w', w'.pmap P k b n (L.erase i) (fun y => if y = i then none else f y) → w.grownBy w' (some b) → wpList P ops Q rest (a.put o.dst (.tuple #[])) w') : wpList P ops Q (o :: rest) a w := by
  obtain ⟨D, hown, hB⟩ := h
  refine wpList_delete_own w hg m x t k hop e (Maps.int_keyed hk) ht _ b n D hm hown _ _ hx (Maps.keyOf_int_mk hk (a := i) (wf_in64 hi)) ?_
  intro w' h1 h2
  exact hK w' ⟨_, h1, hB.del i⟩ h2.grown
theorem wpList_len_pm (hg : o.guard = none) (m : Operand) (t : TypeId) (hop : o.op = Op.call { callee := Callee.builtin Builtin.len, args := #[m], argTypes := #[t] }) (ht : P.underlying t = some (.map k e))
    (hm : a.eval m = .map (some b)) (h : w.pmap P k b n L f) (hK : wpList P ops Q rest (a.put o.dst (.int .i64 (L.length : Int))) w) : wpList P ops Q (o :: rest) a w := by
  obtain ⟨D, hown, hB⟩ := h
  refine wpList_len_own w hg m t hop k e ht _ b n D hm hown ?_
  rw [hB.size]; exact hK
end
end Go
/- Owned rows of integers: laws of my own, no program in them. -/
namespace Go
open Go.RowKit Go.Sort
def ints (l : List Int) : List Value := l.map (Value.int .i64)
theorem ints_len (l : List Int) : (ints l).length = l.length := by simp [ints]
theorem ints_get (l : List Int) (j : Nat) {x : Int} (h : l[j]? = some x) : (ints l)[j]? = some (.int .i64 x) := by simp [ints, h]
theorem ints_append (a b : List Int) : ints (a ++ b) = ints a ++ ints b := by simp [ints]
/-- The row of integers xs that v owns, no block of it below B. -/
def World.irow (w : World) (B : Nat) (e : TypeId) (v : Value) (xs : List Int) : Prop := w.ownsRow B e 1 v xs.length (ints xs)
variable {w w' : World} {B : Nat} {e : TypeId} {v : Value} {xs : List Int}
theorem World.irow.form (h : w.irow B e v xs) : (v = .slice none 0 0 ∧ xs = []) ∨ ∃ g cap, v = .slice (some ⟨g, 0, none⟩) xs.length cap ∧ B ≤ g ∧ g < w.heap.size ∧ xs.length ≤ cap ∧ cap ≤ maxLen ∧ ∀ j x, xs[j]? = some x → w.cell? ⟨g, j, none⟩ = some (.int .i64 x) := by
  have hlt := h.lt
  obtain ⟨hl, h⟩ := h
  rcases h with ⟨h1, h2⟩ | ⟨g, cap, cur, hv, hB, hh, h1, h2, hs, ht⟩
  · exact .inl ⟨h1, List.length_eq_zero_iff.1 h2⟩
  · refine .inr ⟨g, cap, hv, hB, (hlt g (by rw [hv]; rfl)).2, h1, h2, fun j x hj => ?_⟩
    have h3 : cur[j]? = some (.int .i64 x) := by
      have h4 := ints_get xs j hj
      rw [← ht] at h4
      rw [List.getElem?_take] at h4
      split at h4
      · simpa using h4
      · cases h4
    simp [World.cell?, hh, h3]
theorem World.irow.cellD {g n cap : Nat} (h : w.irow B e (.slice (some ⟨g, 0, none⟩) n cap) xs) : n = xs.length ∧ n ≤ cap ∧ cap ≤ maxLen ∧ B ≤ g ∧ g < w.heap.size ∧ (∀ j, j < xs.length → w.cell? ⟨g, 0 + j, none⟩ = some (.int .i64 (xs.getD j 0))) ∧ ∀ j, w.frozen? ⟨g, j, none⟩ = false := by
  have h0 := h
  rcases h.form with ⟨h1, _⟩ | ⟨g', cap', hv, hB, hg, h1, h2, hc⟩
  · cases h1
  · obtain ⟨⟨rfl, _⟩, rfl, rfl⟩ := by simpa using hv
    refine ⟨rfl, h1, h2, hB, hg, fun j hj => ?_, fun j => World.ownsRow.frozenAt h0 j⟩
    rw [Nat.zero_add]
    exact hc j _ (by simp [List.getD, hj])
theorem World.irow.nil (w : World) (B : Nat) (e : TypeId) : w.irow B e (.slice none 0 0) [] := World.ownsRow_nil _ _ _ _
/-- An element taken out: what slices.Delete leaves. -/
theorem World.irow.cut {g n cap i : Nat} (h : w.irow B e (.slice (some ⟨g, 0, none⟩) n cap) xs) (hi : i < xs.length) (q : Nat) :
    (putRow (Value.int .i64) (Sort.ahead w q) g 0 (xs.take i ++ xs.drop (i + 1) ++ List.replicate (i + 1 - i) 0).toArray).irow B e (.slice (some ⟨g, 0, none⟩) (n - (i + 1 - i)) cap) (xs.eraseIdx i) ∧
    w.grownBy (putRow (Value.int .i64) (Sort.ahead w q) g 0 (xs.take i ++ xs.drop (i + 1) ++ List.replicate (i + 1 - i) 0).toArray) (some g) := by
  have hn := h.cellD.1
  subst hn
  obtain ⟨hl, h⟩ := h
  rcases h with ⟨h1, _⟩ | ⟨g', cap', cur, hv, hB, hh, h1, h2, hs, ht⟩
  · cases h1
  obtain ⟨rfl, rfl⟩ : g = g' ∧ cap = cap' := by simpa using hv
  rw [Nat.mul_one] at hs ht
  have e1 : i + 1 - i = 1 := by omega
  rw [e1]
  have hel : (xs.eraseIdx i).length = xs.length - 1 := List.length_eraseIdx_of_lt hi
  have hdl : (xs.take i ++ xs.drop (i + 1) ++ List.replicate 1 0).length = xs.length := by simp; omega
  have hb : (putRow (Value.int .i64) (Sort.ahead w q) g 0 (xs.take i ++ xs.drop (i + 1) ++ List.replicate 1 0).toArray).heap[g]? = some (.cells (putCells (Value.int .i64) 0 (xs.take i ++ xs.drop (i + 1) ++ List.replicate 1 0).toArray cur) e (0, 0)) := by
    unfold putRow mapBlock Sort.ahead
    simp [Array.getElem?_modify, hh, onCells]
  refine ⟨⟨by rw [ints_len, Nat.mul_one], .inr ⟨g, cap, _, by rw [hel], hB, hb, by omega, h2, by simp [putCells, hs], ?_⟩⟩, ⟨rfl, rfl, rfl, by simp [putRow, mapBlock, Sort.ahead], fun k _ hk => ?_⟩⟩
  · rw [Nat.mul_one, hel]
    apply List.ext_getElem?
    intro j
    rw [List.getElem?_take]
    by_cases hj : j < xs.length - 1
    · rw [if_pos hj]
      have hjc : j < cur.size := by omega
      have hx : (xs.eraseIdx i)[j]? = some ((xs.eraseIdx i)[j]'(by omega)) := List.getElem?_eq_getElem (by omega)
      rw [ints_get _ j hx]
      have hd : (xs.take i ++ xs.drop (i + 1) ++ List.replicate 1 0)[j]? = (xs.eraseIdx i)[j]? := by
        rw [List.eraseIdx_eq_take_drop_succ, List.getElem?_append_left (by simp; omega)]
      rw [hx] at hd
      have hd2 : (xs.take i ++ xs.drop (i + 1) ++ List.replicate 1 0).toArray[j]! = (xs.eraseIdx i)[j]'(by omega) := by
        rw [getElem!_def]
        simp only [List.getElem?_toArray, hd]
      unfold putCells
      rw [← List.getElem?_toArray, Array.toArray_toList, Array.getElem?_mapIdx, Array.getElem?_eq_getElem hjc, Option.map_some, if_pos ⟨Nat.zero_le _, by simp only [List.size_toArray]; omega⟩, Nat.sub_zero, hd2]
    · rw [if_neg hj, List.getElem?_eq_none (by rw [ints_len]; omega)]
  · unfold putRow mapBlock Sort.ahead
    simp [Array.getElem?_modify, show g ≠ k from fun e => hk (by rw [e])]
end Go
/- slices.Index, Contains, Delete off the shelf, and the row's 'out': contracts over owned rows. -/
namespace Go.Proofs.YtijagdpkclghnaaDoor
open Go Go.RowKit Go.Shelf
set_option maxRecDepth 100000
shelf_lay_g SlLaysN.n29 Slgn 29 at Tryd 69 as idxL
shelf_lay_g SlLaysN.n31 Slgn 31 at Tryd 68 as conL
shelf_lay_g SlLaysN.n45 Slgn 45 at Tryd 70 as delL
variable {w : World} {B : Nat}
abbrev tI : TypeId := 3
theorem idx_any {v : Value} {xs : List Int} (x : Int) (h : w.irow B tI v xs) : Calls Tryd.prog 69 #[v, .int .i64 x] w fun e w' => e = .returned (.int .i64 (Lib.idxOf xs x)) ∧ w = w' := by
  rcases h.form with ⟨rfl, rfl⟩ | ⟨g, cap, rfl, _⟩
  · exact (AnyG.slices_Index_int_empty idxL none 0 x w).mono fun e w' ⟨h1, h2⟩ => ⟨h1, h2.symm⟩
  · obtain ⟨_, h1, h2, _, _, hc, _⟩ := h.cellD
    have := AnyG.slices_Index_int idxL g 0 xs.length cap xs x w (Nat.le_refl _) (by unfold maxLen at h2; omega) hc
    rw [List.take_of_length_le (Nat.le_refl _)] at this
    exact this.mono fun e w' ⟨h1, h2⟩ => ⟨h1, h2.symm⟩
theorem con_any {v : Value} {xs : List Int} (x : Int) (h : w.irow B tI v xs) : Calls Tryd.prog 68 #[v, .int .i64 x] w fun e w' => e = .returned (.bool (xs.contains x)) ∧ w = w' := by
  rcases h.form with ⟨rfl, rfl⟩ | ⟨g, cap, rfl, _⟩
  · exact (AnyG.slices_Contains_int_empty conL none 0 x w).mono fun e w' ⟨h1, h2⟩ => ⟨h1, h2.symm⟩
  · obtain ⟨_, h1, h2, _, _, hc, _⟩ := h.cellD
    have := AnyG.slices_Contains_int conL g 0 xs.length cap xs x w (Nat.le_refl _) (by unfold maxLen at h2; omega) hc
    rw [List.take_of_length_le (Nat.le_refl _)] at this
    exact this.mono fun e w' ⟨h1, h2⟩ => ⟨h1, h2.symm⟩
theorem del_any {g n cap : Nat} {xs : List Int} (i j : Nat) (h : w.irow B tI (.slice (some ⟨g, 0, none⟩) n cap) xs) (hi : i < xs.length) (hj : j = i + 1) :
    Calls Tryd.prog 70 #[.slice (some ⟨g, 0, none⟩) n cap, .int .i64 (i : Int), .int .i64 (j : Int)] w fun e w' => e = .returned (.slice (some ⟨g, 0, none⟩) (n - 1) cap) ∧ w'.irow B tI (.slice (some ⟨g, 0, none⟩) (n - 1) cap) (xs.eraseIdx i) ∧ w.grownBy w' (some g) := by
  subst hj
  obtain ⟨rfl, h1, h2, _, _, hc, hz⟩ := h.cellD
  have hH : Sort.Holds (Value.int .i64) w g 0 xs.toArray := fun j hj => by
    have hj' : j < xs.length := by simpa using hj
    refine ⟨?_, hz (0 + j)⟩
    rw [hc j hj']
    congr 2
    rw [getElem!_def]
    simp [List.getD, hj']
  refine (AnyG.slices_Delete_int delL g 0 cap i (i + 1) xs w hH h1 (by unfold maxLen at h2; omega) (by omega) (by omega)).mono ?_
  rintro e w' ⟨he, q, rfl⟩
  have e1 : xs.length - (i + 1 - i) = xs.length - 1 := by omega
  obtain ⟨c1, c2⟩ := h.cut hi q
  rw [e1] at he c1
  exact ⟨he, c1, c2⟩
theorem idxFrom_spec (x : Int) : ∀ (zs : List Int) (i : Nat), (zs.contains x = false ∧ Lib.idxFrom zs x i = -1) ∨ ∃ k, k < zs.length ∧ Lib.idxFrom zs x i = ((i + k : Nat) : Int) ∧ zs.eraseIdx k = zs.erase x ∧ zs.contains x = true
  | [], i => .inl ⟨rfl, rfl⟩
  | z :: zs, i => by
    by_cases e : z = x
    · subst e
      exact .inr ⟨0, by simp, by simp [Lib.idxFrom], by simp, by simp⟩
    · have e2 : (z == x) = false := beq_eq_false_iff_ne.2 e
      have e3 : (x == z) = false := beq_eq_false_iff_ne.2 (Ne.symm e)
      have e4 : Lib.idxFrom (z :: zs) x i = Lib.idxFrom zs x (i + 1) := by simp [Lib.idxFrom, e]
      rcases idxFrom_spec x zs (i + 1) with ⟨h1, h2⟩ | ⟨k, h1, h2, h3, h4⟩
      · exact .inl ⟨by rw [List.contains_cons, e3, h1]; rfl, by rw [e4, h2]⟩
      · refine .inr ⟨k + 1, by simp; omega, by rw [e4, h2]; congr 1; omega, ?_, by rw [List.contains_cons, h4]; simp⟩
        rw [List.eraseIdx_cons_succ, h3, List.erase_cons, e2]
        simp
theorem out_any {v : Value} {xs : List Int} (x : Int) (h : w.irow B tI v xs) (hb : xs.length ≤ 1000) :
    Calls Tryd.prog 56 #[v, .int .i64 x] w fun e w' => ∃ v', e = .returned (.tuple #[v', .bool (xs.contains x)]) ∧ w'.irow B tI v' (xs.erase x) ∧ v'.ownBlock = v.ownBlock ∧ w.grownBy w' v.ownBlock := by
  rcases idxFrom_spec x xs 0 with ⟨h1, h2⟩ | ⟨k, h1, h2, h3, h4⟩
  · have hx : xs.erase x = xs := List.erase_of_not_mem (by simpa using h1)
    rw [hx, h1]
    go_enter Tryd.func56, Tryd.ntmps56
    go_wp2_with fail
    refine (idx_any x h).mono ?_
    rintro e w' ⟨rfl, rfl⟩
    rw [show Lib.idxOf xs x = -1 from h2]
    go_wp2_with fail
    go_ret2
    exact ⟨v, rfl, h, rfl, World.grownBy.refl _ _⟩
  · rw [h4, ← h3]
    rcases h.form with ⟨_, rfl⟩ | ⟨g, cap, rfl, _⟩
    · simp at h1
    obtain ⟨j, hj⟩ : ∃ j, j = k + 1 := ⟨_, rfl⟩
    have ej : (k : Int) + 1 = (j : Int) := by omega
    have hk : k < 1000 := by omega
    have HJ := Go.Lib.hid hj
    clear hj
    go_enter Tryd.func56, Tryd.ntmps56
    go_wp2_with fail
    refine (idx_any x h).mono ?_
    rintro e w' ⟨rfl, rfl⟩
    rw [show Lib.idxOf xs x = (k : Int) by rw [show Lib.idxOf xs x = Lib.idxFrom xs x 0 from rfl, h2, Nat.zero_add]]
    go_wp2_with fail
    refine (del_any k j h h1 HJ.out).mono ?_
    rintro e w' ⟨rfl, c1, c2⟩
    go_wp2_with fail
    go_ret2
    exact ⟨_, rfl, c1, rfl, c2⟩
end Go.Proofs.YtijagdpkclghnaaDoor
/- Slices that are read, with or without elements: laws of my own, no program in them. -/
namespace Go
open Go.RowKit
/-- The slice v reads as the list vs (elements of one cell). -/
def World.rd (w : World) (v : Value) (vs : List Value) : Prop :=
  ∃ a c, v = .slice a vs.length c ∧ (vs = [] ∨ ∃ b o, a = some ⟨b, o, none⟩ ∧ ∀ j u, vs[j]? = some u → w.cell? ⟨b, o + j, none⟩ = some u)
namespace World
variable {w w' : World} {v : Value} {vs : List Value}
theorem rd.below {B : Nat} (h : w.rd v vs) (hb : Below B w w') (hB : w.heap.size ≤ B) : w'.rd v vs := by
  obtain ⟨a, c, hv, h⟩ := h
  refine ⟨a, c, hv, ?_⟩
  rcases h with h | ⟨b, o, ha, hc⟩
  · exact .inl h
  · refine .inr ⟨b, o, ha, fun j u hj => ?_⟩
    have h1 := hc j u hj
    rw [hb.cell (p := ⟨b, o + j, none⟩) (Nat.lt_of_lt_of_le (block_lt_of_cell h1) hB)]
    exact h1
theorem rd.cases (h : w.rd v vs) : (vs = [] ∧ ∃ a c, v = .slice a 0 c) ∨ (vs ≠ [] ∧ ∃ b o c, v = .slice (some ⟨b, o, none⟩) vs.length c ∧ ∀ j u, vs[j]? = some u → w.cell? ⟨b, o + j, none⟩ = some u) := by
  obtain ⟨a, c, hv, h⟩ := h
  by_cases e : vs = []
  · subst e; exact .inl ⟨rfl, a, c, hv⟩
  · rcases h with h | ⟨b, o, ha, hc⟩
    · exact absurd h e
    · subst ha; exact .inr ⟨e, b, o, c, hv, hc⟩
theorem ownsRow.rd {base : Nat} {e : TypeId} {n : Nat} {xs : List Value} (h : w.ownsRow base e 1 v n xs) : w.rd v xs := by
  obtain ⟨hl, h⟩ := h
  have hn : n = xs.length := by omega
  rcases h with ⟨h1, h2⟩ | ⟨g, cap, cur, hv, _, hh, h1, _, hs, ht⟩
  · subst h2; exact ⟨none, 0, by rw [h1, ← hn], .inl (List.length_eq_zero_iff.1 hn.symm)⟩
  · refine ⟨_, cap, by rw [hv, hn], .inr ⟨g, 0, rfl, fun j u hj => ?_⟩⟩
    have h2 : cur[j]? = some u := by
      rw [← ht] at hj
      rw [List.getElem?_take] at hj
      split at hj
      · simpa using hj
      · cases hj
    simp [World.cell?, hh, h2]
/-- A slice cut off behind m elements. -/
theorem rd.cut (h : w.rd v vs) (m : Nat) (hm : m ≤ vs.length) {a : Option Addr} {n c : Nat} (hv : v = .slice a n c) : w.rd (.slice a m c) (vs.take m) := by
  obtain ⟨a', c', hv', h⟩ := h
  rw [hv] at hv'
  obtain ⟨rfl, _, rfl⟩ := Value.slice.inj hv'
  refine ⟨a, c, by rw [List.length_take]; congr 1; omega, ?_⟩
  rcases h with h | ⟨b, o, ha, hc⟩
  · left; rw [h]; simp
  · right
    refine ⟨b, o, ha, fun j u hj => hc j u ?_⟩
    rw [List.getElem?_take] at hj
    split at hj
    · exact hj
    · cases hj
end World
end Go
/- A turn: what it is, where it lies, what a call may touch of it. -/
namespace Go.Proofs.YtijagdpkclghnaaDoor
open Go Go.RowKit
/-- A turn's sizes, its plain and its dear keys in order, the pinned ones. -/
structure TS where
  most : Nat
  limit : Nat
  plain : List Int
  dear : List Int
  pins : List Int
/-- Where it lies: its block, its map's, its two rows. -/
structure TM where
  g : Nat
  m : Nat
  v1 : Value
  v2 : Value
def TM.foot (M : TM) (k : Nat) : Prop := k = M.g ∨ k = M.m ∨ M.v1.ownBlock = some k ∨ M.v2.ownBlock = some k
abbrev tT : TypeId := 101
abbrev TM.cells (M : TM) (T : TS) : List Value := [.int .i64 (T.most : Int), .int .i64 (T.limit : Int), M.v1, M.v2, .map (some M.m)]
/-- It lies so, no block below B, its map of at most n entries. -/
structure TurnAt (B n : Nat) (w : World) (M : TM) (T : TS) : Prop where
  row : w.row M.g (M.cells T) tT
  o1 : w.irow B tI M.v1 T.plain
  o2 : w.irow B tI M.v2 T.dear
  pm : w.bmap Tryd.prog tI 4 M.m n T.pins
  gm : M.m ≠ M.g
  g1 : M.v1.ownBlock ≠ some M.g
  g2 : M.v2.ownBlock ≠ some M.g
  m1 : M.v1.ownBlock ≠ some M.m
  m2 : M.v2.ownBlock ≠ some M.m
  d12 : M.v1.ownBlock = none ∨ M.v1.ownBlock ≠ M.v2.ownBlock
  bg : B ≤ M.g
  bm : B ≤ M.m
/-- Its sizes are good, it keeps them; its keys are there once. -/
structure Good (T : TS) : Prop where
  m1 : 1 ≤ T.most
  m64 : T.most ≤ 64
  lim : T.limit < T.most
  len : T.plain.length + T.dear.length ≤ T.most
  dlen : T.dear.length ≤ T.limit
  nodup : (T.plain ++ T.dear).Nodup
  in64 : ∀ k ∈ T.plain ++ T.dear, In64 k
/-- What a call on it leaves. -/
structure Step (M M' : TM) (w w' : World) : Prop where
  g : M'.g = M.g
  m : M'.m = M.m
  os : w'.os = w.os
  tape : w'.tape = w.tape
  output : w'.output = w.output
  size : w.heap.size ≤ w'.heap.size
  foot : ∀ k, M'.foot k → M.foot k ∨ w.heap.size ≤ k
  block : ∀ k, k < w.heap.size → ¬ M.foot k → w'.heap[k]? = w.heap[k]?
variable {B n : Nat} {w w' w'' : World} {M M' M'' : TM} {T T' : TS}
theorem Step.refl (M : TM) (w : World) : Step M M w w := ⟨rfl, rfl, rfl, rfl, rfl, Nat.le_refl _, fun _ h => .inl h, fun _ _ _ => rfl⟩
theorem Step.trans (h : Step M M' w w') (h2 : Step M' M'' w' w'') : Step M M'' w w'' :=
  ⟨h2.g.trans h.g, h2.m.trans h.m, h2.os.trans h.os, h2.tape.trans h.tape, h2.output.trans h.output, Nat.le_trans h.size h2.size,
    fun k hk => (h2.foot k hk).elim (h.foot k) fun h3 => .inr (Nat.le_trans h.size h3),
    fun k hk hn => (h2.block k (Nat.lt_of_lt_of_le hk h.size) fun h3 => (h.foot k h3).elim hn (fun h4 => by omega)).trans (h.block k hk hn)⟩
theorem Step.of_below (M : TM) (h : Below w.heap.size w w') : Step M M w w' := ⟨rfl, rfl, h.os, h.tape, h.output, h.size, fun _ h => .inl h, fun k hk _ => h.block k hk⟩
theorem TurnAt.lts (h : TurnAt B n w M T) (k : Nat) (hk : M.foot k) : B ≤ k ∧ k < w.heap.size := by
  rcases hk with rfl | rfl | hk | hk
  · exact ⟨h.bg, h.row.lt⟩
  · exact ⟨h.bm, h.pm.lt⟩
  · exact h.o1.lt k hk
  · exact h.o2.lt k hk
theorem irow_same {xs : List Int} {v : Value} (h : w.irow B tI v xs) (hb : ∀ k, v.ownBlock = some k → w'.heap[k]? = w.heap[k]?) : w'.irow B tI v xs := by
  obtain ⟨hl, h⟩ := h
  refine ⟨hl, ?_⟩
  rcases h with h | ⟨g, cap, cur, hv, hB, hh, r⟩
  · exact .inl h
  · exact .inr ⟨g, cap, cur, hv, hB, (hb g (by rw [hv]; rfl)).trans hh, r⟩
theorem TurnAt.below' (h : TurnAt B n w M T) (hb : Below w.heap.size w w') : TurnAt B n w' M T :=
  ⟨h.row.below hb h.row.lt, irow_same h.o1 fun k hk => hb.block k (h.o1.lt k hk).2, irow_same h.o2 fun k hk => hb.block k (h.o2.lt k hk).2, h.pm.same (hb.block _ h.pm.lt), h.gm, h.g1, h.g2, h.m1, h.m2, h.d12, h.bg, h.bm⟩
theorem TurnAt.mono {m : Nat} (h : TurnAt B n w M T) (hm : n ≤ m) : TurnAt B m w M T := ⟨h.row, h.o1, h.o2, h.pm.mono hm, h.gm, h.g1, h.g2, h.m1, h.m2, h.d12, h.bg, h.bm⟩
/-- All below the turn is as it was. -/
theorem Step.under (h : Step M M' w w') (hT : TurnAt B n w M T) (hB : B ≤ w.heap.size) {u : World} (hu : Below B u w) : Below B u w' :=
  hu.trans ⟨h.os, h.tape, h.output, h.size, fun k hk => h.block k (Nat.lt_of_lt_of_le hk hB) fun hf => by have := (hT.lts k hf).1; omega⟩
theorem TurnAt.le (h : TurnAt B n w M T) : B ≤ w.heap.size := Nat.le_trans h.bg (Nat.le_of_lt h.row.lt)
/-- What is no part of the turn stays. -/
theorem Step.row (h : Step M M' w w') {b : Nat} {cs : List Value} {t : TypeId} (hr : w.row b cs t) (hn : ¬ M.foot b) : w'.row b cs t := by
  have hl := World.row.lt hr
  unfold World.row at *; rw [h.block b hl hn]; exact hr
theorem Step.cell (h : Step M M' w w') {p : Addr} {v : Value} (hc : w.cell? p = some v) (hn : ¬ M.foot p.block) : w'.cell? p = some v := by
  have e := h.block p.block (block_lt_of_cell hc) hn
  unfold World.cell? at *
  rw [e]; exact hc
theorem Step.out (h : Step M M' w w') {b : Nat} (hb : b < w.heap.size) (hn : ¬ M.foot b) : ¬ M'.foot b := fun hf => (h.foot b hf).elim hn (fun h2 => by omega)
/-- The cells of a turn, for the walk. -/
theorem TurnAt.five (h : TurnAt B n w M T) : w.cell? ⟨M.g, 0, none⟩ = some (.int .i64 (T.most : Int)) ∧ w.cell? ⟨M.g, 1, none⟩ = some (.int .i64 (T.limit : Int)) ∧ w.cell? ⟨M.g, 2, none⟩ = some M.v1 ∧ w.cell? ⟨M.g, 3, none⟩ = some M.v2 ∧ w.cell? ⟨M.g, 4, none⟩ = some (.map (some M.m)) ∧ (∀ i, w.frozen? ⟨M.g, i, none⟩ = false) :=
  ⟨h.row.cell 0 rfl, h.row.cell 1 rfl, h.row.cell 2 rfl, h.row.cell 3 rfl, h.row.cell 4 rfl, h.row.free⟩
/-- The plain row is another one: it was turned in its block (or laid anew), then its value stored. -/
theorem TurnAt.set1 {w1 : World} {v : Value} {xs : List Int} (h : TurnAt B n w M T) (hg : w.grownBy w1 M.v1.ownBlock) (ho : w1.irow B tI v xs) (hv : v.ownBlock = M.v1.ownBlock ∨ ∃ k, v.ownBlock = some k ∧ w.heap.size ≤ k) :
    TurnAt B n (w1.setCell ⟨M.g, 2, none⟩ v) { M with v1 := v } { T with plain := xs } ∧ Step M { M with v1 := v } w (w1.setCell ⟨M.g, 2, none⟩ v) := by
  have r1 := h.row.grown hg (fun e => h.g1 e.symm)
  have n1 : v.ownBlock ≠ some M.g := by
    rcases hv with e | ⟨k, e, hk⟩
    · rw [e]; exact h.g1
    · rw [e]; intro e2; cases e2; have := h.row.lt; omega
  have n2 : v.ownBlock ≠ some M.m := by
    rcases hv with e | ⟨k, e, hk⟩
    · rw [e]; exact h.m1
    · rw [e]; intro e2; cases e2; have := h.pm.lt; omega
  have n3 : v.ownBlock = none ∨ v.ownBlock ≠ M.v2.ownBlock := by
    rcases hv with e | ⟨k, e, hk⟩
    · rw [e]; exact h.d12
    · right; rw [e]; intro e2; have := (h.o2.lt k e2.symm).2; omega
  have hs : ∀ k, k ≠ M.g → (w1.setCell ⟨M.g, 2, none⟩ v).heap[k]? = w1.heap[k]? := fun k hk => by simp [World.setCell, Array.getElem?_modify, Ne.symm hk]
  have h2 : ∀ k, M.v2.ownBlock = some k → some k ≠ M.v1.ownBlock := fun k hk e => h.d12.elim (fun e2 => by rw [e2] at e; cases e) fun e2 => e2 (e.symm.trans hk.symm)
  refine ⟨⟨r1.set 2 v, irow_same ho fun k hk => hs k (fun e => n1 (by rw [hk, e])), irow_same h.o2 fun k hk => ?_, h.pm.same ?_, h.gm, n1, h.g2, n2, h.m2, n3, h.bg, h.bm⟩, ⟨rfl, rfl, hg.os, hg.tape, hg.output, by simp [World.setCell]; exact hg.size, fun k hk => ?_, fun k hk hn => ?_⟩⟩
  · rw [hs k (fun e => h.g2 (by rw [hk, e]))]
    exact hg.block k (h.o2.lt k hk).2 (h2 k hk)
  · rw [hs _ h.gm]
    exact hg.block _ h.pm.lt (fun e => h.m1 e.symm)
  · rcases hk with e | e | e | e
    · exact .inl (.inl e)
    · exact .inl (.inr (.inl e))
    · rcases hv with e2 | ⟨k', e2, hk'⟩
      · exact .inl (.inr (.inr (.inl (e2 ▸ e))))
      · have e3 : v.ownBlock = some k := e
        rw [e2] at e3; cases e3; exact .inr hk'
    · exact .inl (.inr (.inr (.inr e)))
  · rw [hs k (fun e => hn (.inl e))]
    exact hg.block k hk (fun e => hn (.inr (.inr (.inl e.symm))))
theorem TurnAt.set2 {w1 : World} {v : Value} {xs : List Int} (h : TurnAt B n w M T) (hg : w.grownBy w1 M.v2.ownBlock) (ho : w1.irow B tI v xs) (hv : v.ownBlock = M.v2.ownBlock ∨ ∃ k, v.ownBlock = some k ∧ w.heap.size ≤ k) :
    TurnAt B n (w1.setCell ⟨M.g, 3, none⟩ v) { M with v2 := v } { T with dear := xs } ∧ Step M { M with v2 := v } w (w1.setCell ⟨M.g, 3, none⟩ v) := by
  have r1 := h.row.grown hg (fun e => h.g2 e.symm)
  have n1 : v.ownBlock ≠ some M.g := by
    rcases hv with e | ⟨k, e, hk⟩
    · rw [e]; exact h.g2
    · rw [e]; intro e2; cases e2; have := h.row.lt; omega
  have n2 : v.ownBlock ≠ some M.m := by
    rcases hv with e | ⟨k, e, hk⟩
    · rw [e]; exact h.m2
    · rw [e]; intro e2; cases e2; have := h.pm.lt; omega
  have n3 : M.v1.ownBlock = none ∨ M.v1.ownBlock ≠ v.ownBlock := by
    rcases hv with e | ⟨k, e, hk⟩
    · rw [e]; exact h.d12
    · right; rw [e]; intro e2; have := (h.o1.lt k e2).2; omega
  have hs : ∀ k, k ≠ M.g → (w1.setCell ⟨M.g, 3, none⟩ v).heap[k]? = w1.heap[k]? := fun k hk => by simp [World.setCell, Array.getElem?_modify, Ne.symm hk]
  have h2 : ∀ k, M.v1.ownBlock = some k → some k ≠ M.v2.ownBlock := fun k hk e => h.d12.elim (fun e2 => by rw [e2] at hk; cases hk) fun e2 => e2 (hk.trans e)
  refine ⟨⟨r1.set 3 v, irow_same h.o1 fun k hk => ?_, irow_same ho fun k hk => hs k (fun e => n1 (by rw [hk, e])), h.pm.same ?_, h.gm, h.g1, n1, h.m1, n2, n3, h.bg, h.bm⟩, ⟨rfl, rfl, hg.os, hg.tape, hg.output, by simp [World.setCell]; exact hg.size, fun k hk => ?_, fun k hk hn => ?_⟩⟩
  · rw [hs k (fun e => h.g1 (by rw [hk, e]))]
    exact hg.block k (h.o1.lt k hk).2 (h2 k hk)
  · rw [hs _ h.gm]
    exact hg.block _ h.pm.lt (fun e => h.m2 e.symm)
  · rcases hk with e | e | e | e
    · exact .inl (.inl e)
    · exact .inl (.inr (.inl e))
    · exact .inl (.inr (.inr (.inl e)))
    · rcases hv with e2 | ⟨k', e2, hk'⟩
      · exact .inl (.inr (.inr (.inr (e2 ▸ e))))
      · have e3 : v.ownBlock = some k := e
        rw [e2] at e3; cases e3; exact .inr hk'
  · rw [hs k (fun e => hn (.inl e))]
    exact hg.block k hk (fun e => hn (.inr (.inr (.inr e.symm))))
/-- Its map has turned. -/
theorem TurnAt.setM {w1 : World} {m : Nat} {L : List Int} (h : TurnAt B n w M T) (hg : w.grownBy w1 (some M.m)) (hp : w1.bmap Tryd.prog tI 4 M.m m L) :
    TurnAt B m w1 M { T with pins := L } ∧ Step M M w w1 := by
  refine ⟨⟨h.row.grown hg (fun e => h.gm (Option.some.inj e).symm), irow_same h.o1 fun k hk => hg.block k (h.o1.lt k hk).2 (fun e => h.m1 (by rw [hk, e])), irow_same h.o2 fun k hk => hg.block k (h.o2.lt k hk).2 (fun e => h.m2 (by rw [hk, e])), hp, h.gm, h.g1, h.g2, h.m1, h.m2, h.d12, h.bg, h.bm⟩, ⟨rfl, rfl, hg.os, hg.tape, hg.output, hg.size, fun k hk => .inl hk, fun k hk hn => hg.block k hk (fun e => hn (.inr (.inl (Option.some.inj e))))⟩⟩
end Go.Proofs.YtijagdpkclghnaaDoor
/- What a turn's calls make of it: plain laws. -/
namespace Go.Proofs.YtijagdpkclghnaaDoor
open Go Go.RowKit
namespace TS
variable (T : TS)
def keys : List Int := T.plain ++ T.dear
def has (k : Int) : Bool := T.dear.contains k || T.plain.contains k
def full : Bool := decide (T.most ≤ T.plain.length + T.dear.length)
def addE (k : Int) : Int := if T.has k then 11 else if T.full then 10 else 0
def addT (k : Int) : TS := if T.has k then T else if T.full then T else { T with plain := T.plain ++ [k] }
def fallT : TS := match T.dear with
  | [] => T
  | d :: ds => if T.limit < T.dear.length then { T with plain := T.plain ++ [d], dear := ds } else T
def moved (k : Int) : TS := { T with plain := T.plain.erase k, dear := T.dear.erase k ++ [k] }
def touchT (k : Int) : TS := if T.has k then (T.moved k).fallT else T
def dropT (k : Int) : TS := { T with plain := T.plain.erase k, dear := T.dear.erase k, pins := T.pins.erase k }
def pinT (k : Int) (on : Bool) : TS := if T.has k then { T with pins := if on then addTo T.pins k else T.pins.erase k } else T
end TS
theorem TS.fallT_yes {T : TS} {d : Int} {ds : List Int} (hd : T.dear = d :: ds) (h : T.limit < T.dear.length) : T.fallT = { T with plain := T.plain ++ [d], dear := ds } := by
  unfold TS.fallT
  split
  · next e => rw [e] at hd; cases hd
  · next d' ds' e => rw [e] at hd; cases hd; rw [if_pos h]
theorem TS.fallT_no {T : TS} (h : ¬ T.limit < T.dear.length) : T.fallT = T := by
  unfold TS.fallT
  split
  · rfl
  · rw [if_neg h]
variable {T : TS}
theorem has_iff (T : TS) (k : Int) : T.has k = true ↔ k ∈ T.plain ++ T.dear := by
  unfold TS.has
  rw [Bool.or_eq_true, List.contains_eq_mem, List.contains_eq_mem, decide_eq_true_eq, decide_eq_true_eq, List.mem_append]
  exact Or.comm
theorem Good.add (h : Good T) (k : Int) (hk : In64 k) : Good (T.addT k) := by
  unfold TS.addT
  cases hh : T.has k with
  | true => simpa using h
  | false =>
    cases hf : T.full with
    | true => simpa using h
    | false =>
      simp only [Bool.false_eq_true, if_false]
      have hn : k ∉ T.plain ++ T.dear := fun hm => by rw [(has_iff T k).2 hm] at hh; cases hh
      have hl : ¬ T.most ≤ T.plain.length + T.dear.length := by simpa [TS.full] using hf
      have hp : ((T.plain ++ [k]) ++ T.dear).Perm (k :: (T.plain ++ T.dear)) := by
        rw [List.append_assoc]
        exact List.perm_middle
      refine ⟨h.m1, h.m64, h.lim, by simp; omega, h.dlen, hp.nodup_iff.2 (List.nodup_cons.2 ⟨hn, h.nodup⟩), fun x hx => ?_⟩
      rcases List.mem_cons.1 (hp.mem_iff.1 hx) with rfl | hx
      · exact hk
      · exact h.in64 x hx
theorem Good.drop (h : Good T) (k : Int) : Good (T.dropT k) := by
  have hs : ((T.plain.erase k) ++ (T.dear.erase k)).Sublist (T.plain ++ T.dear) := (List.erase_sublist).append (List.erase_sublist)
  have l1 : (T.plain.erase k).length ≤ T.plain.length := List.length_erase_le
  have l2 : (T.dear.erase k).length ≤ T.dear.length := List.length_erase_le
  have e1 := h.len
  have e2 := h.dlen
  exact ⟨h.m1, h.m64, h.lim, by show (T.plain.erase k).length + (T.dear.erase k).length ≤ T.most; omega, by show (T.dear.erase k).length ≤ T.limit; omega, h.nodup.sublist hs, fun x hx => h.in64 x (hs.subset hx)⟩
theorem Good.pin (h : Good T) (k : Int) (on : Bool) : Good (T.pinT k on) := by
  unfold TS.pinT
  split
  · exact ⟨h.m1, h.m64, h.lim, h.len, h.dlen, h.nodup, h.in64⟩
  · exact h
theorem erase_len {l : List Int} {k : Int} (h : k ∈ l) : (l.erase k).length + 1 = l.length := by
  have := List.length_erase_of_mem h
  have h2 : 0 < l.length := List.length_pos_of_mem h
  omega
theorem moved_perm (h : Good T) (k : Int) (hk : T.has k = true) : ((T.moved k).plain ++ (T.moved k).dear).Perm (T.plain ++ T.dear) := by
  have hm := (has_iff T k).1 hk
  show (T.plain.erase k ++ (T.dear.erase k ++ [k])).Perm _
  rcases List.mem_append.1 hm with h1 | h1
  · have h2 : k ∉ T.dear := fun h2 => (List.nodup_append.1 h.nodup).2.2 k h1 k h2 rfl
    rw [List.erase_of_not_mem h2]
    have p1 : (T.plain.erase k ++ (T.dear ++ [k])).Perm (k :: (T.plain.erase k ++ T.dear)) := by
      rw [← List.append_assoc]
      exact List.perm_append_singleton k _
    have p2 : (k :: (T.plain.erase k ++ T.dear)).Perm (T.plain ++ T.dear) := by
      rw [← List.cons_append]
      exact (List.perm_cons_erase h1).symm.append_right _
    exact p1.trans p2
  · have h2 : k ∉ T.plain := fun h2 => (List.nodup_append.1 h.nodup).2.2 k h2 k h1 rfl
    rw [List.erase_of_not_mem h2]
    refine List.Perm.append_left _ ?_
    exact (List.perm_append_singleton k _).trans (List.perm_cons_erase h1).symm
theorem moved_len (h : Good T) (k : Int) (hk : T.has k = true) : (T.moved k).plain.length + (T.moved k).dear.length = T.plain.length + T.dear.length := by
  have := (moved_perm h k hk).length_eq
  simpa using this
theorem moved_dear (T : TS) (k : Int) : (T.moved k).dear.length ≤ T.dear.length + 1 := by
  have : (T.dear.erase k).length ≤ T.dear.length := List.length_erase_le
  show (T.dear.erase k ++ [k]).length ≤ _
  simp; omega
theorem Good.touch (h : Good T) (k : Int) : Good (T.touchT k) := by
  unfold TS.touchT
  by_cases hk : T.has k = true
  · rw [if_pos hk]
    have hp := moved_perm h k hk
    have hl := moved_len h k hk
    have hd := moved_dear T k
    have e1 := h.len
    have e2 := h.dlen
    unfold TS.fallT
    cases hc : (T.moved k).dear with
    | nil => exact absurd hc (by simp [TS.moved])
    | cons d ds =>
      rw [hc] at hp hl hd
      simp only [List.length_cons] at hl hd ⊢
      by_cases hlim : (T.moved k).limit < ds.length + 1
      · rw [if_pos hlim]
        have hl2 : T.limit < ds.length + 1 := hlim
        have p2 : (((T.moved k).plain ++ [d]) ++ ds).Perm (T.plain ++ T.dear) := by
          rw [List.append_assoc]; exact hp
        exact ⟨h.m1, h.m64, h.lim, by show ((T.moved k).plain ++ [d]).length + ds.length ≤ T.most; simp; omega, by show ds.length ≤ T.limit; omega, p2.nodup_iff.2 h.nodup, fun x hx => h.in64 x (p2.mem_iff.1 hx)⟩
      · rw [if_neg hlim]
        have hl2 : ¬ T.limit < ds.length + 1 := hlim
        exact ⟨h.m1, h.m64, h.lim, by show (T.moved k).plain.length + (T.moved k).dear.length ≤ T.most; rw [hc]; simp; omega, by show (T.moved k).dear.length ≤ T.limit; rw [hc]; simp; omega, by rw [hc]; exact hp.nodup_iff.2 h.nodup, fun x hx => h.in64 x (by rw [hc] at hx; exact hp.mem_iff.1 hx)⟩
  · rw [if_neg hk]; exact h
end Go.Proofs.YtijagdpkclghnaaDoor
/- New, Has, Len, Full of a turn: contracts. -/
namespace Go.Proofs.YtijagdpkclghnaaDoor
open Go Go.RowKit
set_option maxRecDepth 100000
abbrev pt (g : Nat) : Value := .pointer (some ⟨g, 0, none⟩)
variable {B n : Nat} {w : World} {M : TM} {T : TS}
theorem irow_shape {v : Value} {xs : List Int} (h : w.irow B tI v xs) : ∃ a c, v = .slice a xs.length c := by
  rcases h.form with ⟨rfl, rfl⟩ | ⟨g, cap, rfl, _⟩
  · exact ⟨none, 0, rfl⟩
  · exact ⟨_, _, rfl⟩
theorem New_ok (most limit : Nat) (w : World) (hB : B ≤ w.heap.size) (h1 : 1 ≤ most) (h2 : most ≤ 64) (h3 : limit < most) :
    Calls Tryd.prog 25 #[.int .i64 (most : Int), .int .i64 (limit : Int)] w fun e w' => ∃ M : TM, e = .returned (.tuple #[pt M.g, .int .i64 0]) ∧ TurnAt B 0 w' M ⟨most, limit, [], [], []⟩ ∧ Below w.heap.size w w' ∧ ∀ k, M.foot k → w.heap.size ≤ k := by
  have hmm := @run_makeMap Tryd.prog
  go_enter Tryd.func25, Tryd.ntmps25
  go_wp2_with fail
  go_ret2
  have hr := World.row.new (w.alloc (.map #[] 0)) [.int .i64 (most : Int), .int .i64 (limit : Int), .slice none 0 0, .slice none 0 0, .map (some w.heap.size)] tT
  refine ⟨⟨(w.alloc (.map #[] 0)).heap.size, w.heap.size, .slice none 0 0, .slice none 0 0⟩, by simp, ⟨hr, World.irow.nil _ _ _, World.irow.nil _ _ _, (World.bmap_made w Tryd.prog tI 4).alloc _, by simp, by simp [Value.ownBlock], by simp [Value.ownBlock], by simp [Value.ownBlock], by simp [Value.ownBlock], .inl rfl, by simp; omega, hB⟩, ?_, ?_⟩
  · exact ((Below.refl _ _).alloc (Nat.le_refl _) _).alloc (by simp) _
  · intro k hk
    rcases hk with hk | hk | hk | hk
    · simp at hk; omega
    · simp at hk; omega
    · cases hk
    · cases hk
theorem Has_any (x : Int) (w : World) (h : TurnAt B n w M T) :
    Calls Tryd.prog 54 #[pt M.g, .int .i64 x] w fun e w' => e = .returned (.tuple #[.bool (T.dear.contains x || T.plain.contains x), .bool (T.dear.contains x)]) ∧ w = w' := by
  obtain ⟨c0, c1, c2, c3, c4, z⟩ := h.five
  go_enter Tryd.func54, Tryd.ntmps54
  go_wp2_with fail
  refine (con_any x h.o2).mono ?_
  rintro e w' ⟨rfl, rfl⟩
  cases hd : T.dear.contains x with
  | true =>
    go_wp2_with fail
    go_ret2
    exact ⟨by rw [hd]; rfl, rfl⟩
  | false =>
    go_wp2_with fail
    refine (con_any x h.o1).mono ?_
    rintro e w' ⟨rfl, rfl⟩
    obtain ⟨p, hp⟩ : ∃ p, p = T.plain.contains x := ⟨_, rfl⟩
    rw [← hp]
    have HP := Lib.hid hp
    clear hp
    go_wp2_with fail
    go_ret2
    exact ⟨by rw [hd, ← HP.out]; rfl, rfl⟩
theorem Len_any (w : World) (h : TurnAt B n w M T) (hg : Good T) :
    Calls Tryd.prog 74 #[pt M.g] w fun e w' => e = .returned (.tuple #[.int .i64 ((T.plain.length + T.dear.length : Nat) : Int), .int .i64 (T.dear.length : Int)]) ∧ Below w.heap.size w w' := by
  obtain ⟨c0, c1, c2, c3, c4, z⟩ := h.five
  obtain ⟨a1, k1, e1⟩ := irow_shape h.o1
  obtain ⟨a2, k2, e2⟩ := irow_shape h.o2
  rw [e1] at c2
  rw [e2] at c3
  obtain ⟨p, hp⟩ : ∃ p, p = T.plain.length := ⟨_, rfl⟩
  obtain ⟨d, hd⟩ : ∃ d, d = T.dear.length := ⟨_, rfl⟩
  have hl := hg.len
  have h64 := hg.m64
  rw [← hp, ← hd] at hl
  rw [← hp] at c2 ⊢
  rw [← hd] at c3 ⊢
  have hlt := h.row.lt
  clear hp hd e1 e2 hg h
  go_enter Tryd.func74, Tryd.ntmps74
  go_wp2_with fail
  go_quiet (fail)
  go_wp2_with fail
  go_ret2
  exact ⟨rfl, (by repeat' (first | (with_reducible exact Below.refl _ _) | (with_reducible assumption) | (with_reducible refine Below.setCell ?_ ?_ _) | (with_reducible refine Below.ext ?_ _ ?_) | (with_reducible refine Below.alloc ?_ ?_ _) | (with_reducible refine Below.drew ?_) | (with_reducible refine Below.drewN ?_ _) | (with_reducible exact Nat.le_refl _) | (dsimp only; omega) | (simp <;> omega)))⟩
theorem Full_any (w : World) (h : TurnAt B n w M T) (hg : Good T) :
    Calls Tryd.prog 66 #[pt M.g] w fun e w' => e = .returned (.bool (decide (T.most ≤ T.plain.length + T.dear.length))) ∧ Below w.heap.size w w' := by
  have hl := hg.len
  have h64 := hg.m64
  go_enter Tryd.func66, Tryd.ntmps66
  go_wp2_with fail
  refine Calls.pure_to (Len_any w h hg) ?_
  intro w1 hb1
  have h1 := h.below' hb1
  obtain ⟨c0, c1, c2, c3, c4, z⟩ := h1.five
  obtain ⟨p, hp⟩ : ∃ p, p = T.plain.length + T.dear.length := ⟨_, rfl⟩
  rw [← hp] at hl
  have HP := Lib.hid hp
  rw [← hp]
  clear hp
  go_wp2_with fail
  go_returns
  refine ⟨?_, hb1⟩
  rw [← HP.out]
  simp
end Go.Proofs.YtijagdpkclghnaaDoor
/- Add, falls, Touch, Pin, Drop of a turn: contracts. -/
namespace Go.Proofs.YtijagdpkclghnaaDoor
open Go Go.RowKit
set_option maxRecDepth 100000
variable {B n : Nat} {w : World} {M : TM} {T : TS}
theorem infoInt : (Tryd.prog.info? tI).map (fun i => (i.zero, i.size, i.bytes)) = some (some (.int .i64 0), 1, 8) := by kernel_rfl
theorem info_parts {o : Option TypeInfo} {z : Option Value} {s b : Nat} (h : o.map (fun i => (i.zero, i.size, i.bytes)) = some (z, s, b)) : ∃ i, o = some i ∧ i.zero = z ∧ i.size = s ∧ i.bytes = b := by
  cases o with
  | none => cases h
  | some i => simp at h; exact ⟨i, rfl, h.1, h.2.1, h.2.2⟩
theorem cellOne (w : World) (v : Value) (t : TypeId) : ∀ (j : Nat) (u : Value), [v][j]? = some u → (w.alloc (.cells #[v] t)).cell? ((⟨w.heap.size, 0, none⟩ : Addr).add j) = some u := by
  intro j u h
  cases j with
  | zero => simp at h; subst h; simp [Addr.add]
  | succ j => simp at h
theorem own_shape {w : World} {v : Value} {n : Nat} {xs : List Value} (h : w.ownsRow B tI 1 v n xs) : ∃ a m c, v = .slice a m c := by
  rcases h.2 with ⟨h1, _⟩ | ⟨g, cap, cur, h1, _⟩
  · exact ⟨_, _, _, h1⟩
  · exact ⟨_, _, _, h1⟩
/-- A row with one element more. -/
theorem irow_snoc {w : World} {v : Value} {xs : List Int} {x : Int} (h : w.ownsRow B tI 1 v (xs.length + 1) (ints xs ++ [.int .i64 x])) : w.irow B tI v (xs ++ [x]) := by
  unfold World.irow
  rw [ints_append, List.length_append]
  exact h
theorem Add_any (x : Int) (w : World) (h : TurnAt B n w M T) (hg : Good T) :
    Calls Tryd.prog 51 #[pt M.g, .int .i64 x] w fun e w' => e = .returned (.int .i64 (T.addE x)) ∧ ∃ M', TurnAt B n w' M' (T.addT x) ∧ Step M M' w w' := by
  obtain ⟨i0, hi, hz0, hz1, hz2⟩ := info_parts infoInt
  have HI : Hid (Tryd.prog.info? tI = some i0 ∧ i0.zero = some (.int .i64 0) ∧ i0.size = 1 ∧ i0.bytes = 8) := ⟨hi, hz0, hz1, hz2⟩
  clear hi hz0 hz1 hz2
  have hH := Has_any x w h
  unfold TS.addE TS.addT
  rw [show (T.dear.contains x || T.plain.contains x) = T.has x from rfl] at hH
  cases hh : T.has x with
  | true =>
    rw [hh] at hH
    simp only [if_true]
    go_enter Tryd.func51, Tryd.ntmps51
    go_wp2_with fail
    refine hH.mono ?_
    rintro e w' ⟨rfl, rfl⟩
    go_wp2_with fail
    go_returns
    exact ⟨rfl, M, h, Step.refl _ _⟩
  | false =>
    rw [hh] at hH
    have hF := Full_any w h hg
    rw [show decide (T.most ≤ T.plain.length + T.dear.length) = T.full from rfl] at hF
    simp only [Bool.false_eq_true, if_false]
    cases hf : T.full with
    | true =>
      rw [hf] at hF
      simp only [if_true]
      go_enter Tryd.func51, Tryd.ntmps51
      go_wp2_with fail
      refine hH.mono ?_
      rintro e w' ⟨rfl, rfl⟩
      go_wp2_with fail
      refine Calls.pure_to hF ?_
      intro w1 hb1
      go_wp2_with fail
      go_returns
      exact ⟨rfl, M, h.below' hb1, Step.of_below M hb1⟩
    | false =>
      rw [hf] at hF
      simp only [Bool.false_eq_true, if_false]
      have hl := hg.len
      have h64 := hg.m64
      have hdl : Hid (T.plain.length ≤ 64) := Lib.hid (by omega)
      clear hl h64
      go_enter Tryd.func51, Tryd.ntmps51
      go_wp2_with fail
      refine hH.mono ?_
      rintro e w' ⟨rfl, rfl⟩
      go_wp2_with fail
      refine Calls.pure_to hF ?_
      intro w1 hb1
      have h1 := h.below' hb1
      have S1 := Step.of_below M hb1
      obtain ⟨c0, c1, c2, c3, c4, z⟩ := h1.five
      have gl := h1.row.lt
      clear hb1
      go_wp2_with (at_builtin; refine wpList_append_own_at _ rfl _ _ 99 rfl B tI i0 (.int .i64 0) 1 8 Tryd.underlying99 HI.out.1 HI.out.2.1 HI.out.2.2.1 HI.out.2.2.2 rfl (by decide) _ _ _ rfl (h1.o1.alloc _) ⟨w1.heap.size, 0, none⟩ 1 1 [.int .i64 x] rfl rfl ?c1 ?c2 ?c3 ?c4 ?c5 ?_)
      case c1 => exact cellOne _ _ _
      case c2 => simp [Value.oneCell']
      case c3 => have := hdl.out; unfold maxLen; omega
      case c4 => have := hdl.out; omega
      case c5 => have := h1.le; simp; omega
      intro v' w2 ho hgr _ hloc
      obtain ⟨av, mv, cv, rfl⟩ := own_shape ho
      have hgr2 := (World.grownBy_alloc w1 (.cells #[.int .i64 x] tI) M.v1.ownBlock).trans hgr
      have r2 := h1.row.grown hgr2 (fun e => h1.g1 e.symm)
      have k2 := r2.cell 2 rfl
      have z2 := r2.free 2
      obtain ⟨N1, N2⟩ := h1.set1 hgr2 (irow_snoc ho) (hloc.imp id fun e => ⟨_, e, by simp⟩)
      clear ho hgr hgr2 hloc r2 c0 c1 c2 c3 c4 z
      go_wp2_with fail
      go_returns
      exact ⟨rfl, _, N1, S1.trans N2⟩
theorem irow_below {w' : World} {v : Value} {xs : List Int} (h : w.irow B tI v xs) (hb : Below w.heap.size w w') : w'.irow B tI v xs := irow_same h fun k hk => hb.block k (h.lt k hk).2
theorem del_first {g n cap : Nat} {x : Int} {xs : List Int} (h : w.irow B tI (.slice (some ⟨g, 0, none⟩) n cap) (x :: xs)) :
    Calls Tryd.prog 70 #[.slice (some ⟨g, 0, none⟩) n cap, .int .i64 0, .int .i64 1] w fun e w' => e = .returned (.slice (some ⟨g, 0, none⟩) (n - 1) cap) ∧ w'.irow B tI (.slice (some ⟨g, 0, none⟩) (n - 1) cap) xs ∧ w.grownBy w' (some g) := by
  have := del_any 0 1 h (by simp) rfl
  simpa using this
theorem falls_any (w : World) (h : TurnAt B n w M T) (hl : T.plain.length + T.dear.length ≤ 1000) :
    Calls Tryd.prog 57 #[pt M.g] w fun e w' => e = .returned (.tuple #[]) ∧ ∃ M', TurnAt B n w' M' T.fallT ∧ Step M M' w w' := by
  obtain ⟨i0, hi, hz0, hz1, hz2⟩ := info_parts infoInt
  have HI : Hid (Tryd.prog.info? tI = some i0 ∧ i0.zero = some (.int .i64 0) ∧ i0.size = 1 ∧ i0.bytes = 8) := ⟨hi, hz0, hz1, hz2⟩
  clear hi hz0 hz1 hz2
  obtain ⟨c0, c1, c2, c3, c4, z⟩ := h.five
  obtain ⟨a2, k2, e2⟩ := irow_shape h.o2
  rw [e2] at c3
  have gl := h.row.lt
  by_cases hlim : T.limit < T.dear.length
  · cases hd : T.dear with
    | nil => rw [hd] at hlim; simp at hlim
    | cons d ds =>
      have HH := Lib.hid h
      have ho2 := h.o2
      rw [hd] at ho2
      obtain ⟨g2, cap2, hv2, _, g2lt, _, _, hc2⟩ := ho2.form.resolve_left (by simp)
      have cd := hc2 0 d rfl
      rw [hv2] at e2
      obtain ⟨rfl, _, rfl⟩ := Value.slice.inj e2
      have hll : T.plain.length ≤ 1000 := by omega
      obtain ⟨p, hp⟩ : ∃ p, p = T.plain.length := ⟨_, rfl⟩
      obtain ⟨q, hq⟩ : ∃ q, q = T.dear.length := ⟨_, rfl⟩
      have hq0 : 0 < q := by rw [hq, hd]; simp
      have hq1 : q ≤ 1000 := by omega
      rw [TS.fallT_yes hd hlim]
      rw [← hq] at c3 hlim
      have il : (T.limit : Int) < (q : Int) := by omega
      have hv3 : M.v2 = .slice (some ⟨g2, 0, none⟩) q cap2 := by rw [hv2, hq, hd]
      have HL := Lib.hid (And.intro hll (And.intro hq hv3))
      clear hll hl hp hq hlim h ho2 hc2 hv2 hv3 e2
      go_enter Tryd.func57, Tryd.ntmps57
      go_upto_region 0 with fail
      go_quiet (fail)
      go_upto_region 1 with fail
      refine wp_world (fun wa => Below w.heap.size w wa) (by repeat' (first | (with_reducible exact Below.refl _ _) | (with_reducible assumption) | (with_reducible refine Below.setCell ?_ ?_ _) | (with_reducible refine Below.ext ?_ _ ?_) | (with_reducible refine Below.alloc ?_ ?_ _) | (with_reducible refine Below.drew ?_) | (with_reducible refine Below.drewN ?_ _) | (with_reducible exact Nat.le_refl _) | (dsimp only; omega) | (simp <;> omega))) ?_
      intro wa ha
      have hA := HH.out.below' ha
      have cd' := (ha.cell (p := ⟨g2, 0, none⟩) g2lt).trans cd
      obtain ⟨d0, d1, d2, d3, d4, dz⟩ := hA.five
      rw [HL.out.2.2] at d3
      have gla := hA.row.lt
      have g2la : g2 < wa.heap.size := Nat.lt_of_lt_of_le g2lt ha.size
      have SA := Step.of_below M ha
      clear c0 c1 c2 c3 c4 z cd g2lt gl ha
      go_cut [] (fun wc => ∃ v', TurnAt B n wc { M with v1 := v' } { T with plain := T.plain ++ [d] } ∧ Step M { M with v1 := v' } w wc)
      case first =>
        have HO := Lib.hid hA.o1
        have HS : Hid (∀ o, (wa.alloc o).cell? ⟨M.g, 2, none⟩ = some M.v1 ∧ (wa.alloc o).cell? ⟨M.g, 3, none⟩ = some (.slice (some ⟨g2, 0, none⟩) q cap2) ∧ (wa.alloc o).cell? ⟨g2, 0, none⟩ = some (.int .i64 d) ∧ (wa.alloc o).frozen? ⟨M.g, 2, none⟩ = false) := Lib.hid fun o =>
          ⟨(hA.row.alloc o).cell 2 rfl, (((Below.refl wa.heap.size wa).alloc (Nat.le_refl _) o).cell (p := ⟨M.g, 3, none⟩) hA.row.lt).trans d3, (((Below.refl wa.heap.size wa).alloc (Nat.le_refl _) o).cell (p := ⟨g2, 0, none⟩) g2la).trans cd', (hA.row.alloc o).free 2⟩
        have HNE : Hid (some M.g ≠ M.v1.ownBlock ∧ some g2 ≠ M.v1.ownBlock) := Lib.hid ⟨fun e => hA.g1 e.symm, fun e => by
          have e2 : M.v2.ownBlock = some g2 := by rw [HL.out.2.2]; rfl
          rcases hA.d12 with e3 | e3
          · rw [e3] at e; cases e
          · exact e3 (e.symm.trans e2.symm)⟩
        go_region_law
          ((refine step_append_lies _ (by rfl) (.tmp 16) (.tmp 23) 99 (by rfl) B tI i0 (.int .i64 0) 1 8 Tryd.underlying99 HI.out.1 HI.out.2.1 HI.out.2.2.1 HI.out.2.2.2 rfl (by decide) M.v1 T.plain.length (ints T.plain) (by rfl) (HO.out.alloc _) ⟨wa.heap.size, 0, none⟩ 1 1 [.int .i64 d] (by rfl) rfl (cellOne _ _ _) (by simp [Value.oneCell']) (by decide) (by have := HL.out.1; unfold maxLen; omega) (by have := HL.out.1; omega) (by have := hA.le; simp; omega) _ rfl ?_; intro g1 cap1 w1 hown hgrow hat hlt1; have hk2 := hgrow.cell (HS.out (.cells #[.int .i64 d] tI)).1 HNE.out.1; have hz2 := (hgrow.frozen_far ⟨M.g, 2, none⟩ (by simp; omega) HNE.out.1).trans (HS.out (.cells #[.int .i64 d] tI)).2.2.2))
        all_goals (
          have hgrow' : (wa.alloc (.cells #[.int .i64 d] tI)).grownBy w1 M.v1.ownBlock := ⟨hgrow.os, hgrow.tape, hgrow.output, hgrow.size, hgrow.block⟩
          have hgr2 := (World.grownBy_alloc wa (.cells #[.int .i64 d] tI) M.v1.ownBlock).trans hgrow'
          obtain ⟨N1, N2⟩ := hA.set1 (w1 := w1) hgr2 (irow_snoc hown) (hat.imp (fun e => by rw [e]; rfl) fun e => ⟨g1, rfl, by rw [e]; simp⟩)
          go_wp2_with fail
          go_meet
          case rel => exact ⟨_, N1, SA.trans N2⟩)
      case rest =>
        obtain ⟨v1', N1, S1⟩ := hcut
        clear d0 d1 d2 d3 d4 dz cd' gla g2la hA SA
        have ho2 := N1.o2
        rw [HL.out.2.2, show T.dear = d :: ds from hd] at ho2
        have hgr3 : ∀ w4, wc.grownBy w4 (some g2) → wc.grownBy w4 M.v2.ownBlock := fun w4 h4 => by rw [HL.out.2.2]; exact h4
        have hob : M.v2.ownBlock = some g2 := by rw [HL.out.2.2]; rfl
        obtain ⟨b0, b1, b2, b3, b4, bz⟩ := N1.five
        rw [HL.out.2.2] at b3
        have gl3 := N1.row.lt
        have HN := Lib.hid (And.intro N1 S1)
        clear N1 S1
        go_wp2_with fail
        refine (del_first ho2).mono ?_
        rintro e w4 ⟨rfl, k1, k2⟩
        have k3 := hgr3 _ k2
        obtain ⟨N2, S2⟩ := HN.out.1.set2 (w1 := w4) k3 k1 (.inl (by rw [hob]; rfl))
        have r4 := HN.out.1.row.grown k3 (fun e => HN.out.1.g2 e.symm)
        have q3 := r4.cell 3 rfl
        have qz := r4.free 3
        have S3 := HN.out.2.trans S2
        clear k1 k2 k3 r4 ho2 hgr3 hob b0 b1 b2 b3 b4 bz S2
        go_wp2_with fail
        go_end0
        exact ⟨rfl, _, N2, S3⟩
  · rw [TS.fallT_no hlim]
    obtain ⟨q, hq⟩ : ∃ q, q = T.dear.length := ⟨_, rfl⟩
    have hq1 : q ≤ 1000 := by omega
    rw [← hq] at c3 hlim
    have il : ¬ (T.limit : Int) < (q : Int) := by omega
    have HH := Lib.hid h
    clear hq hl h hlim
    go_enter Tryd.func57, Tryd.ntmps57
    go_upto_region 0 with fail
    go_quiet (fail)
    go_wp2_with fail
    go_end0
    exact ⟨rfl, M, HH.out.below' (by repeat' (first | (with_reducible exact Below.refl _ _) | (with_reducible assumption) | (with_reducible refine Below.setCell ?_ ?_ _) | (with_reducible refine Below.ext ?_ _ ?_) | (with_reducible refine Below.alloc ?_ ?_ _) | (with_reducible refine Below.drew ?_) | (with_reducible refine Below.drewN ?_ _) | (with_reducible exact Nat.le_refl _) | (dsimp only; omega) | (simp <;> omega))), Step.of_below M (by repeat' (first | (with_reducible exact Below.refl _ _) | (with_reducible assumption) | (with_reducible refine Below.setCell ?_ ?_ _) | (with_reducible refine Below.ext ?_ _ ?_) | (with_reducible refine Below.alloc ?_ ?_ _) | (with_reducible refine Below.drew ?_) | (with_reducible refine Below.drewN ?_ _) | (with_reducible exact Nat.le_refl _) | (dsimp only; omega) | (simp <;> omega)))⟩
end Go.Proofs.YtijagdpkclghnaaDoor
/- Touch, Drop, Pin of a turn: contracts. -/
namespace Go.Proofs.YtijagdpkclghnaaDoor
open Go Go.RowKit
set_option maxRecDepth 100000
variable {B n : Nat} {w : World} {M : TM} {T : TS}
/-- The turn without a key in its rows. -/
def TS.outs (T : TS) (k : Int) : TS := { T with plain := T.plain.erase k, dear := T.dear.erase k }
theorem TS.outs_no (T : TS) (k : Int) (h : T.has k = false) : T.outs k = T := by
  unfold TS.has at h
  rw [Bool.or_eq_false_iff] at h
  unfold TS.outs
  rw [List.erase_of_not_mem (by simpa using h.2), List.erase_of_not_mem (by simpa using h.1)]
set_option maxHeartbeats 1000000 in
theorem Touch_any (x : Int) (w : World) (h : TurnAt B n w M T) (hg : Good T) :
    Calls Tryd.prog 34 #[pt M.g, .int .i64 x] w fun e w' => e = .returned (.bool (T.has x)) ∧ ∃ M', TurnAt B n w' M' (T.touchT x) ∧ Step M M' w w' := by
  obtain ⟨i0, hi, hz0, hz1, hz2⟩ := info_parts infoInt
  have HI : Hid (Tryd.prog.info? tI = some i0 ∧ i0.zero = some (.int .i64 0) ∧ i0.size = 1 ∧ i0.bytes = 8) := ⟨hi, hz0, hz1, hz2⟩
  clear hi hz0 hz1 hz2
  have hl := hg.len
  have h64 := hg.m64
  have HL : Hid (T.plain.length ≤ 64 ∧ T.dear.length ≤ 64) := Lib.hid ⟨by omega, by omega⟩
  clear hl h64
  obtain ⟨c0, c1, c2, c3, c4, z⟩ := h.five
  have HW : Hid (T.has x = (T.dear.contains x || T.plain.contains x)) := Lib.hid rfl
  have HO := Lib.hid (TS.outs_no T x)
  obtain ⟨p, hp⟩ : ∃ p, p = T.plain.contains x := ⟨_, rfl⟩
  obtain ⟨d, hd⟩ : ∃ d, d = T.dear.contains x := ⟨_, rfl⟩
  rw [← hp, ← hd] at HW
  have HH := Lib.hid h
  go_enter Tryd.func34, Tryd.ntmps34
  go_wp2_with fail
  refine (out_any x h.o1 (by have := HL.out.1; omega)).mono ?_
  rintro e w1 ⟨v1', rfl, ho1, hv1, hg1⟩
  obtain ⟨a1, m1, k1, rfl⟩ := own_shape ho1
  rw [← hp]
  have r1 := HH.out.row.grown hg1 (fun e => HH.out.g1 e.symm)
  have e2 := r1.cell 2 rfl
  have z2 := r1.free 2
  obtain ⟨N1, S1⟩ := HH.out.set1 hg1 ho1 (.inl hv1)
  clear c0 c1 c2 c3 c4 z h ho1 hv1 hg1 r1 hp
  go_upto_region 5 with fail
  obtain ⟨w2, hw2⟩ : ∃ w2, w2 = w1.setCell ⟨M.g, 2, none⟩ (.slice a1 m1 k1) := ⟨_, rfl⟩
  rw [← hw2] at N1 S1 ⊢
  clear hw2 e2 z2
  obtain ⟨c0, c1, c2, c3, c4, z⟩ := N1.five
  have HN := Lib.hid (And.intro N1 S1)
  go_wp2_with fail
  refine (out_any x N1.o2 (Nat.le_trans HL.out.2 (by decide))).mono ?_
  rintro e w3 ⟨v2', rfl, ho2, hv2, hg2⟩
  obtain ⟨a2, m2, k2, rfl⟩ := own_shape ho2
  have hd' : T.dear.contains x = d := hd.symm
  rw [show ({ T with plain := T.plain.erase x } : TS).dear.contains x = d from hd']
  have r2 := HN.out.1.row.grown hg2 (fun e => HN.out.1.g2 e.symm)
  have e3 := r2.cell 3 rfl
  have z3 := r2.free 3
  obtain ⟨N2, S2⟩ := HN.out.1.set2 hg2 ho2 (.inl hv2)
  have S3 := HN.out.2.trans S2
  clear c0 c1 c2 c3 c4 z N1 S1 S2 ho2 hv2 hg2 r2 hd hd'
  go_upto_region 6 with fail
  obtain ⟨w4, hw4⟩ : ∃ w4, w4 = w3.setCell ⟨M.g, 3, none⟩ (.slice a2 m2 k2) := ⟨_, rfl⟩
  rw [← hw4] at N2 S3 ⊢
  clear hw4 e3 z3
  have N3 : TurnAt B n w4 { M with v1 := .slice a1 m1 k1, v2 := .slice a2 m2 k2 } (T.outs x) := N2
  clear N2
  by_cases hh : p = false ∧ d = false
  · obtain ⟨rfl, rfl⟩ := hh
    go_wp2_with fail
    go_returns
    have hf : T.has x = false := HW.out
    refine ⟨by rw [hf]; rfl, _, ?_, S3⟩
    rw [HO.out hf] at N3
    unfold TS.touchT
    rw [if_neg (by rw [hf]; simp)]
    exact N3
  · have ht : Hid (T.has x = true) := Lib.hid (by rw [HW.out]; cases p <;> cases d <;> simp_all)
    have HNN := Lib.hid (And.intro N3 S3)
    obtain ⟨c0, c1, c2, c3, c4, z⟩ := N3.five
    have gl := N3.row.lt
    clear S3
    have hpd : p = true ∨ (p = false ∧ d = true) := by cases p <;> cases d <;> simp_all
    clear hh N3
    rcases hpd with rfl | ⟨rfl, rfl⟩
    all_goals (
      go_wp2_with (at_builtin; refine wpList_append_own_at _ rfl _ _ 99 rfl B tI i0 (.int .i64 0) 1 8 Tryd.underlying99 HI.out.1 HI.out.2.1 HI.out.2.2.1 HI.out.2.2.2 rfl (by decide) _ _ _ rfl (HNN.out.1.o2.alloc _) ⟨w4.heap.size, 0, none⟩ 1 1 [.int .i64 x] rfl rfl ?c1 ?c2 ?c3 ?c4 ?c5 ?_)
      case c2 => simp [Value.oneCell']
      case c3 => have h1 := HL.out.2; have h2 : (T.dear.erase x).length ≤ T.dear.length := List.length_erase_le; unfold maxLen; show (T.dear.erase x).length + 1 ≤ _; omega
      case c4 => have h1 := HL.out.2; have h2 : (T.dear.erase x).length ≤ T.dear.length := List.length_erase_le; show ((T.dear.erase x).length + 1) * 8 ≤ _; omega
      case c5 => have := HNN.out.1.le; simp; omega
      intro v' w5 ho hgr _ hloc
      obtain ⟨av, mv, cv, rfl⟩ := own_shape ho
      have hgr2 := (World.grownBy_alloc w4 (.cells #[.int .i64 x] tI) (Value.slice a2 m2 k2).ownBlock).trans hgr
      have r2 := HNN.out.1.row.grown hgr2 (fun e => HNN.out.1.g2 e.symm)
      have k3 := r2.cell 3 rfl
      have z3 := r2.free 3
      obtain ⟨N4, S4⟩ := HNN.out.1.set2 hgr2 (irow_snoc ho) (hloc.imp id fun e => ⟨_, e, by simp⟩)
      have S5 := HNN.out.2.trans S4
      clear ho hgr hgr2 hloc r2 c0 c1 c2 c3 c4 z gl S4
      go_upto_region 9 with fail
      obtain ⟨w6, hw6⟩ : ∃ w6, w6 = w5.setCell ⟨M.g, 3, none⟩ (.slice av mv cv) := ⟨_, rfl⟩
      rw [← hw6] at N4 S5 ⊢
      clear hw6 k3 z3
      have N5 : TurnAt B n w6 { M with v1 := .slice a1 m1 k1, v2 := .slice av mv cv } (T.moved x) := N4
      have hlen := moved_len hg x ht.out
      have hl5 : (T.moved x).plain.length + (T.moved x).dear.length ≤ 1000 := by have := hg.len; have := hg.m64; omega
      clear N4 hlen
      have hF := falls_any w6 N5 hl5
      clear hl5
      go_wp2_with fail
      refine hF.mono ?_
      rintro e w7 ⟨rfl, M', N6, S6⟩
      go_wp2_with fail
      go_returns
      refine ⟨by rw [ht.out]; rfl, M', ?_, S5.trans S6⟩
      unfold TS.touchT
      rw [if_pos ht.out]
      exact N6)
set_option maxHeartbeats 1000000 in
theorem Drop_any (x : Int) (w : World) (h : TurnAt B n w M T) (hg : Good T) (hx : In64 x) :
    Calls Tryd.prog 36 #[pt M.g, .int .i64 x] w fun e w' => e = .returned (.bool (T.has x)) ∧ ∃ M', TurnAt B n w' M' (T.dropT x) ∧ Step M M' w w' := by
  have hl := hg.len
  have h64 := hg.m64
  have HL : Hid (T.plain.length ≤ 64 ∧ T.dear.length ≤ 64) := Lib.hid ⟨by omega, by omega⟩
  clear hl h64
  obtain ⟨c0, c1, c2, c3, c4, z⟩ := h.five
  have HW : Hid (T.has x = (T.dear.contains x || T.plain.contains x)) := Lib.hid rfl
  obtain ⟨p, hp⟩ : ∃ p, p = T.plain.contains x := ⟨_, rfl⟩
  obtain ⟨d, hd⟩ : ∃ d, d = T.dear.contains x := ⟨_, rfl⟩
  rw [← hp, ← hd] at HW
  have HH := Lib.hid h
  have HX := Lib.hid hx
  clear hx
  go_enter Tryd.func36, Tryd.ntmps36
  go_wp2_with fail
  refine (out_any x h.o1 (by have := HL.out.1; omega)).mono ?_
  rintro e w1 ⟨v1', rfl, ho1, hv1, hg1⟩
  obtain ⟨a1, m1, k1, rfl⟩ := own_shape ho1
  rw [← hp]
  have r1 := HH.out.row.grown hg1 (fun e => HH.out.g1 e.symm)
  have e2 := r1.cell 2 rfl
  have z2 := r1.free 2
  obtain ⟨N1, S1⟩ := HH.out.set1 hg1 ho1 (.inl hv1)
  clear c0 c1 c2 c3 c4 z h ho1 hv1 hg1 r1 hp
  go_upto_region 5 with fail
  obtain ⟨w2, hw2⟩ : ∃ w2, w2 = w1.setCell ⟨M.g, 2, none⟩ (.slice a1 m1 k1) := ⟨_, rfl⟩
  rw [← hw2] at N1 S1 ⊢
  clear hw2 e2 z2
  obtain ⟨c0, c1, c2, c3, c4, z⟩ := N1.five
  have HN := Lib.hid (And.intro N1 S1)
  go_wp2_with fail
  refine (out_any x N1.o2 (Nat.le_trans HL.out.2 (by decide))).mono ?_
  rintro e w3 ⟨v2', rfl, ho2, hv2, hg2⟩
  obtain ⟨a2, m2, k2, rfl⟩ := own_shape ho2
  have hd' : T.dear.contains x = d := hd.symm
  rw [show ({ T with plain := T.plain.erase x } : TS).dear.contains x = d from hd']
  have r2 := HN.out.1.row.grown hg2 (fun e => HN.out.1.g2 e.symm)
  have e3 := r2.cell 3 rfl
  have z3 := r2.free 3
  obtain ⟨N2, S2⟩ := HN.out.1.set2 hg2 ho2 (.inl hv2)
  have S3 := HN.out.2.trans S2
  clear c0 c1 c2 c3 c4 z N1 S1 S2 ho2 hv2 hg2 r2 hd hd'
  go_upto_region 6 with fail
  obtain ⟨w4, hw4⟩ : ∃ w4, w4 = w3.setCell ⟨M.g, 3, none⟩ (.slice a2 m2 k2) := ⟨_, rfl⟩
  rw [← hw4] at N2 S3 ⊢
  clear hw4 e3 z3
  have N3 : TurnAt B n w4 { M with v1 := .slice a1 m1 k1, v2 := .slice a2 m2 k2 } (T.outs x) := N2
  clear N2
  obtain ⟨c0, c1, c2, c3, c4, z⟩ := N3.five
  have HNN := Lib.hid (And.intro N3 S3)
  clear N3 S3
  go_wp2_with (at_delete; refine wpList_delete_bm rfl _ _ 98 rfl Tryd.underlying3 Tryd.underlying98 rfl HNN.out.1.pm x rfl HX.out ?_)
  intro w5 hb5 hg5
  obtain ⟨N4, S4⟩ := HNN.out.1.setM hg5 hb5
  have S5 := HNN.out.2.trans S4
  clear hb5 hg5 c0 c1 c2 c3 c4 z S4
  go_wp2_with fail
  all_goals (
    go_returns
    refine ⟨by rw [HW.out]; cases p <;> cases d <;> first | rfl | simp_all, _, N4, S5⟩)
theorem Pin_any (x : Int) (on : Bool) (w : World) (h : TurnAt B n w M T) (hn : n < 100000) (hx : In64 x) :
    Calls Tryd.prog 29 #[pt M.g, .int .i64 x, .bool on] w fun e w' => e = .returned (.bool (T.has x)) ∧ TurnAt B (n + 1) w' M (T.pinT x on) ∧ Step M M w w' := by
  have hH := Has_any x w h
  rw [show (T.dear.contains x || T.plain.contains x) = T.has x from rfl] at hH
  have HX := Lib.hid hx
  have HN := Lib.hid hn
  have HT := Lib.hid h
  clear hx hn
  obtain ⟨c0, c1, c2, c3, c4, z⟩ := h.five
  unfold TS.pinT
  cases hh : T.has x with
  | false =>
    rw [hh] at hH
    go_enter Tryd.func29, Tryd.ntmps29
    go_wp2_with fail
    refine hH.mono ?_
    rintro e w' ⟨rfl, rfl⟩
    go_wp2_with fail
    go_returns
    exact ⟨rfl, HT.out.mono (by omega), Step.refl _ _⟩
  | true =>
    rw [hh] at hH
    simp only [if_true]
    cases on with
    | true =>
      simp only [if_true]
      go_enter Tryd.func29, Tryd.ntmps29
      go_wp2_with fail
      refine hH.mono ?_
      rintro e w' ⟨rfl, rfl⟩
      go_wp2_with (at_mapUpdate; refine wpList_mapUpdate_bm rfl _ _ _ 98 rfl Tryd.underlying3 Tryd.underlying98 Tryd.underlying4 rfl h.pm HN.out x rfl HX.out rfl ?_)
      intro w5 hb5 hg5
      obtain ⟨N4, S4⟩ := h.setM hg5 hb5
      go_wp2_with fail
      go_returns
      exact ⟨rfl, N4, S4⟩
    | false =>
      simp only [Bool.false_eq_true, if_false]
      go_enter Tryd.func29, Tryd.ntmps29
      go_wp2_with fail
      refine hH.mono ?_
      rintro e w' ⟨rfl, rfl⟩
      go_wp2_with (at_delete; refine wpList_delete_bm rfl _ _ 98 rfl Tryd.underlying3 Tryd.underlying98 rfl h.pm x rfl HX.out ?_)
      intro w5 hb5 hg5
      obtain ⟨N4, S4⟩ := h.setM hg5 hb5
      go_wp2_with fail
      go_returns
      exact ⟨rfl, N4.mono (by omega), S4⟩
end Go.Proofs.YtijagdpkclghnaaDoor
