/- Maps from integers to blocks: laws of my own over the kit's, no program in them. -/
import Derived.Test.YtijagdpkclghnaaDoorUMap
namespace Go
open Go.Maps (Keyed)
open Go.RowKit
/-- A pointer as a datum. -/
def ptrElem : Value → Option (DataW Unit × List MemPlace)
  | .pointer none => some (.lit (.int .i64 (-1)), [])
  | .pointer (some ⟨g, 0, none⟩) => some (.lit (.int .i64 (g : Int)), [])
  | _ => none
def ptrV : Option Nat → Value
  | none => .pointer none
  | some g => .pointer (some ⟨g, 0, none⟩)
def ptrD : Option Nat → DataW Unit
  | none => .lit (.int .i64 (-1))
  | some g => .lit (.int .i64 (g : Int))
theorem ptrElem_mk (p : Option Nat) : ptrElem (ptrV p) = some (ptrD p, []) := by cases p <;> rfl
theorem ptrElem_inv {v : Value} {z : DataW Unit × List MemPlace} (h : ptrElem v = some z) : ∃ p, v = ptrV p ∧ z = (ptrD p, []) := by
  unfold ptrElem at h
  split at h
  · exact ⟨none, rfl, (Option.some.inj h).symm⟩
  · rename_i g; exact ⟨some g, rfl, (Option.some.inj h).symm⟩
  · cases h
theorem ptrD_inj {p q : Option Nat} (h : ptrD p = ptrD q) : p = q := by
  cases p with
  | none => cases q with
    | none => rfl
    | some b => simp only [ptrD, DataW.lit.injEq, Lit.int.injEq, true_and] at h; omega
  | some a => cases q with
    | none => simp only [ptrD, DataW.lit.injEq, Lit.int.injEq, true_and] at h; omega
    | some b => simp only [ptrD, DataW.lit.injEq, Lit.int.injEq, true_and] at h; congr 1; omega
/-- The datum D holds pointers: f, just at the keys of L. -/
structure PM (D : DataW Unit) (L : List Int) (f : Int → Option Nat) : Prop where
  tidy : Maps.Tidy D
  has : ∀ x, Maps.has D (.int .i64 x) = L.contains x
  at_ : ∀ x, D.atKey (.int .i64 x) (ptrD none) = ptrD (f x)
  some_ : ∀ x, (f x).isSome = L.contains x
  size : Maps.size D = L.length
  nodup : L.Nodup
theorem PM.empty : PM (.map []) [] (fun _ => none) := ⟨Maps.tidy_empty, fun _ => rfl, fun _ => rfl, fun _ => rfl, rfl, List.nodup_nil⟩
theorem PM.put {D : DataW Unit} {L : List Int} {f : Int → Option Nat} (h : PM D L f) (x : Int) (g : Nat) : PM (D.put (.int .i64 x) (ptrD (some g))) (addTo L x) (fun y => if y = x then some g else f y) := by
  refine ⟨h.tidy.put (keyLit x) _, fun y => ?_, fun y => ?_, fun y => ?_, ?_, ?_⟩
  · rw [addTo_has]
    by_cases e : y = x
    · subst e; rw [Maps.has_put_same h.tidy.isMap (keyLit y)]; simp
    · rw [Maps.has_put_other (litne e), h.has, show (x == y) = false from beq_eq_false_iff_ne.2 (Ne.symm e), Bool.or_false]
  · by_cases e : y = x
    · subst e; rw [Maps.atKey_put_same h.tidy.isMap (keyLit y), if_pos rfl]
    · rw [Maps.atKey_put_other (litne e), h.at_, if_neg e]
  · rw [addTo_has]
    by_cases e : y = x
    · subst e; simp
    · rw [if_neg e, h.some_, show (x == y) = false from beq_eq_false_iff_ne.2 (Ne.symm e), Bool.or_false]
  · rw [Maps.size_put h.tidy, h.has, h.size]
    unfold addTo
    split <;> simp
  · unfold addTo
    split
    · exact h.nodup
    · next hn => exact List.nodup_append.2 ⟨h.nodup, by simp, fun a ha b hb => by
        rw [List.mem_singleton.1 hb]
        intro e; subst e
        exact hn (by simpa using ha)⟩
theorem PM.del {D : DataW Unit} {L : List Int} {f : Int → Option Nat} (h : PM D L f) (x : Int) : PM (D.del (.int .i64 x)) (L.erase x) (fun y => if y = x then none else f y) := by
  refine ⟨h.tidy.del _, fun y => ?_, fun y => ?_, fun y => ?_, ?_, h.nodup.erase x⟩
  · rw [erase_has h.nodup]
    by_cases e : y = x
    · subst e; rw [Maps.has_del_same]; simp
    · rw [Maps.has_del_other (litne e), h.has, show (x == y) = false from beq_eq_false_iff_ne.2 (Ne.symm e)]; simp
  · by_cases e : y = x
    · subst e; rw [Maps.atKey_del_same, if_pos rfl]
    · rw [Maps.atKey_del_other (litne e), h.at_, if_neg e]
  · rw [erase_has h.nodup]
    by_cases e : y = x
    · subst e; simp
    · rw [if_neg e, h.some_, show (x == y) = false from beq_eq_false_iff_ne.2 (Ne.symm e)]; simp
  · have := Maps.size_del (k := .int .i64 x) h.tidy
    rw [h.has, h.size] at this
    by_cases e : L.contains x
    · rw [if_pos e] at this
      rw [List.length_erase_of_mem (by simpa using e)]
      omega
    · rw [if_neg e] at this
      rw [List.erase_of_not_mem (by simpa using e)]
      omega
/-- Block b is such a map, of at most n entries. -/
def World.pmap (w : World) (P : Program) (k : TypeId) (b n : Nat) (L : List Int) (f : Int → Option Nat) : Prop := ∃ D : DataW Unit, w.ownsMap P k ptrElem b n D ∧ PM D L f
namespace World
variable {w w' : World} {P : Program} {k e : TypeId} {b n : Nat} {L : List Int} {f : Int → Option Nat}
theorem pmap.lt (h : w.pmap P k b n L f) : b < w.heap.size := by obtain ⟨D, h1, _⟩ := h; exact h1.lt
theorem pmap.kept {row : Option Nat} (h : w.pmap P k b n L f) (hg : w.grownBy w' row) (hne : some b ≠ row) : w'.pmap P k b n L f := by obtain ⟨D, h1, h2⟩ := h; exact ⟨D, h1.kept hg hne, h2⟩
theorem pmap.alloc (h : w.pmap P k b n L f) (o : Obj) : (w.alloc o).pmap P k b n L f := by obtain ⟨D, h1, h2⟩ := h; exact ⟨D, h1.alloc o, h2⟩
theorem pmap.mono {m : Nat} (h : w.pmap P k b n L f) (hm : n ≤ m) : w.pmap P k b m L f := by obtain ⟨D, h1, h2⟩ := h; exact ⟨D, h1.mono hm, h2⟩
theorem pmap_made (w : World) (P : Program) (k : TypeId) : (w.alloc (.map #[] 0)).pmap P k w.heap.size 0 [] (fun _ => none) := ⟨_, World.ownsMap_made _ _ _ _, PM.empty⟩
theorem pmap.same (h : w.pmap P k b n L f) (hb : w'.heap[b]? = w.heap[b]?) : w'.pmap P k b n L f := by
  obtain ⟨D, ⟨es, clock, h1, h2⟩, h3⟩ := h
  exact ⟨D, ⟨es, clock, hb.trans h1, h2⟩, h3⟩
theorem pmap.some_ (h : w.pmap P k b n L f) (x : Int) : (f x).isSome = L.contains x := by obtain ⟨D, _, h2⟩ := h; exact h2.some_ x
theorem pmap.nodup (h : w.pmap P k b n L f) : L.Nodup := by obtain ⟨D, _, h2⟩ := h; exact h2.nodup
end World
section
variable {P : Program} {w : World} {ops : Array Oper} {rest : List Oper} {o : Oper} {a : Act} {Q : Exit → Act → World → Prop} {k e : TypeId} {b n : Nat} {L : List Int} {f : Int → Option Nat}
theorem wpList_lookup_pm (hg : o.guard = none) (m x : Operand) (t : TypeId) (hop : o.op = Op.lookup t m x false) (hk : P.underlying k = some (.int .i64)) (ht : P.underlying t = some (.map k e)) (hz : ∀ w, (zeroValue e).run P w = .ok (.pointer none) w)
    (hm : a.eval m = .map (some b)) (h : w.pmap P k b n L f) (i : Int) (hx : a.eval x = .int .i64 i) (hi : In64 i) (r : Option Nat) (hr : f i = r)
    (hK : wpList P ops Q rest (a.put o.dst (ptrV r)) w) : wpList P ops Q (o :: rest) a w := by
  refine wpList_plain hg fun K' hK' => ?_
  obtain ⟨D, hown, hB⟩ := h
  obtain ⟨v, ps, hrun, hv⟩ := hown.lookup (Maps.int_keyed hk) ht (hz w) (ptrElem_mk none) (Maps.keyOf_int_mk hk (a := i) (wf_in64 hi))
  obtain ⟨p, rfl, hy⟩ := ptrElem_inv hv
  have e1 := congrArg Prod.fst hy
  simp only at e1
  rw [hB.at_, hr] at e1
  have e2 : r = p := ptrD_inj e1
  subst e2
  unfold Oper.wp
  simp [execOp, hop, hm, hx, hrun, Result.andThen]
  exact hK' _ _ (by simpa using hK)
theorem wpList_mapUpdate_pm (hg : o.guard = none) (m x v : Operand) (t : TypeId) (hop : o.op = Op.mapUpdate t m x v) (hk : P.underlying k = some (.int .i64)) (ht : P.underlying t = some (.map k e))
    (hm : a.eval m = .map (some b)) (h : w.pmap P k b n L f) (hn : n < 100000) (i : Int) (hx : a.eval x = .int .i64 i) (hi : In64 i) (g : Nat) (hv : a.eval v = .pointer (some ⟨g, 0, none⟩))
    (hK : ∀ w', w'.pmap P k b (n + 1) (addTo L i) (fun y => if y = i then some g else f y) → w.grownBy w' (some b) → wpList P ops Q rest (a.put o.dst undef) w') : wpList P ops Q (o :: rest) a w := by
  obtain ⟨D, hown, hB⟩ := h
  refine wpList_mapUpdate_own w hg m x v t hop k e (Maps.int_keyed hk) ht _ b n D hm hown (by unfold maxLen; omega) _ _ _ hx hv (Maps.keyOf_int_mk hk (a := i) (wf_in64 hi)) _ [] (ptrElem_mk (some g)) ?_
  intro w' h1 h2
  exact hK w' ⟨_, h1, hB.put i g⟩ h2
theorem wpList_delete_pm (hg : o.guard = none) (m x : Operand) (t : TypeId) (hop : o.op = Op.call { callee := Callee.builtin Builtin.delete, args := #[m, x], argTypes := #[t, k] }) (hk : P.underlying k = some (.int .i64)) (ht : P.underlying t = some (.map k e))
    (hm : a.eval m = .map (some b)) (h : w.pmap P k b n L f) (i : Int) (hx : a.eval x = .int .i64 i) (hi : In64 i)
    (hK : ∀ w', w'.pmap P k b n (L.erase i) (fun y => if y = i then none else f y) → w.grownBy w' (some b) → wpList P ops Q rest (a.put o.dst (.tuple #[])) w') : wpList P ops Q (o :: rest) a w := by
  obtain ⟨D, hown, hB⟩ := h
  refine wpList_delete_own w hg m x t k hop e (Maps.int_keyed hk) ht _ b n D hm hown _ _ hx (Maps.keyOf_int_mk hk (a := i) (wf_in64 hi)) ?_
  intro w' h1 h2
  exact hK w' ⟨_, h1, hB.del i⟩ h2.grown
theorem wpList_len_pm (hg : o.guard = none) (m : Operand) (t : TypeId) (hop : o.op = Op.call { callee := Callee.builtin Builtin.len, args := #[m], argTypes := #[t] }) (ht : P.underlying t = some (.map k e))
    (hm : a.eval m = .map (some b)) (h : w.pmap P k b n L f) (hK : wpList P ops Q rest (a.put o.dst (.int .i64 (L.length : Int))) w) : wpList P ops Q (o :: rest) a w := by
  obtain ⟨D, hown, hB⟩ := h
  refine wpList_len_own w hg m t hop k e ht _ b n D hm hown ?_
  rw [hB.size]; exact hK
end
end Go
