/- Maps from integers to Booleans in which true alone is stored: laws of my own over the kit's, no program in them. -/
import Derived.Test.YtijagdpkclghnaaDoorOpen3
import Derived.Maps.OwnSet
namespace Go
open Go.Maps (Keyed)
open Go.RowKit
theorem plainElem_bool_inv {H : Type} {P : Program} {e : TypeId} (he : P.underlying e = some .bool) {v : Value} {z : DataW H × List MemPlace} (h : plainElem P e v = some z) : ∃ x, v = .bool x ∧ z = (.lit (.bool x), []) := by
  unfold plainElem at h
  rw [he] at h
  split at h
  · simp at h; exact ⟨_, rfl, h.symm⟩
  · simp_all
  · simp_all
  · cases h
/-- The datum D holds true at just the keys of L. -/
structure BM (D : DataW Unit) (L : List Int) : Prop where
  tidy : Maps.Tidy D
  has : ∀ x, Maps.has D (.int .i64 x) = L.contains x
  at_ : ∀ x, D.atKey (.int .i64 x) (.lit (.bool false)) = .lit (.bool (L.contains x))
  size : Maps.size D = L.length
  nodup : L.Nodup
theorem BM.empty : BM (.map []) [] := ⟨Maps.tidy_empty, fun _ => rfl, fun _ => rfl, rfl, List.nodup_nil⟩
theorem litne {x y : Int} (h : x ≠ y) : Lit.int .i64 x ≠ Lit.int .i64 y := fun e => by cases e; exact h rfl
theorem keyLit (x : Int) : WideAt.IsKeyLit (.int .i64 x) := by trivial
def addTo (L : List Int) (x : Int) : List Int := if L.contains x then L else L ++ [x]
theorem addTo_has (L : List Int) (x y : Int) : (addTo L x).contains y = (L.contains y || x == y) := by
  unfold addTo
  split
  · next h =>
    by_cases e : x = y
    · subst e; rw [h]; simp
    · rw [show (x == y) = false from beq_eq_false_iff_ne.2 e, Bool.or_false]
  · rw [List.contains_eq_mem, List.contains_eq_mem]
    by_cases e : x = y
    · subst e; simp
    · rw [show (x == y) = false from beq_eq_false_iff_ne.2 e]
      simp [Ne.symm e]
theorem BM.put {D : DataW Unit} {L : List Int} (h : BM D L) (x : Int) : BM (D.put (.int .i64 x) (.lit (.bool true))) (addTo L x) := by
  refine ⟨h.tidy.put (keyLit x) _, fun y => ?_, fun y => ?_, ?_, ?_⟩
  · rw [addTo_has]
    by_cases e : y = x
    · subst e; rw [Maps.has_put_same h.tidy.isMap (keyLit y)]; simp
    · rw [Maps.has_put_other (litne e), h.has, show (x == y) = false from beq_eq_false_iff_ne.2 (Ne.symm e), Bool.or_false]
  · rw [addTo_has]
    by_cases e : y = x
    · subst e; rw [Maps.atKey_put_same h.tidy.isMap (keyLit y)]; simp
    · rw [Maps.atKey_put_other (litne e), h.at_, show (x == y) = false from beq_eq_false_iff_ne.2 (Ne.symm e), Bool.or_false]
  · rw [Maps.size_put h.tidy, h.has, h.size]
    unfold addTo
    split <;> simp
  · unfold addTo
    split
    · exact h.nodup
    · next hn => exact List.nodup_append.2 ⟨h.nodup, by simp, fun a ha b hb => by
        rw [List.mem_singleton.1 hb]
        intro e; subst e
        exact hn (by simpa using ha)⟩
theorem erase_has {L : List Int} (hn : L.Nodup) (x y : Int) : (L.erase x).contains y = (L.contains y && !(x == y)) := by
  rw [List.contains_eq_mem, List.contains_eq_mem]
  by_cases e : x = y
  · subst e
    simp [List.Nodup.mem_erase_iff hn]
  · rw [show (x == y) = false from beq_eq_false_iff_ne.2 e]
    simp [List.Nodup.mem_erase_iff hn, Ne.symm e]
theorem BM.del {D : DataW Unit} {L : List Int} (h : BM D L) (x : Int) : BM (D.del (.int .i64 x)) (L.erase x) := by
  refine ⟨h.tidy.del _, fun y => ?_, fun y => ?_, ?_, h.nodup.erase x⟩
  · rw [erase_has h.nodup]
    by_cases e : y = x
    · subst e; rw [Maps.has_del_same]; simp
    · rw [Maps.has_del_other (litne e), h.has, show (x == y) = false from beq_eq_false_iff_ne.2 (Ne.symm e)]; simp
  · rw [erase_has h.nodup]
    by_cases e : y = x
    · subst e; rw [Maps.atKey_del_same]; simp
    · rw [Maps.atKey_del_other (litne e), h.at_, show (x == y) = false from beq_eq_false_iff_ne.2 (Ne.symm e)]; simp
  · have := Maps.size_del (k := .int .i64 x) h.tidy
    rw [h.has, h.size] at this
    by_cases e : L.contains x
    · rw [if_pos e] at this
      rw [List.length_erase_of_mem (by simpa using e)]
      omega
    · rw [if_neg e] at this
      rw [List.erase_of_not_mem (by simpa using e)]
      omega
/-- Block b is such a map, of at most n entries, true at the keys of L. -/
def World.bmap (w : World) (P : Program) (k e : TypeId) (b n : Nat) (L : List Int) : Prop := ∃ D : DataW Unit, w.ownsMap P k (plainElem P e) b n D ∧ BM D L
namespace World
variable {w w' : World} {P : Program} {k e : TypeId} {b n : Nat} {L : List Int}
theorem bmap.lt (h : w.bmap P k e b n L) : b < w.heap.size := by obtain ⟨D, h1, _⟩ := h; exact h1.lt
theorem bmap.kept {row : Option Nat} (h : w.bmap P k e b n L) (hg : w.grownBy w' row) (hne : some b ≠ row) : w'.bmap P k e b n L := by obtain ⟨D, h1, h2⟩ := h; exact ⟨D, h1.kept hg hne, h2⟩
theorem bmap.alloc (h : w.bmap P k e b n L) (o : Obj) : (w.alloc o).bmap P k e b n L := by obtain ⟨D, h1, h2⟩ := h; exact ⟨D, h1.alloc o, h2⟩
theorem bmap.mono {m : Nat} (h : w.bmap P k e b n L) (hm : n ≤ m) : w.bmap P k e b m L := by obtain ⟨D, h1, h2⟩ := h; exact ⟨D, h1.mono hm, h2⟩
theorem bmap.len_le (h : w.bmap P k e b n L) : L.length ≤ n := by obtain ⟨D, h1, h2⟩ := h; rw [← h2.size]; exact h1.size_le
theorem bmap_made (w : World) (P : Program) (k e : TypeId) : (w.alloc (.map #[] 0)).bmap P k e w.heap.size 0 [] := ⟨_, World.ownsMap_made _ _ _ _, BM.empty⟩
/-- It stays what it is where its block has not turned. -/
theorem bmap.same (h : w.bmap P k e b n L) (hb : w'.heap[b]? = w.heap[b]?) : w'.bmap P k e b n L := by
  obtain ⟨D, ⟨es, clock, h1, h2⟩, h3⟩ := h
  exact ⟨D, ⟨es, clock, hb.trans h1, h2⟩, h3⟩
end World
section
variable {P : Program} {w : World} {ops : Array Oper} {rest : List Oper} {o : Oper} {a : Act} {Q : Exit → Act → World → Prop} {k e : TypeId} {b n : Nat} {L : List Int}
theorem wpList_lookup_bm (hg : o.guard = none) (m x : Operand) (t : TypeId) (hop : o.op = Op.lookup t m x false) (hk : P.underlying k = some (.int .i64)) (ht : P.underlying t = some (.map k e)) (he : P.underlying e = some .bool) (hz : ∀ w, (zeroValue e).run P w = .ok (.bool false) w)
    (hm : a.eval m = .map (some b)) (h : w.bmap P k e b n L) (i : Int) (hx : a.eval x = .int .i64 i) (hi : In64 i)
    (hK : wpList P ops Q rest (a.put o.dst (.bool (L.contains i))) w) : wpList P ops Q (o :: rest) a w := by
  refine wpList_plain hg fun K' hK' => ?_
  obtain ⟨D, hown, hB⟩ := h
  obtain ⟨v, ps, hrun, hv⟩ := hown.lookup (Maps.int_keyed hk) ht (hz w) (plainElem_bool he false) (Maps.keyOf_int_mk hk (a := i) (wf_in64 hi))
  obtain ⟨y, rfl, hy⟩ := plainElem_bool_inv he hv
  have e1 := congrArg Prod.fst hy
  simp only at e1
  rw [hB.at_] at e1
  have e2 : y = L.contains i := by simpa using e1.symm
  subst e2
  unfold Oper.wp
  simp [execOp, hop, hm, hx, hrun, Result.andThen]
  exact hK' _ _ (by simpa using hK)
theorem wpList_lookup_bmr (hg : o.guard = none) (m x : Operand) (t : TypeId) (hop : o.op = Op.lookup t m x false) (hk : P.underlying k = some (.int .i64)) (ht : P.underlying t = some (.map k e)) (he : P.underlying e = some .bool) (hz : ∀ w, (zeroValue e).run P w = .ok (.bool false) w)
    (hm : a.eval m = .map (some b)) (h : w.bmap P k e b n L) (i : Int) (hx : a.eval x = .int .i64 i) (hi : In64 i) (r : Bool) (hr : L.contains i = r)
    (hK : wpList P ops Q rest (a.put o.dst (.bool r)) w) : wpList P ops Q (o :: rest) a w :=
  wpList_lookup_bm hg m x t hop hk ht he hz hm h i hx hi (by rw [hr]; exact hK)
theorem wpList_mapUpdate_bm (hg : o.guard = none) (m x v : Operand) (t : TypeId) (hop : o.op = Op.mapUpdate t m x v) (hk : P.underlying k = some (.int .i64)) (ht : P.underlying t = some (.map k e)) (he : P.underlying e = some .bool)
    (hm : a.eval m = .map (some b)) (h : w.bmap P k e b n L) (hn : n < 100000) (i : Int) (hx : a.eval x = .int .i64 i) (hi : In64 i) (hv : a.eval v = .bool true)
    (hK : ∀ w', w'.bmap P k e b (n + 1) (addTo L i) → w.grownBy w' (some b) → wpList P ops Q rest (a.put o.dst undef) w') : wpList P ops Q (o :: rest) a w := by
  obtain ⟨D, hown, hB⟩ := h
  refine wpList_mapUpdate_own w hg m x v t hop k e (Maps.int_keyed hk) ht _ b n D hm hown (by unfold maxLen; omega) _ _ _ hx hv (Maps.keyOf_int_mk hk (a := i) (wf_in64 hi)) _ [] (plainElem_bool he true) ?_
  intro w' h1 h2
  exact hK w' ⟨_, h1, hB.put i⟩ h2
theorem wpList_delete_bm (hg : o.guard = none) (m x : Operand) (t : TypeId) (hop : o.op = Op.call { callee := Callee.builtin Builtin.delete, args := #[m, x], argTypes := #[t, k] }) (hk : P.underlying k = some (.int .i64)) (ht : P.underlying t = some (.map k e))
    (hm : a.eval m = .map (some b)) (h : w.bmap P k e b n L) (i : Int) (hx : a.eval x = .int .i64 i) (hi : In64 i)
    (hK : ∀ w', w'.bmap P k e b n (L.erase i) → w.grownBy w' (some b) → wpList P ops Q rest (a.put o.dst (.tuple #[])) w') : wpList P ops Q (o :: rest) a w := by
  obtain ⟨D, hown, hB⟩ := h
  refine wpList_delete_own w hg m x t k hop e (Maps.int_keyed hk) ht _ b n D hm hown _ _ hx (Maps.keyOf_int_mk hk (a := i) (wf_in64 hi)) ?_
  intro w' h1 h2
  exact hK w' ⟨_, h1, hB.del i⟩ h2.grown
theorem wpList_len_bm (hg : o.guard = none) (m : Operand) (t : TypeId) (hop : o.op = Op.call { callee := Callee.builtin Builtin.len, args := #[m], argTypes := #[t] }) (ht : P.underlying t = some (.map k e))
    (hm : a.eval m = .map (some b)) (h : w.bmap P k e b n L) (hK : wpList P ops Q rest (a.put o.dst (.int .i64 (L.length : Int))) w) : wpList P ops Q (o :: rest) a w := by
  obtain ⟨D, hown, hB⟩ := h
  refine wpList_len_own w hg m t hop k e ht _ b n D hm hown ?_
  rw [hB.size]; exact hK
end
end Go
