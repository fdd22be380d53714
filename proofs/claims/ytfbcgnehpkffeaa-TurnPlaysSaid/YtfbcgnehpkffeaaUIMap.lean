/- Maps from integers to integers: laws of my own over the kit's, no program in them. -/
import Derived.Test.YtfbcgnehpkffeaaUMap
import Derived.Maps.OwnOps
namespace Go
open Go.Maps (Keyed)
open Go.RowKit
/-- Block b is a map of at most n entries that gives f. -/
def World.imap (w : World) (P : Program) (k e : TypeId) (b n : Nat) (f : Int → Int) : Prop :=
  ∃ D : DataW Unit, w.ownsMap P k (plainElem P e) b n D ∧ Maps.IsMap D ∧ ∀ x, D.atKey (.int .i64 x) (.lit (.int .i64 0)) = .lit (.int .i64 (f x))
namespace World
variable {w w' : World} {P : Program} {k e : TypeId} {b n : Nat} {f : Int → Int}
theorem imap.lt (h : w.imap P k e b n f) : b < w.heap.size := by obtain ⟨D, h1, _⟩ := h; exact h1.lt
theorem imap.same (h : w.imap P k e b n f) (hb : w'.heap[b]? = w.heap[b]?) : w'.imap P k e b n f := by
  obtain ⟨D, ⟨es, clock, h1, h2⟩, h3⟩ := h
  exact ⟨D, ⟨es, clock, hb.trans h1, h2⟩, h3⟩
theorem imap_made (w : World) (P : Program) (k e : TypeId) : (w.alloc (.map #[] 0)).imap P k e w.heap.size 0 (fun _ => 0) := ⟨_, World.ownsMap_made _ _ _ _, Maps.isMap_empty, fun _ => rfl⟩
end World
section
variable {P : Program} {w : World} {ops : Array Oper} {rest : List Oper} {o : Oper} {a : Act} {Q : Exit → Act → World → Prop} {k e : TypeId} {b n : Nat} {f : Int → Int}
theorem wpList_lookup_im (hg : o.guard = none) (m x : Operand) (t : TypeId) (hop : o.op = Op.lookup t m x false) (hk : P.underlying k = some (.int .i64)) (ht : P.underlying t = some (.map k e)) (he : P.underlying e = some (.int .i64)) (hz : ∀ w, (zeroValue e).run P w = .ok (.int .i64 0) w)
    (hm : a.eval m = .map (some b)) (h : w.imap P k e b n f) (i : Int) (hx : a.eval x = .int .i64 i) (hi : In64 i) (r : Int) (hr : f i = r)
    (hK : wpList P ops Q rest (a.put o.dst (.int .i64 r)) w) : wpList P ops Q (o :: rest) a w := by
  obtain ⟨D, hown, _, hB⟩ := h
  refine wpList_lookup_own_int w hg m x t hop k e .i64 (Maps.int_keyed hk) ht he (hz w) b n D hm hown _ _ hx (Maps.keyOf_int_mk hk (a := i) (wf_in64 hi)) ?_
  intro c hc _
  rw [hB] at hc
  have : f i = c := by simpa using hc
  rw [← this, hr]
  exact hK
theorem wpList_mapUpdate_im (hg : o.guard = none) (m x v : Operand) (t : TypeId) (hop : o.op = Op.mapUpdate t m x v) (hk : P.underlying k = some (.int .i64)) (ht : P.underlying t = some (.map k e)) (he : P.underlying e = some (.int .i64))
    (hm : a.eval m = .map (some b)) (h : w.imap P k e b n f) (hn : n < 100000) (i j : Int) (hx : a.eval x = .int .i64 i) (hi : In64 i) (hv : a.eval v = .int .i64 j) (hj : In64 j)
    (hK : ∀ w', w'.imap P k e b (n + 1) (fun y => if y = i then j else f y) → w.grownBy w' (some b) → wpList P ops Q rest (a.put o.dst undef) w') : wpList P ops Q (o :: rest) a w := by
  obtain ⟨D, hown, hM, hB⟩ := h
  refine wpList_mapUpdate_own w hg m x v t hop k e (Maps.int_keyed hk) ht _ b n D hm hown (by unfold maxLen; omega) _ _ _ hx hv (Maps.keyOf_int_mk hk (a := i) (wf_in64 hi)) _ [] (plainElem_int he (wf_in64 hj)) ?_
  intro w' h1 h2
  refine hK w' ⟨_, h1, hM.put _ _, fun y => ?_⟩ h2
  show _ = DataW.lit (Lit.int .i64 (if y = i then j else f y))
  by_cases e : y = i
  · subst e
    rw [if_pos rfl]
    exact Maps.atKey_put_same hM (keyLit y) _ _
  · rw [if_neg e, Maps.atKey_put_other (litne e)]
    exact hB y
end
end Go
