/- Loads of whole structs and arrays by ranges, in plain and in drawn regions: laws of my own over the kit's, no program in them. -/
import Derived.Test.YtijagdpkclghnaaDoorMix
import Derived.Test.YtijagdpkclghnaaDoorArr
import Derived.Deep.MidRow
namespace Go
open Go.RowKit
/-- A struct or an array of n cells. -/
def RowTy (P : Program) (ty : TypeId) (n : Nat) : Prop := ∃ d, P.underlying ty = some d ∧ d.isRow = true ∧ (P.info? ty).map (·.size) = some n
section
variable {P : Program} {ops : Array Oper} {rest : List Oper} {o : Oper} {a : Act} {w : World} {Q : Exit → Act → World → Prop} {B : Nat}
theorem World.row.range {g : Nat} {cs : List Value} {t : TypeId} (h : w.row g cs t) : w.rangeAt g 0 cs := fun j v hj => by rw [Nat.zero_add]; exact h.cell j hj
theorem World.rangeAt.part {b o : Nat} {cs : List Value} (h : w.rangeAt b o cs) (k m : Nat) : w.rangeAt b (o + k) ((cs.drop k).take m) := fun j v hj => by
  rw [List.getElem?_take] at hj
  split at hj
  · rw [List.getElem?_drop] at hj
    rw [Nat.add_assoc]; exact h (k + j) v hj
  · cases hj
theorem World.rangeAt.ext {b o : Nat} {cs : List Value} (h : w.rangeAt b o cs) (x : Ext B w) (hb : b < B) : (w.ext B x).rangeAt b o cs := fun j v hj => by
  rw [World.cell?_ext x b _ hb]; exact h j v hj
theorem World.rangeAt.below {w' : World} {b o : Nat} {cs : List Value} (h : w.rangeAt b o cs) (hb : Below B w w') (hB : b < B) : w'.rangeAt b o cs := fun j v hj => by
  rw [hb.cell (p := ⟨b, o + j, none⟩) hB]; exact h j v hj
/-- A load of a whole struct or array, in a drawn region over the worlds that are as w below B. -/
theorem wpQuiet_ld {Q : Act → Prop} {ty : TypeId} {x : Operand} {b off : Nat} {cs : List Value} (hw : Region.wanted o (yielded ops a.tmps) = true) (ho : o.op = .load ty x) (hx : a.eval x = .pointer (some ⟨b, off, none⟩))
    (hc : w.rangeAt b off cs) (hb : b < B) (ht : RowTy P ty cs.length)
    (h : wpQuiet P ops (fun w' => ∃ x : Ext B w, w' = w.ext B x) Q rest (a.put o.dst (.agg cs.toArray))) : wpQuiet P ops (fun w' => ∃ x : Ext B w, w' = w.ext B x) Q (o :: rest) a := by
  obtain ⟨d, hu, hd, hi⟩ := ht
  refine wpQuiet_step fun K hK => ?_
  rw [if_pos hw]
  refine ⟨_, fun w' hw' => ?_, hK _ h⟩
  obtain ⟨y, rfl⟩ := hw'
  unfold Oper.quietAt execOp
  simp only [ho, hx, Instr.loadAt, Instr.sureAddr, Sem.run_bind, Sem.run_pure, Result.andThen_ok, run_loadVar_mid _ b off ty cs d (hc.ext y hb) hu hd hi]
  exact ⟨rfl, rfl⟩
theorem wpList_want (hw : Region.wanted o (yielded ops a.tmps) = true) (h : ∀ K : Act → World → Prop, (∀ a w, wpList P ops Q rest a w → K a w) → o.wp P a w K Q) : wpList P ops Q (o :: rest) a w :=
  wpList_step fun K hK => by rw [if_pos hw]; exact h K hK
theorem wpList_ld {ty : TypeId} {x : Operand} {b off : Nat} {cs : List Value} (hw : Region.wanted o (yielded ops a.tmps) = true) (ho : o.op = .load ty x) (hx : a.eval x = .pointer (some ⟨b, off, none⟩))
    (hc : w.rangeAt b off cs) (ht : RowTy P ty cs.length) (h : wpList P ops Q rest (a.put o.dst (.agg cs.toArray)) w) : wpList P ops Q (o :: rest) a w := by
  obtain ⟨d, hu, hd, hi⟩ := ht
  exact wpList_want hw fun _ hK => wp_load_mid ty x ho b off hx cs d hc hu hd hi (hK _ _ h)
/-- A whole struct or array is stored into a block of its own. -/
theorem wpList_st {ty : TypeId} {x y : Operand} {g n : Nat} {cs old : List Value} {t : TypeId} (hgd : o.guard = none) (ho : o.op = .store ty x y) (hx : a.eval x = .pointer (some ⟨g, 0, none⟩)) (hy : a.eval y = .agg cs.toArray)
    (hr : w.row g old t) (ht : RowTy P ty n) (hn : cs.length = n) (hold : old.length = n) (h1 : ∀ v ∈ cs, v.oneCell' = true)
    (h : wpList P ops Q rest (a.put o.dst undef) (w.setRow g cs.toArray)) : wpList P ops Q (o :: rest) a w := by
  obtain ⟨d, _, _, hi⟩ := ht
  refine wpList_store_row hgd ty x y ho g cs.toArray hx hy t old.toArray hr (by rw [hi, ← hn]; simp) (by simp; omega) (all_oneCell_toArray h1) h
theorem World.rangeAt.exts {S : Nat → Prop} {b o : Nat} {cs : List Value} (h : w.rangeAt b o cs) (x : ExtS S w) (hb : S b) : (w.exts S x).rangeAt b o cs := fun j v hj => by
  rw [World.cell?_exts x b _ hb]; exact h j v hj
theorem wpQuiet_lds {S : Nat → Prop} {Q : Act → Prop} {ty : TypeId} {x : Operand} {b off : Nat} {cs : List Value} (hw : Region.wanted o (yielded ops a.tmps) = true) (ho : o.op = .load ty x) (hx : a.eval x = .pointer (some ⟨b, off, none⟩))
    (hc : w.rangeAt b off cs) (hb : S b) (ht : RowTy P ty cs.length)
    (h : wpQuiet P ops (fun w' => ∃ x : ExtS S w, w' = w.exts S x) Q rest (a.put o.dst (.agg cs.toArray))) : wpQuiet P ops (fun w' => ∃ x : ExtS S w, w' = w.exts S x) Q (o :: rest) a := by
  obtain ⟨d, hu, hd, hi⟩ := ht
  refine wpQuiet_step fun K hK => ?_
  rw [if_pos hw]
  refine ⟨_, fun w' hw' => ?_, hK _ h⟩
  obtain ⟨y, rfl⟩ := hw'
  unfold Oper.quietAt execOp
  simp only [ho, hx, Instr.loadAt, Instr.sureAddr, Sem.run_bind, Sem.run_pure, Result.andThen_ok, run_loadVar_mid _ b off ty cs d (hc.exts y hb) hu hd hi]
  exact ⟨rfl, rfl⟩
/-- A store of a whole struct or array, met as an operation. -/
theorem wp_st {K : Act → World → Prop} {ty : TypeId} {x y : Operand} {g n : Nat} {cs old : List Value} {t : TypeId} (ho : o.op = .store ty x y) (hx : a.eval x = .pointer (some ⟨g, 0, none⟩)) (hy : a.eval y = .agg cs.toArray)
    (hr : w.row g old t) (ht : RowTy P ty n) (hn : cs.length = n) (hold : old.length = n) (h1 : ∀ v ∈ cs, v.oneCell' = true)
    (h : K (a.put o.dst undef) (w.setRow g cs.toArray)) : o.wp P a w K Q := by
  obtain ⟨d, _, _, hi⟩ := ht
  exact wp_store_row ty x y ho g cs.toArray hx hy t old.toArray hr (by rw [hi, ← hn]; simp) (by simp; omega) (all_oneCell_toArray h1) h
/-- Two results, the first one in a block of its own. -/
theorem bodyPost_ct {fn : Func} {R : Ending → World → Prop} {p u : Tmp} {ty : TypeId} {g : Nat} {cs : List Value} {t : TypeId} (h : fn.results = #[.cell p ty, .tmp u]) (hp : a.tmps.getD p undef = .pointer (some ⟨g, 0, none⟩)) (hr : w.row g cs t)
    (ht : RowTy P ty cs.length) (hdf : a.defers = []) (hR : R (.returned (.tuple #[.agg cs.toArray, a.tmps.getD u undef])) w) : bodyPost P fn R .ret a w := by
  obtain ⟨d, hu, hd, hi⟩ := ht
  have hp' : a.tmps[p]?.getD undef = .pointer (some ⟨g, 0, none⟩) := by simpa using hp
  refine bodyPost_ret (v := .tuple #[.agg cs.toArray, a.tmps.getD u undef]) ?_ hdf hR
  simp [results, h, hp', asAddr, run_loadVar_mid w g 0 ty cs d hr.range hu hd hi]
theorem bodyPost_c {fn : Func} {R : Ending → World → Prop} {p : Tmp} {ty : TypeId} {g : Nat} {cs : List Value} {t : TypeId} (h : fn.results = #[.cell p ty]) (hp : a.tmps.getD p undef = .pointer (some ⟨g, 0, none⟩)) (hr : w.row g cs t)
    (ht : RowTy P ty cs.length) (hdf : a.defers = []) (hR : R (.returned (.agg cs.toArray)) w) : bodyPost P fn R .ret a w := by
  obtain ⟨d, hu, hd, hi⟩ := ht
  have hp' : a.tmps[p]?.getD undef = .pointer (some ⟨g, 0, none⟩) := by simpa using hp
  refine bodyPost_ret (v := .agg cs.toArray) ?_ hdf hR
  simp [results, h, hp', asAddr, run_loadVar_mid w g 0 ty cs d hr.range hu hd hi]
theorem World.setRow_heap_ne {g b : Nat} (w : World) (cs : Array Value) (h : g ≠ b) : (w.setRow g cs).heap[b]? = w.heap[b]? := by unfold World.setRow; simp [Array.getElem?_modify, h]
theorem wpList_world {l : List Oper} (F : World → Prop) (h1 : F w) (h2 : ∀ wc, F wc → wpList P ops Q l a wc) : wpList P ops Q l a w := h2 w h1
theorem wpMix_world {C : World → Prop} {fin : Bool} {xs : List Nat} {l : List Oper} (F : World → Prop) (h1 : F w) (h2 : ∀ wc, F wc → wpMix P ops C fin Q xs l a wc) : wpMix P ops C fin Q xs l a w := h2 w h1
/-- A value built of parts, by a closed fact. -/
theorem run_build2 {t : TypeId} {i j : Nat} {x y : Operand} {vx vy v : Value} (ho : o.op = .build t #[(i, x), (j, y)]) (hx : a.eval x = vx) (hy : a.eval y = vy) (hb : ∀ w, (Instr.build t #[(i, vx), (j, vy)]).run P w = .ok v w) (w : World) :
    (execOp a.eval o).run P w = .ok (.value v) w := by
  unfold execOp
  simp only [ho, Sem.run_bind, List.map_toArray, List.map_cons, List.map_nil, hx, hy]
  rw [hb]
  rfl
theorem run_build1 {t : TypeId} {i : Nat} {x : Operand} {vx v : Value} (ho : o.op = .build t #[(i, x)]) (hx : a.eval x = vx) (hb : ∀ w, (Instr.build t #[(i, vx)]).run P w = .ok v w) (w : World) :
    (execOp a.eval o).run P w = .ok (.value v) w := by
  unfold execOp
  simp only [ho, Sem.run_bind, List.map_toArray, List.map_cons, List.map_nil, hx]
  rw [hb]
  rfl
/-- A light operation by a closed fact. -/
theorem wpQuiet_val {C : World → Prop} {Q : Act → Prop} {v : Value} (hw : Region.wanted o (yielded ops a.tmps) = true) (hr : ∀ w, (execOp a.eval o).run P w = .ok (.value v) w) (h : wpQuiet P ops C Q rest (a.put o.dst v)) : wpQuiet P ops C Q (o :: rest) a := by
  refine wpQuiet_step fun K hK => ?_
  rw [if_pos hw]
  refine ⟨_, fun w' _ => ?_, hK _ h⟩
  unfold Oper.quietAt
  rw [hr]
  exact ⟨rfl, rfl⟩
theorem wpList_val {v : Value} (hw : Region.wanted o (yielded ops a.tmps) = true) (hr : ∀ w, (execOp a.eval o).run P w = .ok (.value v) w) (h : wpList P ops Q rest (a.put o.dst v) w) : wpList P ops Q (o :: rest) a w :=
  wpList_want hw fun K hK => by
    unfold Oper.wp
    rw [hr]
    exact hK _ _ h
/-- A slice literal of one element, by a closed fact. -/
theorem wp_bs1 {K : Act → World → Prop} {t e : TypeId} {x : Operand} {v : Value} {cs : Array Value} (ho : o.op = .buildSlice t 1 #[(0, x)]) (hx : a.eval x = v)
    (hb : ∀ w, (Instr.buildSlice t 1 #[(0, v)]).run P w = .ok (.slice (some ⟨w.heap.size, 0, none⟩) 1 1) (w.alloc (.cells cs e)))
    (h : K (a.put o.dst (.slice (some ⟨w.heap.size, 0, none⟩) 1 1)) (w.alloc (.cells cs e))) : o.wp P a w K Q := by
  unfold Oper.wp execOp
  simp only [ho, Sem.run_bind, List.map_toArray, List.map_cons, List.map_nil, hx]
  rw [hb]
  exact h
theorem wpList_bs1 {t e : TypeId} {x : Operand} {v : Value} {cs : Array Value} (hw : Region.wanted o (yielded ops a.tmps) = true) (ho : o.op = .buildSlice t 1 #[(0, x)]) (hx : a.eval x = v)
    (hb : ∀ w, (Instr.buildSlice t 1 #[(0, v)]).run P w = .ok (.slice (some ⟨w.heap.size, 0, none⟩) 1 1) (w.alloc (.cells cs e)))
    (h : wpList P ops Q rest (a.put o.dst (.slice (some ⟨w.heap.size, 0, none⟩) 1 1)) (w.alloc (.cells cs e))) : wpList P ops Q (o :: rest) a w :=
  wpList_want hw fun _ hK => wp_bs1 ho hx hb (hK _ _ h)
end
end Go
