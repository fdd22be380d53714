/- Whole arrays as blocks: laws of my own over the kit's, no program in them. -/
import Derived.Test.YtijagdpkclghnaaDoorExt2
namespace Go
open Go.RowKit
section
variable {P : Program} {ops : Array Oper} {rest : List Oper} {o : Oper} {a : Act} {w : World} {Q : Exit → Act → World → Prop}
theorem wpList_alloc_row (hgd : o.guard = none) (T : TypeId) (ho : o.op = .alloc T) (zs : List Value) (hz : (P.info? T).map (·.zero) = some (some (.agg zs.toArray)))
    (h : wpList P ops Q rest (a.put o.dst (.pointer (some ⟨w.heap.size, 0, none⟩))) (w.alloc (.cells zs.toArray T))) : wpList P ops Q (o :: rest) a w := by
  refine wpList_plain hgd fun K hK => ?_
  cases hi : P.info? T with
  | none => rw [hi] at hz; cases hz
  | some i =>
    rw [hi] at hz
    have hz2 : i.zero = some (.agg zs.toArray) := by simpa using hz
    unfold Oper.wp execOp
    simp only [ho, Instr.alloc, zeroValue, typeInfo, newVar, newRow, newObj, Sem.run_bind, Sem.run_pure, Value.cells]
    simp [hi, hz2]
    exact hK _ _ h
theorem wpList_box_row (hgd : o.guard = none) (T : TypeId) (x : Operand) (ho : o.op = .box T x) (cs : List Value) (hx : a.eval x = .agg cs.toArray)
    (h : wpList P ops Q rest (a.put o.dst (.pointer (some ⟨w.heap.size, 0, none⟩))) (w.alloc (.cells cs.toArray T))) : wpList P ops Q (o :: rest) a w := by
  refine wpList_plain hgd fun K hK => ?_
  unfold Oper.wp execOp
  simp only [ho, hx, Instr.box, newVar, newRow, newObj, Sem.run_bind, Sem.run_pure, Value.cells]
  exact hK _ _ h
theorem World.row.setRow {g : Nat} {cs ds : List Value} {t : TypeId} (h : w.row g cs t) : (w.setRow g ds.toArray).row g ds t := setRow_heap w g _ _ t _ h
theorem World.row.setRow_other {g b : Nat} {cs ds : List Value} {t : TypeId} (h : w.row b cs t) (hn : g ≠ b) : (w.setRow g ds.toArray).row b cs t := by
  unfold World.row at *
  rw [← h]; unfold World.setRow; simp [Array.getElem?_modify, hn]
theorem RowKit.Below.setRow {B g : Nat} {u : World} (h : Below B u w) (hg : B ≤ g) (cs : Array Value) : Below B u (w.setRow g cs) :=
  h.trans ⟨rfl, rfl, rfl, by simp [World.setRow], fun k hk => by unfold World.setRow; simp [Array.getElem?_modify, show g ≠ k by omega]⟩
end
end Go
