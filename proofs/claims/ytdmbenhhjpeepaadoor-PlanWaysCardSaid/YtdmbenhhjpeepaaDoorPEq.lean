/- Two sets compared; rows of plans. -/
import Derived.Test.YtdmbenhhjpeepaaDoorPWay
namespace Go.Proofs.YtdmbenhhjpeepaaDoor
open Go Go.RowKit
set_option maxRecDepth 100000
def Set4.beq (s t : Set4) : Bool := ((s.a : Int) == (t.a : Int)) && (((s.b : Int) == (t.b : Int)) && (((s.c : Int) == (t.c : Int)) && ((s.d : Int) == (t.d : Int))))
theorem Set4.beq_iff (s t : Set4) : s.beq t = true ↔ s = t := by
  unfold Set4.beq
  obtain ⟨a, b, c, d, _, _, _, _⟩ := s
  obtain ⟨a', b', c', d', _, _, _, _⟩ := t
  simp
  omega
theorem run_eql_sets {o : Oper} {a : Act} {s t : Set4} {x y : Operand} {k : TypeId} (ho : o.op = .binOp .eql tS x y k) (hx : a.eval x = s.v) (hy : a.eval y = t.v) (w : World) : (execOp a.eval o).run Tryd.prog w = .ok (.value (.bool (s.beq t))) w := by
  unfold execOp
  have h1 : (eqGuard .eql tS x y s.v t.v).run Tryd.prog w = .ok () w := by
    unfold eqGuard
    have h2 : Tryd.prog.eqGuardType Tryd.prog.depth tS = false := by kernel_rfl
    simp [Set4.v, h2]
  have h3 := eq_set w s.a s.b s.c s.d t.a t.b t.c t.d
  have h4 : (binOp .eql tS s.v t.v).run Tryd.prog w = .ok (.bool (s.beq t)) w := by
    show (do pure (Value.bool (← Op.equalIn 10000 tS _ _)) : Sem Value).run Tryd.prog w = _
    have h5 : (Op.equalIn 10000 tS s.v t.v).run Tryd.prog w = .ok (s.beq t) w := h3
    rw [Sem.run_bind]
    exact (congrArg (fun r => Result.andThen r _) h5).trans rfl
  simp only [ho, hx, hy, Sem.run_bind, h1, h4, Result.andThen_ok]
  rfl
abbrev prow (w : World) (B : Nat) (v : Value) (ps : List (Int × Set4)) : Prop := w.ownsRow B tPl 5 v ps.length (ps.flatMap fun x => pcs x.1 x.2)
theorem buildSlice_plan (k : Int) (s : Set4) (w : World) : (Instr.buildSlice 36 1 #[(0, pv k s)]).run Tryd.prog w = .ok (.slice (some ⟨w.heap.size, 0, none⟩) 1 1) (w.alloc (.cells (pcs k s).toArray tPl)) := by kernel_rfl
theorem info_plan : (Tryd.prog.info? tPl).map (fun i => (i.zero, i.size, i.bytes)) = some (some (pv 0 Set4.zero), 5, 40) := by kernel_rfl
end Go.Proofs.YtdmbenhhjpeepaaDoor
