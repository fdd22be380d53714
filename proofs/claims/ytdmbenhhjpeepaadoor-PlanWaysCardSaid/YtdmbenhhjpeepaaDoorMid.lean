/- Stores of whole structs and arrays into the middle of a block. No program in it. -/
import Derived.Test.YtdmbenhhjpeepaaDoorElems
namespace Go
open Go.RowKit
theorem run_build5 {P : Program} {o : Oper} {a : Act} {t : TypeId} {i0 i1 i2 i3 i4 : Nat} {x0 x1 x2 x3 x4 : Operand} {v0 v1 v2 v3 v4 v : Value} (ho : o.op = .build t #[(i0, x0), (i1, x1), (i2, x2), (i3, x3), (i4, x4)]) (h0 : a.eval x0 = v0) (h1 : a.eval x1 = v1) (h2 : a.eval x2 = v2) (h3 : a.eval x3 = v3) (h4 : a.eval x4 = v4)
    (hb : ∀ w, (Instr.build t #[(i0, v0), (i1, v1), (i2, v2), (i3, v3), (i4, v4)]).run P w = .ok v w) (w : World) : (execOp a.eval o).run P w = .ok (.value v) w := by
  unfold execOp
  simp only [ho, Sem.run_bind, List.map_toArray, List.map_cons, List.map_nil, h0, h1, h2, h3, h4]
  rw [hb]
  rfl
theorem q_build5 {P : Program} {ops : Array Oper} {rest : List Oper} {d : Option Tmp} {to : TypeId} {ps : String} {af : Array Edge} {gd : Option (Nat × Bool)} {a : Act} {C : World → Prop} {K : Act → Prop} {t : TypeId} {i0 i1 i2 i3 i4 : Nat} {x0 x1 x2 x3 x4 : Operand} {v0 v1 v2 v3 v4 v : Value}
    (hw : Region.wanted ⟨d, .build t #[(i0, x0), (i1, x1), (i2, x2), (i3, x3), (i4, x4)], to, ps, af, gd⟩ (yielded ops a.tmps) = true) (h0 : a.eval x0 = v0) (h1 : a.eval x1 = v1) (h2 : a.eval x2 = v2) (h3 : a.eval x3 = v3) (h4 : a.eval x4 = v4)
    (hb : ∀ w, (Instr.build t #[(i0, v0), (i1, v1), (i2, v2), (i3, v3), (i4, v4)]).run P w = .ok v w)
    (h : wpQuiet P ops C K rest (a.put d v)) : wpQuiet P ops C K (⟨d, .build t #[(i0, x0), (i1, x1), (i2, x2), (i3, x3), (i4, x4)], to, ps, af, gd⟩ :: rest) a := wpQuiet_val hw (run_build5 rfl h0 h1 h2 h3 h4 hb) h
theorem run_build3 {P : Program} {o : Oper} {a : Act} {t : TypeId} {i0 i1 i2 : Nat} {x0 x1 x2 : Operand} {v0 v1 v2 v : Value} (ho : o.op = .build t #[(i0, x0), (i1, x1), (i2, x2)]) (h0 : a.eval x0 = v0) (h1 : a.eval x1 = v1) (h2 : a.eval x2 = v2)
    (hb : ∀ w, (Instr.build t #[(i0, v0), (i1, v1), (i2, v2)]).run P w = .ok v w) (w : World) : (execOp a.eval o).run P w = .ok (.value v) w := by
  unfold execOp
  simp only [ho, Sem.run_bind, List.map_toArray, List.map_cons, List.map_nil, h0, h1, h2]
  rw [hb]
  rfl
theorem op_build3 {P : Program} {ops : Array Oper} {rest : List Oper} {d : Option Tmp} {to : TypeId} {ps : String} {af : Array Edge} {gd : Option (Nat × Bool)} {a : Act} {w : World} {Q : Exit → Act → World → Prop} {t : TypeId} {i0 i1 i2 : Nat} {x0 x1 x2 : Operand} {v0 v1 v2 v : Value}
    (hw : Region.wanted ⟨d, .build t #[(i0, x0), (i1, x1), (i2, x2)], to, ps, af, gd⟩ (yielded ops a.tmps) = true) (h0 : a.eval x0 = v0) (h1 : a.eval x1 = v1) (h2 : a.eval x2 = v2)
    (hb : ∀ w, (Instr.build t #[(i0, v0), (i1, v1), (i2, v2)]).run P w = .ok v w)
    (h : wpList P ops Q rest (a.put d v) w) : wpList P ops Q (⟨d, .build t #[(i0, x0), (i1, x1), (i2, x2)], to, ps, af, gd⟩ :: rest) a w := wpList_val hw (run_build3 rfl h0 h1 h2 hb) h
/-- A comparison of values by a closed fact. -/
theorem run_cmp {P : Program} {o : Oper} {a : Act} {b : BinOp} {t k : TypeId} {x y : Operand} {v u r : Value} (ho : o.op = .binOp b t x y k) (hx : a.eval x = v) (hy : a.eval y = u) (hg : ∀ w, (eqGuard b t x y v u).run P w = .ok () w)
    (hr : ∀ w, (binOp b t v u).run P w = .ok r w) (w : World) : (execOp a.eval o).run P w = .ok (.value r) w := by
  unfold execOp
  simp only [ho, hx, hy, Sem.run_bind, hg, hr, Result.andThen_ok]
  rfl
theorem q_cmp {P : Program} {ops : Array Oper} {rest : List Oper} {d : Option Tmp} {to : TypeId} {ps : String} {af : Array Edge} {gd : Option (Nat × Bool)} {a : Act} {C : World → Prop} {K : Act → Prop} {b : BinOp} {t k : TypeId} {x y : Operand} {v u r : Value}
    (hw : Region.wanted ⟨d, .binOp b t x y k, to, ps, af, gd⟩ (yielded ops a.tmps) = true) (hx : a.eval x = v) (hy : a.eval y = u) (hg : ∀ w, (eqGuard b t x y v u).run P w = .ok () w) (hr : ∀ w, (binOp b t v u).run P w = .ok r w)
    (h : wpQuiet P ops C K rest (a.put d r)) : wpQuiet P ops C K (⟨d, .binOp b t x y k, to, ps, af, gd⟩ :: rest) a := wpQuiet_val hw (run_cmp rfl hx hy hg hr) h
def putAt : List Value → Nat → List Value → List Value
  | l, _, [] => l
  | l, o, c :: cs => putAt (l.set o c) (o + 1) cs
theorem putAt_mid : ∀ (b' a b c : List Value), b.length = b'.length → putAt (a ++ (b ++ c)) a.length b' = a ++ (b' ++ c)
  | [], a, b, c, h => by
    obtain rfl : b = [] := List.length_eq_zero_iff.1 h
    rfl
  | x :: b', a, [], c, h => by simp at h
  | x :: b', a, y :: b, c, h => by
    have h1 := putAt_mid b' (a ++ [x]) b c (by simpa using h)
    unfold putAt
    rw [show (a ++ (y :: b ++ c)).set a.length x = (a ++ [x]) ++ (b ++ c) by simp]
    rw [show a.length + 1 = (a ++ [x]).length by simp, h1]
    simp
section
variable {P : Program} {ops : Array Oper} {rest : List Oper} {d : Option Tmp} {to : TypeId} {ps : String} {af : Array Edge} {gd : Option (Nat × Bool)} {a : Act} {w : World} {Q : Exit → Act → World → Prop} {g : Nat} {t : TypeId} {old : List Value}
theorem World.row.setCells : ∀ (cs : List Value) (o : Nat) {w : World} {old : List Value}, w.row g old t → (w.setCells g o cs).row g (putAt old o cs) t
  | [], _, _, _, h => h
  | c :: cs, o, _, _, h => World.row.setCells cs (o + 1) (h.set o c)
theorem World.row.setCells_other {b : Nat} (hn : g ≠ b) : ∀ (cs : List Value) (o : Nat) {w : World}, w.row b old t → (w.setCells g o cs).row b old t
  | [], _, _, h => h
  | _ :: cs, o, _, h => World.row.setCells_other hn cs (o + 1) (h.other _ _ hn)
theorem RowKit.Below.setCells {B : Nat} {u : World} (hg : B ≤ g) : ∀ (cs : List Value) (o : Nat) {w : World}, Below B u w → Below B u (w.setCells g o cs)
  | [], _, _, h => h
  | _ :: cs, o, _, h => Below.setCells hg cs (o + 1) (h.setCell hg _)
theorem World.row.there {o n : Nat} (h : w.row g old t) (hn : o + n ≤ old.length) : w.there g o n := fun j hj => by
  refine ⟨?_, h.free _⟩
  rw [h.cellAt (o + j) (by omega)]; rfl
theorem op_stm {ty : TypeId} {x y : Operand} {o n : Nat} {cs : List Value} (hw : Region.wanted ⟨d, .store ty x y, to, ps, af, gd⟩ (yielded ops a.tmps) = true) (hx : a.eval x = .pointer (some ⟨g, o, none⟩)) (hy : a.eval y = .agg cs.toArray)
    (hr : w.row g old t) (ht : RowTy P ty n) (hn : cs.length = n) (hold : o + n ≤ old.length) (h1 : ∀ v ∈ cs, v.oneCell' = true)
    (h : ∀ w', w'.row g (putAt old o cs) t → (∀ k, k ≠ g → w'.heap[k]? = w.heap[k]?) → (∀ B u, B ≤ g → Below B u w → Below B u w') → wpList P ops Q rest (a.put d undef) w') : wpList P ops Q (⟨d, .store ty x y, to, ps, af, gd⟩ :: rest) a w := by
  obtain ⟨ds, _, _, hi⟩ := ht
  refine wpList_want hw fun _ hK => wp_store_mid ty x y rfl g o cs.toArray hx hy (hr.there (by simp; omega)) (by rw [hi, ← hn]; simp) (all_oneCell_toArray h1) (hK _ _ (h _ (by rw [List.toList_toArray]; exact hr.setCells cs o) (fun k hk => ?_) fun B u hB hu => Below.setCells hB _ _ hu))
  have key : ∀ (cs : List Value) (o : Nat) (w : World), (w.setCells g o cs).heap[k]? = w.heap[k]? := by
    intro cs
    induction cs with
    | nil => intro o w; rfl
    | cons c cs ih =>
      intro o w
      refine (ih (o + 1) _).trans ?_
      simp [World.setCell, Array.getElem?_modify, Ne.symm hk]
  exact key _ _ _
end
/-- A load of one cell, over any class whose worlds have it. -/
theorem q_cell {P : Program} {ops : Array Oper} {rest : List Oper} {d : Option Tmp} {to : TypeId} {ps : String} {af : Array Edge} {gd : Option (Nat × Bool)} {a : Act} {C : World → Prop} {K : Act → Prop} {ty : TypeId} {x : Operand} {b off : Nat} {v : Value}
    (hw : Region.wanted ⟨d, .load ty x, to, ps, af, gd⟩ (yielded ops a.tmps) = true) (hx : a.eval x = .pointer (some ⟨b, off, none⟩)) (ht : ∀ w, (isAgg ty).run P w = .ok false w) (hc : ∀ w, C w → w.cell? ⟨b, off, none⟩ = some v)
    (h : wpQuiet P ops C K rest (a.put d v)) : wpQuiet P ops C K (⟨d, .load ty x, to, ps, af, gd⟩ :: rest) a := by
  refine wpQuiet_step fun J hJ => ?_
  rw [if_pos hw]
  refine ⟨_, fun w' hw' => ?_, hJ _ h⟩
  unfold Oper.quietAt execOp
  simp only [hx, Instr.loadAt, Instr.sureAddr, loadVar, Sem.run_bind, Sem.run_pure, Result.andThen_ok, ht, Bool.false_eq_true, if_false, run_load, hc w' hw']
  exact ⟨rfl, rfl⟩
/-- Two results, each in a block of its own. -/
theorem bodyPost_cc {P : Program} {a : Act} {w : World} {fn : Func} {R : Ending → World → Prop} {p q : Tmp} {ty ty' : TypeId} {g g' : Nat} {cs cs' : List Value} {t t' : TypeId} (h : fn.results = #[.cell p ty, .cell q ty'])
    (hp : a.tmps.getD p undef = .pointer (some ⟨g, 0, none⟩)) (hq : a.tmps.getD q undef = .pointer (some ⟨g', 0, none⟩)) (hr : w.row g cs t) (hr' : w.row g' cs' t')
    (ht : RowTy P ty cs.length) (ht' : RowTy P ty' cs'.length) (hdf : a.defers = []) (hR : R (.returned (.tuple #[.agg cs.toArray, .agg cs'.toArray])) w) : bodyPost P fn R .ret a w := by
  obtain ⟨d, hu, hd, hi⟩ := ht
  obtain ⟨d', hu', hd', hi'⟩ := ht'
  have hp' : a.tmps[p]?.getD undef = .pointer (some ⟨g, 0, none⟩) := by simpa using hp
  have hq' : a.tmps[q]?.getD undef = .pointer (some ⟨g', 0, none⟩) := by simpa using hq
  refine bodyPost_ret (v := .tuple #[.agg cs.toArray, .agg cs'.toArray]) ?_ hdf hR
  simp [results, h, hp', hq', asAddr, run_loadVar_mid w g 0 ty cs d hr.range hu hd hi, run_loadVar_mid w g' 0 ty' cs' d' hr'.range hu' hd' hi']
end Go
