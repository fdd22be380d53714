/- Several texts in one: App Op Elems. -/
import Derived.Test.YtjoipibldahbhaaGreatDoorKra
import Derived.Maps.AppendAt
/- Appends to rows of one's own, met as operations. No program in it. -/
namespace Go
open Go.RowKit
section
variable {P : Program} {ops : Array Oper} {rest : List Oper} {o : Oper} {a : Act} {w : World} {Q : Exit → Act → World → Prop}
/-- One more element (of 'size' cells) is put behind a row of one's own; it lies in a block of its own. -/
theorem wp_append1 {K : Act → World → Prop} (s x : Operand) (t : TypeId) (ho : o.op = .call { callee := .builtin .append, args := #[s, x], argTypes := #[t, t] })
    (base : Nat) (e : TypeId) (z : Value) (size bytes : Nat) (ht : P.underlying t = some (.slice e)) (hi : (P.info? e).map (fun i => (i.zero, i.size, i.bytes)) = some (some z, size, bytes)) (hzs : z.cells.size = size) (hsz : 0 < size)
    {v : Value} {n : Nat} {xs : List Value} (hs : a.eval s = v) (hown : w.ownsRow base e size v n xs)
    {g c : Nat} {news : List Value} {te : TypeId} (hx : a.eval x = .slice (some ⟨g, 0, none⟩) 1 c) (hl : news.length = size) (hr : w.row g news te) (h1 : ∀ u ∈ news, u.oneCell' = true)
    (h63 : n + 1 ≤ 100000) (hbb : bytes ≤ 100000) (hbase : base ≤ w.heap.size)
    (h : ∀ v' w', w'.ownsRow base e size v' (n + 1) (xs ++ news) → w.grownBy w' v.ownBlock → (v'.ownBlock = v.ownBlock ∨ v'.ownBlock = some w.heap.size) → K (a.put o.dst v') w') : o.wp P a w K Q := by
  obtain ⟨i, hi0, hz, hsize, hby⟩ : ∃ i, P.info? e = some i ∧ i.zero = some z ∧ i.size = size ∧ i.bytes = bytes := by
    cases h : P.info? e with
    | none => rw [h] at hi; cases hi
    | some i => rw [h] at hi; simp at hi; exact ⟨i, rfl, hi.1, hi.2.1, hi.2.2⟩
  have hb : (n + 1) * bytes ≤ 100000 * 100000 := Nat.mul_le_mul h63 hbb
  obtain ⟨v', w', hr', h2, h3, _, h5⟩ := run_append_own_at (P := P) w base t o.type e i z size bytes ht hi0 hz hsize hby hzs hsz v n xs hown ⟨g, 0, none⟩ 1 c news (by rw [hl, Nat.one_mul]) (fun j u hj => by
    rw [Addr.add_mid, Nat.zero_add]
    exact hr.cell j hj) h1 (by unfold maxLen; omega) (by omega) hbase
  unfold Oper.wp execOp
  simp only [ho, resolve, invoke, builtin, Sem.run_bind, Sem.run_pure, Result.andThen_ok, List.map_toArray, List.map_cons, List.map_nil, hs, hx, hr']
  exact h v' w' h2 h3 h5
theorem wpList_append1 (hw : Region.wanted o (yielded ops a.tmps) = true) (s x : Operand) (t : TypeId) (ho : o.op = .call { callee := .builtin .append, args := #[s, x], argTypes := #[t, t] })
    (base : Nat) (e : TypeId) (z : Value) (size bytes : Nat) (ht : P.underlying t = some (.slice e)) (hi : (P.info? e).map (fun i => (i.zero, i.size, i.bytes)) = some (some z, size, bytes)) (hzs : z.cells.size = size) (hsz : 0 < size)
    {v : Value} {n : Nat} {xs : List Value} (hs : a.eval s = v) (hown : w.ownsRow base e size v n xs)
    {g c : Nat} {news : List Value} {te : TypeId} (hx : a.eval x = .slice (some ⟨g, 0, none⟩) 1 c) (hl : news.length = size) (hr : w.row g news te) (h1 : ∀ u ∈ news, u.oneCell' = true)
    (h63 : n + 1 ≤ 100000) (hbb : bytes ≤ 100000) (hbase : base ≤ w.heap.size)
    (h : ∀ v' w', w'.ownsRow base e size v' (n + 1) (xs ++ news) → w.grownBy w' v.ownBlock → (v'.ownBlock = v.ownBlock ∨ v'.ownBlock = some w.heap.size) → wpList P ops Q rest (a.put o.dst v') w') : wpList P ops Q (o :: rest) a w :=
  wpList_want hw fun _ hK => wp_append1 s x t ho base e z size bytes ht hi hzs hsz hs hown hx hl hr h1 h63 hbb hbase fun v' w' h2 h3 h4 => hK _ _ (h v' w' h2 h3 h4)
end
end Go
/- Laws of single operations, the operation written out in the conclusion: 'with_reducible apply' meets its own kind alone. No program in it. -/
namespace Go
open Go.RowKit
section
variable {P : Program} {ops : Array Oper} {rest : List Oper} {d : Option Tmp} {to : TypeId} {ps : String} {af : Array Edge} {gd : Option (Nat × Bool)} {a : Act} {w : World} {Q : Exit → Act → World → Prop}
/-- The world of a list of operations is given a name (the goal is met by its form). -/
theorem op_ld {ty : TypeId} {x : Operand} {b off : Nat} {cs : List Value} (hw : Region.wanted ⟨d, .load ty x, to, ps, af, gd⟩ (yielded ops a.tmps) = true) (hx : a.eval x = .pointer (some ⟨b, off, none⟩)) (hc : w.rangeAt b off cs) (ht : RowTy P ty cs.length)
    (h : wpList P ops Q rest (a.put d (.agg cs.toArray)) w) : wpList P ops Q (⟨d, .load ty x, to, ps, af, gd⟩ :: rest) a w := wpList_ld hw rfl hx hc ht h
theorem op_mv {x : Operand} (hw : Region.wanted ⟨d, .move x, to, ps, af, gd⟩ (yielded ops a.tmps) = true) (h : wpList P ops Q rest (a.put d (a.eval x)) w) : wpList P ops Q (⟨d, .move x, to, ps, af, gd⟩ :: rest) a w :=
  wpList_val hw (fun w => by unfold execOp; simp) h
theorem op_as {x : Operand} (hw : Region.wanted ⟨d, .assign x, to, ps, af, gd⟩ (yielded ops a.tmps) = true) (h : wpList P ops Q rest (a.put d (a.eval x)) w) : wpList P ops Q (⟨d, .assign x, to, ps, af, gd⟩ :: rest) a w :=
  wpList_val hw (fun w => by unfold execOp; simp) h
theorem op_st {ty : TypeId} {x y : Operand} {g n : Nat} {cs old : List Value} {t : TypeId} (hw : Region.wanted ⟨d, .store ty x y, to, ps, af, gd⟩ (yielded ops a.tmps) = true) (hx : a.eval x = .pointer (some ⟨g, 0, none⟩)) (hy : a.eval y = .agg cs.toArray)
    (hr : w.row g old t) (ht : RowTy P ty n) (hn : cs.length = n) (hold : old.length = n) (h1 : ∀ v ∈ cs, v.oneCell' = true)
    (h : wpList P ops Q rest (a.put d undef) (w.setRow g cs.toArray)) : wpList P ops Q (⟨d, .store ty x y, to, ps, af, gd⟩ :: rest) a w :=
  wpList_want hw fun _ hK => wp_st rfl hx hy hr ht hn hold h1 (hK _ _ h)
theorem op_build1 {t : TypeId} {i : Nat} {x : Operand} {vx v : Value} (hw : Region.wanted ⟨d, .build t #[(i, x)], to, ps, af, gd⟩ (yielded ops a.tmps) = true) (hx : a.eval x = vx) (hb : ∀ w, (Instr.build t #[(i, vx)]).run P w = .ok v w)
    (h : wpList P ops Q rest (a.put d v) w) : wpList P ops Q (⟨d, .build t #[(i, x)], to, ps, af, gd⟩ :: rest) a w := wpList_val hw (run_build1 rfl hx hb) h
theorem op_build2 {t : TypeId} {i j : Nat} {x y : Operand} {vx vy v : Value} (hw : Region.wanted ⟨d, .build t #[(i, x), (j, y)], to, ps, af, gd⟩ (yielded ops a.tmps) = true) (hx : a.eval x = vx) (hy : a.eval y = vy) (hb : ∀ w, (Instr.build t #[(i, vx), (j, vy)]).run P w = .ok v w)
    (h : wpList P ops Q rest (a.put d v) w) : wpList P ops Q (⟨d, .build t #[(i, x), (j, y)], to, ps, af, gd⟩ :: rest) a w := wpList_val hw (run_build2 rfl hx hy hb) h
theorem op_bs1 {t e : TypeId} {x : Operand} {v : Value} {cs : Array Value} (hw : Region.wanted ⟨d, .buildSlice t 1 #[(0, x)], to, ps, af, gd⟩ (yielded ops a.tmps) = true) (hx : a.eval x = v)
    (hb : ∀ w, (Instr.buildSlice t 1 #[(0, v)]).run P w = .ok (.slice (some ⟨w.heap.size, 0, none⟩) 1 1) (w.alloc (.cells cs e)))
    (h : wpList P ops Q rest (a.put d (.slice (some ⟨w.heap.size, 0, none⟩) 1 1)) (w.alloc (.cells cs e))) : wpList P ops Q (⟨d, .buildSlice t 1 #[(0, x)], to, ps, af, gd⟩ :: rest) a w := wpList_bs1 hw rfl hx hb h
theorem op_append1 {s x : Operand} {t base : Nat} {e : TypeId} {z : Value} {size bytes : Nat} {v : Value} {n : Nat} {xs : List Value} {g c : Nat} {news : List Value} {te : TypeId}
    (hw : Region.wanted ⟨d, .call { callee := .builtin .append, args := #[s, x], argTypes := #[t, t] }, to, ps, af, gd⟩ (yielded ops a.tmps) = true)
    (ht : P.underlying t = some (.slice e)) (hi : (P.info? e).map (fun i => (i.zero, i.size, i.bytes)) = some (some z, size, bytes)) (hzs : z.cells.size = size) (hsz : 0 < size)
    (hs : a.eval s = v) (hown : w.ownsRow base e size v n xs) (hx : a.eval x = .slice (some ⟨g, 0, none⟩) 1 c) (hl : news.length = size) (hr : w.row g news te) (h1 : ∀ u ∈ news, u.oneCell' = true)
    (h63 : n + 1 ≤ 100000) (hbb : bytes ≤ 100000) (hbase : base ≤ w.heap.size)
    (h : ∀ v' w', w'.ownsRow base e size v' (n + 1) (xs ++ news) → w.grownBy w' v.ownBlock → (v'.ownBlock = v.ownBlock ∨ v'.ownBlock = some w.heap.size) → wpList P ops Q rest (a.put d v') w') :
    wpList P ops Q (⟨d, .call { callee := .builtin .append, args := #[s, x], argTypes := #[t, t] }, to, ps, af, gd⟩ :: rest) a w :=
  wpList_append1 hw s x t rfl base e z size bytes ht hi hzs hsz hs hown hx hl hr h1 h63 hbb hbase h
/-- One box, of a struct or an array. -/
theorem op_box {t : TypeId} {x : Operand} {cs : List Value} (hw : Region.wanted ⟨d, .box t x, to, ps, af, gd⟩ (yielded ops a.tmps) = true) (hx : a.eval x = .agg cs.toArray)
    (h : wpList P ops Q rest (a.put d (.pointer (some ⟨w.heap.size, 0, none⟩))) (w.alloc (.cells cs.toArray t))) : wpList P ops Q (⟨d, .box t x, to, ps, af, gd⟩ :: rest) a w :=
  wpList_want hw fun K hK => by
    unfold Oper.wp execOp
    simp only [hx, Instr.box, newVar, newRow, newObj, Sem.run_bind, Sem.run_pure, Value.cells]
    exact hK _ _ h
theorem op_alloc {t : TypeId} {z : Value} {zs : List Value} (hw : Region.wanted ⟨d, .alloc t, to, ps, af, gd⟩ (yielded ops a.tmps) = true) (hz : (P.info? t).map (·.zero) = some (some z)) (hzs : z.cells = zs.toArray)
    (h : wpList P ops Q rest (a.put d (.pointer (some ⟨w.heap.size, 0, none⟩))) (w.alloc (.cells zs.toArray t))) : wpList P ops Q (⟨d, .alloc t, to, ps, af, gd⟩ :: rest) a w :=
  wpList_want hw fun K hK => by
    unfold Oper.wp
    rw [run_alloc_row rfl hz hzs]
    exact hK _ _ h
/-- The same within a drawn region: light ones, over any class. -/
theorem q_val {C : World → Prop} {K : Act → Prop} {op : Op} {v : Value} (hw : Region.wanted ⟨d, op, to, ps, af, gd⟩ (yielded ops a.tmps) = true) (hr : ∀ w, (execOp a.eval ⟨d, op, to, ps, af, gd⟩).run P w = .ok (.value v) w) (h : wpQuiet P ops C K rest (a.put d v)) : wpQuiet P ops C K (⟨d, op, to, ps, af, gd⟩ :: rest) a := wpQuiet_val hw hr h
theorem q_build1 {C : World → Prop} {K : Act → Prop} {t : TypeId} {i : Nat} {x : Operand} {vx v : Value} (hw : Region.wanted ⟨d, .build t #[(i, x)], to, ps, af, gd⟩ (yielded ops a.tmps) = true) (hx : a.eval x = vx) (hb : ∀ w, (Instr.build t #[(i, vx)]).run P w = .ok v w)
    (h : wpQuiet P ops C K rest (a.put d v)) : wpQuiet P ops C K (⟨d, .build t #[(i, x)], to, ps, af, gd⟩ :: rest) a := wpQuiet_val hw (run_build1 rfl hx hb) h
theorem q_build2 {C : World → Prop} {K : Act → Prop} {t : TypeId} {i j : Nat} {x y : Operand} {vx vy v : Value} (hw : Region.wanted ⟨d, .build t #[(i, x), (j, y)], to, ps, af, gd⟩ (yielded ops a.tmps) = true) (hx : a.eval x = vx) (hy : a.eval y = vy) (hb : ∀ w, (Instr.build t #[(i, vx), (j, vy)]).run P w = .ok v w)
    (h : wpQuiet P ops C K rest (a.put d v)) : wpQuiet P ops C K (⟨d, .build t #[(i, x), (j, y)], to, ps, af, gd⟩ :: rest) a := wpQuiet_val hw (run_build2 rfl hx hy hb) h
theorem q_ld {B : Nat} {K : Act → Prop} {ty : TypeId} {x : Operand} {b off : Nat} {cs : List Value} (hw : Region.wanted ⟨d, .load ty x, to, ps, af, gd⟩ (yielded ops a.tmps) = true) (hx : a.eval x = .pointer (some ⟨b, off, none⟩)) (hc : w.rangeAt b off cs) (hb : b < B) (ht : RowTy P ty cs.length)
    (h : wpQuiet P ops (fun w' => ∃ x : Ext B w, w' = w.ext B x) K rest (a.put d (.agg cs.toArray))) : wpQuiet P ops (fun w' => ∃ x : Ext B w, w' = w.ext B x) K (⟨d, .load ty x, to, ps, af, gd⟩ :: rest) a := wpQuiet_ld hw rfl hx hc hb ht h
theorem q_lds {S : Nat → Prop} {K : Act → Prop} {ty : TypeId} {x : Operand} {b off : Nat} {cs : List Value} (hw : Region.wanted ⟨d, .load ty x, to, ps, af, gd⟩ (yielded ops a.tmps) = true) (hx : a.eval x = .pointer (some ⟨b, off, none⟩)) (hc : w.rangeAt b off cs) (hb : S b) (ht : RowTy P ty cs.length)
    (h : wpQuiet P ops (fun w' => ∃ x : ExtS S w, w' = w.exts S x) K rest (a.put d (.agg cs.toArray))) : wpQuiet P ops (fun w' => ∃ x : ExtS S w, w' = w.exts S x) K (⟨d, .load ty x, to, ps, af, gd⟩ :: rest) a := wpQuiet_lds hw rfl hx hc hb ht h
theorem q_ldc {B : Nat} {J : Cls B w} {K : Act → Prop} {ty : TypeId} {x : Operand} {b off : Nat} {cs : List Value} (hw : Region.wanted ⟨d, .load ty x, to, ps, af, gd⟩ (yielded ops a.tmps) = true) (hx : a.eval x = .pointer (some ⟨b, off, none⟩)) (hc : w.rangeAt b off cs) (hb : b < B) (ht : RowTy P ty cs.length)
    (h : wpQuiet P ops (fun w' => ∃ x : ClsW J, w' = World.cl J x) K rest (a.put d (.agg cs.toArray))) : wpQuiet P ops (fun w' => ∃ x : ClsW J, w' = World.cl J x) K (⟨d, .load ty x, to, ps, af, gd⟩ :: rest) a := wpQuiet_ldc hw rfl hx hc hb ht h
/-- Heavy ones, met as operations ('wpMix_heavy' leaves 'o.wp P a w K noExit'). -/
theorem w_st {K : Act → World → Prop} {ty : TypeId} {x y : Operand} {g n : Nat} {cs old : List Value} {t : TypeId} (hx : a.eval x = .pointer (some ⟨g, 0, none⟩)) (hy : a.eval y = .agg cs.toArray)
    (hr : w.row g old t) (ht : RowTy P ty n) (hn : cs.length = n) (hold : old.length = n) (h1 : ∀ v ∈ cs, v.oneCell' = true)
    (h : K (a.put d undef) (w.setRow g cs.toArray)) : Oper.wp P ⟨d, .store ty x y, to, ps, af, gd⟩ a w K Q := wp_st rfl hx hy hr ht hn hold h1 h
theorem w_bs1 {K : Act → World → Prop} {t e : TypeId} {x : Operand} {v : Value} {cs : Array Value} (hx : a.eval x = v)
    (hb : ∀ w, (Instr.buildSlice t 1 #[(0, v)]).run P w = .ok (.slice (some ⟨w.heap.size, 0, none⟩) 1 1) (w.alloc (.cells cs e)))
    (h : K (a.put d (.slice (some ⟨w.heap.size, 0, none⟩) 1 1)) (w.alloc (.cells cs e))) : Oper.wp P ⟨d, .buildSlice t 1 #[(0, x)], to, ps, af, gd⟩ a w K Q := wp_bs1 rfl hx hb h
theorem w_append1 {K : Act → World → Prop} {s x : Operand} {t base : Nat} {e : TypeId} {z : Value} {size bytes : Nat} {v : Value} {n : Nat} {xs : List Value} {g c : Nat} {news : List Value} {te : TypeId}
    (ht : P.underlying t = some (.slice e)) (hi : (P.info? e).map (fun i => (i.zero, i.size, i.bytes)) = some (some z, size, bytes)) (hzs : z.cells.size = size) (hsz : 0 < size)
    (hs : a.eval s = v) (hown : w.ownsRow base e size v n xs) (hx : a.eval x = .slice (some ⟨g, 0, none⟩) 1 c) (hl : news.length = size) (hr : w.row g news te) (h1 : ∀ u ∈ news, u.oneCell' = true)
    (h63 : n + 1 ≤ 100000) (hbb : bytes ≤ 100000) (hbase : base ≤ w.heap.size)
    (h : ∀ v' w', w'.ownsRow base e size v' (n + 1) (xs ++ news) → w.grownBy w' v.ownBlock → (v'.ownBlock = v.ownBlock ∨ v'.ownBlock = some w.heap.size) → K (a.put d v') w') :
    Oper.wp P ⟨d, .call { callee := .builtin .append, args := #[s, x], argTypes := #[t, t] }, to, ps, af, gd⟩ a w K Q :=
  wp_append1 s x t rfl base e z size bytes ht hi hzs hsz hs hown hx hl hr h1 h63 hbb hbase h
theorem below_own {B : Nat} {u w' : World} {v : Value} {base : Nat} {e : TypeId} {size n : Nat} {xs : List Value} (hb : Below B u w) (hg : w.grownBy w' v.ownBlock) (ho : w.ownsRow base e size v n xs) (hB : B ≤ base) (hs : B ≤ w.heap.size) : Below B u w' :=
  hb.trans ⟨hg.os, hg.tape, hg.output, hg.size, fun k hk => hg.block k (Nat.lt_of_lt_of_le hk hs) fun e => by have := (ho.lt k e.symm).1; omega⟩
end
end Go
/- Rows of elements of n cells: where each lies. No program in it. -/
namespace Go
open Go.RowKit
theorem flatMap_get {α : Type} (f : α → List Value) (n : Nat) (hn : ∀ x, (f x).length = n) : ∀ {ps : List α} {i : Nat} {x : α}, ps[i]? = some x → ∀ j, j < n → (ps.flatMap f)[i * n + j]? = (f x)[j]?
  | [], i, x, h, _, _ => by simp at h
  | a :: ps, 0, x, h, j, hj => by
    simp at h; subst h
    rw [List.flatMap_cons, Nat.zero_mul, Nat.zero_add, List.getElem?_append_left (by rw [hn]; exact hj)]
  | a :: ps, i + 1, x, h, j, hj => by
    rw [List.flatMap_cons, List.getElem?_append_right (by rw [hn, Nat.succ_mul]; omega), hn]
    have e : (i + 1) * n + j - n = i * n + j := by rw [Nat.succ_mul]; omega
    rw [e]
    exact flatMap_get f n hn (by simpa using h) j hj
variable {w w' : World} {B : Nat} {e : TypeId} {size n : Nat} {v : Value} {xs : List Value}
theorem own_form (h : w.ownsRow B e size v n xs) : (v = .slice none 0 0 ∧ n = 0) ∨ ∃ g cap, v = .slice (some ⟨g, 0, none⟩) n cap ∧ B ≤ g ∧ g < w.heap.size ∧ n ≤ cap ∧ cap ≤ maxLen ∧ (∀ j u, xs[j]? = some u → w.cell? ⟨g, j, none⟩ = some u) ∧ ∀ j, w.frozen? ⟨g, j, none⟩ = false := by
  have hlt := h.lt
  have h0 := h
  obtain ⟨hl, h⟩ := h
  rcases h with ⟨h1, h2⟩ | ⟨g, cap, cur, hv, hB, hh, h1, h2, hs, ht⟩
  · exact .inl ⟨h1, h2⟩
  · refine .inr ⟨g, cap, hv, hB, (hlt g (by rw [hv]; rfl)).2, h1, h2, fun j u hj => ?_, fun j => ?_⟩
    · have h3 : cur[j]? = some u := by
        rw [← ht] at hj
        rw [List.getElem?_take] at hj
        split at hj
        · simpa using hj
        · cases hj
      simp [World.cell?, hh, h3]
    · unfold World.frozen?; simp [hh]
/-- An element's range. -/
theorem own_at {α : Type} {f : α → List Value} {ps : List α} {i : Nat} {x : α} (hn : ∀ x, (f x).length = size) (h : w.ownsRow B e size v ps.length (ps.flatMap f)) (hi : ps[i]? = some x) :
    ∃ g cap, v = .slice (some ⟨g, 0, none⟩) ps.length cap ∧ B ≤ g ∧ g < w.heap.size ∧ ps.length ≤ cap ∧ cap ≤ maxLen ∧ w.rangeAt g (i * size) (f x) ∧ ∀ j, w.frozen? ⟨g, j, none⟩ = false := by
  have hil : i < ps.length := (List.getElem?_eq_some_iff.1 hi).1
  rcases own_form h with ⟨_, h2⟩ | ⟨g, cap, hv, hB, hg, h1, h2, hc, hz⟩
  · omega
  · refine ⟨g, cap, hv, hB, hg, h1, h2, fun j u hj => hc _ u ?_, hz⟩
    have hjl : j < size := by rw [← hn x]; exact (List.getElem?_eq_some_iff.1 hj).1
    rw [flatMap_get f size hn hi j hjl]; exact hj
theorem own_same (h : w.ownsRow B e size v n xs) (hb : ∀ k, v.ownBlock = some k → w'.heap[k]? = w.heap[k]?) : w'.ownsRow B e size v n xs := by
  obtain ⟨hl, h⟩ := h
  refine ⟨hl, ?_⟩
  rcases h with h | ⟨g, cap, cur, hv, hB, hh, r⟩
  · exact .inl h
  · exact .inr ⟨g, cap, cur, hv, hB, (hb g (by rw [hv]; rfl)).trans hh, r⟩
end Go
