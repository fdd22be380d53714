/- Several texts in one: App Op Elems Open Set MEach MOps MBit MSets MUpto MOf Pop MCnt SetB MNext MRow Open3 UMap CMap. -/
import Derived.Test.YtijagdpkclghnaaDoorKcpa
import Derived.Maps.AppendAt
import Derived.WalkKit
import Derived.ProofKit
import Derived.OpenShut
import Derived.Lib.LaidTab
import Derived.ShutString
import Derived.ChangeOld
import Derived.SizedLaws
import Derived.ChangeVars
import Derived.Test.YtijagdpkclghnaaDoorProg
import Derived.Handy
import Derived.Lib.TrailingZeros
import Derived.Test.YtijagdpkclghnaaDoorRows
import Derived.Test.YtijagdpkclghnaaDoorTie
import Derived.Test.YtijagdpkclghnaaDoorCards
import Derived.ChangeSame
import Derived.Deep.Slices
import Derived.Maps.OwnSet
/- Appends to rows of one's own, met as operations. No program in it. -/
namespace Go
open Go.RowKit
section
variable {P : Program} {ops : Array Oper} {rest : List Oper} {o : Oper} {a : Act} {w : World} {Q : Exit → Act → World → Prop}
/-- One more element (of 'size' cells) is put behind a row of one's own; it lies in a block of its own. -/
theorem wp_append1 {K : Act → World → Prop} (s x : Operand) (t : TypeId) (ho : o.op = .call { callee := .builtin .append, args := #[s, x], argTypes := #[t, t] })
    (base : Nat) (e : TypeId) (z : Value) (size bytes : Nat) (ht : P.underlying t = some (.slice e)) (hi : (P.info? e).map (fun i => (i.zero, i.size, i.bytes)) = some (some z, size, bytes)) (hzs : z.cells.size = size) (hsz : 0 < size)
    {v : Value} {n : Nat} {xs : List Value} (hs : a.eval s = v) (hown : w.ownsRow base e size v n xs)
    {g c : Nat} {news : List Value} {te : TypeId} (hx : a.eval x = .slice (some ⟨g, 0, none⟩) 1 c) (hl : news.length = size) (hr : w.row g news te) (h1 : ∀ u ∈ news, u.oneCell' = true)
    (h63 : n + 1 ≤ 100000) (hbb : bytes ≤ 100000) (hbase : base ≤ w.heap.size)
    (h : ∀ v' w', w'.ownsRow base e size v' (n + 1) (xs ++ news) → w.grownBy w' v.ownBlock → (v'.ownBlock = v.ownBlock ∨ v'.ownBlock = some w.heap.size) → K (a.put o.dst v') w') : o.wp P a w K Q := by
  obtain ⟨i, hi0, hz, hsize, hby⟩ : ∃ i, P.info? e = some i ∧ i.zero = some z ∧ i.size = size ∧ i.bytes = bytes := by
    cases h : P.info? e with
    | none => rw [h] at hi; cases hi
    | some i => rw [h] at hi; simp at hi; exact ⟨i, rfl, hi.1, hi.2.1, hi.2.2⟩
  have hb : (n + 1) * bytes ≤ 100000 * 100000 := Nat.mul_le_mul h63 hbb
  obtain ⟨v', w', hr', h2, h3, _, h5⟩ := run_append_own_at (P := P) w base t o.type e i z size bytes ht hi0 hz hsize hby hzs hsz v n xs hown ⟨g, 0, none⟩ 1 c news (by rw [hl, Nat.one_mul]) (fun j u hj => by
    rw [Addr.add_mid, Nat.zero_add]
    exact hr.cell j hj) h1 (by unfold maxLen; omega) (by omega) hbase
  unfold Oper.wp execOp
  simp only [ho, resolve, invoke, builtin, Sem.run_bind, Sem.run_pure, Result.andThen_ok, List.map_toArray, List.map_cons, List.map_nil, hs, hx, hr']
  exact h v' w' h2 h3 h5
theorem wpList_append1 (hw : Region.wanted o (yielded ops a.tmps) = true) (s x : Operand) (t : TypeId) (ho : o.op = .call { callee := .builtin .append, args := #[s, x], argTypes := #[t, t] })
    (base : Nat) (e : TypeId) (z : Value) (size bytes : Nat) (ht : P.underlying t = some (.slice e)) (hi : (P.info? e).map (fun i => (i.zero, i.size, i.bytes)) = some (some z, size, bytes)) (hzs : z.cells.size = size) (hsz : 0 < size)
    {v : Value} {n : Nat} {xs : List Value} (hs : a.eval s = v) (hown : w.ownsRow base e size v n xs)
    {g c : Nat} {news : List Value} {te : TypeId} (hx : a.eval x = .slice (some ⟨g, 0, none⟩) 1 c) (hl : news.length = size) (hr : w.row g news te) (h1 : ∀ u ∈ news, u.oneCell' = true)
    (h63 : n + 1 ≤ 100000) (hbb : bytes ≤ 100000) (hbase : base ≤ w.heap.size)
    (h : ∀ v' w', w'.ownsRow base e size v' (n + 1) (xs ++ news) → w.grownBy w' v.ownBlock → (v'.ownBlock = v.ownBlock ∨ v'.ownBlock = some w.heap.size) → wpList P ops Q rest (a.put o.dst v') w') : wpList P ops Q (o :: rest) a w :=
  wpList_want hw fun _ hK => wp_append1 s x t ho base e z size bytes ht hi hzs hsz hs hown hx hl hr h1 h63 hbb hbase fun v' w' h2 h3 h4 => hK _ _ (h v' w' h2 h3 h4)
end
end Go
/- Laws of single operations, the operation written out in the conclusion: 'with_reducible apply' meets its own kind alone. No program in it. -/
namespace Go
open Go.RowKit
section
variable {P : Program} {ops : Array Oper} {rest : List Oper} {d : Option Tmp} {to : TypeId} {ps : String} {af : Array Edge} {gd : Option (Nat × Bool)} {a : Act} {w : World} {Q : Exit → Act → World → Prop}
/-- The world of a list of operations is given a name (the goal is met by its form). -/
theorem op_ld {ty : TypeId} {x : Operand} {b off : Nat} {cs : List Value} (hw : Region.wanted ⟨d, .load ty x, to, ps, af, gd⟩ (yielded ops a.tmps) = true) (hx : a.eval x = .pointer (some ⟨b, off, none⟩)) (hc : w.rangeAt b off cs) (ht : RowTy P ty cs.length)
    (h : wpList P ops Q rest (a.put d (.agg cs.toArray)) w) : wpList P ops Q (⟨d, .load ty x, to, ps, af, gd⟩ :: rest) a w := wpList_ld hw rfl hx hc ht h
theorem op_mv {x : Operand} (hw : Region.wanted ⟨d, .move x, to, ps, af, gd⟩ (yielded ops a.tmps) = true) (h : wpList P ops Q rest (a.put d (a.eval x)) w) : wpList P ops Q (⟨d, .move x, to, ps, af, gd⟩ :: rest) a w :=
  wpList_val hw (fun w => by unfold execOp; simp) h
theorem op_as {x : Operand} (hw : Region.wanted ⟨d, .assign x, to, ps, af, gd⟩ (yielded ops a.tmps) = true) (h : wpList P ops Q rest (a.put d (a.eval x)) w) : wpList P ops Q (⟨d, .assign x, to, ps, af, gd⟩ :: rest) a w :=
  wpList_val hw (fun w => by unfold execOp; simp) h
theorem op_st {ty : TypeId} {x y : Operand} {g n : Nat} {cs old : List Value} {t : TypeId} (hw : Region.wanted ⟨d, .store ty x y, to, ps, af, gd⟩ (yielded ops a.tmps) = true) (hx : a.eval x = .pointer (some ⟨g, 0, none⟩)) (hy : a.eval y = .agg cs.toArray)
    (hr : w.row g old t) (ht : RowTy P ty n) (hn : cs.length = n) (hold : old.length = n) (h1 : ∀ v ∈ cs, v.oneCell' = true)
    (h : wpList P ops Q rest (a.put d undef) (w.setRow g cs.toArray)) : wpList P ops Q (⟨d, .store ty x y, to, ps, af, gd⟩ :: rest) a w :=
  wpList_want hw fun _ hK => wp_st rfl hx hy hr ht hn hold h1 (hK _ _ h)
theorem op_build1 {t : TypeId} {i : Nat} {x : Operand} {vx v : Value} (hw : Region.wanted ⟨d, .build t #[(i, x)], to, ps, af, gd⟩ (yielded ops a.tmps) = true) (hx : a.eval x = vx) (hb : ∀ w, (Instr.build t #[(i, vx)]).run P w = .ok v w)
    (h : wpList P ops Q rest (a.put d v) w) : wpList P ops Q (⟨d, .build t #[(i, x)], to, ps, af, gd⟩ :: rest) a w := wpList_val hw (run_build1 rfl hx hb) h
theorem op_build2 {t : TypeId} {i j : Nat} {x y : Operand} {vx vy v : Value} (hw : Region.wanted ⟨d, .build t #[(i, x), (j, y)], to, ps, af, gd⟩ (yielded ops a.tmps) = true) (hx : a.eval x = vx) (hy : a.eval y = vy) (hb : ∀ w, (Instr.build t #[(i, vx), (j, vy)]).run P w = .ok v w)
    (h : wpList P ops Q rest (a.put d v) w) : wpList P ops Q (⟨d, .build t #[(i, x), (j, y)], to, ps, af, gd⟩ :: rest) a w := wpList_val hw (run_build2 rfl hx hy hb) h
theorem op_bs1 {t e : TypeId} {x : Operand} {v : Value} {cs : Array Value} (hw : Region.wanted ⟨d, .buildSlice t 1 #[(0, x)], to, ps, af, gd⟩ (yielded ops a.tmps) = true) (hx : a.eval x = v)
    (hb : ∀ w, (Instr.buildSlice t 1 #[(0, v)]).run P w = .ok (.slice (some ⟨w.heap.size, 0, none⟩) 1 1) (w.alloc (.cells cs e)))
    (h : wpList P ops Q rest (a.put d (.slice (some ⟨w.heap.size, 0, none⟩) 1 1)) (w.alloc (.cells cs e))) : wpList P ops Q (⟨d, .buildSlice t 1 #[(0, x)], to, ps, af, gd⟩ :: rest) a w := wpList_bs1 hw rfl hx hb h
theorem op_append1 {s x : Operand} {t base : Nat} {e : TypeId} {z : Value} {size bytes : Nat} {v : Value} {n : Nat} {xs : List Value} {g c : Nat} {news : List Value} {te : TypeId}
    (hw : Region.wanted ⟨d, .call { callee := .builtin .append, args := #[s, x], argTypes := #[t, t] }, to, ps, af, gd⟩ (yielded ops a.tmps) = true)
    (ht : P.underlying t = some (.slice e)) (hi : (P.info? e).map (fun i => (i.zero, i.size, i.bytes)) = some (some z, size, bytes)) (hzs : z.cells.size = size) (hsz : 0 < size)
    (hs : a.eval s = v) (hown : w.ownsRow base e size v n xs) (hx : a.eval x = .slice (some ⟨g, 0, none⟩) 1 c) (hl : news.length = size) (hr : w.row g news te) (h1 : ∀ u ∈ news, u.oneCell' = true)
    (h63 : n + 1 ≤ 100000) (hbb : bytes ≤ 100000) (hbase : base ≤ w.heap.size)
    (h : ∀ v' w', w'.ownsRow base e size v' (n + 1) (xs ++ news) → w.grownBy w' v.ownBlock → (v'.ownBlock = v.ownBlock ∨ v'.ownBlock = some w.heap.size) → wpList P ops Q rest (a.put d v') w') :
    wpList P ops Q (⟨d, .call { callee := .builtin .append, args := #[s, x], argTypes := #[t, t] }, to, ps, af, gd⟩ :: rest) a w :=
  wpList_append1 hw s x t rfl base e z size bytes ht hi hzs hsz hs hown hx hl hr h1 h63 hbb hbase h
/-- One box, of a struct or an array. -/
theorem op_box {t : TypeId} {x : Operand} {cs : List Value} (hw : Region.wanted ⟨d, .box t x, to, ps, af, gd⟩ (yielded ops a.tmps) = true) (hx : a.eval x = .agg cs.toArray)
    (h : wpList P ops Q rest (a.put d (.pointer (some ⟨w.heap.size, 0, none⟩))) (w.alloc (.cells cs.toArray t))) : wpList P ops Q (⟨d, .box t x, to, ps, af, gd⟩ :: rest) a w :=
  wpList_want hw fun K hK => by
    unfold Oper.wp execOp
    simp only [hx, Instr.box, newVar, newRow, newObj, Sem.run_bind, Sem.run_pure, Value.cells]
    exact hK _ _ h
theorem op_alloc {t : TypeId} {z : Value} {zs : List Value} (hw : Region.wanted ⟨d, .alloc t, to, ps, af, gd⟩ (yielded ops a.tmps) = true) (hz : (P.info? t).map (·.zero) = some (some z)) (hzs : z.cells = zs.toArray)
    (h : wpList P ops Q rest (a.put d (.pointer (some ⟨w.heap.size, 0, none⟩))) (w.alloc (.cells zs.toArray t))) : wpList P ops Q (⟨d, .alloc t, to, ps, af, gd⟩ :: rest) a w :=
  wpList_want hw fun K hK => by
    unfold Oper.wp
    rw [run_alloc_row rfl hz hzs]
    exact hK _ _ h
/-- The same within a drawn region: light ones, over any class. -/
theorem q_val {C : World → Prop} {K : Act → Prop} {op : Op} {v : Value} (hw : Region.wanted ⟨d, op, to, ps, af, gd⟩ (yielded ops a.tmps) = true) (hr : ∀ w, (execOp a.eval ⟨d, op, to, ps, af, gd⟩).run P w = .ok (.value v) w) (h : wpQuiet P ops C K rest (a.put d v)) : wpQuiet P ops C K (⟨d, op, to, ps, af, gd⟩ :: rest) a := wpQuiet_val hw hr h
theorem q_build1 {C : World → Prop} {K : Act → Prop} {t : TypeId} {i : Nat} {x : Operand} {vx v : Value} (hw : Region.wanted ⟨d, .build t #[(i, x)], to, ps, af, gd⟩ (yielded ops a.tmps) = true) (hx : a.eval x = vx) (hb : ∀ w, (Instr.build t #[(i, vx)]).run P w = .ok v w)
    (h : wpQuiet P ops C K rest (a.put d v)) : wpQuiet P ops C K (⟨d, .build t #[(i, x)], to, ps, af, gd⟩ :: rest) a := wpQuiet_val hw (run_build1 rfl hx hb) h
theorem q_build2 {C : World → Prop} {K : Act → Prop} {t : TypeId} {i j : Nat} {x y : Operand} {vx vy v : Value} (hw : Region.wanted ⟨d, .build t #[(i, x), (j, y)], to, ps, af, gd⟩ (yielded ops a.tmps) = true) (hx : a.eval x = vx) (hy : a.eval y = vy) (hb : ∀ w, (Instr.build t #[(i, vx), (j, vy)]).run P w = .ok v w)
    (h : wpQuiet P ops C K rest (a.put d v)) : wpQuiet P ops C K (⟨d, .build t #[(i, x), (j, y)], to, ps, af, gd⟩ :: rest) a := wpQuiet_val hw (run_build2 rfl hx hy hb) h
theorem q_ld {B : Nat} {K : Act → Prop} {ty : TypeId} {x : Operand} {b off : Nat} {cs : List Value} (hw : Region.wanted ⟨d, .load ty x, to, ps, af, gd⟩ (yielded ops a.tmps) = true) (hx : a.eval x = .pointer (some ⟨b, off, none⟩)) (hc : w.rangeAt b off cs) (hb : b < B) (ht : RowTy P ty cs.length)
    (h : wpQuiet P ops (fun w' => ∃ x : Ext B w, w' = w.ext B x) K rest (a.put d (.agg cs.toArray))) : wpQuiet P ops (fun w' => ∃ x : Ext B w, w' = w.ext B x) K (⟨d, .load ty x, to, ps, af, gd⟩ :: rest) a := wpQuiet_ld hw rfl hx hc hb ht h
theorem q_lds {S : Nat → Prop} {K : Act → Prop} {ty : TypeId} {x : Operand} {b off : Nat} {cs : List Value} (hw : Region.wanted ⟨d, .load ty x, to, ps, af, gd⟩ (yielded ops a.tmps) = true) (hx : a.eval x = .pointer (some ⟨b, off, none⟩)) (hc : w.rangeAt b off cs) (hb : S b) (ht : RowTy P ty cs.length)
    (h : wpQuiet P ops (fun w' => ∃ x : ExtS S w, w' = w.exts S x) K rest (a.put d (.agg cs.toArray))) : wpQuiet P ops (fun w' => ∃ x : ExtS S w, w' = w.exts S x) K (⟨d, .load ty x, to, ps, af, gd⟩ :: rest) a := wpQuiet_lds hw rfl hx hc hb ht h
theorem q_ldc {B : Nat} {J : Cls B w} {K : Act → Prop} {ty : TypeId} {x : Operand} {b off : Nat} {cs : List Value} (hw : Region.wanted ⟨d, .load ty x, to, ps, af, gd⟩ (yielded ops a.tmps) = true) (hx : a.eval x = .pointer (some ⟨b, off, none⟩)) (hc : w.rangeAt b off cs) (hb : b < B) (ht : RowTy P ty cs.length)
    (h : wpQuiet P ops (fun w' => ∃ x : ClsW J, w' = World.cl J x) K rest (a.put d (.agg cs.toArray))) : wpQuiet P ops (fun w' => ∃ x : ClsW J, w' = World.cl J x) K (⟨d, .load ty x, to, ps, af, gd⟩ :: rest) a := wpQuiet_ldc hw rfl hx hc hb ht h
/-- Heavy ones, met as operations ('wpMix_heavy' leaves 'o.wp P a w K noExit'). -/
theorem w_st {K : Act → World → Prop} {ty : TypeId} {x y : Operand} {g n : Nat} {cs old : List Value} {t : TypeId} (hx : a.eval x = .pointer (some ⟨g, 0, none⟩)) (hy : a.eval y = .agg cs.toArray)
    (hr : w.row g old t) (ht : RowTy P ty n) (hn : cs.length = n) (hold : old.length = n) (h1 : ∀ v ∈ cs, v.oneCell' = true)
    (h : K (a.put d undef) (w.setRow g cs.toArray)) : Oper.wp P ⟨d, .store ty x y, to, ps, af, gd⟩ a w K Q := wp_st rfl hx hy hr ht hn hold h1 h
theorem w_bs1 {K : Act → World → Prop} {t e : TypeId} {x : Operand} {v : Value} {cs : Array Value} (hx : a.eval x = v)
    (hb : ∀ w, (Instr.buildSlice t 1 #[(0, v)]).run P w = .ok (.slice (some ⟨w.heap.size, 0, none⟩) 1 1) (w.alloc (.cells cs e)))
    (h : K (a.put d (.slice (some ⟨w.heap.size, 0, none⟩) 1 1)) (w.alloc (.cells cs e))) : Oper.wp P ⟨d, .buildSlice t 1 #[(0, x)], to, ps, af, gd⟩ a w K Q := wp_bs1 rfl hx hb h
theorem w_append1 {K : Act → World → Prop} {s x : Operand} {t base : Nat} {e : TypeId} {z : Value} {size bytes : Nat} {v : Value} {n : Nat} {xs : List Value} {g c : Nat} {news : List Value} {te : TypeId}
    (ht : P.underlying t = some (.slice e)) (hi : (P.info? e).map (fun i => (i.zero, i.size, i.bytes)) = some (some z, size, bytes)) (hzs : z.cells.size = size) (hsz : 0 < size)
    (hs : a.eval s = v) (hown : w.ownsRow base e size v n xs) (hx : a.eval x = .slice (some ⟨g, 0, none⟩) 1 c) (hl : news.length = size) (hr : w.row g news te) (h1 : ∀ u ∈ news, u.oneCell' = true)
    (h63 : n + 1 ≤ 100000) (hbb : bytes ≤ 100000) (hbase : base ≤ w.heap.size)
    (h : ∀ v' w', w'.ownsRow base e size v' (n + 1) (xs ++ news) → w.grownBy w' v.ownBlock → (v'.ownBlock = v.ownBlock ∨ v'.ownBlock = some w.heap.size) → K (a.put d v') w') :
    Oper.wp P ⟨d, .call { callee := .builtin .append, args := #[s, x], argTypes := #[t, t] }, to, ps, af, gd⟩ a w K Q :=
  wp_append1 s x t rfl base e z size bytes ht hi hzs hsz hs hown hx hl hr h1 h63 hbb hbase h
theorem below_own {B : Nat} {u w' : World} {v : Value} {base : Nat} {e : TypeId} {size n : Nat} {xs : List Value} (hb : Below B u w) (hg : w.grownBy w' v.ownBlock) (ho : w.ownsRow base e size v n xs) (hB : B ≤ base) (hs : B ≤ w.heap.size) : Below B u w' :=
  hb.trans ⟨hg.os, hg.tape, hg.output, hg.size, fun k hk => hg.block k (Nat.lt_of_lt_of_le hk hs) fun e => by have := (ho.lt k e.symm).1; omega⟩
end
end Go
/- Rows of elements of n cells: where each lies. No program in it. -/
namespace Go
open Go.RowKit
theorem flatMap_get {α : Type} (f : α → List Value) (n : Nat) (hn : ∀ x, (f x).length = n) : ∀ {ps : List α} {i : Nat} {x : α}, ps[i]? = some x → ∀ j, j < n → (ps.flatMap f)[i * n + j]? = (f x)[j]?
  | [], i, x, h, _, _ => by simp at h
  | a :: ps, 0, x, h, j, hj => by
    simp at h; subst h
    rw [List.flatMap_cons, Nat.zero_mul, Nat.zero_add, List.getElem?_append_left (by rw [hn]; exact hj)]
  | a :: ps, i + 1, x, h, j, hj => by
    rw [List.flatMap_cons, List.getElem?_append_right (by rw [hn, Nat.succ_mul]; omega), hn]
    have e : (i + 1) * n + j - n = i * n + j := by rw [Nat.succ_mul]; omega
    rw [e]
    exact flatMap_get f n hn (by simpa using h) j hj
variable {w w' : World} {B : Nat} {e : TypeId} {size n : Nat} {v : Value} {xs : List Value}
theorem own_form (h : w.ownsRow B e size v n xs) : (v = .slice none 0 0 ∧ n = 0) ∨ ∃ g cap, v = .slice (some ⟨g, 0, none⟩) n cap ∧ B ≤ g ∧ g < w.heap.size ∧ n ≤ cap ∧ cap ≤ maxLen ∧ (∀ j u, xs[j]? = some u → w.cell? ⟨g, j, none⟩ = some u) ∧ ∀ j, w.frozen? ⟨g, j, none⟩ = false := by
  have hlt := h.lt
  have h0 := h
  obtain ⟨hl, h⟩ := h
  rcases h with ⟨h1, h2⟩ | ⟨g, cap, cur, hv, hB, hh, h1, h2, hs, ht⟩
  · exact .inl ⟨h1, h2⟩
  · refine .inr ⟨g, cap, hv, hB, (hlt g (by rw [hv]; rfl)).2, h1, h2, fun j u hj => ?_, fun j => ?_⟩
    · have h3 : cur[j]? = some u := by
        rw [← ht] at hj
        rw [List.getElem?_take] at hj
        split at hj
        · simpa using hj
        · cases hj
      simp [World.cell?, hh, h3]
    · unfold World.frozen?; simp [hh]
/-- An element's range. -/
theorem own_at {α : Type} {f : α → List Value} {ps : List α} {i : Nat} {x : α} (hn : ∀ x, (f x).length = size) (h : w.ownsRow B e size v ps.length (ps.flatMap f)) (hi : ps[i]? = some x) :
    ∃ g cap, v = .slice (some ⟨g, 0, none⟩) ps.length cap ∧ B ≤ g ∧ g < w.heap.size ∧ ps.length ≤ cap ∧ cap ≤ maxLen ∧ w.rangeAt g (i * size) (f x) ∧ ∀ j, w.frozen? ⟨g, j, none⟩ = false := by
  have hil : i < ps.length := (List.getElem?_eq_some_iff.1 hi).1
  rcases own_form h with ⟨_, h2⟩ | ⟨g, cap, hv, hB, hg, h1, h2, hc, hz⟩
  · omega
  · refine ⟨g, cap, hv, hB, hg, h1, h2, fun j u hj => hc _ u ?_, hz⟩
    have hjl : j < size := by rw [← hn x]; exact (List.getElem?_eq_some_iff.1 hj).1
    rw [flatMap_get f size hn hi j hjl]; exact hj
theorem own_same (h : w.ownsRow B e size v n xs) (hb : ∀ k, v.ownBlock = some k → w'.heap[k]? = w.heap[k]?) : w'.ownsRow B e size v n xs := by
  obtain ⟨hl, h⟩ := h
  refine ⟨hl, ?_⟩
  rcases h with h | ⟨g, cap, cur, hv, hB, hh, r⟩
  · exact .inl h
  · exact .inr ⟨g, cap, cur, hv, hB, (hb g (by rw [hv]; rfl)).trans hh, r⟩
end Go
/- Arguments laid open: laws of my own, no program in them. -/
namespace Go
open Go.ChangeShapes Go.WideShapes Go.ChangeAt Go.RowKit
section
variable {H : Type} {enc : TypeId × Value → H} {P : Program} {W : World} {base : Nat} {sp : Nat → Bool} {held : Bool}
theorem open_array_ints {t e : TypeId} {n : Nat} {k : IntKind} {v : Value} {d : DataW H} {p : List MemPlace} {r : Reach} (ht : P.underlying t = some (.array n e)) (he : P.underlying e = some (.int k)) (hce : P.cellsOf e = 1) (hct : P.cellsOf t = n)
    (hv : Value.okWide P W r base t v) (h : DataW.Trod enc P W 0 sp held t v d p) : ∃ zs : List Int, zs.length = n ∧ v = .agg (zs.map (Value.int k)).toArray ∧ ∀ z ∈ zs, (Lit.int k z).wf = true := by
  obtain ⟨cs, rfl, hs⟩ : ∃ cs, v = .agg cs ∧ cs.size = P.cellsOf t := by
    simp only [Value.okWide, ht] at hv
    obtain ⟨cs, h1, h2, _⟩ := hv
    exact ⟨cs, h1, h2⟩
  obtain ⟨fuel, hf⟩ := h
  obtain ⟨xs, m, _, _, hl, hx, hat⟩ := DataW.trod_array ht hf
  obtain ⟨l⟩ := cs
  simp only [Value.cells] at hl hat
  have hn : ∀ i, i < n → ∃ z, l[i]? = some (.int k z) ∧ (Lit.int k z).wf = true := fun i hi => by
    have h1 := hat i hi
    rw [hce, Nat.mul_one, List.getElem?_eq_getElem (by omega)] at h1
    cases hd : l.drop i with
    | nil => rw [hd] at h1; cases m <;> simp [DataW.trod, he] at h1
    | cons c rest =>
      rw [hd] at h1
      simp only [List.take_succ_cons, List.take_zero] at h1
      obtain ⟨z, hc, _, hw⟩ := DataW.trod_int he h1
      refine ⟨z, ?_, hw⟩
      have : l[i]? = (l.drop i)[0]? := by simp
      rw [this, hd]
      simpa using hc
  have hlen : l.length = n := by simpa [hct] using hs
  let f : Value → Int := fun v => match v with | .int _ z => z | _ => 0
  refine ⟨l.map f, by simp [hlen], ?_, ?_⟩
  · congr 1
    rw [List.map_map]
    have e : l = l.map (Value.int k ∘ f) := List.ext_getElem? fun i => by
      by_cases hi : i < n
      · obtain ⟨z, hz, _⟩ := hn i hi
        rw [List.getElem?_map, hz]; rfl
      · rw [List.getElem?_eq_none (by omega), List.getElem?_eq_none (by simp; omega)]
    exact congrArg List.toArray e
  · intro z hz
    obtain ⟨c, hc, rfl⟩ := List.mem_map.1 hz
    obtain ⟨i, hi, rfl⟩ := List.getElem_of_mem hc
    obtain ⟨z, h1, h2⟩ := hn i (by omega)
    rw [List.getElem?_eq_getElem hi] at h1
    rw [Option.some.inj h1]
    exact h2
/-- What was read of all arguments is read again behind a call that left all old blocks as they were. -/
theorem trodAll_below {ts : List TypeId} (hl : laidOutB P = true) (hr : ∀ t ∈ ts, P.readableRec t = true ∧ t < P.types.size) {W' : World} (hb : Below W.heap.size W W') :
    ∀ {vs : List Value} {ds : List (DataW H)} {ps : List MemPlace}, DataW.TrodAll enc P W 0 (fun _ => true) true ts vs ds ps → DataW.TrodAll enc P W' 0 (fun b => decide (b < W.heap.size)) true ts vs ds ps := by
  induction ts with
  | nil => intro vs ds ps h; obtain ⟨rfl, rfl, rfl⟩ := trodAll_nil h; exact trodAll_mk0
  | cons t ts ih =>
    intro vs ds ps h
    obtain ⟨v, vs', d, ds', p, q, rfl, rfl, rfl, h1, h2⟩ := trodAll_cons h
    have hlt : ∀ x ∈ p, x.block < W.heap.size := by obtain ⟨m, hm⟩ := h1; exact DataW.trod_lt m _ _ _ hm
    exact trodAll_cons_mk (Below.trod hl (hr t (by simp)).1 (hr t (by simp)).2 h1 hb hlt) (ih (fun t' ht' => hr t' (by simp [ht'])) h2)
/-- The end of a law's row: it returned true, and all old blocks are as they were. -/
theorem law_post {s : ChangeSpec} {fn : Func} {W' : World} {args : Array Value} {ds gs : List (DataW H)} {before : List MemPlace} {tb : TypeId} (hl : laidOutB P = true)
    (hr : ∀ t ∈ fn.params.toList, P.readableRec t = true ∧ t < P.types.size) (hW : DataW.Whole enc P fn.params.toList s.vars false W args.toList ds gs before) (hvars : s.vars = []) (hres : fn.resultTypes = #[tb]) (hb : P.underlying tb = some .bool)
    (hfn : s.fn H (ds ++ gs) = { results := [.lit (.bool true)], args := ds }) (bel : Below W.heap.size W W') :
    s.post enc P fn false true false false W args (.bool true) W' := by
  obtain ⟨p, q, hA, hV, rfl, hfz, hnd⟩ := hW
  refine ⟨ds, gs, p ++ q, [], p, [], ⟨p, q, hA, hV, rfl, hfz, hnd⟩, ?_, ?_, ?_, bel.frame _, fun h => by cases h⟩
  · rw [hfn, hres]; exact trodAll_mk1 (shut_bool hb true)
  · rw [hfn]; exact trodAll_below hl hr bel hA
  · rw [hfn, hvars]; rfl
end
end Go
/- Sets of numbers below 256 as four words: plain facts, no program in them. -/
namespace Go.Proofs.YtijagdpkclghnaaDoor
open Go
/-- Four words of 64 bits. -/
structure Set4 where
  a : Nat
  b : Nat
  c : Nat
  d : Nat
  ha : a < 18446744073709551616
  hb : b < 18446744073709551616
  hc : c < 18446744073709551616
  hd : d < 18446744073709551616
theorem pow_lt64 (j : Nat) (hj : j < 64) : 2 ^ j < 18446744073709551616 := by
  have : 2 ^ j ≤ 2 ^ 63 := Nat.pow_le_pow_right (by omega) (by omega)
  omega
theorem pow_wrap (j : Nat) (hj : j < 64) : IntKind.u64.wrap (2 ^ j) = ((2 ^ j : Nat) : Int) := by
  have h := pow_lt64 j hj
  have e : ((2 : Int) ^ j) = ((2 ^ j : Nat) : Int) := by simp
  rw [IntKind.wrap_u64, e]
  generalize 2 ^ j = p at *
  omega
theorem and_pow (x j : Nat) : x &&& 2 ^ j = (x.testBit j).toNat * 2 ^ j := by
  refine Nat.eq_of_testBit_eq fun i => ?_
  rw [Nat.testBit_and, Nat.testBit_two_pow]
  by_cases e : j = i
  · subst e; cases h : x.testBit j <;> simp
  · cases x.testBit j <;> simp [e]
theorem and_pow_ne (x j : Nat) (hx : x < 18446744073709551616) (hj : j < 64) : (!(bits .and .u64 (x : Int) ((2 ^ j : Nat) : Int) == 0)) = x.testBit j := by
  rw [u64_and_nat x (2 ^ j) hx (pow_lt64 j hj), and_pow]
  have := Nat.two_pow_pos j
  generalize 2 ^ j = p at *
  cases x.testBit j
  · simp
  · simp; omega
namespace Set4
abbrev cells (s : Set4) : List Value := [.int .u64 (s.a : Int), .int .u64 (s.b : Int), .int .u64 (s.c : Int), .int .u64 (s.d : Int)]
abbrev val (s : Set4) : Value := .agg #[.int .u64 (s.a : Int), .int .u64 (s.b : Int), .int .u64 (s.c : Int), .int .u64 (s.d : Int)]
def word (s : Set4) (k : Nat) : Nat := if k = 0 then s.a else if k = 1 then s.b else if k = 2 then s.c else s.d
theorem word_lt (s : Set4) (k : Nat) : s.word k < 18446744073709551616 := by
  unfold word; split; exact s.ha; split; exact s.hb; split; exact s.hc; exact s.hd
def has (s : Set4) (i : Nat) : Bool := decide (i < 256) && (s.word (i / 64)).testBit (i % 64)
theorem ext_words {s t : Set4} (h : ∀ k, k < 4 → s.word k = t.word k) : s = t := by
  have h0 := h 0 (by omega); have h1 := h 1 (by omega); have h2 := h 2 (by omega); have h3 := h 3 (by omega)
  obtain ⟨a, b, c, d, _, _, _, _⟩ := s; obtain ⟨a', b', c', d', _, _, _, _⟩ := t
  simp [word] at h0 h1 h2 h3; subst h0 h1 h2 h3; rfl
theorem big (j : Nat) (hj : ¬ j < 64) : 18446744073709551616 ≤ 2 ^ j := by
  have : 2 ^ 64 ≤ 2 ^ j := Nat.pow_le_pow_right (by omega) (by omega)
  exact this
theorem word_eq {x y : Nat} (hx : x < 18446744073709551616) (hy : y < 18446744073709551616) (h : ∀ j, j < 64 → x.testBit j = y.testBit j) : x = y := by
  refine Nat.eq_of_testBit_eq fun j => ?_
  by_cases hj : j < 64
  · exact h j hj
  · rw [Nat.testBit_lt_two_pow (Nat.lt_of_lt_of_le hx (big j hj)), Nat.testBit_lt_two_pow (Nat.lt_of_lt_of_le hy (big j hj))]
theorem ext_has {s t : Set4} (h : ∀ i, i < 256 → s.has i = t.has i) : s = t := by
  refine ext_words fun k hk => word_eq (s.word_lt k) (t.word_lt k) fun j hj => ?_
  have := h (64 * k + j) (by omega)
  unfold has at this
  rw [show (64 * k + j) / 64 = k by omega, show (64 * k + j) % 64 = j by omega] at this
  simpa [show 64 * k + j < 256 by omega] using this
theorem has_ge (s : Set4) {i : Nat} (h : 256 ≤ i) : s.has i = false := by unfold has; simp; omega
/-- A word for each pair of words. -/
def zip (g : Nat → Nat → Nat) (hg : ∀ x y, x < 18446744073709551616 → y < 18446744073709551616 → g x y < 18446744073709551616) (s t : Set4) : Set4 :=
  ⟨g s.a t.a, g s.b t.b, g s.c t.c, g s.d t.d, hg _ _ s.ha t.ha, hg _ _ s.hb t.hb, hg _ _ s.hc t.hc, hg _ _ s.hd t.hd⟩
theorem word_zip (g hg) (s t : Set4) (k : Nat) : (zip g hg s t).word k = g (s.word k) (t.word k) := by
  unfold word zip; split; rfl; split; rfl; split <;> rfl
theorem or_lt (x y : Nat) (hx : x < 18446744073709551616) (hy : y < 18446744073709551616) : x ||| y < 18446744073709551616 := Nat.or_lt_two_pow (n := 64) hx hy
theorem and_lt (x y : Nat) (hx : x < 18446744073709551616) (_hy : y < 18446744073709551616) : x &&& y < 18446744073709551616 := Nat.lt_of_le_of_lt Nat.and_le_left hx
theorem less_lt (x y : Nat) (hx : x < 18446744073709551616) (_hy : y < 18446744073709551616) : x &&& (18446744073709551615 - y) < 18446744073709551616 := Nat.lt_of_le_of_lt Nat.and_le_left hx
def or : Set4 → Set4 → Set4 := zip (fun x y => x ||| y) or_lt
def and : Set4 → Set4 → Set4 := zip (fun x y => x &&& y) and_lt
def less : Set4 → Set4 → Set4 := zip (fun x y => x &&& (18446744073709551615 - y)) less_lt
theorem has_or (s t : Set4) (i : Nat) : (s.or t).has i = (s.has i || t.has i) := by
  unfold has or; rw [word_zip, Nat.testBit_or]; cases decide (i < 256) <;> simp
theorem has_and (s t : Set4) (i : Nat) : (s.and t).has i = (s.has i && t.has i) := by
  unfold has and; rw [word_zip, Nat.testBit_and]; cases decide (i < 256) <;> simp
theorem testBit_not64 (y j : Nat) (hy : y < 18446744073709551616) (hj : j < 64) : (18446744073709551615 - y).testBit j = !y.testBit j := by
  have := Nat.testBit_two_pow_sub_succ (n := 64) hy j
  rw [show (2 : Nat) ^ 64 - (y + 1) = 18446744073709551615 - y by omega] at this
  rw [this]; simp [hj]
theorem has_less (s t : Set4) (i : Nat) : (s.less t).has i = (s.has i && !t.has i) := by
  unfold has less; rw [word_zip, Nat.testBit_and, testBit_not64 _ _ (t.word_lt _) (Nat.mod_lt _ (by omega))]; cases decide (i < 256) <;> simp
/-- The number of a run of n bits, from f base on. -/
def tot (f : Nat → Bool) : Nat → Nat → Nat
  | _, 0 => 0
  | base, n + 1 => (f base).toNat + 2 * tot f (base + 1) n
theorem tot_lt (f : Nat → Bool) : ∀ n base, tot f base n < 2 ^ n
  | 0, _ => by simp [tot]
  | n + 1, base => by
    have := tot_lt f n (base + 1); unfold tot; rw [Nat.pow_succ]; have : (f base).toNat ≤ 1 := Bool.toNat_le _; omega
theorem testBit_tot (f : Nat → Bool) : ∀ n base j, (tot f base n).testBit j = (decide (j < n) && f (base + j))
  | 0, base, j => by simp [tot]
  | n + 1, base, 0 => by
    unfold tot; rw [Nat.testBit_zero]; cases f base <;> simp
  | n + 1, base, j + 1 => by
    have ih := testBit_tot f n (base + 1) j
    rw [Nat.testBit_succ]
    have e : tot f base (n + 1) / 2 = tot f (base + 1) n := by
      show ((f base).toNat + 2 * tot f (base + 1) n) / 2 = _
      have : (f base).toNat ≤ 1 := Bool.toNat_le _
      omega
    rw [e, ih, show base + (j + 1) = base + 1 + j by omega]
    simp
/-- The set of the numbers that f says yes to. -/
def of (f : Nat → Bool) : Set4 :=
  ⟨tot f 0 64, tot f 64 64, tot f 128 64, tot f 192 64, tot_lt f 64 _, tot_lt f 64 _, tot_lt f 64 _, tot_lt f 64 _⟩
theorem word_of (f : Nat → Bool) (k : Nat) (hk : k < 4) : (of f).word k = tot f (64 * k) 64 := by
  have : k = 0 ∨ k = 1 ∨ k = 2 ∨ k = 3 := by omega
  rcases this with rfl | rfl | rfl | rfl <;> rfl
theorem has_of (f : Nat → Bool) (i : Nat) : (of f).has i = (decide (i < 256) && f i) := by
  unfold has
  by_cases h : i < 256
  · rw [word_of f _ (by omega), testBit_tot, show 64 * (i / 64) + i % 64 = i by omega]
    simp [h, Nat.mod_lt]
  · simp [h]
theorem eq_of {s : Set4} {f : Nat → Bool} (h : ∀ i, i < 256 → s.has i = f i) : s = of f :=
  ext_has fun i hi => by rw [has_of, h i hi]; simp [hi]
theorem of_has (s : Set4) : of s.has = s := (eq_of fun _ _ => rfl).symm
theorem of_congr {f g : Nat → Bool} (h : ∀ i, i < 256 → f i = g i) : of f = of g := eq_of fun i hi => by rw [has_of, h i hi]; simp [hi]
/-- The word with a bit more, without a bit. -/
theorem testBit_pow (k j : Nat) : (2 ^ k).testBit j = decide (k = j) := by rw [Nat.testBit_two_pow]
def zero : Set4 := ⟨0, 0, 0, 0, by omega, by omega, by omega, by omega⟩
theorem has_zero (i : Nat) : zero.has i = false := by unfold has word zero; simp
def with' (s : Set4) (i : Nat) : Set4 := of fun j => decide (j = i) || s.has j
def without (s : Set4) (i : Nat) : Set4 := of fun j => !decide (j = i) && s.has j
def upto (n : Nat) : Set4 := of fun j => decide (j < n)
/-- How many of the first n bits are set. -/
def pop (x : Nat) : Nat → Nat
  | 0 => 0
  | n + 1 => pop x n + (x.testBit n).toNat
def cnt (s : Set4) : Nat → Nat
  | 0 => 0
  | n + 1 => cnt s n + (s.has n).toNat
theorem has_at (s : Set4) (k j : Nat) (hk : k < 4) (hj : j < 64) : s.has (64 * k + j) = (s.word k).testBit j := by
  unfold has; rw [show (64 * k + j) / 64 = k by omega, show (64 * k + j) % 64 = j by omega]; simp [show 64 * k + j < 256 by omega]
theorem word_with (s : Set4) (k j m : Nat) (hk : k < 4) (hj : j < 64) (hm : m < 4) : (s.with' (64 * k + j)).word m = if m = k then s.word k ||| 2 ^ j else s.word m := by
  refine word_eq (word_lt _ _) ?_ fun b hb => ?_
  · split
    · exact or_lt _ _ (s.word_lt _) (pow_lt64 j hj)
    · exact s.word_lt _
  · rw [← has_at _ m b hm hb]
    unfold with'
    rw [has_of, has_at _ m b hm hb]
    by_cases e : m = k
    · subst e; simp [Nat.testBit_or, testBit_pow, show 64 * m + b < 256 by omega]; rw [Bool.or_comm]; congr 1; simp; omega
    · simp [e, show 64 * m + b < 256 by omega]; omega
theorem word_without (s : Set4) (k j m : Nat) (hk : k < 4) (hj : j < 64) (hm : m < 4) : (s.without (64 * k + j)).word m = if m = k then s.word k &&& (18446744073709551615 - 2 ^ j) else s.word m := by
  refine word_eq (word_lt _ _) ?_ fun b hb => ?_
  · split
    · exact Nat.lt_of_le_of_lt Nat.and_le_left (s.word_lt _)
    · exact s.word_lt _
  · rw [← has_at _ m b hm hb]
    unfold without
    rw [has_of, has_at _ m b hm hb]
    by_cases e : m = k
    · subst e; simp only [if_true, Nat.testBit_and, testBit_not64 _ _ (pow_lt64 j hj) hb, testBit_pow, show 64 * m + b < 256 by omega, decide_true, Bool.true_and]; rw [Bool.and_comm]; congr 2; simp; omega
    · simp [e, show 64 * m + b < 256 by omega]; intro _; omega
theorem val_words (s : Set4) : s.val = .agg #[.int .u64 (s.word 0 : Int), .int .u64 (s.word 1 : Int), .int .u64 (s.word 2 : Int), .int .u64 (s.word 3 : Int)] := rfl
theorem tot_upto (N base n : Nat) : tot (fun j => decide (j < N)) base n = 2 ^ (min n (N - base)) - 1 := by
  refine Nat.eq_of_testBit_eq fun i => ?_
  rw [testBit_tot, Nat.testBit_two_pow_sub_one, ← Bool.decide_and]
  exact decide_eq_decide.2 (by omega)
theorem word_upto (N k : Nat) (hk : k < 4) : (upto N).word k = 2 ^ (min 64 (N - 64 * k)) - 1 := by
  unfold upto; rw [word_of _ _ hk, tot_upto]
theorem ones_wrap (r : Nat) (n : Int) (hn : n = (r : Int)) (hr : r < 64) : IntKind.u64.wrap (IntKind.u64.wrap (2 ^ n.toNat) - 1) = ((2 ^ r - 1 : Nat) : Int) := by
  subst hn
  rw [Int.toNat_natCast, pow_wrap r hr, IntKind.wrap_u64]
  have h := pow_lt64 r hr
  have h1 := Nat.two_pow_pos r
  generalize 2 ^ r = p at *
  omega
def empty (s : Set4) : Bool := s.a == 0 && (s.b == 0 && (s.c == 0 && s.d == 0))
theorem empty_iff (s : Set4) : s.empty = true ↔ s = zero := by
  unfold empty
  obtain ⟨a, b, c, d, _, _, _, _⟩ := s
  simp [zero]
def count (s : Set4) : Nat := pop s.a 64 + pop s.b 64 + pop s.c 64 + pop s.d 64
def list (s : Set4) : List Nat := (List.range 256).filter s.has
end Set4
end Go.Proofs.YtijagdpkclghnaaDoor
namespace Go.Proofs.YtijagdpkclghnaaDoor
open Go Go.RowKit
set_option maxRecDepth 100000
end Go.Proofs.YtijagdpkclghnaaDoor
namespace Go.Proofs.YtijagdpkclghnaaDoor
open Go Go.RowKit
set_option maxRecDepth 100000
/-- '==' on sets, as the walk spells it. -/
@[go_sem] theorem eq_set (w : World) (a0 a1 a2 a3 b0 b1 b2 b3 : Int) :
    (Op.equalIn 10000 63 (.agg #[.int .u64 a0, .int .u64 a1, .int .u64 a2, .int .u64 a3]) (.agg #[.int .u64 b0, .int .u64 b1, .int .u64 b2, .int .u64 b3])).run Tryd.prog w = .ok (a0 == b0 && (a1 == b1 && (a2 == b2 && a3 == b3))) w := by
  obtain ⟨i, hi, hs⟩ : ∃ i, Tryd.prog.info? 61 = some i ∧ i.size = 1 := by
    have h : (Tryd.prog.info? 61).map (·.size) = some 1 := by kernel_rfl
    cases e : Tryd.prog.info? 61 with
    | none => rw [e] at h; cases h
    | some i => rw [e] at h; exact ⟨i, rfl, by simpa using h⟩
  exact run_eq_array4 9998 63 61 i .u64 w Tryd.underlying63 Tryd.underlying61 hi hs a0 a1 a2 a3 b0 b1 b2 b3

end Go.Proofs.YtijagdpkclghnaaDoor
namespace Go.Proofs.YtijagdpkclghnaaDoor
open Go Go.RowKit
set_option maxRecDepth 100000
theorem may_yes (i : Nat) (w : World) (h : i < 256) : Calls Tryd.prog 52 #[.int .i64 (i : Int)] w fun e w' => e = .returned (.bool true) ∧ w = w' := by
  have h0 : decide ((0 : Int) ≤ (i : Int)) = true := by simp
  have h1 : decide ((i : Int) < 256) = true := by simp; omega
  go_enter Tryd.func52, Tryd.ntmps52
  go_wp2
  go_ret
  exact ⟨rfl, rfl⟩
theorem may_no (i : Int) (w : World) (h : i < 0 ∨ 256 ≤ i) : Calls Tryd.prog 52 #[.int .i64 i] w fun e w' => e = .returned (.bool false) ∧ w = w' := by
  rcases h with h | h
  · have h0 : decide (0 ≤ i) = false := by simp; omega
    go_enter Tryd.func52, Tryd.ntmps52
    go_wp2
    go_ret
    exact ⟨rfl, rfl⟩
  · have h0 : decide (0 ≤ i) = true := by simp; omega
    have h1 : decide (i < 256) = false := by simp; omega
    go_enter Tryd.func52, Tryd.ntmps52
    go_wp2
    go_ret
    exact ⟨rfl, rfl⟩
theorem bit_any (i k j : Nat) (w : World) (hi : i = 64 * k + j) (hk : k < 4) (hj : j < 64) : Calls Tryd.prog 53 #[.int .i64 (i : Int)] w fun e w' => e = .returned (.tuple #[.int .i64 (k : Int), .int .u64 ((2 ^ j : Nat) : Int)]) ∧ Below w.heap.size w w' := by
  have h0 : (0 : Int) ≤ (i : Int) := by omega
  have h1 : (i : Int) < 256 := by omega
  have H := Lib.hid hi
  clear hi
  go_enter Tryd.func53, Tryd.ntmps53
  go_wp2
  go_quiet (fail)
  go_wp2
  go_ret2
  have hi := H.out
  refine ⟨?_, (by repeat' (first | (with_reducible exact Below.refl _ _) | (with_reducible assumption) | (with_reducible refine Below.setCell ?_ ?_ _) | (with_reducible refine Below.ext ?_ _ ?_) | (with_reducible refine Below.alloc ?_ ?_ _) | (with_reducible refine Below.drew ?_) | (with_reducible refine Below.drewN ?_ _) | (with_reducible exact Nat.le_refl _) | (dsimp only; omega) | (simp <;> omega)))⟩
  show Ending.returned (.tuple #[.int .i64 ((i : Int) / 64), .int .u64 (IntKind.u64.wrap (2 ^ (i % 64)))]) = _
  rw [pow_wrap _ (Nat.mod_lt _ (by omega)), show (i : Int) / 64 = (k : Int) by omega, show i % 64 = j by omega]
theorem Has_no (s : Set4) (i : Int) (w : World) (h : i < 0 ∨ 256 ≤ i) : Calls Tryd.prog 30 #[s.val, .int .i64 i] w fun e w' => e = .returned (.bool false) ∧ Below w.heap.size w w' := by
  go_enter Tryd.func30, Tryd.ntmps30
  go_wp2_with (go_at_call 52; refine (may_no i _ h).mono ?_; rintro e w' ⟨rfl, rfl⟩)
  go_ret
  exact ⟨rfl, (by repeat' (first | (with_reducible exact Below.refl _ _) | (with_reducible assumption) | (with_reducible refine Below.setCell ?_ ?_ _) | (with_reducible refine Below.ext ?_ _ ?_) | (with_reducible refine Below.alloc ?_ ?_ _) | (with_reducible refine Below.drew ?_) | (with_reducible refine Below.drewN ?_ _) | (with_reducible exact Nat.le_refl _) | (dsimp only; omega) | (simp <;> omega)))⟩
set_option maxHeartbeats 1600000 in
theorem Has_yes (s : Set4) (i : Nat) (w : World) (h : i < 256) : Calls Tryd.prog 30 #[s.val, .int .i64 (i : Int)] w fun e w' => e = .returned (.bool (s.has i)) ∧ Below w.heap.size w w' := by
  obtain ⟨k, j, hk, hj, hi⟩ : ∃ k j, k < 4 ∧ j < 64 ∧ i = 64 * k + j := ⟨i / 64, i % 64, by omega, by omega, by omega⟩
  have hv := and_pow_ne (s.word k) j (s.word_lt k) hj
  rw [← Set4.has_at s k j hk hj, ← hi] at hv
  have HV := Lib.hid hv
  have HI := Lib.hid hi
  clear hv hi
  obtain rfl | rfl | rfl | rfl : k = 0 ∨ k = 1 ∨ k = 2 ∨ k = 3 := by omega
  all_goals
    go_enter Tryd.func30, Tryd.ntmps30
    go_wp2_with (go_at_call 52; refine (may_yes _ _ h).mono ?_; rintro e w' ⟨rfl, rfl⟩)
    refine Calls.pure_of (w.heap.size + 1) (by simp) (bit_any i _ j _ HI.out hk hj) ?_
    intro x
    go_wp2
    go_ret
    exact ⟨congrArg (fun z => Ending.returned (.bool z)) HV.out, (by repeat' (first | (with_reducible exact Below.refl _ _) | (with_reducible assumption) | (with_reducible refine Below.setCell ?_ ?_ _) | (with_reducible refine Below.ext ?_ _ ?_) | (with_reducible refine Below.alloc ?_ ?_ _) | (with_reducible refine Below.drew ?_) | (with_reducible refine Below.drewN ?_ _) | (with_reducible exact Nat.le_refl _) | (dsimp only; omega) | (simp <;> omega)))⟩
end Go.Proofs.YtijagdpkclghnaaDoor
namespace Go.Proofs.YtijagdpkclghnaaDoor
open Go Go.RowKit
set_option maxRecDepth 100000
theorem With_no (s : Set4) (i : Int) (w : World) (h : i < 0 ∨ 256 ≤ i) : Calls Tryd.prog 28 #[s.val, .int .i64 i] w fun e w' => e = .returned s.val ∧ Below w.heap.size w w' := by
  go_enter Tryd.func28, Tryd.ntmps28
  go_wp2_with (go_at_call 52; refine (may_no i _ h).mono ?_; rintro e w' ⟨rfl, rfl⟩)
  exact bodyPost_row rfl rfl (World.row.new' (by simp)) Tryd.underlying63 rfl (by kernel_rfl) rfl ⟨rfl, (by repeat' (first | (with_reducible exact Below.refl _ _) | (with_reducible assumption) | (with_reducible refine Below.setCell ?_ ?_ _) | (with_reducible refine Below.ext ?_ _ ?_) | (with_reducible refine Below.alloc ?_ ?_ _) | (with_reducible refine Below.drew ?_) | (with_reducible refine Below.drewN ?_ _) | (with_reducible exact Nat.le_refl _) | (dsimp only; omega) | (simp <;> omega)))⟩

theorem With_0 (s : Set4) (i j : Nat) (w : World) (hj : j < 64) (hi : i = 64 * 0 + j) : Calls Tryd.prog 28 #[s.val, .int .i64 (i : Int)] w fun e w' => e = .returned (s.with' i).val ∧ Below w.heap.size w w' := by
  have e0 := Set4.word_with s 0 j 0 (by omega) hj (by omega)
  have e1 := Set4.word_with s 0 j 1 (by omega) hj (by omega)
  have e2 := Set4.word_with s 0 j 2 (by omega) hj (by omega)
  have e3 := Set4.word_with s 0 j 3 (by omega) hj (by omega)
  have hv := u64_or_nat (s.word 0) (2 ^ j) (s.word_lt 0) (pow_lt64 j hj)
  rw [← hi] at e0 e1 e2 e3
  have E : Hid ((s.with' i).val = .agg #[.int .u64 (bits .or .u64 (s.word 0 : Int) ((2 ^ j : Nat) : Int)), .int .u64 (s.b : Int), .int .u64 (s.c : Int), .int .u64 (s.d : Int)]) := by
    show Value.agg #[.int .u64 ((s.with' i).word 0 : Int), .int .u64 ((s.with' i).word 1 : Int), .int .u64 ((s.with' i).word 2 : Int), .int .u64 ((s.with' i).word 3 : Int)] = _
    rw [e0, e1, e2, e3]
    simp only [Nat.reduceEqDiff, if_false, if_true, ← hv]
    rfl
  have hlt : i < 256 := by omega
  have HI := Lib.hid hi
  clear e0 e1 e2 e3 hv hi
  go_enter Tryd.func28, Tryd.ntmps28
  go_wp2_with (go_at_call 52; refine (may_yes _ _ hlt).mono ?_; rintro e w' ⟨rfl, rfl⟩)
  refine Calls.pure_of (w.heap.size + 2) (by simp) (bit_any i 0 j _ HI.out (by omega) hj) ?_
  intro x
  go_wp2
  refine bodyPost_row rfl rfl (((((World.row.ext (World.row.new' (by simp)) x (by simp)).other _ _ (by simp)).set 0 _ |>.set 1 _).set 2 _).set 3 _) Tryd.underlying63 rfl (by kernel_rfl) rfl ⟨?_, (by repeat' (first | (with_reducible exact Below.refl _ _) | (with_reducible assumption) | (with_reducible refine Below.setCell ?_ ?_ _) | (with_reducible refine Below.ext ?_ _ ?_) | (with_reducible refine Below.alloc ?_ ?_ _) | (with_reducible refine Below.drew ?_) | (with_reducible refine Below.drewN ?_ _) | (with_reducible exact Nat.le_refl _) | (dsimp only; omega) | (simp <;> omega)))⟩
  rw [E.out]
  rfl

theorem With_1 (s : Set4) (i j : Nat) (w : World) (hj : j < 64) (hi : i = 64 * 1 + j) : Calls Tryd.prog 28 #[s.val, .int .i64 (i : Int)] w fun e w' => e = .returned (s.with' i).val ∧ Below w.heap.size w w' := by
  have e0 := Set4.word_with s 1 j 0 (by omega) hj (by omega)
  have e1 := Set4.word_with s 1 j 1 (by omega) hj (by omega)
  have e2 := Set4.word_with s 1 j 2 (by omega) hj (by omega)
  have e3 := Set4.word_with s 1 j 3 (by omega) hj (by omega)
  have hv := u64_or_nat (s.word 1) (2 ^ j) (s.word_lt 1) (pow_lt64 j hj)
  rw [← hi] at e0 e1 e2 e3
  have E : Hid ((s.with' i).val = .agg #[.int .u64 (s.a : Int), .int .u64 (bits .or .u64 (s.word 1 : Int) ((2 ^ j : Nat) : Int)), .int .u64 (s.c : Int), .int .u64 (s.d : Int)]) := by
    show Value.agg #[.int .u64 ((s.with' i).word 0 : Int), .int .u64 ((s.with' i).word 1 : Int), .int .u64 ((s.with' i).word 2 : Int), .int .u64 ((s.with' i).word 3 : Int)] = _
    rw [e0, e1, e2, e3]
    simp only [Nat.reduceEqDiff, if_false, if_true, ← hv]
    rfl
  have hlt : i < 256 := by omega
  have HI := Lib.hid hi
  clear e0 e1 e2 e3 hv hi
  go_enter Tryd.func28, Tryd.ntmps28
  go_wp2_with (go_at_call 52; refine (may_yes _ _ hlt).mono ?_; rintro e w' ⟨rfl, rfl⟩)
  refine Calls.pure_of (w.heap.size + 2) (by simp) (bit_any i 1 j _ HI.out (by omega) hj) ?_
  intro x
  go_wp2
  refine bodyPost_row rfl rfl (((((World.row.ext (World.row.new' (by simp)) x (by simp)).other _ _ (by simp)).set 0 _ |>.set 1 _).set 2 _).set 3 _) Tryd.underlying63 rfl (by kernel_rfl) rfl ⟨?_, (by repeat' (first | (with_reducible exact Below.refl _ _) | (with_reducible assumption) | (with_reducible refine Below.setCell ?_ ?_ _) | (with_reducible refine Below.ext ?_ _ ?_) | (with_reducible refine Below.alloc ?_ ?_ _) | (with_reducible refine Below.drew ?_) | (with_reducible refine Below.drewN ?_ _) | (with_reducible exact Nat.le_refl _) | (dsimp only; omega) | (simp <;> omega)))⟩
  rw [E.out]
  rfl

theorem With_2 (s : Set4) (i j : Nat) (w : World) (hj : j < 64) (hi : i = 64 * 2 + j) : Calls Tryd.prog 28 #[s.val, .int .i64 (i : Int)] w fun e w' => e = .returned (s.with' i).val ∧ Below w.heap.size w w' := by
  have e0 := Set4.word_with s 2 j 0 (by omega) hj (by omega)
  have e1 := Set4.word_with s 2 j 1 (by omega) hj (by omega)
  have e2 := Set4.word_with s 2 j 2 (by omega) hj (by omega)
  have e3 := Set4.word_with s 2 j 3 (by omega) hj (by omega)
  have hv := u64_or_nat (s.word 2) (2 ^ j) (s.word_lt 2) (pow_lt64 j hj)
  rw [← hi] at e0 e1 e2 e3
  have E : Hid ((s.with' i).val = .agg #[.int .u64 (s.a : Int), .int .u64 (s.b : Int), .int .u64 (bits .or .u64 (s.word 2 : Int) ((2 ^ j : Nat) : Int)), .int .u64 (s.d : Int)]) := by
    show Value.agg #[.int .u64 ((s.with' i).word 0 : Int), .int .u64 ((s.with' i).word 1 : Int), .int .u64 ((s.with' i).word 2 : Int), .int .u64 ((s.with' i).word 3 : Int)] = _
    rw [e0, e1, e2, e3]
    simp only [Nat.reduceEqDiff, if_false, if_true, ← hv]
    rfl
  have hlt : i < 256 := by omega
  have HI := Lib.hid hi
  clear e0 e1 e2 e3 hv hi
  go_enter Tryd.func28, Tryd.ntmps28
  go_wp2_with (go_at_call 52; refine (may_yes _ _ hlt).mono ?_; rintro e w' ⟨rfl, rfl⟩)
  refine Calls.pure_of (w.heap.size + 2) (by simp) (bit_any i 2 j _ HI.out (by omega) hj) ?_
  intro x
  go_wp2
  refine bodyPost_row rfl rfl (((((World.row.ext (World.row.new' (by simp)) x (by simp)).other _ _ (by simp)).set 0 _ |>.set 1 _).set 2 _).set 3 _) Tryd.underlying63 rfl (by kernel_rfl) rfl ⟨?_, (by repeat' (first | (with_reducible exact Below.refl _ _) | (with_reducible assumption) | (with_reducible refine Below.setCell ?_ ?_ _) | (with_reducible refine Below.ext ?_ _ ?_) | (with_reducible refine Below.alloc ?_ ?_ _) | (with_reducible refine Below.drew ?_) | (with_reducible refine Below.drewN ?_ _) | (with_reducible exact Nat.le_refl _) | (dsimp only; omega) | (simp <;> omega)))⟩
  rw [E.out]
  rfl

theorem With_3 (s : Set4) (i j : Nat) (w : World) (hj : j < 64) (hi : i = 64 * 3 + j) : Calls Tryd.prog 28 #[s.val, .int .i64 (i : Int)] w fun e w' => e = .returned (s.with' i).val ∧ Below w.heap.size w w' := by
  have e0 := Set4.word_with s 3 j 0 (by omega) hj (by omega)
  have e1 := Set4.word_with s 3 j 1 (by omega) hj (by omega)
  have e2 := Set4.word_with s 3 j 2 (by omega) hj (by omega)
  have e3 := Set4.word_with s 3 j 3 (by omega) hj (by omega)
  have hv := u64_or_nat (s.word 3) (2 ^ j) (s.word_lt 3) (pow_lt64 j hj)
  rw [← hi] at e0 e1 e2 e3
  have E : Hid ((s.with' i).val = .agg #[.int .u64 (s.a : Int), .int .u64 (s.b : Int), .int .u64 (s.c : Int), .int .u64 (bits .or .u64 (s.word 3 : Int) ((2 ^ j : Nat) : Int))]) := by
    show Value.agg #[.int .u64 ((s.with' i).word 0 : Int), .int .u64 ((s.with' i).word 1 : Int), .int .u64 ((s.with' i).word 2 : Int), .int .u64 ((s.with' i).word 3 : Int)] = _
    rw [e0, e1, e2, e3]
    simp only [Nat.reduceEqDiff, if_false, if_true, ← hv]
    rfl
  have hlt : i < 256 := by omega
  have HI := Lib.hid hi
  clear e0 e1 e2 e3 hv hi
  go_enter Tryd.func28, Tryd.ntmps28
  go_wp2_with (go_at_call 52; refine (may_yes _ _ hlt).mono ?_; rintro e w' ⟨rfl, rfl⟩)
  refine Calls.pure_of (w.heap.size + 2) (by simp) (bit_any i 3 j _ HI.out (by omega) hj) ?_
  intro x
  go_wp2
  refine bodyPost_row rfl rfl (((((World.row.ext (World.row.new' (by simp)) x (by simp)).other _ _ (by simp)).set 0 _ |>.set 1 _).set 2 _).set 3 _) Tryd.underlying63 rfl (by kernel_rfl) rfl ⟨?_, (by repeat' (first | (with_reducible exact Below.refl _ _) | (with_reducible assumption) | (with_reducible refine Below.setCell ?_ ?_ _) | (with_reducible refine Below.ext ?_ _ ?_) | (with_reducible refine Below.alloc ?_ ?_ _) | (with_reducible refine Below.drew ?_) | (with_reducible refine Below.drewN ?_ _) | (with_reducible exact Nat.le_refl _) | (dsimp only; omega) | (simp <;> omega)))⟩
  rw [E.out]
  rfl

theorem With_yes (s : Set4) (i : Nat) (w : World) (h : i < 256) : Calls Tryd.prog 28 #[s.val, .int .i64 (i : Int)] w fun e w' => e = .returned (s.with' i).val ∧ Below w.heap.size w w' := by
  obtain ⟨k, j, hk, hj, hi⟩ : ∃ k j, k < 4 ∧ j < 64 ∧ i = 64 * k + j := ⟨i / 64, i % 64, by omega, by omega, by omega⟩
  obtain rfl | rfl | rfl | rfl : k = 0 ∨ k = 1 ∨ k = 2 ∨ k = 3 := by omega
  · exact With_0 s i j w hj hi
  · exact With_1 s i j w hj hi
  · exact With_2 s i j w hj hi
  · exact With_3 s i j w hj hi

end Go.Proofs.YtijagdpkclghnaaDoor
namespace Go.Proofs.YtijagdpkclghnaaDoor
open Go Go.RowKit
set_option maxRecDepth 100000

end Go.Proofs.YtijagdpkclghnaaDoor
namespace Go.Proofs.YtijagdpkclghnaaDoor
open Go Go.RowKit
set_option maxRecDepth 100000
def ints (xs : List Int) : List Value := xs.map (Value.int .i64)
theorem ints_get {xs : List Int} {k : Nat} (h : k < xs.length) : (ints xs)[k]? = some (.int .i64 xs[k]) := by unfold ints; simp [h]
def Set4.ofInts (xs : List Int) : Set4 := Set4.of fun j => decide ((j : Int) ∈ xs)
theorem Set4.ofInts_snoc_no (xs : List Int) (i : Int) (h : i < 0 ∨ 256 ≤ i) : Set4.ofInts (xs ++ [i]) = Set4.ofInts xs :=
  Set4.of_congr fun j hj => decide_eq_decide.2 (by simp; omega)
theorem Set4.ofInts_snoc_yes (xs : List Int) (i : Nat) (h : i < 256) : Set4.ofInts (xs ++ [(i : Int)]) = (Set4.ofInts xs).with' i := by
  refine Set4.of_congr fun j hj => ?_
  rw [Set4.ofInts, Set4.has_of, ← Bool.decide_and, ← Bool.decide_or]
  refine decide_eq_decide.2 ⟨fun h => ?_, fun h => ?_⟩
  · rcases List.mem_append.1 h with h | h
    · exact .inr ⟨hj, h⟩
    · exact .inl (by have := List.mem_singleton.1 h; omega)
  · rcases h with h | h
    · subst h; simp
    · exact List.mem_append_left _ h.2
theorem Set4.ofInts_nil : Set4.ofInts [] = Set4.zero := (Set4.eq_of fun i _ => by rw [Set4.has_zero]; simp).symm
theorem take_snoc {α : Type} (xs : List α) (k : Nat) (h : k < xs.length) : xs.take (k + 1) = xs.take k ++ [xs[k]] := List.take_succ_eq_append_getElem h
end Go.Proofs.YtijagdpkclghnaaDoor
/- How many bits of a word are set: the way of math/bits.OnesCount64. Plain facts, no program in them. -/
namespace Go.Proofs.YtijagdpkclghnaaDoor
open Go
namespace Pop
theorem and_split (c a b m k : Nat) (hb : b < 2 ^ c) (hk : k < 2 ^ c) : (2 ^ c * a + b) &&& (2 ^ c * m + k) = 2 ^ c * (a &&& m) + (b &&& k) := by
  have h1 : ((2 ^ c * a + b) &&& (2 ^ c * m + k)) / 2 ^ c = a &&& m := by
    rw [Nat.and_div_two_pow, Nat.mul_add_div (Nat.two_pow_pos c), Nat.mul_add_div (Nat.two_pow_pos c), Nat.div_eq_of_lt hb, Nat.div_eq_of_lt hk]; simp
  have h2 : ((2 ^ c * a + b) &&& (2 ^ c * m + k)) % 2 ^ c = b &&& k := by
    rw [Nat.and_mod_two_pow, Nat.mul_add_mod, Nat.mul_add_mod, Nat.mod_eq_of_lt hb, Nat.mod_eq_of_lt hk]
  have h3 := Nat.div_add_mod ((2 ^ c * a + b) &&& (2 ^ c * m + k)) (2 ^ c)
  rw [h1, h2] at h3; exact h3.symm
/-- The masks of n digits. -/
def mask (B d : Nat) : Nat → Nat
  | 0 => 0
  | n + 1 => B * mask B d n + d
def F : Nat → Nat → Nat
  | 0, _ => 0
  | n + 1, x => 4 * F n (x / 4) + (x % 4 / 2 + x % 2)
theorem F_s (n x : Nat) : F (n + 1) x = 4 * F n (x / 4) + (x % 4 / 2 + x % 2) := rfl
def G : Nat → Nat → Nat
  | 0, _ => 0
  | n + 1, x => 16 * G n (x / 16) + (x % 16 / 4 + x % 4)
theorem G_s (n x : Nat) : G (n + 1) x = 16 * G n (x / 16) + (x % 16 / 4 + x % 4) := rfl
def K : Nat → Nat → Nat
  | 0, _ => 0
  | n + 1, x => 256 * K n (x / 256) + (x % 256 / 16 + x % 16)
theorem K_s (n x : Nat) : K (n + 1) x = 256 * K n (x / 256) + (x % 256 / 16 + x % 16) := rfl
theorem stageA : ∀ n x, (x / 2 &&& mask 4 1 n) + (x &&& mask 4 1 n) = F n x
  | 0, x => by simp [mask, F]
  | n + 1, x => by
    have ih := stageA n (x / 4)
    have e1 : x / 2 = 2 ^ 2 * (x / 4 / 2) + (2 * (x / 4 % 2) + x % 4 / 2) := by omega
    have e2 : x = 2 ^ 2 * (x / 4) + x % 4 := by omega
    have m : mask 4 1 (n + 1) = 2 ^ 2 * mask 4 1 n + 1 := rfl
    have p1 : (x / 2 &&& mask 4 1 (n + 1)) = 2 ^ 2 * (x / 4 / 2 &&& mask 4 1 n) + x % 4 / 2 := by
      rw [e1, m, and_split _ _ _ _ _ (by omega) (by omega), Nat.and_one_is_mod]; omega
    have p2 : (x &&& mask 4 1 (n + 1)) = 2 ^ 2 * (x / 4 &&& mask 4 1 n) + x % 2 := by
      rw [m]; conv => lhs; rw [e2]
      rw [and_split _ _ _ _ _ (by omega) (by omega), Nat.and_one_is_mod]; omega
    rw [p1, p2, F_s]; omega
theorem and_three (b : Nat) : b &&& 3 = b % 4 := Nat.and_two_pow_sub_one_eq_mod b 2
theorem and_fifteen (b : Nat) : b &&& 15 = b % 16 := Nat.and_two_pow_sub_one_eq_mod b 4
theorem stageB : ∀ n x, (x / 4 &&& mask 16 3 n) + (x &&& mask 16 3 n) = G n x
  | 0, x => by simp [mask, G]
  | n + 1, x => by
    have ih := stageB n (x / 16)
    have e1 : x / 4 = 2 ^ 4 * (x / 16 / 4) + (4 * (x / 16 % 4) + x % 16 / 4) := by omega
    have e2 : x = 2 ^ 4 * (x / 16) + x % 16 := by omega
    have m : mask 16 3 (n + 1) = 2 ^ 4 * mask 16 3 n + 3 := rfl
    have p1 : (x / 4 &&& mask 16 3 (n + 1)) = 2 ^ 4 * (x / 16 / 4 &&& mask 16 3 n) + x % 16 / 4 := by
      rw [e1, m, and_split _ _ _ _ _ (by omega) (by omega), and_three]; omega
    have p2 : (x &&& mask 16 3 (n + 1)) = 2 ^ 4 * (x / 16 &&& mask 16 3 n) + x % 4 := by
      rw [m]; conv => lhs; rw [e2]
      rw [and_split _ _ _ _ _ (by omega) (by omega), and_three]; omega
    rw [p1, p2, G_s]; omega
/-- All of n digits to the base 16 are 4 at most. -/
def Low : Nat → Nat → Prop
  | 0, x => x = 0
  | n + 1, x => x % 16 ≤ 4 ∧ Low n (x / 16)
theorem stageC : ∀ n x, Low (2 * n) x → (x / 16 + x) &&& mask 256 15 n = K n x
  | 0, x, _ => by simp [mask, K]
  | n + 1, x, h => by
    obtain ⟨h0, h1, h2⟩ : x % 16 ≤ 4 ∧ x / 16 % 16 ≤ 4 ∧ Low (2 * n) (x / 16 / 16) := h
    have h3 : x / 16 / 16 % 16 ≤ 4 := by
      cases n with
      | zero => have : x / 16 / 16 = 0 := h2; omega
      | succ n => exact h2.1
    have h4 : Low (2 * n) (x / 256) := by rw [show x / 256 = x / 16 / 16 by omega]; exact h2
    have ih := stageC n (x / 256) h4
    rw [show x / 16 / 16 = x / 256 by omega] at h3
    obtain ⟨q, c, l, hq, hc, hl, hx⟩ : ∃ q c l, q = x / 256 ∧ c = x / 16 % 16 ∧ l = x % 16 ∧ x = 256 * q + 16 * c + l := ⟨_, _, _, rfl, rfl, rfl, by omega⟩
    rw [← hq] at h3 ih
    rw [← hc] at h1
    rw [← hl] at h0
    clear hq hc hl h2 h4
    subst hx
    have d1 : (256 * q + 16 * c + l) / 256 = q := by omega
    have d2 : (256 * q + 16 * c + l) % 256 / 16 = c := by omega
    have d3 : (256 * q + 16 * c + l) % 16 = l := by omega
    have e : (256 * q + 16 * c + l) / 16 + (256 * q + 16 * c + l) = 2 ^ 8 * (q / 16 + q) + (16 * (q % 16) + c + 16 * c + l) := by omega
    have m : mask 256 15 (n + 1) = 2 ^ 8 * mask 256 15 n + 15 := rfl
    rw [e, m, and_split _ _ _ _ _ (by omega) (by omega), and_fifteen, ih, K_s, d1, d2, d3]; omega
def popR : Nat → Nat → Nat
  | 0, _ => 0
  | n + 1, x => x % 2 + popR n (x / 2)
theorem popR_s (n x : Nat) : popR (n + 1) x = x % 2 + popR n (x / 2) := rfl
theorem popR_le : ∀ n x, popR n x ≤ n
  | 0, _ => Nat.le_refl _
  | n + 1, x => by have := popR_le n (x / 2); rw [popR_s]; omega
theorem popR_add : ∀ m n x, popR (m + n) x = popR m x + popR n (x / 2 ^ m)
  | 0, n, x => by simp [popR]
  | m + 1, n, x => by
    have := popR_add m n (x / 2)
    rw [show m + 1 + n = (m + n) + 1 by omega]
    rw [popR_s, popR_s, this, Nat.div_div_eq_div_mul, Nat.pow_succ']; omega
theorem pop_eq (x : Nat) : ∀ n, Set4.pop x n = popR n x
  | 0 => rfl
  | n + 1 => by
    rw [popR_add n 1 x]
    show Set4.pop x n + (x.testBit n).toNat = _
    rw [pop_eq x n]
    have : (x.testBit n).toNat = x / 2 ^ n % 2 := by
      rw [Nat.testBit_eq_decide_div_mod_eq]
      by_cases h : x / 2 ^ n % 2 = 1
      · rw [decide_eq_true h]; show 1 = _; omega
      · rw [decide_eq_false h]; show 0 = _; omega
    rw [this, popR_s]; simp [popR]
/-- Nibble by nibble. -/
def H : Nat → Nat → Nat
  | 0, _ => 0
  | n + 1, x => 16 * H n (x / 16) + popR 4 (x % 16)
theorem H_s (n x : Nat) : H (n + 1) x = 16 * H n (x / 16) + popR 4 (x % 16) := rfl
theorem pop4 : ∀ r, r < 16 → popR 4 r = r % 4 / 2 + r % 2 + (r / 4 % 4 / 2 + r / 4 % 2) := by decide
theorem GF : ∀ n x, G n (F (2 * n) x) = H n x
  | 0, _ => rfl
  | n + 1, x => by
    have ih := GF n (x / 16)
    obtain ⟨q, a, b, hq, ha, hb, hx⟩ : ∃ q a b, q = x / 16 ∧ a < 4 ∧ b < 4 ∧ x = 16 * q + 4 * a + b := ⟨_, x / 4 % 4, x % 4, rfl, by omega, by omega, by omega⟩
    rw [← hq] at ih
    clear hq
    subst hx
    have d1 : (16 * q + 4 * a + b) / 4 = 4 * q + a := by omega
    have d2 : (16 * q + 4 * a + b) % 4 = b := by omega
    have d3 : (4 * q + a) / 4 = q := by omega
    have d4 : (4 * q + a) % 4 = a := by omega
    have d5 : (16 * q + 4 * a + b) % 2 = b % 2 := by omega
    have d6 : (4 * q + a) % 2 = a % 2 := by omega
    have d7 : (16 * q + 4 * a + b) / 16 = q := by omega
    have d8 : (16 * q + 4 * a + b) % 16 = 4 * a + b := by omega
    have e : F (2 * (n + 1)) (16 * q + 4 * a + b) = 16 * F (2 * n) q + (4 * (a / 2 + a % 2) + (b / 2 + b % 2)) := by
      show F (2 * n + 1 + 1) _ = _
      rw [F_s, F_s, d1, d2, d3, d4, d5, d6]; omega
    have hA : a / 2 + a % 2 ≤ 2 := by omega
    have hB : b / 2 + b % 2 ≤ 2 := by omega
    have p : popR 4 (4 * a + b) = (a / 2 + a % 2) + (b / 2 + b % 2) := by
      rw [pop4 _ (by omega), show (4 * a + b) % 4 = b by omega, show (4 * a + b) % 2 = b % 2 by omega, show (4 * a + b) / 4 = a by omega, show a % 4 = a by omega]; omega
    rw [e, G_s, H_s, d7, d8, p]
    generalize a / 2 + a % 2 = A at *
    generalize b / 2 + b % 2 = B at *
    rw [show (16 * F (2 * n) q + (4 * A + B)) / 16 = F (2 * n) q by omega, ih, show (16 * F (2 * n) q + (4 * A + B)) % 16 / 4 = A by omega, show (16 * F (2 * n) q + (4 * A + B)) % 4 = B by omega]
theorem low_H : ∀ n x, Low n (H n x)
  | 0, _ => rfl
  | n + 1, x => by
    have := popR_le 4 (x % 16)
    refine ⟨by rw [H_s]; omega, ?_⟩
    rw [show H (n + 1) x / 16 = H n (x / 16) by rw [H_s]; omega]
    exact low_H n _
def L : Nat → Nat → Nat
  | 0, _ => 0
  | n + 1, x => 256 * L n (x / 256) + popR 8 (x % 256)
theorem L_s (n x : Nat) : L (n + 1) x = 256 * L n (x / 256) + popR 8 (x % 256) := rfl
theorem pop8 (x : Nat) : popR 8 (x % 256) = popR 4 (x % 16) + popR 4 (x / 16 % 16) := by
  have h := popR_add 4 4 (x % 256)
  rw [show 4 + 4 = 8 by rfl] at h
  rw [h, show x % 256 / 2 ^ 4 = x / 16 % 16 by omega]
  have h2 := popR_add 4 0 (x % 256)
  have e : popR 4 (x % 256) = popR 4 (x % 16) := by
    simp only [popR]; omega
  rw [e]
theorem KH : ∀ n x, K n (H (2 * n) x) = L n x
  | 0, _ => rfl
  | n + 1, x => by
    have ih := KH n (x / 256)
    have l0 := popR_le 4 (x % 16)
    have l1 := popR_le 4 (x / 16 % 16)
    have e : H (2 * (n + 1)) x = 256 * H (2 * n) (x / 256) + (16 * popR 4 (x / 16 % 16) + popR 4 (x % 16)) := by
      show 16 * (16 * H (2 * n) (x / 16 / 16) + popR 4 (x / 16 % 16)) + popR 4 (x % 16) = _
      rw [show x / 16 / 16 = x / 256 by omega]; omega
    rw [e, K_s, L_s]
    rw [show (256 * H (2 * n) (x / 256) + (16 * popR 4 (x / 16 % 16) + popR 4 (x % 16))) / 256 = H (2 * n) (x / 256) by omega, ih, pop8]
    omega
theorem popR_bytes (n x : Nat) : popR (8 + n) x = popR 8 (x % 256) + popR n (x / 256) := by
  rw [popR_add 8 n x]
  have e : popR 8 (x % 256) = popR 8 x := by simp only [popR]; omega
  rw [e]
theorem div256 (X c : Nat) (h : c < 256) : (256 * X + c) / 256 = X := by omega
theorem mod128 (X c : Nat) (h : c < 128) : (256 * X + c) % 128 = c := by omega
theorem sumY (c0 c1 c2 c3 c4 c5 c6 c7 : Nat) : 256 * (256 * (256 * (256 * (256 * (256 * (256 * (c7) + (c6)) + (c5)) + (c4)) + (c3)) + (c2)) + (c1)) + (c0) + (256 * (256 * (256 * (256 * (256 * (256 * (c7) + (c6)) + (c5)) + (c4)) + (c3)) + (c2)) + (c1)) = 256 * (256 * (256 * (256 * (256 * (256 * (256 * (c7) + (c6+c7)) + (c5+c6)) + (c4+c5)) + (c3+c4)) + (c2+c3)) + (c1+c2)) + (c0+c1) := by omega
theorem sumZ (c0 c1 c2 c3 c4 c5 c6 c7 : Nat) : 256 * (256 * (256 * (256 * (256 * (256 * (256 * (c7) + (c6+c7)) + (c5+c6)) + (c4+c5)) + (c3+c4)) + (c2+c3)) + (c1+c2)) + (c0+c1) + (256 * (256 * (256 * (256 * (256 * (c7) + (c6+c7)) + (c5+c6)) + (c4+c5)) + (c3+c4)) + (c2+c3)) = 256 * (256 * (256 * (256 * (256 * (256 * (256 * (c7) + (c6+c7)) + (c5+c6+c7)) + (c4+c5+c6+c7)) + (c3+c4+c5+c6)) + (c2+c3+c4+c5)) + (c1+c2+c3+c4)) + (c0+c1+c2+c3) := by omega
theorem sumT (c0 c1 c2 c3 c4 c5 c6 c7 : Nat) : 256 * (256 * (256 * (256 * (256 * (256 * (256 * (c7) + (c6+c7)) + (c5+c6+c7)) + (c4+c5+c6+c7)) + (c3+c4+c5+c6)) + (c2+c3+c4+c5)) + (c1+c2+c3+c4)) + (c0+c1+c2+c3) + (256 * (256 * (256 * (c7) + (c6+c7)) + (c5+c6+c7)) + (c4+c5+c6+c7)) = 256 * (256 * (256 * (256 * (256 * (256 * (256 * (c7) + (c6+c7)) + (c5+c6+c7)) + (c4+c5+c6+c7)) + (c3+c4+c5+c6+c7)) + (c2+c3+c4+c5+c6+c7)) + (c1+c2+c3+c4+c5+c6+c7)) + (c0+c1+c2+c3+c4+c5+c6+c7) := by omega
theorem lt63 (a7 a6 a5 a4 a3 a2 a1 a0 : Nat) (h7 : a7 ≤ 64) (h6 : a6 ≤ 64) (h5 : a5 ≤ 64) (h4 : a4 ≤ 64) (h3 : a3 ≤ 64) (h2 : a2 ≤ 64) (h1 : a1 ≤ 64) (h0 : a0 ≤ 64) : 256 * (256 * (256 * (256 * (256 * (256 * (256 * (a7) + (a6)) + (a5)) + (a4)) + (a3)) + (a2)) + (a1)) + (a0) < 9223372036854775808 := by omega
theorem ends (c0 c1 c2 c3 c4 c5 c6 c7 : Nat) (h0 : c0 ≤ 8) (h1 : c1 ≤ 8) (h2 : c2 ≤ 8) (h3 : c3 ≤ 8) (h4 : c4 ≤ 8) (h5 : c5 ≤ 8) (h6 : c6 ≤ 8) (h7 : c7 ≤ 8) (w y z t : Nat)
    (hw : w = 256 * (256 * (256 * (256 * (256 * (256 * (256 * c7 + c6) + c5) + c4) + c3) + c2) + c1) + c0)
    (hy : y = w + w / 256) (hz : z = y + y / 65536) (ht : t = z + z / 4294967296) : t % 128 = c0 + c1 + c2 + c3 + c4 + c5 + c6 + c7 ∧ t < 9223372036854775808 ∧ z < 9223372036854775808 ∧ y < 9223372036854775808 ∧ w < 9223372036854775808 := by
  have e1 : w / 256 = 256 * (256 * (256 * (256 * (256 * (256 * (c7) + (c6)) + (c5)) + (c4)) + (c3)) + (c2)) + (c1) := by rw [hw, div256 _ _ (by clear hw hy hz ht; omega)]
  have y1 : y = 256 * (256 * (256 * (256 * (256 * (256 * (256 * (c7) + (c6+c7)) + (c5+c6)) + (c4+c5)) + (c3+c4)) + (c2+c3)) + (c1+c2)) + (c0+c1) := by rw [hy, e1, hw]; exact sumY _ _ _ _ _ _ _ _
  have e2 : y / 65536 = 256 * (256 * (256 * (256 * (256 * (c7) + (c6+c7)) + (c5+c6)) + (c4+c5)) + (c3+c4)) + (c2+c3) := by rw [y1, show 65536 = 256 * 256 by rfl, ← Nat.div_div_eq_div_mul, div256 _ _ (by clear hw hy hz ht e1 y1; omega), div256 _ _ (by clear hw hy hz ht e1 y1; omega)]
  have z1 : z = 256 * (256 * (256 * (256 * (256 * (256 * (256 * (c7) + (c6+c7)) + (c5+c6+c7)) + (c4+c5+c6+c7)) + (c3+c4+c5+c6)) + (c2+c3+c4+c5)) + (c1+c2+c3+c4)) + (c0+c1+c2+c3) := by rw [hz, e2, y1]; exact sumZ _ _ _ _ _ _ _ _
  have e3 : z / 4294967296 = 256 * (256 * (256 * (c7) + (c6+c7)) + (c5+c6+c7)) + (c4+c5+c6+c7) := by
    rw [z1, show 4294967296 = 256 * 256 * 256 * 256 by rfl, ← Nat.div_div_eq_div_mul, ← Nat.div_div_eq_div_mul, ← Nat.div_div_eq_div_mul]
    clear hw hy hz ht e1 y1 e2 z1
    rw [div256 _ _ (by omega), div256 _ _ (by omega), div256 _ _ (by omega), div256 _ _ (by omega)]
  have t1 : t = 256 * (256 * (256 * (256 * (256 * (256 * (256 * (c7) + (c6+c7)) + (c5+c6+c7)) + (c4+c5+c6+c7)) + (c3+c4+c5+c6+c7)) + (c2+c3+c4+c5+c6+c7)) + (c1+c2+c3+c4+c5+c6+c7)) + (c0+c1+c2+c3+c4+c5+c6+c7) := by rw [ht, e3, z1]; exact sumT _ _ _ _ _ _ _ _
  rw [t1, z1, y1, hw]
  clear e1 e2 e3 ht hz hy y1 z1 t1 hw
  exact ⟨mod128 _ _ (by omega), lt63 _ _ _ _ _ _ _ _ (by omega) (by omega) (by omega) (by omega) (by omega) (by omega) (by omega) (by omega), lt63 _ _ _ _ _ _ _ _ (by omega) (by omega) (by omega) (by omega) (by omega) (by omega) (by omega) (by omega), lt63 _ _ _ _ _ _ _ _ (by omega) (by omega) (by omega) (by omega) (by omega) (by omega) (by omega) (by omega), lt63 _ _ _ _ _ _ _ _ (by omega) (by omega) (by omega) (by omega) (by omega) (by omega) (by omega) (by omega)⟩
theorem mask0 : mask 4 1 32 = 6148914691236517205 := by decide
theorem mask1 : mask 16 3 16 = 3689348814741910323 := by decide
theorem mask2 : mask 256 15 8 = 1085102592571150095 := by decide
/-- The stages as the walk spells them. -/
def sA (x : Int) : Int := IntKind.u64.wrap (bits .and .u64 (x / 2) 6148914691236517205 + bits .and .u64 x 6148914691236517205)
def sB (x : Int) : Int := IntKind.u64.wrap (bits .and .u64 (x / 4) 3689348814741910323 + bits .and .u64 x 3689348814741910323)
def sC (x : Int) : Int := bits .and .u64 (IntKind.u64.wrap (x / 16 + x)) 1085102592571150095
def sD (k x : Int) : Int := IntKind.u64.wrap (x + x / k)
theorem F_le : ∀ n x, F n x < 4 ^ n
  | 0, _ => by simp [F]
  | n + 1, x => by have := F_le n (x / 4); rw [F_s, Nat.pow_succ]; omega
theorem G_le : ∀ n x, G n x < 16 ^ n
  | 0, _ => by simp [G]
  | n + 1, x => by have := G_le n (x / 16); rw [G_s, Nat.pow_succ]; omega
theorem sA_eq (x : Nat) (hx : x < 18446744073709551616) : sA (x : Int) = (F 32 x : Nat) := by
  unfold sA
  rw [show (x : Int) / 2 = ((x / 2 : Nat) : Int) by omega, show (6148914691236517205 : Int) = ((6148914691236517205 : Nat) : Int) by rfl, u64_and_nat _ _ (by omega) (by omega), u64_and_nat _ _ hx (by omega), ← mask0]
  have h := stageA 32 x
  have hl : F 32 x < 18446744073709551616 := F_le 32 x
  rw [IntKind.wrap_u64]
  omega
theorem sB_eq (x : Nat) (hx : x < 18446744073709551616) : sB (x : Int) = (G 16 x : Nat) := by
  unfold sB
  rw [show (x : Int) / 4 = ((x / 4 : Nat) : Int) by omega, show (3689348814741910323 : Int) = ((3689348814741910323 : Nat) : Int) by rfl, u64_and_nat _ _ (by omega) (by omega), u64_and_nat _ _ hx (by omega), ← mask1]
  have h := stageB 16 x
  have hl : G 16 x < 18446744073709551616 := G_le 16 x
  rw [IntKind.wrap_u64]
  omega
theorem low_lt : ∀ n x, Low n x → 2 * x < 16 ^ n ∨ x = 0
  | 0, x, h => .inr h
  | n + 1, x, h => by
    rcases low_lt n (x / 16) h.2 with h1 | h1
    · left; have := h.1; rw [Nat.pow_succ]; omega
    · by_cases hx : x = 0
      · exact .inr hx
      · left; have := h.1; have := Nat.one_le_pow n 16 (by omega); rw [Nat.pow_succ]; omega
theorem sC_eq (x : Nat) (h : Low 16 x) : sC (x : Int) = (K 8 x : Nat) := by
  have hl : 2 * x < 18446744073709551616 ∨ x = 0 := low_lt 16 x h
  unfold sC
  rw [show IntKind.u64.wrap ((x : Int) / 16 + x) = ((x / 16 + x : Nat) : Int) by rw [IntKind.wrap_u64]; omega, show (1085102592571150095 : Int) = ((1085102592571150095 : Nat) : Int) by rfl, u64_and_nat _ _ (by omega) (by omega), ← mask2, stageC 8 x h]
theorem sD_eq (k x : Nat) (h : x + x / k < 18446744073709551616) : sD (k : Int) (x : Int) = ((x + x / k : Nat) : Int) := by
  unfold sD; rw [IntKind.wrap_u64, show (x : Int) + (x : Int) / (k : Int) = ((x + x / k : Nat) : Int) by simp]
  generalize x + x / k = y at *
  omega
theorem ones (x : Nat) (hx : x < 18446744073709551616) : bits .and .i64 (RowKit.wrap64 (sD 4294967296 (sD 65536 (sD 256 (sC (sB (sA (x : Int)))))))) 127 = (Set4.pop x 64 : Int) := by
  rw [show ∀ n : Int, RowKit.wrap64 n = IntKind.i64.wrap n from fun n => by rw [IntKind.wrap_i64]; unfold RowKit.wrap64; rfl]
  have hl : F 32 x < 18446744073709551616 := F_le 32 x
  rw [sA_eq x hx, sB_eq _ hl, show F 32 x = F (2 * 16) x by rfl, GF, sC_eq _ (low_H 16 x), show H 16 x = H (2 * 8) x by rfl, KH]
  have lw : L 8 x = 256 * (256 * (256 * (256 * (256 * (256 * (256 * popR 8 (x / 256 / 256 / 256 / 256 / 256 / 256 / 256 % 256) + popR 8 (x / 256 / 256 / 256 / 256 / 256 / 256 % 256)) + popR 8 (x / 256 / 256 / 256 / 256 / 256 % 256)) + popR 8 (x / 256 / 256 / 256 / 256 % 256)) + popR 8 (x / 256 / 256 / 256 % 256)) + popR 8 (x / 256 / 256 % 256)) + popR 8 (x / 256 % 256)) + popR 8 (x % 256) := by simp only [L]; omega
  have pw : popR 64 x = popR 8 (x % 256) + (popR 8 (x / 256 % 256) + (popR 8 (x / 256 / 256 % 256) + (popR 8 (x / 256 / 256 / 256 % 256) + (popR 8 (x / 256 / 256 / 256 / 256 % 256) + (popR 8 (x / 256 / 256 / 256 / 256 / 256 % 256) + (popR 8 (x / 256 / 256 / 256 / 256 / 256 / 256 % 256) + popR 8 (x / 256 / 256 / 256 / 256 / 256 / 256 / 256 % 256))))))) := by
    rw [popR_bytes 56 x, popR_bytes 48, popR_bytes 40, popR_bytes 32, popR_bytes 24, popR_bytes 16, popR_bytes 8]
    have e := popR_bytes 0 (x / 256 / 256 / 256 / 256 / 256 / 256 / 256)
    simp only [popR, Nat.add_zero] at e ⊢
    omega
  have E := ends _ _ _ _ _ _ _ _ (popR_le 8 _) (popR_le 8 _) (popR_le 8 _) (popR_le 8 _) (popR_le 8 _) (popR_le 8 _) (popR_le 8 _) (popR_le 8 _) (L 8 x) _ _ _ lw rfl rfl rfl
  generalize L 8 x = v at *
  obtain ⟨e1, e2, e3, e4, e5⟩ := E
  rw [show (256 : Int) = ((256 : Nat) : Int) by rfl, sD_eq 256 v (by omega), show (65536 : Int) = ((65536 : Nat) : Int) by rfl, sD_eq 65536 _ (by omega), show (4294967296 : Int) = ((4294967296 : Nat) : Int) by rfl, sD_eq 4294967296 _ (by omega)]
  rw [pop_eq, pw]
  generalize (v + v / 256 + (v + v / 256) / 65536 + (v + v / 256 + (v + v / 256) / 65536) / 4294967296) = t at *
  rw [show IntKind.i64.wrap (t : Int) = (t : Int) by rw [IntKind.wrap_i64]; omega]
  have b := bits_mask .i64 63 (by decide) (fun n h0 h1 => by rw [IntKind.wrap_i64]; omega) 7 (by decide) (t : Int) (by omega) (by omega)
  rw [show ((2 : Int) ^ 7 - 1) = 127 by rfl] at b
  rw [b]
  omega
end Pop
end Go.Proofs.YtijagdpkclghnaaDoor
namespace Go.Proofs.YtijagdpkclghnaaDoor
open Go Go.RowKit
set_option maxRecDepth 100000
@[go_sem] theorem idx_set0 (w : World) (a0 a1 a2 a3 : Int) : (Instr.index 63 (.agg #[.int .u64 a0, .int .u64 a1, .int .u64 a2, .int .u64 a3]) (.int .i64 0)).run Tryd.prog w = .ok (.int .u64 a0) w := by kernel_rfl
@[go_sem] theorem idx_set1 (w : World) (a0 a1 a2 a3 : Int) : (Instr.index 63 (.agg #[.int .u64 a0, .int .u64 a1, .int .u64 a2, .int .u64 a3]) (.int .i64 1)).run Tryd.prog w = .ok (.int .u64 a1) w := by kernel_rfl
@[go_sem] theorem idx_set2 (w : World) (a0 a1 a2 a3 : Int) : (Instr.index 63 (.agg #[.int .u64 a0, .int .u64 a1, .int .u64 a2, .int .u64 a3]) (.int .i64 2)).run Tryd.prog w = .ok (.int .u64 a2) w := by kernel_rfl
@[go_sem] theorem idx_set3 (w : World) (a0 a1 a2 a3 : Int) : (Instr.index 63 (.agg #[.int .u64 a0, .int .u64 a1, .int .u64 a2, .int .u64 a3]) (.int .i64 3)).run Tryd.prog w = .ok (.int .u64 a3) w := by kernel_rfl
theorem beq_cast (a : Nat) : ((a : Int) == 0) = (a == 0) := by rw [Bool.eq_iff_iff]; simp
theorem Empty_any (s : Set4) (w : World) : Calls Tryd.prog 35 #[s.val] w fun e w' => e = .returned (.bool s.empty) ∧ Below w.heap.size w w' := by
  go_enter Tryd.func35, Tryd.ntmps35
  go_wp2
  go_ret
  refine ⟨congrArg (fun z => Ending.returned (.bool z)) ?_, (by repeat' (first | (with_reducible exact Below.refl _ _) | (with_reducible assumption) | (with_reducible refine Below.setCell ?_ ?_ _) | (with_reducible refine Below.ext ?_ _ ?_) | (with_reducible refine Below.alloc ?_ ?_ _) | (with_reducible refine Below.drew ?_) | (with_reducible refine Below.drewN ?_ _) | (with_reducible exact Nat.le_refl _) | (dsimp only; omega) | (simp <;> omega)))⟩
  unfold Set4.empty
  rw [beq_cast, beq_cast, beq_cast, beq_cast]
theorem tz_key (x a : Nat) (hx : x < 18446744073709551616) (hx0 : x ≠ 0) (hlow : x &&& (18446744073709551616 - x) = a) :
    IntKind.u64.wrap (bits BinOp.and IntKind.u64 (x : Int) (IntKind.u64.wrap (-(x : Int))) * 285870213051353865) / 288230376151711744 = ((a * 285870213051353865 % 18446744073709551616 / 288230376151711744 : Nat) : Int) := by
  have e1 : IntKind.u64.wrap (-(x : Int)) = ((18446744073709551616 - x : Nat) : Int) := by rw [IntKind.wrap_u64]; omega
  rw [e1, u64_and_nat x _ hx (by omega), hlow, IntKind.wrap_u64]
  omega
/-- The library's table, where its variable lies. -/
def Tab (w : World) : Prop := ∀ j, j < 64 → w.cell? ⟨0, j, none⟩ = some (.int .u8 (Lib.deBruijn64tab.getD j 0 : Nat))
theorem tz_core (x k idx : Nat) (w : World) (hx0 : ((x : Int) == 0) = false)
    (key : IntKind.u64.wrap (bits BinOp.and IntKind.u64 (x : Int) (IntKind.u64.wrap (-(x : Int))) * 285870213051353865) / 288230376151711744 = (idx : Int))
    (hi : idx < 64) (hk : k < 64) (hcell : w.cell? ⟨0, idx, none⟩ = some (.int .u8 (k : Nat))) :
    Calls Tryd.prog 55 #[.int .u64 (x : Int)] w fun e w' => e = .returned (.int .i64 (k : Int)) ∧ w = w' := by
  go_enter Tryd.func55, Tryd.ntmps55
  go_wp2_with (simp only [key])
  go_ret
  exact ⟨rfl, rfl⟩
theorem Trail_any (x : Nat) (w : World) (hx : x < 18446744073709551616) (h0 : x ≠ 0) (hT : Tab w) : Calls Tryd.prog 55 #[.int .u64 (x : Int)] w fun e w' => e = .returned (.int .i64 (Lib.ctz 64 x : Nat)) ∧ w = w' := by
  obtain ⟨hlow, hk⟩ := Lib.lowest_bit 64 x h0 hx
  obtain ⟨hi, htab⟩ := Lib.deBruijn64_at _ hk
  have hcell := hT _ hi
  rw [htab] at hcell
  exact tz_core x _ _ w (by simp; omega) (tz_key x _ hx h0 hlow) hi hk hcell
end Go.Proofs.YtijagdpkclghnaaDoor
/- More plain facts on sets: the first number, all numbers in order. -/
namespace Go.Proofs.YtijagdpkclghnaaDoor
open Go
theorem ctz_spec (x : Nat) (h0 : x ≠ 0) (hx : x < 18446744073709551616) : Lib.ctz 64 x < 64 ∧ x.testBit (Lib.ctz 64 x) = true ∧ ∀ j, j < Lib.ctz 64 x → x.testBit j = false := by
  have e : Lib.ctz 64 x = Lib.ctzFrom 64 x := by unfold Lib.ctz; rw [if_neg h0]
  obtain ⟨m, hm, hk⟩ := Lib.ctzFrom_spec 64 x (by omega) hx
  rw [e]
  generalize Lib.ctzFrom 64 x = c at *
  refine ⟨hk, ?_, fun j hj => ?_⟩
  · rw [hm, Nat.testBit_eq_decide_div_mod_eq, Nat.mul_div_cancel_left _ (Nat.two_pow_pos c)]
    exact decide_eq_true (by omega)
  · rw [hm, Nat.testBit_eq_decide_div_mod_eq, show c = j + 1 + (c - j - 1) by omega, Nat.pow_add, Nat.pow_succ, Nat.mul_assoc, Nat.mul_assoc, Nat.mul_div_cancel_left _ (Nat.two_pow_pos j)]
    exact decide_eq_false (by omega)
theorem testBit_clear (x j : Nat) (h0 : x ≠ 0) (hx : x < 18446744073709551616) : (x &&& (x - 1)).testBit j = (x.testBit j && decide (j ≠ Lib.ctz 64 x)) := by
  have e : Lib.ctz 64 x = Lib.ctzFrom 64 x := by unfold Lib.ctz; rw [if_neg h0]
  obtain ⟨m, hm, hk⟩ := Lib.ctzFrom_spec 64 x (by omega) hx
  rw [e]
  generalize Lib.ctzFrom 64 x = c at *
  have hp := Nat.two_pow_pos c
  have h1 : x - 1 = 2 ^ c * (2 * m) + (2 ^ c - 1) := by rw [hm, Nat.mul_add]; omega
  have h2 : x = 2 ^ c * (2 * m + 1) + 0 := by omega
  rw [Nat.testBit_and]
  have t1 : x.testBit j = if j < c then false else (2 * m + 1).testBit (j - c) := by
    rw [h2, Nat.testBit_two_pow_mul_add _ hp]; simp
  have t2 : (x - 1).testBit j = if j < c then (2 ^ c - 1).testBit j else (2 * m).testBit (j - c) := by
    rw [h1, Nat.testBit_two_pow_mul_add _ (by omega)]
  rw [t1, t2]
  by_cases hj : j < c
  · simp [hj]
  · rw [if_neg hj, if_neg hj]
    by_cases e2 : j = c
    · subst e2; simp
    · obtain ⟨r, hr⟩ : ∃ r, j - c = r + 1 := ⟨j - c - 1, by omega⟩
      rw [hr, Nat.testBit_succ, Nat.testBit_succ, show (2 * m + 1) / 2 = m by omega, show 2 * m / 2 = m by omega]
      simp [e2]
theorem clear_lt (x : Nat) (h0 : x ≠ 0) : x &&& (x - 1) < x := Nat.lt_of_le_of_lt Nat.and_le_right (by omega)
/-- The numbers of a word, rising, each with base added. -/
def bitsOf (base y : Nat) : List Nat := ((List.range 64).filter fun j => y.testBit j).map (base + ·)
theorem filter_first (f g : Nat → Bool) (c n : Nat) (hc : c < n) (h1 : f c = true) (h2 : ∀ j, j < c → f j = false) (h3 : ∀ j, g j = (f j && decide (j ≠ c))) : (List.range n).filter f = c :: (List.range n).filter g := by
  obtain ⟨r, rfl⟩ : ∃ r, n = c + (1 + r) := ⟨n - c - 1, by omega⟩
  have e : List.range (c + (1 + r)) = List.range c ++ ([c] ++ (List.range r).map (fun x => c + 1 + x)) := by
    rw [List.range_add, List.range_add, List.map_append, List.map_map]
    simp [Function.comp_def, Nat.add_assoc]
  rw [e, List.filter_append, List.filter_append, List.filter_append, List.filter_append]
  have a1 : (List.range c).filter f = [] := List.filter_eq_nil_iff.2 fun j hj => by rw [h2 j (List.mem_range.1 hj)]; simp
  have a2 : (List.range c).filter g = [] := List.filter_eq_nil_iff.2 fun j hj => by rw [h3, h2 j (List.mem_range.1 hj)]; simp
  have a3 : [c].filter f = [c] := by simp [h1]
  have a4 : [c].filter g = [] := by simp [h3]
  rw [a1, a2, a3, a4]
  simp only [List.nil_append, List.singleton_append, List.cons.injEq, true_and]
  refine List.filter_congr fun j hj => ?_
  obtain ⟨x, _, rfl⟩ := List.mem_map.1 hj
  rw [h3]; simp; omega
theorem bitsOf_step (base y : Nat) (h0 : y ≠ 0) (hy : y < 18446744073709551616) : bitsOf base y = (base + Lib.ctz 64 y) :: bitsOf base (y &&& (y - 1)) := by
  obtain ⟨h1, h2, h3⟩ := ctz_spec y h0 hy
  unfold bitsOf
  rw [filter_first _ _ _ 64 h1 h2 h3 (fun j => testBit_clear y j h0 hy)]; rfl
theorem bitsOf_zero (base : Nat) : bitsOf base 0 = [] := by unfold bitsOf; rw [List.filter_eq_nil_iff.2 (by simp)]; rfl
namespace Set4
theorem list_words (s : Set4) : s.list = bitsOf 0 s.a ++ (bitsOf 64 s.b ++ (bitsOf 128 s.c ++ bitsOf 192 s.d)) := by
  have part : ∀ k, k < 4 → ((List.range 64).map (fun j => 64 * k + j)).filter s.has = bitsOf (64 * k) (s.word k) := fun k hk => by
    unfold bitsOf
    rw [List.filter_map]
    congr 1
    refine List.filter_congr fun j hj => ?_
    exact has_at s k j hk (List.mem_range.1 hj)
  have e : List.range 256 = ((List.range 64).map (fun j => 64 * 0 + j)) ++ (((List.range 64).map (fun j => 64 * 1 + j)) ++ (((List.range 64).map (fun j => 64 * 2 + j)) ++ ((List.range 64).map (fun j => 64 * 3 + j)))) := by decide +kernel
  unfold list
  rw [e, List.filter_append, List.filter_append, List.filter_append, part 0 (by omega), part 1 (by omega), part 2 (by omega), part 3 (by omega)]
  rfl
/-- The least number. -/
def first (s : Set4) : Option Nat := s.list.head?
theorem first_at (s : Set4) (k : Nat) (hk : k < 4) (hz : ∀ m, m < k → s.word m = 0) (hn : s.word k ≠ 0) : s.first = some (64 * k + Lib.ctz 64 (s.word k)) := by
  unfold first
  rw [list_words]
  have hw := bitsOf_step (64 * k) (s.word k) hn (s.word_lt k)
  have : k = 0 ∨ k = 1 ∨ k = 2 ∨ k = 3 := by omega
  rcases this with rfl | rfl | rfl | rfl
  · rw [show s.a = s.word 0 by rfl, hw]; rfl
  · have z0 := hz 0 (by omega)
    rw [show s.a = s.word 0 by rfl, z0, bitsOf_zero, show s.b = s.word 1 by rfl, hw]; rfl
  · have z0 := hz 0 (by omega); have z1 := hz 1 (by omega)
    rw [show s.a = s.word 0 by rfl, z0, bitsOf_zero, show s.b = s.word 1 by rfl, z1, bitsOf_zero, show s.c = s.word 2 by rfl, hw]; rfl
  · have z0 := hz 0 (by omega); have z1 := hz 1 (by omega); have z2 := hz 2 (by omega)
    rw [show s.a = s.word 0 by rfl, z0, bitsOf_zero, show s.b = s.word 1 by rfl, z1, bitsOf_zero, show s.c = s.word 2 by rfl, z2, bitsOf_zero, show s.d = s.word 3 by rfl, hw]; rfl
theorem first_none (s : Set4) (hz : ∀ m, m < 4 → s.word m = 0) : s.first = none := by
  unfold first
  rw [list_words, show s.a = s.word 0 by rfl, hz 0 (by omega), show s.b = s.word 1 by rfl, hz 1 (by omega), show s.c = s.word 2 by rfl, hz 2 (by omega), show s.d = s.word 3 by rfl, hz 3 (by omega)]
  simp [bitsOf_zero]
def next (s : Set4) (from' : Int) : Option Nat := (s.less (upto from'.toNat)).first
end Set4
end Go.Proofs.YtijagdpkclghnaaDoor
namespace Go.Proofs.YtijagdpkclghnaaDoor
open Go Go.RowKit
set_option maxRecDepth 100000
theorem Tab.below {w w' : World} {B : Nat} (h : Tab w) (hb : Below B w w') (hB : 0 < B) : Tab w' := fun j hj => by rw [hb.cell (p := ⟨0, j, none⟩) hB]; exact h j hj
theorem Tab.ext {w : World} {B : Nat} (h : Tab w) (x : Ext B w) (hB : 0 < B) : Tab (w.ext B x) := h.below x.below hB
theorem Tab.lt {w : World} (h : Tab w) : 0 < w.heap.size := block_lt_of_cell (h 0 (by omega))
theorem Tab.alloc {w : World} (h : Tab w) (o : Obj) : Tab (w.alloc o) := fun j hj => by rw [World.cell?_alloc_lt (w := w) (a := ⟨0, j, none⟩) (o := o) h.lt]; exact h j hj
/-- What Next answers. -/
abbrev nextV (o : Option Nat) : Value := .tuple #[.int .i64 (o.getD 0 : Nat), .bool o.isSome]
end Go.Proofs.YtijagdpkclghnaaDoor
namespace Go.Proofs.YtijagdpkclghnaaDoor
open Go Go.ChangeShapes Go.WideShapes Go.ChangeAt Go.RowKit
set_option maxRecDepth 100000
theorem own : ownKnob Tryd.prog.godebug = none := by kernel_rfl
theorem laidOut : laidOutB Tryd.prog = true := by kernel_rfl
theorem tabName : Tryd.prog.globalNamed "math/bits.deBruijn64tab" = some 0 := by kernel_rfl
theorem tabType : (Tryd.prog.globals[0]?).map (·.type) = some 121 := by kernel_rfl
/-- The table's numbers. -/
def tab64 : List Int := Lib.deBruijn64tab.map fun n : Nat => (n : Int)
theorem laid_tab {H : Type} : (Rows.laid_math_bits_deBruijn64tab : DataW H) = Lib.tabData .u8 tab64 := rfl
theorem tabIs_of {W : World} (h : laidMet Tryd.prog [("math/bits.deBruijn64tab", Rows.laid_math_bits_deBruijn64tab)] W) : Lib.TabIs Tryd.prog W "math/bits.deBruijn64tab" .u8 tab64 :=
  Lib.tabIs_of_head tabName tabType Tryd.underlying121 Tryd.underlying5 (by kernel_rfl) (by kernel_rfl) h
theorem Tab.of {W : World} (h : Lib.TabIs Tryd.prog W "math/bits.deBruijn64tab" .u8 tab64) : Tab W := fun j hj => by
  have := h.cell tabName j (by unfold tab64; rw [List.length_map]; exact hj)
  rw [this]
  unfold tab64
  have e : j < Lib.deBruijn64tab.length := hj
  simp [List.getD, e]
/-- A set that came in. -/
theorem open_set {H : Type} {enc : TypeId × Value → H} {W : World} {base : Nat} {sp : Nat → Bool} {held : Bool} {v : Value} {d : DataW H} {p : List MemPlace} {r : Reach} (hv : Value.okWide Tryd.prog W r base 62 v)
    (h : DataW.Trod enc Tryd.prog W 0 sp held 62 v d p) : ∃ s : Set4, v = s.val := by
  obtain ⟨zs, hl, rfl, hw⟩ := open_array_ints Tryd.underlying62 Tryd.underlying61 (by kernel_rfl) (by kernel_rfl) hv h
  match zs, hl, hw with
  | [a, b, c, d], _, hw =>
    have ha := bounds_u64 (hw a (by simp)); have hb := bounds_u64 (hw b (by simp)); have hc := bounds_u64 (hw c (by simp)); have hd := bounds_u64 (hw d (by simp))
    refine ⟨⟨a.toNat, b.toNat, c.toNat, d.toNat, by omega, by omega, by omega, by omega⟩, ?_⟩
    show Value.agg #[.int .u64 a, .int .u64 b, .int .u64 c, .int .u64 d] = .agg #[.int .u64 (a.toNat : Int), .int .u64 (b.toNat : Int), .int .u64 (c.toNat : Int), .int .u64 (d.toNat : Int)]
    rw [Int.toNat_of_nonneg ha.1, Int.toNat_of_nonneg hb.1, Int.toNat_of_nonneg hc.1, Int.toNat_of_nonneg hd.1]
/-- A world in which the variable holds what the program's text lays. -/
noncomputable def laidWorld (os : Os) : World :=
  { World.holding Tryd.prog os ⟨#[], #[], []⟩ with heap := (World.holding Tryd.prog os ⟨#[], #[], []⟩).heap.modify 0 fun
      | .cells _ t frozen => .cells (tab64.map (Value.int .u8)).toArray t frozen
      | o => o }
theorem laidWorld_met (os : Os) (args : Array Value) : laidMet Tryd.prog [("math/bits.deBruijn64tab", Rows.laid_math_bits_deBruijn64tab)] ((laidWorld os).forCall (fun _ _ => 0) ⟨#[], args, []⟩).memory :=
  laidMet_of_run' 8 (by kernel_rfl) (by kernel_rfl)
/-- Rows of laws that list the table: from the walk to the row. -/
theorem law_row {spec : ChangeSpec} {n : Nat} {fn : Func} (hf : Tryd.prog.funcs[n]? = some fn) (hvars : spec.vars = []) (hres : fn.resultTypes = #[4]) (hin : Tryd.prog.inits.idxOf? n = none)
    (hr : ∀ t ∈ fn.params.toList, Tryd.prog.readableRec t = true ∧ t < Tryd.prog.types.size) (os : Os) (started : os.Started) (H : Type) (enc : TypeId × Value → H) (zeros : Array Value)
    (hv : ((laidWorld os).forCall (fun _ _ => 0) ⟨#[], zeros, []⟩).variablesB Tryd.prog = true)
    (hrr : (((laidWorld os).forCall (fun _ _ => 0) ⟨#[], zeros, []⟩).heap.toList.drop Tryd.prog.globals.size).take ((begin Tryd.prog (fun _ _ => 0) default).world.heap.size - Tryd.prog.globals.size) =
      (begin Tryd.prog (fun _ _ => 0) default).world.heap.toList.drop Tryd.prog.globals.size)
    (hok : Input.okWideB Tryd.prog ((laidWorld os).forCall (fun _ _ => 0) ⟨#[], zeros, []⟩) n ⟨#[], zeros, []⟩ = true)
    (hpre : spec.preB enc Tryd.prog fn [] false ((laidWorld os).forCall (fun _ _ => 0) ⟨#[], zeros, []⟩).memory zeros 8 = true)
    (hsz : spec.sizedB enc Tryd.prog fn false ((laidWorld os).forCall (fun _ _ => 0) ⟨#[], zeros, []⟩).memory zeros 8 = true)
    (walk : ∀ (W : World) (base : Nat) (args : Array Value) (ds : List (DataW H)) (p : List MemPlace), (∀ (j : Nat) t v, fn.params[j]? = some t → args[j]? = some v → Value.okWide Tryd.prog W .any base t v) →
      DataW.TrodAll enc Tryd.prog W 0 (fun _ => true) true fn.params.toList args.toList ds p → (DataW.weightsEach Tryd.prog (fn.params.toList ++ spec.plain.varTypes Tryd.prog) (ds ++ [])).all (· ≤ reachBytes) = true → Tab W →
      spec.fn H (ds ++ []) = { results := [.lit (.bool true)], args := ds } ∧ Calls Tryd.prog n args W fun e W' => e = .returned (.bool true) ∧ Below W.heap.size W W') :
    ReturnsInHanded {} Tryd.checked os n .any (fun w args => (spec.pre enc Tryd.prog fn [] false w args ∧ laidMet Tryd.prog [("math/bits.deBruijn64tab", Rows.laid_math_bits_deBruijn64tab)] w) ∧ sizedMet enc Tryd.prog fn (OpenSpec.ofChange spec) false w args)
      (spec.post enc Tryd.prog fn false true false false) := by
  refine returnsInHanded_of_change_and (C := Tryd.checked) (X := fun w _ => laidMet Tryd.prog [("math/bits.deBruijn64tab", Rows.laid_math_bits_deBruijn64tab)] w) (fun _ _ _ hh h => h.of_heap hh) own started hin hf
    (ChangeSpec.witness_at (enc := enc) (C := Tryd.checked) (os := os) (X := fun w _ => laidMet Tryd.prog [("math/bits.deBruijn64tab", Rows.laid_math_bits_deBruijn64tab)] w) false (laidWorld os) zeros 8 rfl hv hrr hok hpre hsz (laidWorld_met os _)) ?_
  intro W base args ds gs before hval hW _ hsz0 hL _
  have hW' := hW
  obtain ⟨p, q, hA, hV, rfl, hfz, hnd⟩ := hW
  rw [hvars] at hV
  obtain ⟨rfl, rfl⟩ := trodVars_none hV
  obtain ⟨h1, h2⟩ := walk W base args ds p hval hA hsz0 (Tab.of (tabIs_of hL))
  exact h2.mono fun e W' ⟨he, bel⟩ => ⟨_, he, law_post laidOut hr hW' hvars hres Tryd.underlying4 h1 bel⟩
end Go.Proofs.YtijagdpkclghnaaDoor
/- Structs of four integers among the arguments, and slices of such: laws of my own, no program in them. -/
namespace Go
open Go.ChangeShapes Go.WideShapes Go.ChangeAt Go.RowKit
section
variable {H : Type} {enc : TypeId × Value → H} {P : Program} {W : World} {held : Bool} {base : Nat} {sp : Nat → Bool}
/-- Four integers of kind i64, as cells. -/
abbrev int4 (x : Int × Int × Int × Int) : List Value := [.int .i64 x.1, .int .i64 x.2.1, .int .i64 x.2.2.1, .int .i64 x.2.2.2]
def In64 (z : Int) : Prop := -9223372036854775808 ≤ z ∧ z ≤ 9223372036854775807
def In4 (x : Int × Int × Int × Int) : Prop := In64 x.1 ∧ In64 x.2.1 ∧ In64 x.2.2.1 ∧ In64 x.2.2.2
theorem in64_of {z : Int} (h : (Lit.int .i64 z).wf = true) : In64 z := by
  exact bounds_i64 h
theorem wf_in64 {z : Int} (h : In64 z) : (Lit.int .i64 z).wf = true := by
  unfold In64 at h
  simp [Lit.wf, IntKind.min, IntKind.max, IntKind.signed, IntKind.bits]
  omega
theorem trod_int4 {t : TypeId} {f0 f1 f2 f3 : Field} {fuel : Nat} {cs : List Value} {x : DataW H × List MemPlace} (ht : P.underlying t = some (.struct #[f0, f1, f2, f3])) (hct : P.cellsOf t = 4)
    (o0 : f0.offset = 0) (o1 : f1.offset = 1) (o2 : f2.offset = 2) (o3 : f3.offset = 3) (c0 : P.cellsOf f0.type = 1) (c1 : P.cellsOf f1.type = 1) (c2 : P.cellsOf f2.type = 1) (c3 : P.cellsOf f3.type = 1)
    (e0 : P.underlying f0.type = some (.int .i64)) (e1 : P.underlying f1.type = some (.int .i64)) (e2 : P.underlying f2.type = some (.int .i64)) (e3 : P.underlying f3.type = some (.int .i64))
    (h : DataW.trod enc P W base sp held fuel t cs = some x) : ∃ y, cs = int4 y ∧ In4 y := by
  obtain ⟨xs, n, _, rfl, hl, hlen, hf⟩ := DataW.trod_struct ht h
  rw [hct] at hl
  match cs, hl, xs, hlen with
  | [v0, v1, v2, v3], _, [y0, y1, y2, y3], _ =>
    have g0 := hf 0 f0 rfl
    have g1 := hf 1 f1 rfl
    have g2 := hf 2 f2 rfl
    have g3 := hf 3 f3 rfl
    rw [o0, c0] at g0; rw [o1, c1] at g1; rw [o2, c2] at g2; rw [o3, c3] at g3
    obtain ⟨z0, h0, _, w0⟩ := DataW.trod_int (x := y0) e0 (by simpa using g0)
    obtain ⟨z1, h1, _, w1⟩ := DataW.trod_int (x := y1) e1 (by simpa using g1)
    obtain ⟨z2, h2, _, w2⟩ := DataW.trod_int (x := y2) e2 (by simpa using g2)
    obtain ⟨z3, h3, _, w3⟩ := DataW.trod_int (x := y3) e3 (by simpa using g3)
    simp at h0 h1 h2 h3
    subst h0; subst h1; subst h2; subst h3
    exact ⟨(z0, z1, z2, z3), rfl, in64_of w0, in64_of w1, in64_of w2, in64_of w3⟩
theorem rows_int4 : ∀ rs : List (List Value), (∀ r ∈ rs, ∃ y, r = int4 y ∧ In4 y) → ∃ l : List (Int × Int × Int × Int), rs = l.map int4 ∧ ∀ x ∈ l, In4 x
  | [], _ => ⟨[], rfl, fun x hx => by cases hx⟩
  | r :: rs, h => by
    obtain ⟨y, rfl, hy⟩ := h r (by simp)
    obtain ⟨l, rfl, hl⟩ := rows_int4 rs fun r' hr' => h r' (by simp [hr'])
    refine ⟨y :: l, rfl, fun x hx => ?_⟩
    rcases List.mem_cons.1 hx with rfl | hx
    · exact hy
    · exact hl x hx
theorem addr_add' (b o j : Nat) : (⟨b, o, none⟩ : Addr).add j = ⟨b, o + j, none⟩ := by
  unfold Addr.add
  split
  · rename_i h; subst h; rfl
  · rfl
/-- A slice of rows of m cells that came in. -/
theorem open_slice_rows {t e : TypeId} {m : Nat} (Q : List Value → Prop) {a : Option Addr} {len cap : Nat} {d : DataW H} {p : List MemPlace} (ht : P.underlying t = some (.slice e)) (hce : P.cellsOf e = m) (hm : 0 < m)
    (hQ : ∀ n cs x, DataW.trod enc P W 0 (fun _ => true) held n e cs = some x → Q cs) (h : DataW.Trod enc P W 0 (fun _ => true) held t (.slice a len cap) d p) :
    ∃ rs : List (List Value), rs.length = len ∧ len ≤ cap ∧ cap ≤ maxLen ∧ (a = none → len = 0 ∧ cap = 0) ∧ (∀ r ∈ rs, Q r) ∧
      (rs = [] ∨ ∃ b o, a = some ⟨b, o, none⟩ ∧ ∀ i r, rs[i]? = some r → ∀ j u, r[j]? = some u → W.cell? ⟨b, o + i * m + j, none⟩ = some u) := by
  obtain ⟨fuel, hf⟩ := h
  rcases Go.Deep.open_slice ht hf with ⟨hcs, _⟩ | ⟨x, l, c, mm, n, D, Pl, hcs, _, hl, hmx, hmm, _, hx⟩
  · simp [Value.cells] at hcs
    obtain ⟨rfl, rfl, rfl⟩ := hcs
    exact ⟨[], rfl, Nat.le_refl _, Nat.zero_le _, fun _ => ⟨rfl, rfl⟩, (fun r hr => by cases hr), .inl rfl⟩
  · simp [Value.cells] at hcs
    obtain ⟨rfl, rfl, rfl⟩ := hcs
    have hmm' : mm = cap := by simpa using hmm
    subst hmm'
    have each : ∀ i, i < len → ∃ r : List Value, Q r ∧ r.length = m ∧ ∀ j u, r[j]? = some u → W.cell? ((x.add (i * m)).add j) = some u := fun i hi => by
      obtain ⟨cs', h1, h2⟩ := hx i (by omega)
      rw [hce] at h1
      obtain ⟨_, hlen, hcell⟩ := World.cells?_some h1
      refine ⟨cs', hQ _ _ _ h2, by simpa using hlen, fun j u hj => ?_⟩
      have hj2 : j < m := by
        have := (List.getElem?_eq_some_iff.1 hj).1
        omega
      rw [hcell j hj2]
      exact hj
    have hch : ∀ k, k ≤ len → ∃ rs : List (List Value), rs.length = k ∧ (∀ r ∈ rs, Q r) ∧ (∀ r ∈ rs, r.length = m) ∧ ∀ i r, rs[i]? = some r → ∀ j u, r[j]? = some u → W.cell? ((x.add (i * m)).add j) = some u := by
      intro k
      induction k with
      | zero => intro _; exact ⟨[], rfl, (fun r hr => by cases hr), (fun r hr => by cases hr), fun i r hr => by simp at hr⟩
      | succ k ih =>
        intro hk
        obtain ⟨rs, h1, h2, h2', h3⟩ := ih (by omega)
        obtain ⟨r, q1, q2, q3⟩ := each k (by omega)
        refine ⟨rs ++ [r], by simp [h1], fun r' hr' => ?_, fun r' hr' => ?_, fun i r' hi => ?_⟩
        · rcases List.mem_append.1 hr' with h | h
          · exact h2 r' h
          · rw [List.mem_singleton.1 h]; exact q1
        · rcases List.mem_append.1 hr' with h | h
          · exact h2' r' h
          · rw [List.mem_singleton.1 h]; exact q2
        · by_cases e : i < k
          · rw [List.getElem?_append_left (by omega)] at hi
            exact h3 i r' hi
          · rw [List.getElem?_append_right (by omega)] at hi
            have e2 : i = k := by
              have := (List.getElem?_eq_some_iff.1 hi).1
              simp at this
              omega
            subst e2
            rw [h1, Nat.sub_self] at hi
            simp at hi
            subst hi
            exact q3
    obtain ⟨rs, h1, h2, h2', h3⟩ := hch len (Nat.le_refl _)
    refine ⟨rs, h1, hl, hmx, (fun h => by cases h), h2, ?_⟩
    by_cases h0 : len = 0
    · left; exact List.length_eq_zero_iff.1 (by omega)
    · right
      obtain ⟨b, o, sp'⟩ := x
      obtain ⟨r0, hr0⟩ : ∃ r0, rs[0]? = some r0 := ⟨rs[0]'(by omega), by rw [List.getElem?_eq_getElem (by omega)]⟩
      have hr0l := h2' r0 (List.mem_of_getElem? hr0)
      have hc0 := h3 0 r0 hr0 0 (r0[0]'(by omega)) (by rw [List.getElem?_eq_getElem (by omega)])
      rw [Nat.zero_mul] at hc0
      have e0 : ((⟨b, o, sp'⟩ : Addr).add 0).add 0 = ⟨b, o, sp'⟩ := rfl
      rw [e0] at hc0
      have h3' : sp' = none := by
        cases sp' with
        | none => rfl
        | some q =>
          unfold World.cell? at hc0
          split at hc0 <;> simp at hc0
      subst h3'
      refine ⟨b, o, rfl, fun i r hi j u hj => ?_⟩
      have := h3 i r hi j u hj
      rw [addr_add', addr_add'] at this
      exact this
end
end Go
/- Maps from integers to Booleans in which true alone is stored: laws of my own over the kit's, no program in them. -/
namespace Go
open Go.Maps (Keyed)
open Go.RowKit
theorem plainElem_bool_inv {H : Type} {P : Program} {e : TypeId} (he : P.underlying e = some .bool) {v : Value} {z : DataW H × List MemPlace} (h : plainElem P e v = some z) : ∃ x, v = .bool x ∧ z = (.lit (.bool x), []) := by
  unfold plainElem at h
  rw [he] at h
  split at h
  · simp at h; exact ⟨_, rfl, h.symm⟩
  · simp_all
  · simp_all
  · cases h
/-- The datum D holds true at just the keys of L. -/
structure BM (D : DataW Unit) (L : List Int) : Prop where
  tidy : Maps.Tidy D
  has : ∀ x, Maps.has D (.int .i64 x) = L.contains x
  at_ : ∀ x, D.atKey (.int .i64 x) (.lit (.bool false)) = .lit (.bool (L.contains x))
  size : Maps.size D = L.length
  nodup : L.Nodup
theorem BM.empty : BM (.map []) [] := ⟨Maps.tidy_empty, fun _ => rfl, fun _ => rfl, rfl, List.nodup_nil⟩
theorem litne {x y : Int} (h : x ≠ y) : Lit.int .i64 x ≠ Lit.int .i64 y := fun e => by cases e; exact h rfl
theorem keyLit (x : Int) : WideAt.IsKeyLit (.int .i64 x) := by trivial
def addTo (L : List Int) (x : Int) : List Int := if L.contains x then L else L ++ [x]
theorem addTo_has (L : List Int) (x y : Int) : (addTo L x).contains y = (L.contains y || x == y) := by
  unfold addTo
  split
  · next h =>
    by_cases e : x = y
    · subst e; rw [h]; simp
    · rw [show (x == y) = false from beq_eq_false_iff_ne.2 e, Bool.or_false]
  · rw [List.contains_eq_mem, List.contains_eq_mem]
    by_cases e : x = y
    · subst e; simp
    · rw [show (x == y) = false from beq_eq_false_iff_ne.2 e]
      simp [Ne.symm e]
theorem BM.put {D : DataW Unit} {L : List Int} (h : BM D L) (x : Int) : BM (D.put (.int .i64 x) (.lit (.bool true))) (addTo L x) := by
  refine ⟨h.tidy.put (keyLit x) _, fun y => ?_, fun y => ?_, ?_, ?_⟩
  · rw [addTo_has]
    by_cases e : y = x
    · subst e; rw [Maps.has_put_same h.tidy.isMap (keyLit y)]; simp
    · rw [Maps.has_put_other (litne e), h.has, show (x == y) = false from beq_eq_false_iff_ne.2 (Ne.symm e), Bool.or_false]
  · rw [addTo_has]
    by_cases e : y = x
    · subst e; rw [Maps.atKey_put_same h.tidy.isMap (keyLit y)]; simp
    · rw [Maps.atKey_put_other (litne e), h.at_, show (x == y) = false from beq_eq_false_iff_ne.2 (Ne.symm e), Bool.or_false]
  · rw [Maps.size_put h.tidy, h.has, h.size]
    unfold addTo
    split <;> simp
  · unfold addTo
    split
    · exact h.nodup
    · next hn => exact List.nodup_append.2 ⟨h.nodup, by simp, fun a ha b hb => by
        rw [List.mem_singleton.1 hb]
        intro e; subst e
        exact hn (by simpa using ha)⟩
theorem erase_has {L : List Int} (hn : L.Nodup) (x y : Int) : (L.erase x).contains y = (L.contains y && !(x == y)) := by
  rw [List.contains_eq_mem, List.contains_eq_mem]
  by_cases e : x = y
  · subst e
    simp [List.Nodup.mem_erase_iff hn]
  · rw [show (x == y) = false from beq_eq_false_iff_ne.2 e]
    simp [List.Nodup.mem_erase_iff hn, Ne.symm e]
theorem BM.del {D : DataW Unit} {L : List Int} (h : BM D L) (x : Int) : BM (D.del (.int .i64 x)) (L.erase x) := by
  refine ⟨h.tidy.del _, fun y => ?_, fun y => ?_, ?_, h.nodup.erase x⟩
  · rw [erase_has h.nodup]
    by_cases e : y = x
    · subst e; rw [Maps.has_del_same]; simp
    · rw [Maps.has_del_other (litne e), h.has, show (x == y) = false from beq_eq_false_iff_ne.2 (Ne.symm e)]; simp
  · rw [erase_has h.nodup]
    by_cases e : y = x
    · subst e; rw [Maps.atKey_del_same]; simp
    · rw [Maps.atKey_del_other (litne e), h.at_, show (x == y) = false from beq_eq_false_iff_ne.2 (Ne.symm e)]; simp
  · have := Maps.size_del (k := .int .i64 x) h.tidy
    rw [h.has, h.size] at this
    by_cases e : L.contains x
    · rw [if_pos e] at this
      rw [List.length_erase_of_mem (by simpa using e)]
      omega
    · rw [if_neg e] at this
      rw [List.erase_of_not_mem (by simpa using e)]
      omega
/-- Block b is such a map, of at most n entries, true at the keys of L. -/
def World.bmap (w : World) (P : Program) (k e : TypeId) (b n : Nat) (L : List Int) : Prop := ∃ D : DataW Unit, w.ownsMap P k (plainElem P e) b n D ∧ BM D L
namespace World
variable {w w' : World} {P : Program} {k e : TypeId} {b n : Nat} {L : List Int}
theorem bmap.lt (h : w.bmap P k e b n L) : b < w.heap.size := by obtain ⟨D, h1, _⟩ := h; exact h1.lt
theorem bmap.kept {row : Option Nat} (h : w.bmap P k e b n L) (hg : w.grownBy w' row) (hne : some b ≠ row) : w'.bmap P k e b n L := by obtain ⟨D, h1, h2⟩ := h; exact ⟨D, h1.kept hg hne, h2⟩
theorem bmap.alloc (h : w.bmap P k e b n L) (o : Obj) : (w.alloc o).bmap P k e b n L := by obtain ⟨D, h1, h2⟩ := h; exact ⟨D, h1.alloc o, h2⟩
theorem bmap.mono {m : Nat} (h : w.bmap P k e b n L) (hm : n ≤ m) : w.bmap P k e b m L := by obtain ⟨D, h1, h2⟩ := h; exact ⟨D, h1.mono hm, h2⟩
theorem bmap.len_le (h : w.bmap P k e b n L) : L.length ≤ n := by obtain ⟨D, h1, h2⟩ := h; rw [← h2.size]; exact h1.size_le
theorem bmap_made (w : World) (P : Program) (k e : TypeId) : (w.alloc (.map #[] 0)).bmap P k e w.heap.size 0 [] := ⟨_, World.ownsMap_made _ _ _ _, BM.empty⟩
/-- It stays what it is where its block has not turned. -/
theorem bmap.same (h : w.bmap P k e b n L) (hb : w'.heap[b]? = w.heap[b]?) : w'.bmap P k e b n L := by
  obtain ⟨D, ⟨es, clock, h1, h2⟩, h3⟩ := h
  exact ⟨D, ⟨es, clock, hb.trans h1, h2⟩, h3⟩
end World
section
variable {P : Program} {w : World} {ops : Array Oper} {rest : List Oper} {o : Oper} {a : Act} {Q : Exit → Act → World → Prop} {k e : TypeId} {b n : Nat} {L : List Int}
theorem wpList_lookup_bm (hg : o.guard = none) (m x : Operand) (t : TypeId) (hop : o.op = Op.lookup t m x false) (hk : P.underlying k = some (.int .i64)) (ht : P.underlying t = some (.map k e)) (he : P.underlying e = some .bool) (hz : ∀ w, (zeroValue e).run P w = .ok (.bool false) w)
    (hm : a.eval m = .map (some b)) (h : w.bmap P k e b n L) (i : Int) (hx : a.eval x = .int .i64 i) (hi : In64 i)
    (hK : wpList P ops Q rest (a.put o.dst (.bool (L.contains i))) w) : wpList P ops Q (o :: rest) a w := by
  refine wpList_plain hg fun K' hK' => ?_
  obtain ⟨D, hown, hB⟩ := h
  obtain ⟨v, ps, hrun, hv⟩ := hown.lookup (Maps.int_keyed hk) ht (hz w) (plainElem_bool he false) (Maps.keyOf_int_mk hk (a := i) (wf_in64 hi))
  obtain ⟨y, rfl, hy⟩ := plainElem_bool_inv he hv
  have e1 := congrArg Prod.fst hy
  simp only at e1
  rw [hB.at_] at e1
  have e2 : y = L.contains i := by simpa using e1.symm
  subst e2
  unfold Oper.wp
  simp [execOp, hop, hm, hx, hrun, Result.andThen]
  exact hK' _ _ (by simpa using hK)
theorem wpList_lookup_bmr (hg : o.guard = none) (m x : Operand) (t : TypeId) (hop : o.op = Op.lookup t m x false) (hk : P.underlying k = some (.int .i64)) (ht : P.underlying t = some (.map k e)) (he : P.underlying e = some .bool) (hz : ∀ w, (zeroValue e).run P w = .ok (.bool false) w)
    (hm : a.eval m = .map (some b)) (h : w.bmap P k e b n L) (i : Int) (hx : a.eval x = .int .i64 i) (hi : In64 i) (r : Bool) (hr : L.contains i = r)
    (hK : wpList P ops Q rest (a.put o.dst (.bool r)) w) : wpList P ops Q (o :: rest) a w :=
  wpList_lookup_bm hg m x t hop hk ht he hz hm h i hx hi (by rw [hr]; exact hK)
theorem wpList_mapUpdate_bm (hg : o.guard = none) (m x v : Operand) (t : TypeId) (hop : o.op = Op.mapUpdate t m x v) (hk : P.underlying k = some (.int .i64)) (ht : P.underlying t = some (.map k e)) (he : P.underlying e = some .bool)
    (hm : a.eval m = .map (some b)) (h : w.bmap P k e b n L) (hn : n < 100000) (i : Int) (hx : a.eval x = .int .i64 i) (hi : In64 i) (hv : a.eval v = .bool true)
    (hK : ∀ w', w'.bmap P k e b (n + 1) (addTo L i) → w.grownBy w' (some b) → wpList P ops Q rest (a.put o.dst undef) w') : wpList P ops Q (o :: rest) a w := by
  obtain ⟨D, hown, hB⟩ := h
  refine wpList_mapUpdate_own w hg m x v t hop k e (Maps.int_keyed hk) ht _ b n D hm hown (by unfold maxLen; omega) _ _ _ hx hv (Maps.keyOf_int_mk hk (a := i) (wf_in64 hi)) _ [] (plainElem_bool he true) ?_
  intro w' h1 h2
  exact hK w' ⟨_, h1, hB.put i⟩ h2
theorem wpList_delete_bm (hg : o.guard = none) (m x : Operand) (t : TypeId) (hop : o.op = Op.call { callee := Callee.builtin Builtin.delete, args := #[m, x], argTypes := #[t, k] }) (hk : P.underlying k = some (.int .i64)) (ht : P.underlying t = some (.map k e))
    (hm : a.eval m = .map (some b)) (h : w.bmap P k e b n L) (i : Int) (hx : a.eval x = .int .i64 i) (hi : In64 i)
    (hK : ∀ w', w'.bmap P k e b n (L.erase i) → w.grownBy w' (some b) → wpList P ops Q rest (a.put o.dst (.tuple #[])) w') : wpList P ops Q (o :: rest) a w := by
  obtain ⟨D, hown, hB⟩ := h
  refine wpList_delete_own w hg m x t k hop e (Maps.int_keyed hk) ht _ b n D hm hown _ _ hx (Maps.keyOf_int_mk hk (a := i) (wf_in64 hi)) ?_
  intro w' h1 h2
  exact hK w' ⟨_, h1, hB.del i⟩ h2.grown
theorem wpList_len_bm (hg : o.guard = none) (m : Operand) (t : TypeId) (hop : o.op = Op.call { callee := Callee.builtin Builtin.len, args := #[m], argTypes := #[t] }) (ht : P.underlying t = some (.map k e))
    (hm : a.eval m = .map (some b)) (h : w.bmap P k e b n L) (hK : wpList P ops Q rest (a.put o.dst (.int .i64 (L.length : Int))) w) : wpList P ops Q (o :: rest) a w := by
  obtain ⟨D, hown, hB⟩ := h
  refine wpList_len_own w hg m t hop k e ht _ b n D hm hown ?_
  rw [hB.size]; exact hK
end
end Go
/- Maps from integers to blocks: laws of my own over the kit's, no program in them. -/
namespace Go
open Go.Maps (Keyed)
open Go.RowKit
/-- A pointer as a datum. -/
def ptrElem : Value → Option (DataW Unit × List MemPlace)
  | .pointer none => some (.lit (.int .i64 (-1)), [])
  | .pointer (some ⟨g, 0, none⟩) => some (.lit (.int .i64 (g : Int)), [])
  | _ => none
def ptrV : Option Nat → Value
  | none => .pointer none
  | some g => .pointer (some ⟨g, 0, none⟩)
def ptrD : Option Nat → DataW Unit
  | none => .lit (.int .i64 (-1))
  | some g => .lit (.int .i64 (g : Int))
theorem ptrElem_mk (p : Option Nat) : ptrElem (ptrV p) = some (ptrD p, []) := by cases p <;> rfl
theorem ptrElem_inv {v : Value} {z : DataW Unit × List MemPlace} (h : ptrElem v = some z) : ∃ p, v = ptrV p ∧ z = (ptrD p, []) := by
  unfold ptrElem at h
  split at h
  · exact ⟨none, rfl, (Option.some.inj h).symm⟩
  · rename_i g; exact ⟨some g, rfl, (Option.some.inj h).symm⟩
  · cases h
theorem ptrD_inj {p q : Option Nat} (h : ptrD p = ptrD q) : p = q := by
  cases p with
  | none => cases q with
    | none => rfl
    | some b => simp only [ptrD, DataW.lit.injEq, Lit.int.injEq, true_and] at h; omega
  | some a => cases q with
    | none => simp only [ptrD, DataW.lit.injEq, Lit.int.injEq, true_and] at h; omega
    | some b => simp only [ptrD, DataW.lit.injEq, Lit.int.injEq, true_and] at h; congr 1; omega
/-- The datum D holds pointers: f, just at the keys of L. -/
structure PM (D : DataW Unit) (L : List Int) (f : Int → Option Nat) : Prop where
  tidy : Maps.Tidy D
  has : ∀ x, Maps.has D (.int .i64 x) = L.contains x
  at_ : ∀ x, D.atKey (.int .i64 x) (ptrD none) = ptrD (f x)
  some_ : ∀ x, (f x).isSome = L.contains x
  size : Maps.size D = L.length
  nodup : L.Nodup
theorem PM.empty : PM (.map []) [] (fun _ => none) := ⟨Maps.tidy_empty, fun _ => rfl, fun _ => rfl, fun _ => rfl, rfl, List.nodup_nil⟩
theorem PM.put {D : DataW Unit} {L : List Int} {f : Int → Option Nat} (h : PM D L f) (x : Int) (g : Nat) : PM (D.put (.int .i64 x) (ptrD (some g))) (addTo L x) (fun y => if y = x then some g else f y) := by
  refine ⟨h.tidy.put (keyLit x) _, fun y => ?_, fun y => ?_, fun y => ?_, ?_, ?_⟩
  · rw [addTo_has]
    by_cases e : y = x
    · subst e; rw [Maps.has_put_same h.tidy.isMap (keyLit y)]; simp
    · rw [Maps.has_put_other (litne e), h.has, show (x == y) = false from beq_eq_false_iff_ne.2 (Ne.symm e), Bool.or_false]
  · by_cases e : y = x
    · subst e; rw [Maps.atKey_put_same h.tidy.isMap (keyLit y), if_pos rfl]
    · rw [Maps.atKey_put_other (litne e), h.at_, if_neg e]
  · rw [addTo_has]
    by_cases e : y = x
    · subst e; simp
    · rw [if_neg e, h.some_, show (x == y) = false from beq_eq_false_iff_ne.2 (Ne.symm e), Bool.or_false]
  · rw [Maps.size_put h.tidy, h.has, h.size]
    unfold addTo
    split <;> simp
  · unfold addTo
    split
    · exact h.nodup
    · next hn => exact List.nodup_append.2 ⟨h.nodup, by simp, fun a ha b hb => by
        rw [List.mem_singleton.1 hb]
        intro e; subst e
        exact hn (by simpa using ha)⟩
theorem PM.del {D : DataW Unit} {L : List Int} {f : Int → Option Nat} (h : PM D L f) (x : Int) : PM (D.del (.int .i64 x)) (L.erase x) (fun y => if y = x then none else f y) := by
  refine ⟨h.tidy.del _, fun y => ?_, fun y => ?_, fun y => ?_, ?_, h.nodup.erase x⟩
  · rw [erase_has h.nodup]
    by_cases e : y = x
    · subst e; rw [Maps.has_del_same]; simp
    · rw [Maps.has_del_other (litne e), h.has, show (x == y) = false from beq_eq_false_iff_ne.2 (Ne.symm e)]; simp
  · by_cases e : y = x
    · subst e; rw [Maps.atKey_del_same, if_pos rfl]
    · rw [Maps.atKey_del_other (litne e), h.at_, if_neg e]
  · rw [erase_has h.nodup]
    by_cases e : y = x
    · subst e; simp
    · rw [if_neg e, h.some_, show (x == y) = false from beq_eq_false_iff_ne.2 (Ne.symm e)]; simp
  · have := Maps.size_del (k := .int .i64 x) h.tidy
    rw [h.has, h.size] at this
    by_cases e : L.contains x
    · rw [if_pos e] at this
      rw [List.length_erase_of_mem (by simpa using e)]
      omega
    · rw [if_neg e] at this
      rw [List.erase_of_not_mem (by simpa using e)]
      omega
/-- Block b is such a map, of at most n entries. -/
def World.pmap (w : World) (P : Program) (k : TypeId) (b n : Nat) (L : List Int) (f : Int → Option Nat) : Prop := ∃ D : DataW Unit, w.ownsMap P k ptrElem b n D ∧ PM D L f
namespace World
variable {w w' : World} {P : Program} {k e : TypeId} {b n : Nat} {L : List Int} {f : Int → Option Nat}
theorem pmap.lt (h : w.pmap P k b n L f) : b < w.heap.size := by obtain ⟨D, h1, _⟩ := h; exact h1.lt
theorem pmap.kept {row : Option Nat} (h : w.pmap P k b n L f) (hg : w.grownBy w' row) (hne : some b ≠ row) : w'.pmap P k b n L f := by obtain ⟨D, h1, h2⟩ := h; exact ⟨D, h1.kept hg hne, h2⟩
theorem pmap.alloc (h : w.pmap P k b n L f) (o : Obj) : (w.alloc o).pmap P k b n L f := by obtain ⟨D, h1, h2⟩ := h; exact ⟨D, h1.alloc o, h2⟩
theorem pmap.mono {m : Nat} (h : w.pmap P k b n L f) (hm : n ≤ m) : w.pmap P k b m L f := by obtain ⟨D, h1, h2⟩ := h; exact ⟨D, h1.mono hm, h2⟩
theorem pmap_made (w : World) (P : Program) (k : TypeId) : (w.alloc (.map #[] 0)).pmap P k w.heap.size 0 [] (fun _ => none) := ⟨_, World.ownsMap_made _ _ _ _, PM.empty⟩
theorem pmap.same (h : w.pmap P k b n L f) (hb : w'.heap[b]? = w.heap[b]?) : w'.pmap P k b n L f := by
  obtain ⟨D, ⟨es, clock, h1, h2⟩, h3⟩ := h
  exact ⟨D, ⟨es, clock, hb.trans h1, h2⟩, h3⟩
theorem pmap.some_ (h : w.pmap P k b n L f) (x : Int) : (f x).isSome = L.contains x := by obtain ⟨D, _, h2⟩ := h; exact h2.some_ x
theorem pmap.nodup (h : w.pmap P k b n L f) : L.Nodup := by obtain ⟨D, _, h2⟩ := h; exact h2.nodup
end World
section
variable {P : Program} {w : World} {ops : Array Oper} {rest : List Oper} {o : Oper} {a : Act} {Q : Exit → Act → World → Prop} {k e : TypeId} {b n : Nat} {L : List Int} {f : Int → Option Nat}
theorem wpList_lookup_pm (hg : o.guard = none) (m x : Operand) (t : TypeId) (hop : o.op = Op.lookup t m x false) (hk : P.underlying k = some (.int .i64)) (ht : P.underlying t = some (.map k e)) (hz : ∀ w, (zeroValue e).run P w = .ok (.pointer none) w)
    (hm : a.eval m = .map (some b)) (h : w.pmap P k b n L f) (i : Int) (hx : a.eval x = .int .i64 i) (hi : In64 i) (r : Option Nat) (hr : f i = r)
    (hK : wpList P ops Q rest (a.put o.dst (ptrV r)) w) : wpList P ops Q (o :: rest) a w := by
  refine wpList_plain hg fun K' hK' => ?_
  obtain ⟨D, hown, hB⟩ := h
  obtain ⟨v, ps, hrun, hv⟩ := hown.lookup (Maps.int_keyed hk) ht (hz w) (ptrElem_mk none) (Maps.keyOf_int_mk hk (a := i) (wf_in64 hi))
  obtain ⟨p, rfl, hy⟩ := ptrElem_inv hv
  have e1 := congrArg Prod.fst hy
  simp only at e1
  rw [hB.at_, hr] at e1
  have e2 : r = p := ptrD_inj e1
  subst e2
  unfold Oper.wp
  simp [execOp, hop, hm, hx, hrun, Result.andThen]
  exact hK' _ _ (by simpa using hK)
theorem wpList_mapUpdate_pm (hg : o.guard = none) (m x v : Operand) (t : TypeId) (hop : o.op = Op.mapUpdate t m x v) (hk : P.underlying k = some (.int .i64)) (ht : P.underlying t = some (.map k e))
    (hm : a.eval m = .map (some b)) (h : w.pmap P k b n L f) (hn : n < 100000) (i : Int) (hx : a.eval x = .int .i64 i) (hi : In64 i) (g : Nat) (hv : a.eval v = .pointer (some ⟨g, 0, none⟩))
    (hK : ∀ w', w'.pmap P k b (n + 1) (addTo L i) (fun y => if y = i then some g else f y) → w.grownBy w' (some b) → wpList P ops Q rest (a.put o.dst undef) w') : wpList P ops Q (o :: rest) a w := by
  obtain ⟨D, hown, hB⟩ := h
  refine wpList_mapUpdate_own w hg m x v t hop k e (Maps.int_keyed hk) ht _ b n D hm hown (by unfold maxLen; omega) _ _ _ hx hv (Maps.keyOf_int_mk hk (a := i) (wf_in64 hi)) _ [] (ptrElem_mk (some g)) ?_
  intro w' h1 h2
  exact hK w' ⟨_, h1, hB.put i g⟩ h2
theorem wpList_delete_pm (hg : o.guard = none) (m x : Operand) (t : TypeId) (hop : o.op = Op.call { callee := Callee.builtin Builtin.delete, args := #[m, x], argTypes := #[t, k] }) (hk : P.underlying k = some (.int .i64)) (ht : P.underlying t = some (.map k e))
    (hm : a.eval m = .map (some b)) (h : w.pmap P k b n L f) (i : Int) (hx : a.eval x = .int .i64 i) (hi : In64 i)
    (hK : ∀ w', w'.pmap P k b n (L.erase i) (fun y => if y = i then none else f y) → w.grownBy w' (some b) → wpList P ops Q rest (a.put o.dst (.tuple #[])) w') : wpList P ops Q (o :: rest) a w := by
  obtain ⟨D, hown, hB⟩ := h
  refine wpList_delete_own w hg m x t k hop e (Maps.int_keyed hk) ht _ b n D hm hown _ _ hx (Maps.keyOf_int_mk hk (a := i) (wf_in64 hi)) ?_
  intro w' h1 h2
  exact hK w' ⟨_, h1, hB.del i⟩ h2.grown
theorem wpList_len_pm (hg : o.guard = none) (m : Operand) (t : TypeId) (hop : o.op = Op.call { callee := Callee.builtin Builtin.len, args := #[m], argTypes := #[t] }) (ht : P.underlying t = some (.map k e))
    (hm : a.eval m = .map (some b)) (h : w.pmap P k b n L f) (hK : wpList P ops Q rest (a.put o.dst (.int .i64 (L.length : Int))) w) : wpList P ops Q (o :: rest) a w := by
  obtain ⟨D, hown, hB⟩ := h
  refine wpList_len_own w hg m t hop k e ht _ b n D hm hown ?_
  rw [hB.size]; exact hK
end
end Go
