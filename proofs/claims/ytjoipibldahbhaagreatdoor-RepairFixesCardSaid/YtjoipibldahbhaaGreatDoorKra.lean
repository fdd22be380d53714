/- Several texts in one: Ext Mix Ext2 Arr Ld Calm. -/
import Derived.WalkKit
import Derived.BigQuiet
import Derived.Lib.Hide
import Derived.StillTail
import Derived.OrdersHeld
import Derived.Deep.MidRow
/- General laws of my own, no program in them: 'w.ext x': the world w after anything that has left all old blocks as they were; a drawing region walked once over that class. -/
namespace Go
open Go.RowKit
/-- A world that is as w was in all blocks below B, and has B blocks at least. -/
structure Ext (B : Nat) (w : World) where
  val : World
  below : Below B w val
  size : B ≤ val.heap.size
def World.ext (w : World) (B : Nat) (x : Ext B w) : World := x.val
theorem RowKit.Below.toExt {B : Nat} {w w' : World} (h : Below B w w') (hB : B ≤ w.heap.size) : ∃ x : Ext B w, w' = w.ext B x := ⟨⟨w', h, Nat.le_trans hB h.size⟩, rfl⟩
theorem RowKit.Below.drewN {B : Nat} {a w : World} (h : Below B a w) (n : Nat) : Below B a (w.drewN n) := ⟨h.os, h.tape, h.output, h.size, h.block⟩
section
variable {w : World} {B : Nat}
@[simp, go_sem] theorem World.cell?_ext (x : Ext B w) (b o : Nat) (h : b < B) : (w.ext B x).cell? ⟨b, o, none⟩ = w.cell? ⟨b, o, none⟩ := x.below.cell (p := ⟨b, o, none⟩) h
@[simp, go_sem] theorem World.frozen?_ext (x : Ext B w) (b o : Nat) (h : b < B) : (w.ext B x).frozen? ⟨b, o, none⟩ = w.frozen? ⟨b, o, none⟩ := x.below.frozen (p := ⟨b, o, none⟩) h
@[simp, go_sem] theorem World.ext_lt (x : Ext B w) (b : Nat) (h : b < B) : (b < (w.ext B x).heap.size) = True := eq_true (Nat.lt_of_lt_of_le h x.size)
@[simp, go_sem] theorem World.ext_eq (x : Ext B w) (b : Nat) (h : b < B) : (b = (w.ext B x).heap.size) = False := eq_false (fun e => by have h2 := x.size; unfold World.ext at e; omega)
@[simp, go_sem] theorem World.ext_eq' (x : Ext B w) (b : Nat) (h : b < B) : ((w.ext B x).heap.size = b) = False := eq_false (fun e => by have h2 := x.size; unfold World.ext at e; omega)
@[simp, go_sem] theorem World.ext_le (x : Ext B w) (b : Nat) (h : b ≤ B) : (b ≤ (w.ext B x).heap.size) = True := eq_true (Nat.le_trans h x.size)
theorem World.ext_size (x : Ext B w) : B ≤ (w.ext B x).heap.size := x.size
theorem World.ext_block (x : Ext B w) (b : Nat) (h : b < B) : (w.ext B x).heap[b]? = w.heap[b]? := x.below.block b h
theorem World.ext_below (x : Ext B w) : Below B w (w.ext B x) := x.below
theorem RowKit.Below.ext {b : Nat} {u : World} (h : Below b u w) (x : Ext B w) (hb : b ≤ B) : Below b u (w.ext B x) := h.trans (x.below.mono hb)
end
/-- The region that draws, walked once, over the worlds that are as w in all blocks below B. -/
theorem wp_region_ext {P : Program} {id : Nat} {Q : Exit → Act → World → Prop} {a : Act} {w : World} {l : List Oper} (B : Nat) (hB : B ≤ w.heap.size) (hm : P.follows .mixedOrders = true) (hl : Region.lexB .any l.toArray = true)
    (h : Inhabited (Ext B w) → wpQuiet P l.toArray (fun w' => ∃ x : Ext B w, w' = w.ext B x) (fun a' => ∀ x : Ext B w, Q .normal a' (w.ext B x)) l a) : (Code.region id l.toArray true).wp P Q a w :=
  wp_region_quiet (C := fun w' => ∃ x : Ext B w, w' = w.ext B x) hm hl (Below.toExt ((Below.refl _ _).drew) hB) (by
    simp only [forall_exists_index]
    have e : (fun a' => ∀ (w' : World) (x : Ext B w), w' = w.ext B x → Q .normal a' w') = (fun a' => ∀ x : Ext B w, Q .normal a' (w.ext B x)) :=
      funext fun a' => propext ⟨fun h x => h _ x rfl, fun h w' x e => e ▸ h x⟩
    rw [e]; exact h ⟨⟨w, Below.refl _ _, hB⟩⟩)
/-- A contract 'returned v, all old blocks as they were', met in such a region. -/
theorem Calls.ext_of {P : Program} {f : FuncId} {args : Array Value} {w : World} {B : Nat} {x : Ext B w} {v : Value}
    (h : Calls P f args (w.ext B x) fun e w' => e = .returned v ∧ Below (w.ext B x).heap.size (w.ext B x) w') : Calls P f args (w.ext B x) fun e w'' => e = .returned v ∧ ∃ y : Ext B w, w'' = w.ext B y :=
  h.mono fun _ w' ⟨he, hm⟩ => ⟨he, ⟨w', x.below.trans (hm.mono x.size), Nat.le_trans x.size hm.size⟩, rfl⟩
theorem Calls.ext_of_same {P : Program} {f : FuncId} {args : Array Value} {w : World} {B : Nat} {x : Ext B w} {v : Value}
    (h : Calls P f args (w.ext B x) fun e w' => e = .returned v ∧ w.ext B x = w') : Calls P f args (w.ext B x) fun e w'' => e = .returned v ∧ ∃ y : Ext B w, w'' = w.ext B y :=
  h.mono fun _ _ ⟨he, hm⟩ => ⟨he, x, hm.symm⟩
/-- A contract 'returned v, all old blocks as they were', met anywhere: the world behind it is called 'w.ext B x'. -/
theorem Calls.pure_of {P : Program} {f : FuncId} {args : Array Value} {w : World} {v : Value} {R : Ending → World → Prop} (B : Nat) (hB : B ≤ w.heap.size)
    (h : Calls P f args w fun e w' => e = .returned v ∧ Below w.heap.size w w') (k : ∀ x : Ext B w, R (.returned v) (w.ext B x)) : Calls P f args w R :=
  h.mono fun _ w' ⟨he, hm⟩ => he ▸ k ⟨w', hm.mono hB, Nat.le_trans hB hm.size⟩
/-! A drawing region whose first n operations only read or call quietly over a class of worlds, and whose other operations come behind them in one forced order. -/
section
variable {P : Program} {ops : Array Oper} {md : Region.Mode} {C : World → Prop}
def HeadRun (P : Program) (md : Region.Mode) (ops : Array Oper) (C : World → Prop) (n : Nat) (L : Array Bool → Act → Prop) : Nat → Array Bool → Act → Prop
  | 0, s, a => L s a
  | f + 1, s, a => (∃ j, j ∈ Region.ready md ops s) ∧ ∀ j, j ∈ Region.ready md ops s → j < n ∧ qOp P ops C j (HeadRun P md ops C n L f (s.setIfInBounds j true)) a
theorem HeadRun.any {n g : Nat} {L : Array Bool → Act → Prop} {Q : Exit → Act → World → Prop} (hL : ∀ s a w, C w → L s a → wpAny P md ops Q g s a w) :
    ∀ f s a w, C w → HeadRun P md ops C n L f s a → wpAny P md ops Q (f + g) s a w := by
  intro f
  induction f with
  | zero => intro s a w hw h; rw [Nat.zero_add]; exact hL s a w hw h
  | succ f ih =>
    intro s a w hw h
    have e : f + 1 + g = (f + g) + 1 := by omega
    rw [e]
    refine ⟨fun h0 => ?_, fun j hj => wpOp_of_qOp hw (fun a' w' hw' h' => ih _ a' w' hw' h') (h.2 j hj).2⟩
    obtain ⟨j, hj⟩ := h.1
    rw [h0] at hj
    cases hj
theorem HeadRun.take {n i : Nat} {o : Oper} {v : Value} {L : Array Bool → Act → Prop} (hi : ops[i]? = some o) (hsel : Region.noSelect ops = true)
    (hs : Region.sinkB md ops n = true) (hc : Region.chainB md ops n = true) (hn : n < ops.size) (hin : i < n)
    (hL : ∀ s a, L s a → ∀ j ∈ Region.ready md ops s, n ≤ j) :
    ∀ f s a, HeadInv md ops n s →
      (∀ j oj, ops[j]? = some oj → j ≠ i → s.getD j true = false → (∀ e ∈ oj.after, Region.binds md e = true → e.on ≠ i) → o.apart ops oj = true) →
      i ∈ Region.ready md ops s → YieldsIn P ops C o v a → HeadRun P md ops C n L f (s.setIfInBounds i true) (a.put o.dst v) → HeadRun P md ops C n L (f + 1) s a := by
  have nosel := Region.noSelect_spec hsel
  intro f
  induction f with
  | zero =>
    intro s a inv _ hr hy H
    refine ⟨⟨i, hr⟩, fun j hj => ?_⟩
    have low : j < n := Nat.lt_of_not_le fun h => tail_waits hs hc hn inv _ i rfl hin (mem_ready.1 hr).1 j h hj
    refine ⟨low, ?_⟩
    by_cases e : j = i
    · rw [e]; exact hy.qOp hi H
    · exact absurd (hL _ _ H j (ready_mono hj e)) (by omega)
  | succ f ih =>
    intro s a inv fr hr hy H
    refine ⟨⟨i, hr⟩, fun j hj => ?_⟩
    have low : j < n := Nat.lt_of_not_le fun h => tail_waits hs hc hn inv _ i rfl hin (mem_ready.1 hr).1 j h hj
    refine ⟨low, ?_⟩
    by_cases e : j = i
    · rw [e]; exact hy.qOp hi H
    · obtain ⟨un, oj, hoj, hall⟩ := mem_ready.1 hj
      have away : ∀ e ∈ oj.after, Region.binds md e = true → e.on ≠ i := fun x hx hb he => by
        have := hall x hx hb
        rw [he, getD_both (mem_ready.1 hr).1] at this
        cases this
      have two := qOp_put hoj (fr j oj hoj e un away) (fun cs b => nosel i o cs b hi) (fun cs b => nosel j oj cs b hoj) hy (H.2 j (ready_mono hj e)).2
      refine qOp_mono (fun a' h3 => ih (s.setIfInBounds j true) a' (inv.set hj low) (fun k ok hk hki hun hno => fr k ok hk hki ?_ hno) (ready_mono hr (Ne.symm e)) h3.1 ?_) two
      · by_cases e2 : j = k
        · rw [← e2]; exact un
        · rwa [getD_set_ne true e2] at hun
      · rw [Array.setIfInBounds_comm _ _ e]; exact h3.2
theorem HeadRun.lex {n g : Nat} {K : Act → Prop} (hsel : Region.noSelect ops = true) (hs : Region.sinkB md ops n = true) (hc : Region.chainB md ops n = true) (hn : n < ops.size) :
    ∀ (l : List Oper) (k : Nat) (s : Array Bool) (a : Act), (∀ j, j < l.length → l[j]? = ops[k + j]?) → k + l.length = n → HeadInv md ops n s →
      Region.lexHead md ops g l.length k s = true → wpQuiet P ops C K l a → HeadRun P md ops C n (fun s' a' => Region.seqB md ops g n s' = true ∧ K a') l.length s a := by
  intro l
  induction l with
  | nil =>
    intro k s a _ hk _ hB h
    obtain rfl : k = n := by simpa using hk
    exact ⟨by simpa [Region.lexHead] using hB, h⟩
  | cons o l ih =>
    intro k s a hl hk inv hB h
    have h0 : ops[k]? = some o := by simpa using (hl 0 (by simp)).symm
    simp only [List.length_cons, Region.lexHead, Bool.and_eq_true] at hB
    have kn : k < n := by simp only [List.length_cons] at hk; omega
    have hr : k ∈ Region.ready md ops s := by simpa using hB.1.1
    have hq : qOp P ops C k (wpQuiet P ops C K l) a := by unfold qOp; simp only [h0]; exact h
    obtain ⟨v, hy, hK⟩ := yieldsIn_of_qOp h0 hq
    refine HeadRun.take h0 hsel hs hc hn kn (fun s' a' hL => seqB_ready hL.1) l.length s a inv (Region.free_spec h0 hB.1.2) hr hy ?_
    refine ih (k + 1) _ _ (fun j hj => ?_) (by simp only [List.length_cons] at hk; omega) (inv.set hr kn) hB.2 hK
    have := hl (j + 1) (by simp; omega)
    simpa [Nat.add_assoc, Nat.add_comm 1 j] using this
/-- The rule: the first n operations walked once, over the class; the rest as it stands, in every world of the class. -/
theorem wp_region_head {id : Nat} {Q : Exit → Act → World → Prop} {a : Act} {w : World} {l : List Oper} (n : Nat) (hm : P.follows .mixedOrders = true) (hB : Region.lexTailB .any l.toArray n = true)
    (hC : C { w with drawn := w.drawn + 1 }) (h : wpQuiet P l.toArray C (fun a' => ∀ w', C w' → wpList P l.toArray Q (l.drop n) a' w') (l.take n) a) : (Code.region id l.toArray true).wp P Q a w := by
  simp only [Region.lexTailB, Bool.and_eq_true, decide_eq_true_eq] at hB
  obtain ⟨⟨⟨⟨hsel, hn⟩, hs⟩, hc⟩, hlex⟩ := hB
  have hn' : n < l.length := by simpa using hn
  have tl : (l.take n).length = n := by simp; omega
  have dl : (l.drop n).length = l.toArray.size - n := by simp
  have inv0 : HeadInv .any l.toArray n (Array.replicate l.toArray.size false) :=
    ⟨by simp, fun j oj _ hl => (by rw [getD_replicate_false] at hl; cases hl), fun t _ ht => getD_in (by simpa using ht) (getD_replicate_false _ _)⟩
  have H := HeadRun.lex (P := P) (C := C) (md := .any) (g := l.toArray.size - n) hsel hs hc hn (l.take n) 0 _ a
    (fun j hj => by have : j < n := by omega
                    simp [this]) (by omega) inv0 (by rw [tl]; exact hlex) h
  refine wp_region_any hm ?_
  have fin := HeadRun.any (Q := Q) (g := l.toArray.size - n) (fun s a' w' hw hL => by
    have := wpAny_of_seq (md := .any) (Q' := Q) (l.drop n) n s a' w' (fun j => by simp [List.getElem?_drop]) (by rw [dl]; exact hL.1) (hL.2 w' hw)
    rwa [dl] at this) _ _ _ _ hC H
  rw [tl, show n + (l.toArray.size - n) = l.toArray.size by omega] at fin
  exact fin
theorem wp_region_ext_head {id : Nat} {Q : Exit → Act → World → Prop} {a : Act} {w : World} {l : List Oper} (n B : Nat) (hB : B ≤ w.heap.size) (hm : P.follows .mixedOrders = true) (hl : Region.lexTailB .any l.toArray n = true)
    (h : Inhabited (Ext B w) → wpQuiet P l.toArray (fun w' => ∃ x : Ext B w, w' = w.ext B x) (fun a' => ∀ x : Ext B w, wpList P l.toArray Q (l.drop n) a' (w.ext B x)) (l.take n) a) : (Code.region id l.toArray true).wp P Q a w :=
  wp_region_head n hm hl (Below.toExt ((Below.refl _ _).drew) hB) (by
    have e : (fun a' => ∀ (w' : World), (∃ x : Ext B w, w' = w.ext B x) → wpList P l.toArray Q (l.drop n) a' w') = (fun a' => ∀ x : Ext B w, wpList P l.toArray Q (l.drop n) a' (w.ext B x)) :=
      funext fun a' => propext ⟨fun h x => h _ ⟨x, rfl⟩, fun h w' ⟨x, e⟩ => e ▸ h x⟩
    rw [e]; exact h ⟨⟨w, Below.refl _ _, hB⟩⟩)
end
/-! Blocks known whole. -/
/-- Block b is the row of cells cs, none of them frozen. -/
def World.row (w : World) (b : Nat) (cs : List Value) (t : TypeId) : Prop := w.heap[b]? = some (.cells cs.toArray t (0, 0))
namespace World
section
variable {w : World} {b : Nat} {cs : List Value} {t : TypeId}
theorem row.lt (h : w.row b cs t) : b < w.heap.size := (Array.getElem?_eq_some_iff.1 h).1
theorem row.cell (h : w.row b cs t) (i : Nat) {v : Value} (hi : cs[i]? = some v) : w.cell? ⟨b, i, none⟩ = some v := by
  unfold World.row at h; unfold World.cell?; simp [h, hi]
theorem row.cellAt (h : w.row b cs t) (i : Nat) (hi : i < cs.length) : w.cell? ⟨b, i, none⟩ = some cs[i] := h.cell i (by simp [hi])
theorem row.free (h : w.row b cs t) (i : Nat) : w.frozen? ⟨b, i, none⟩ = false := by
  unfold World.row at h; unfold World.frozen?; simp [h]
theorem row.alloc (h : w.row b cs t) (o : Obj) : (w.alloc o).row b cs t := by
  have := h.lt; unfold World.row at *; rw [Below.heap_alloc _ _ _ this]; exact h
theorem row.new (w : World) (cs : List Value) (t : TypeId) : (w.alloc (.cells cs.toArray t)).row w.heap.size cs t := by
  unfold World.row World.alloc; simp
theorem row.new' {w : World} {b : Nat} {cs : List Value} {t : TypeId} (h : w.heap.size = b) : (w.alloc (.cells cs.toArray t)).row b cs t := h ▸ row.new w cs t
theorem row.below {w' : World} {B : Nat} (h : w.row b cs t) (hb : Below B w w') (hB : b < B) : w'.row b cs t := by
  unfold World.row at *; rw [hb.block b hB]; exact h
theorem row.ext {B : Nat} (h : w.row b cs t) (x : Ext B w) (hB : b < B) : (w.ext B x).row b cs t := h.below x.below hB
theorem row.drewN (h : w.row b cs t) (n : Nat) : (w.drewN n).row b cs t := h
theorem row.drew (h : w.row b cs t) : w.drew.row b cs t := h
theorem row.set (h : w.row b cs t) (i : Nat) (v : Value) : (w.setCell ⟨b, i, none⟩ v).row b (cs.set i v) t := by
  have lt := h.lt
  unfold World.row at *
  simp only [World.setCell, Array.getElem?_modify, h]
  simp
theorem row.other (h : w.row b cs t) (a : Addr) (v : Value) (hn : a.block ≠ b) : (w.setCell a v).row b cs t := by
  unfold World.row at *; rw [Below.heap_setCell _ _ _ _ (fun e => hn e.symm)]; exact h
theorem row.four {v0 v1 v2 v3 : Value} (h : w.row b [v0, v1, v2, v3] t) : w.cell? ⟨b, 0, none⟩ = some v0 ∧ w.cell? ⟨b, 1, none⟩ = some v1 ∧ w.cell? ⟨b, 2, none⟩ = some v2 ∧ w.cell? ⟨b, 3, none⟩ = some v3 ∧ (∀ i, w.frozen? ⟨b, i, none⟩ = false) :=
  ⟨h.cell 0 rfl, h.cell 1 rfl, h.cell 2 rfl, h.cell 3 rfl, h.free⟩
theorem row.one {v0 : Value} (h : w.row b [v0] t) : w.cell? ⟨b, 0, none⟩ = some v0 ∧ (∀ i, w.frozen? ⟨b, i, none⟩ = false) := ⟨h.cell 0 rfl, h.free⟩
theorem row.two {v0 v1 : Value} (h : w.row b [v0, v1] t) : w.cell? ⟨b, 0, none⟩ = some v0 ∧ w.cell? ⟨b, 1, none⟩ = some v1 ∧ (∀ i, w.frozen? ⟨b, i, none⟩ = false) := ⟨h.cell 0 rfl, h.cell 1 rfl, h.free⟩
end
end World
/-- The world at a piece of code is given a name: what is known of it stands in F. -/
theorem wp_world {P : Program} {c : Code} {Q : Exit → Act → World → Prop} {a : Act} {w : World} (F : World → Prop) (h1 : F w) (h2 : ∀ wc, F wc → c.wp P Q a wc) : c.wp P Q a w := h2 w h1
theorem rounds_world {P : Program} {c : Code} {n : Nat} {Q : Exit → Act → World → Prop} {a : Act} {w : World} (F : World → Prop) (h1 : F w) (h2 : ∀ wc, F wc → Code.rounds P c Q n a wc) : Code.rounds P c Q n a w := h2 w h1
/-- A result that lies in a block known whole. -/
theorem bodyPost_row {P : Program} {fn : Func} {R : Ending → World → Prop} {a : Act} {w : World} {p : Tmp} {ty : TypeId} {g : Nat} {cs : List Value} {t : TypeId} {d : TypeDesc}
    (h : fn.results = #[.cell p ty]) (hp : a.tmps.getD p undef = .pointer (some ⟨g, 0, none⟩)) (hr : w.row g cs t) (hu : P.underlying ty = some d)
    (hd : (match d with | .struct _ | .array _ _ => true | _ => false) = true) (hi : (P.info? ty).map (·.size) = some cs.length) (hdf : a.defers = []) (hR : R (.returned (.agg cs.toArray)) w) : bodyPost P fn R .ret a w :=
  bodyPost_ret (results_cell_row h a.tmps w g t cs.toArray (0, 0) d hp hr hu hd (by simpa using hi)) hdf hR
/-! A slice that reads as a list (elements of one cell). -/
def World.lst (w : World) (v : Value) (vs : List Value) : Prop :=
  (v = .slice none 0 0 ∧ vs = []) ∨ ∃ b o c, v = .slice (some ⟨b, o, none⟩) vs.length c ∧ ∀ j u, vs[j]? = some u → w.cell? ⟨b, o + j, none⟩ = some u
theorem World.lst.below {w w' : World} {B : Nat} {v : Value} {vs : List Value} (h : w.lst v vs) (hb : Below B w w') (hB : w.heap.size ≤ B) : w'.lst v vs := by
  rcases h with h | ⟨b, o, c, hv, hc⟩
  · exact .inl h
  · refine .inr ⟨b, o, c, hv, fun j u hj => ?_⟩
    have h1 := hc j u hj
    rw [hb.cell (p := ⟨b, o + j, none⟩) (Nat.lt_of_lt_of_le (block_lt_of_cell h1) hB)]
    exact h1
theorem World.ownsRow.lst {w : World} {base : Nat} {e : TypeId} {v : Value} {n : Nat} {xs : List Value} (h : w.ownsRow base e 1 v n xs) : w.lst v xs := by
  obtain ⟨hl, h⟩ := h
  have hn : n = xs.length := by omega
  rcases h with ⟨h1, h2⟩ | ⟨g, cap, cur, hv, _, hh, h1, _, hs, ht⟩
  · subst h2; exact .inl ⟨h1, List.length_eq_zero_iff.1 hn.symm⟩
  · refine .inr ⟨g, 0, cap, by rw [hv, hn], fun j u hj => ?_⟩
    have h2 : cur[j]? = some u := by
      rw [← ht] at hj
      rw [List.getElem?_take] at hj
      split at hj
      · simpa using hj
      · cases hj
    simp [World.cell?, hh, h2]
/-! '==' on two arrays of four integers. -/
section
variable {P : Program}
theorem run_eq_array4 (d : Nat) (t e : TypeId) (i : TypeInfo) (k : IntKind) (w : World) (ht : P.underlying t = some (.array 4 e)) (he : P.underlying e = some (.int k)) (hi : P.info? e = some i) (hs : i.size = 1) (a0 a1 a2 a3 b0 b1 b2 b3 : Int) :
   (Op.equalIn (d + 2) t (.agg #[.int k a0, .int k a1, .int k a2, .int k a3]) (.agg #[.int k b0, .int k b1, .int k b2, .int k b3])).run P w = .ok (a0 == b0 && (a1 == b1 && (a2 == b2 && a3 == b3))) w := by
  have hsz : ∀ w, (sizeOf e).run P w = .ok 1 w := fun w => by simp [sizeOf, typeInfo, hi, hs]
  have heq : ∀ (a b : Int) (w : World), (Op.equalIn (d + 1) e (.int k a) (.int k b)).run P w = .ok (a == b) w := fun a b w => run_equalIn_int w d e k k a b he
  rw [show d + 2 = (d + 1) + 1 by rfl, Op.equalIn]
  simp only [Sem.run_bind, run_underlying ht, Result.andThen_ok, hsz]
  simp only [Std.Legacy.Range.forIn_eq_forIn_range', Std.Legacy.Range.size, List.range'_succ, List.range'_zero, List.forIn_cons, List.forIn_nil]
  cases h0 : (a0 == b0) <;> cases h1 : (a1 == b1) <;> cases h2 : (a2 == b2) <;> cases h3 : (a3 == b3) <;> simp [part, isAgg, run_underlying he, heq, h0, h1, h2, h3]
end
end Go
/- A region that draws its order, walked once in the order of the text: light operations over a class of worlds, heavy ones (calls, allocations, stores) in the very world. No program in it. -/
namespace Go
open Go.RowKit
/-- Operations that yield a value and leave the world alone. -/
def lightB (o : Oper) : Bool :=
  match o.op with
  | .move _ | .assign _ | .pick .. | .build .. | .makeFunc .. | .load .. | .nilCheck _ | .binOp .. | .unOp .. | .convert .. | .fieldAddr .. | .field .. | .indexAddr .. | .index .. | .lookup .. | .slice .. | .extract .. | .typeAssert .. | .makeInterface .. => true
  | .call c => match c.callee with
    | .builtin .len | .builtin .cap | .builtin .min | .builtin .max => true
    | _ => false
  | _ => false
theorem value_of_bind {P : Program} {s : Sem Value} {w w' : World} {n : Next} (h : Sem.run P (do pure (Next.value (← s)) : Sem Next) w = .ok n w') : ∃ u, n = .value u := by
  rw [Sem.run_bind] at h
  cases hs : s.run P w with
  | ok v w1 => rw [hs] at h; simp at h; exact ⟨v, h.1.symm⟩
  | halt x w1 => rw [hs] at h; simp [Result.andThen] at h
theorem nilDeref_ne {P : Program} {w w' : World} (n : Next) : Sem.run P (runtimePanic .nilDeref : Sem Next) w ≠ .ok n w' := by
  intro h
  simp [runtimePanic, goPanic] at h
theorem value_of_then {P : Program} {s : Sem Unit} {u : Value} {w w' : World} {n : Next} (h : Sem.run P (s >>= fun _ => pure (Next.value u)) w = .ok n w') : ∃ u, n = .value u := by
  rw [Sem.run_bind] at h
  cases hs : s.run P w with
  | ok v w1 => rw [hs] at h; simp at h; exact ⟨u, h.1.symm⟩
  | halt x w1 => rw [hs] at h; simp [Result.andThen] at h
theorem light_value {P : Program} {ρ : Operand → Value} {o : Oper} {w w' : World} {n : Next} (hl : lightB o = true) (h : (execOp ρ o).run P w = .ok n w') : ∃ u, n = .value u := by
  obtain ⟨dst, op, type, pos, after, guard⟩ := o
  cases op <;> simp only [lightB] at hl <;> first | (cases hl; done) | skip
  case call c =>
    obtain ⟨callee, args, argTypes⟩ := c
    cases callee with
    | builtin b =>
      cases b <;> simp only at hl <;> first | (cases hl; done) | skip
      all_goals (
        simp only [execOp, resolve, Sem.run_bind, Sem.run_pure, Result.andThen_ok, invoke, builtin] at h
        exact value_of_bind (by rw [Sem.run_bind]; exact h))
    | value f => cases hl
    | invoke r m => cases hl
  case move x => simp [execOp] at h; exact ⟨_, h.1.symm⟩
  case assign x => simp [execOp] at h; exact ⟨_, h.1.symm⟩
  case pick c x y => exact value_of_bind (s := do pure (if ← asBool (ρ c) then ρ x else ρ y)) (by simpa [execOp] using h)
  case nilCheck x =>
    simp only [execOp] at h
    split at h
    · exact absurd h (nilDeref_ne _)
    · exact absurd h (nilDeref_ne _)
    · exact absurd h (nilDeref_ne _)
    · split at h
      · exact absurd h (nilDeref_ne _)
      · rw [Sem.run_bind] at h
        generalize Sem.run P _ w = r at h
        cases r with
        | ok b w1 =>
          simp only [Result.andThen_ok] at h
          rw [Sem.run_bind] at h
          generalize Sem.run P _ w1 = r2 at h
          cases r2 with
          | ok b2 w2 =>
            simp only [Result.andThen_ok] at h
            split at h
            · exact value_of_then h
            · simp at h; exact ⟨_, h.1.symm⟩
          | halt x w2 => simp [Result.andThen] at h
        | halt x w1 => simp [Result.andThen] at h
      · simp at h; exact ⟨_, h.1.symm⟩
    · simp at h; exact ⟨_, h.1.symm⟩
  all_goals exact value_of_bind h
section
variable {P : Program} {ops : Array Oper} {md : Region.Mode} {C : World → Prop} {fin : Bool} {hv : Nat → Bool} {Q : Exit → Act → World → Prop}
def noExit : Exit → Act → World → Prop := fun _ _ _ => False
/-- The operations of l, in this order: light ones yield over the class, heavy ones run in the world at hand. -/
def mixRun (P : Program) (ops : Array Oper) (C : World → Prop) (fin : Bool) (Q : Exit → Act → World → Prop) (hv : Nat → Bool) : List Nat → Act → World → Prop
  | [], a, w => Q .normal a w
  | i :: l, a, w =>
    if hv i = true then wpOp P ops noExit i (fun a' w' => ((fin = true ∧ l = []) ∨ C w') ∧ mixRun P ops C fin Q hv l a' w') a w
    else ∃ o v, ops[i]? = some o ∧ YieldsIf P ops C o v a ∧ mixRun P ops C fin Q hv l (a.put o.dst v) w
theorem YieldsIf.back {oi oj : Oper} {v u : Value} {a : Act} (hap : oi.apart ops oj = true) (hsj : ∀ cs b, oj.op ≠ .select cs b) : YieldsIf P ops C oj v (a.put oi.dst u) ↔ YieldsIf P ops C oj v a := by
  obtain ⟨h1, h2, h3⟩ := Oper.apart_spec hap
  have e1 := execOp_put oj hsj a oi.dst u h1
  have e2 := wanted_put oj a oi.dst u h1
  exact ⟨fun h => h.of_same e1.symm e2.symm, fun h => h.of_same e1 e2⟩
theorem YieldsIf.det {o : Oper} {v v' : Value} {a : Act} {w : World} (hw : C w) (h : YieldsIf P ops C o v a) (h' : YieldsIf P ops C o v' a) : v = v' := by
  rcases h with ⟨h1, h2⟩ | ⟨h1, h2⟩
  · rcases h' with ⟨_, h4⟩ | ⟨h3, _⟩
    · have := (h2 w hw).symm.trans (h4 w hw)
      cases this; rfl
    · rw [h1] at h3; cases h3
  · rcases h' with ⟨h3, _⟩ | ⟨_, h4⟩
    · rw [h1] at h3; cases h3
    · rw [h2, h4]
/-- A heavy operation has an outcome. -/
theorem wpOp_some {i : Nat} {oi : Oper} {a : Act} {w : World} {K : Act → World → Prop} (hi : ops[i]? = some oi) (h : wpOp P ops noExit i K a w) :
    ∃ u d w', K ({ a with defers := d }.put oi.dst u) w' := by
  unfold wpOp at h
  simp only [hi] at h
  split at h
  · rcases h with h | ⟨_, _, _, h⟩
    · unfold Oper.wp at h
      generalize (execOp a.eval oi).run P w = r at h
      cases r with
      | ok n w1 =>
        cases n <;> simp only [Oper.upon] at h
        case value v => exact ⟨v, a.defers, _, h⟩
        case skip => exact ⟨undef, a.defers, _, h⟩
        case defer d => exact ⟨undef, d :: a.defers, _, h⟩
        case enter f args =>
          obtain ⟨e, w', _, he, _⟩ := h []
          cases e with
          | returned v => exact ⟨v, a.defers, w', he⟩
          | panicked c => exact he.elim
          | outgrown => obtain ⟨_, _, h⟩ := he; exact h.elim
        case row r args =>
          obtain ⟨v, w', he, _⟩ := h default []
          exact ⟨v, a.defers, w', he⟩
      | halt x w1 =>
        cases x <;> simp only [Oper.upon] at h
        case panic v => exact h.elim
    · exact h.elim
  · exact ⟨undef, a.defers, w, h⟩
theorem YieldsIf.defers {o : Oper} {v : Value} {a : Act} {d : List Deferred} : YieldsIf P ops C o v { a with defers := d } ↔ YieldsIf P ops C o v a :=
  ⟨fun h => h.of_same rfl rfl, fun h => h.of_same rfl rfl⟩
/-- Operation i, with j's value laid ahead of it. -/
theorem wpOp_carry {i : Nat} {oi oj : Oper} {v : Value} (hi : ops[i]? = some oi) (hap : oi.apart ops oj = true)
    (hsi : ∀ cs b, oi.op ≠ .select cs b) (hsj : ∀ cs b, oj.op ≠ .select cs b) {K K' : Act → World → Prop} {a : Act} {w : World}
    (hy : YieldsIf P ops C oj v a) (hk : ∀ a' w', YieldsIf P ops C oj v a' → K a' w' → K' (a'.put oj.dst v) w') (h : wpOp P ops noExit i K a w) : wpOp P ops noExit i K' (a.put oj.dst v) w := by
  obtain ⟨h1, h2, h3⟩ := Oper.apart_spec hap
  have keep : ∀ u d, YieldsIf P ops C oj v ({ a with defers := d }.put oi.dst u) := fun u d => (YieldsIf.back hap hsj).2 (YieldsIf.defers.2 hy)
  have e1 := execOp_put oi hsi a oj.dst v h3
  have e2 := wanted_put oi a oj.dst v h3
  have pc : ∀ (b : Act) u, (b.put oj.dst v).put oi.dst u = (b.put oi.dst u).put oj.dst v := fun b u => (Act.put_comm b u v h2).symm
  unfold wpOp at *
  simp only [hi] at *
  rw [e2]
  split
  · rename_i hw
    simp only [hw, if_true] at h
    rcases h with h | ⟨_, _, _, h⟩
    · left
      unfold Oper.wp at *
      rw [e1]
      generalize (execOp a.eval oi).run P w = r at h
      cases r with
      | ok n w1 =>
        cases n <;> simp only [Oper.upon] at h ⊢
        case value u => rw [pc]; exact hk _ _ (keep u a.defers) h
        case skip => rw [pc]; exact hk _ _ (keep undef a.defers) h
        case defer d =>
          have := hk _ _ (keep undef (d :: a.defers)) h
          rw [Act.put_defers, pc]
          exact this
        case enter f args =>
          refine Calls.mono h fun e w'' he => ?_
          cases e with
          | returned u => show K' ((a.put oj.dst v).put oi.dst u) w''; rw [pc]; exact hk _ _ (keep u a.defers) he
          | panicked c => exact he.elim
          | outgrown => obtain ⟨_, _, h⟩ := he; exact h.elim
        case row r args => exact Rows.mono h fun u w'' he => by rw [pc]; exact hk _ _ (keep u a.defers) he
      | halt x w1 =>
        cases x <;> simp only [Oper.upon] at h ⊢
        case panic u => exact h.elim
    · exact h.elim
  · rename_i hw
    simp only [hw] at h
    rw [pc]
    exact hk _ _ (keep undef a.defers) h
theorem wpOp_exit {i : Nat} {a : Act} {w : World} {K : Act → World → Prop} (h : wpOp P ops noExit i K a w) : wpOp P ops Q i K a w := by
  unfold wpOp at *
  split
  · exact (by simpa [*] using h)
  · rename_i o ho
    simp only [ho] at h
    split
    · rename_i hw
      simp only [hw, if_true] at h
      rcases h with h | ⟨_, _, _, h⟩
      · left
        unfold Oper.wp at *
        generalize (execOp a.eval o).run P w = r at *
        cases r with
        | ok n w' =>
          cases n <;> simp only [Oper.upon] at h ⊢ <;> first | exact h | skip
          case enter f args =>
            refine Calls.mono h fun e w'' he => ?_
            cases e with
            | returned u => exact he
            | panicked c => exact he.elim
            | outgrown => obtain ⟨_, _, h⟩ := he; exact h.elim
        | halt x w1 =>
          cases x <;> simp only [Oper.upon] at h ⊢
          case panic u => exact h.elim
      · exact h.elim
    · rename_i hw; simp only [hw] at h; exact h
/-- A light operation that may come up now comes up first. -/
theorem mixRun_light {j : Nat} {oj : Oper} (hj : ops[j]? = some oj) (hjl : hv j = false) (hsel : ∀ (k : Nat) (o : Oper) cs b, ops[k]? = some o → o.op ≠ .select cs b) :
    ∀ (l : List Nat) (a : Act) (w : World), j ∈ l → l.Nodup → (∀ i ∈ l, i < ops.size) → (∀ i oi, i ∈ l → ops[i]? = some oi → i ≠ j → (∃ l1 l2, l = l1 ++ j :: l2 ∧ i ∈ l1) → oi.apart ops oj = true) → C w → mixRun P ops C fin Q hv l a w →
      ∃ v, YieldsIf P ops C oj v a ∧ mixRun P ops C fin Q hv (l.erase j) (a.put oj.dst v) w := by
  intro l
  induction l with
  | nil => intro a w hm; cases hm
  | cons i l ih =>
    intro a w hm hn hb hap hw h
    by_cases hij : i = j
    · subst hij
      unfold mixRun at h
      rw [hjl] at h
      simp only [Bool.false_eq_true, if_false] at h
      obtain ⟨o, v, ho, hy, hr⟩ := h
      rw [hj] at ho
      obtain rfl := Option.some.inj ho
      exact ⟨v, hy, by rw [List.erase_cons_head]; exact hr⟩
    · have hml : j ∈ l := (List.mem_cons.1 hm).resolve_left fun e => hij e.symm
      have hbi := hb i List.mem_cons_self
      have hoi : ops[i]? = some ops[i] := Array.getElem?_eq_getElem hbi
      obtain ⟨l1, l2, hl⟩ := List.append_of_mem hml
      have hapi := hap i _ List.mem_cons_self hoi hij ⟨i :: l1, l2, by rw [hl]; rfl, List.mem_cons_self⟩
      have hap' : ∀ k ok, k ∈ l → ops[k]? = some ok → k ≠ j → (∃ l1 l2, l = l1 ++ j :: l2 ∧ k ∈ l1) → ok.apart ops oj = true := fun k ok hk hok hkj ⟨m1, m2, e, hkm⟩ =>
        hap k ok (List.mem_cons_of_mem _ hk) hok hkj ⟨i :: m1, m2, by rw [e]; rfl, List.mem_cons_of_mem _ hkm⟩
      have hb' := fun k hk => hb k (List.mem_cons_of_mem _ hk)
      have hn' := (List.nodup_cons.1 hn).2
      have he : (i :: l).erase j = i :: l.erase j := List.erase_cons_tail (by simpa using hij)
      rw [he]
      have hsj := fun cs b => hsel j oj cs b hj
      have hsi := fun cs b => hsel i _ cs b hoi
      unfold mixRun at h ⊢
      cases hvi : hv i with
      | true =>
        rw [hvi] at h
        simp only [if_true] at h ⊢
        have hC : ∀ w', ((fin = true ∧ l = []) ∨ C w') → C w' := fun w' h3 => h3.resolve_left fun h4 => by rw [h4.2] at hml; cases hml
        obtain ⟨u, d, w1, hc1, hr1⟩ := wpOp_some hoi h
        obtain ⟨v, hy1, _⟩ := ih _ w1 hml hn' hb' hap' (hC _ hc1) hr1
        have hy := YieldsIf.defers.1 ((YieldsIf.back hapi hsj).1 hy1)
        refine ⟨v, hy, wpOp_carry hoi hapi hsi hsj hy (fun a' w' hy' ⟨hc', hr'⟩ => ?_) h⟩
        obtain ⟨v', hy2, hr2⟩ := ih a' w' hml hn' hb' hap' (hC _ hc') hr'
        obtain rfl := YieldsIf.det (hC _ hc') hy' hy2
        exact ⟨.inr (hC _ hc'), hr2⟩
      | false =>
        rw [hvi] at h
        simp only [Bool.false_eq_true, if_false] at h ⊢
        obtain ⟨o, vi, ho, hyi, hr⟩ := h
        rw [hoi] at ho
        obtain rfl := Option.some.inj ho
        obtain ⟨v, hy1, hr1⟩ := ih _ w hml hn' hb' hap' hw hr
        obtain ⟨h1, h2, h3⟩ := Oper.apart_spec hapi
        refine ⟨v, (YieldsIf.back hapi hsj).1 hy1, _, vi, hoi, ?_, ?_⟩
        · exact hyi.of_same (execOp_put _ hsi a oj.dst v h3) (wanted_put _ a oj.dst v h3)
        · rw [← Act.put_comm a vi v h2]; exact hr1
/-- A heavy one, past light ones. -/
theorem mixRun_heavy {j : Nat} {oj : Oper} (hj : ops[j]? = some oj) (hjl : hv j = true) (hsel : ∀ (k : Nat) (o : Oper) cs b, ops[k]? = some o → o.op ≠ .select cs b) (hfin : fin = true → j + 1 = ops.size → False) :
    ∀ (l : List Nat) (a : Act) (w : World), j ∈ l → l.Pairwise (· < ·) → (∀ i ∈ l, i < ops.size) → (fin = true → ops.size - 1 ∈ l) → (∀ i oi, i ∈ l → ops[i]? = some oi → i ≠ j → (∃ l1 l2, l = l1 ++ j :: l2 ∧ i ∈ l1) → oi.apart ops oj = true ∧ hv i = false) → C w → mixRun P ops C fin Q hv l a w →
      wpOp P ops noExit j (fun a' w' => C w' ∧ mixRun P ops C fin Q hv (l.erase j) a' w') a w := by
  intro l
  induction l with
  | nil => intro a w hm; cases hm
  | cons i l ih =>
    intro a w hm hn hb hf hap hw h
    by_cases hij : i = j
    · subst hij
      unfold mixRun at h
      rw [hjl] at h
      simp only [if_true] at h
      rw [List.erase_cons_head]
      refine wpOp_mono (fun a' w' ⟨h1, h2⟩ => ⟨h1.resolve_left fun h3 => ?_, h2⟩) h
      have := hf h3.1
      rw [h3.2] at this
      have hb1 := hb i List.mem_cons_self
      simp at this
      exact hfin h3.1 (by omega)
    · have hml : j ∈ l := (List.mem_cons.1 hm).resolve_left fun e => hij e.symm
      have hbi := hb i List.mem_cons_self
      have hoi : ops[i]? = some ops[i] := Array.getElem?_eq_getElem hbi
      obtain ⟨l1, l2, hl⟩ := List.append_of_mem hml
      obtain ⟨hapi, hvi⟩ := hap i _ List.mem_cons_self hoi hij ⟨i :: l1, l2, by rw [hl]; rfl, List.mem_cons_self⟩
      have hap' : ∀ k ok, k ∈ l → ops[k]? = some ok → k ≠ j → (∃ l1 l2, l = l1 ++ j :: l2 ∧ k ∈ l1) → ok.apart ops oj = true ∧ hv k = false := fun k ok hk hok hkj ⟨m1, m2, e, hkm⟩ =>
        hap k ok (List.mem_cons_of_mem _ hk) hok hkj ⟨i :: m1, m2, by rw [e]; rfl, List.mem_cons_of_mem _ hkm⟩
      have hb' := fun k hk => hb k (List.mem_cons_of_mem _ hk)
      have hn' := (List.pairwise_cons.1 hn).2
      have he : (i :: l).erase j = i :: l.erase j := List.erase_cons_tail (by simpa using hij)
      have hf' : fin = true → ops.size - 1 ∈ l := fun e => by
        rcases List.mem_cons.1 (hf e) with h4 | h4
        · exfalso
          have hb2 := hb j hm
          have hb3 := (List.pairwise_cons.1 hn).1 j hml
          omega
        · exact h4
      rw [he]
      unfold mixRun at h
      rw [hvi] at h
      simp only [Bool.false_eq_true, if_false] at h
      obtain ⟨o, vi, ho, hyi, hr⟩ := h
      rw [hoi] at ho
      obtain rfl := Option.some.inj ho
      have h2 := ih _ w hml hn' hb' hf' hap' hw hr
      refine wpOp_mono (fun a' w' ⟨hy', hc', hr'⟩ => ⟨hc', ?_⟩) (wpOp_putIf hj hapi (fun cs b => hsel i _ cs b hoi) (fun cs b => hsel j _ cs b hj) (fun _ _ _ h => h) hyi h2)
      unfold mixRun
      rw [hvi]
      simp only [Bool.false_eq_true, if_false]
      exact ⟨_, vi, hoi, hy', hr'⟩
/-! What is looked up in the region's text. -/
def Region.waitB (md : Region.Mode) (ops : Array Oper) (j i : Nat) : Bool :=
  match ops[j]? with
  | some oj => oj.after.any fun e => Region.binds md e && e.on == i
  | none => false
theorem Region.waitB_spec {j i : Nat} (h : Region.waitB md ops j i = true) : ∃ oj, ops[j]? = some oj ∧ ∃ e ∈ oj.after, Region.binds md e = true ∧ e.on = i := by
  unfold Region.waitB at h
  split at h
  · rename_i oj hj
    obtain ⟨e, he, hb⟩ := Array.any_eq_true'.1 h
    simp only [Bool.and_eq_true, beq_iff_eq] at hb
    exact ⟨oj, hj, e, he, hb.1, hb.2⟩
  · cases h
/-- Those that wait for p, directly or through others. -/
def Region.depsOf (md : Region.Mode) (ops : Array Oper) (p : Nat) : List Nat :=
  (List.range ops.size).foldl (fun acc k => if acc.any (fun i => Region.waitB md ops k i) then k :: acc else acc) [p]
def heavyB (xs : List Nat) (o : Oper) : Bool := !lightB o || (match o.dst with | some d => xs.contains d | none => false)
def heavyAt (ops : Array Oper) (xs : List Nat) (i : Nat) : Bool := match ops[i]? with | some o => heavyB xs o | none => false
def Region.mixB (md : Region.Mode) (ops : Array Oper) (xs : List Nat) (fin : Bool) : Bool :=
  Region.noSelect ops &&
  ((List.range ops.size).all fun j => match ops[j]? with | some oj => oj.after.all (fun e => !Region.binds md e || decide (e.on < j)) | none => true) &&
  ((List.range ops.size).all fun j => (List.range j).all fun i => Region.waitB md ops j i || (match ops[i]?, ops[j]? with | some oi, some oj => oi.apart ops oj | _, _ => true)) &&
  ((List.range ops.size).all fun p => !heavyAt ops xs p || (let d := Region.depsOf md ops p; (List.range ops.size).all fun j => !heavyAt ops xs j || decide (j ≤ p) || d.contains j)) &&
  (!fin || (List.range (ops.size - 1)).all fun i => (List.range ops.size).any fun j => decide (i < j) && Region.waitB md ops j i)
/-- What has come up is closed under what is waited for; l: the others, rising. -/
structure MixInv (md : Region.Mode) (ops : Array Oper) (listed : Array Bool) (l : List Nat) : Prop where
  size : listed.size = ops.size
  mem : ∀ j, listed.getD j true = false ↔ j ∈ l
  asc : l.Pairwise (· < ·)
  closed : ∀ j oj, ops[j]? = some oj → listed.getD j false = true → ∀ e ∈ oj.after, Region.binds md e = true → listed.getD e.on false = true
theorem getD_true_lt {listed : Array Bool} {i : Nat} (h : listed.getD i true = false) : i < listed.size := by
  rcases Nat.lt_or_ge i listed.size with h' | h'
  · exact h'
  · simp [Array.getElem?_eq_none h'] at h
theorem getD_of_not {listed : Array Bool} {i : Nat} (hi : i < listed.size) (h : ¬ listed.getD i true = false) : listed.getD i false = true := by
  simp [hi] at h ⊢; exact h
theorem getD_un {listed : Array Bool} {i : Nat} (h : listed.getD i true = false) : listed.getD i false = false := by
  have := getD_true_lt h
  simp [this] at h ⊢; exact h
variable {listed : Array Bool} {l : List Nat}
theorem MixInv.lt (h : MixInv md ops listed l) {j : Nat} (hj : j ∈ l) : j < ops.size := h.size ▸ getD_true_lt ((h.mem j).2 hj)
theorem MixInv.set (h : MixInv md ops listed l) {j : Nat} (hj : j ∈ Region.ready md ops listed) : MixInv md ops (listed.setIfInBounds j true) (l.erase j) := by
  obtain ⟨hun, oi, hoi, hall⟩ := mem_ready.1 hj
  have hjl : j < listed.size := getD_true_lt hun
  have hnd : l.Nodup := h.asc.imp fun h => Nat.ne_of_lt h
  refine ⟨by simp [h.size], fun k => ?_, h.asc.sublist List.erase_sublist, fun k ok hk hl e he hb => ?_⟩
  · by_cases hkj : j = k
    · subst hkj
      have h1 : (listed.setIfInBounds j true).getD j true = true := by simp [hjl]
      rw [h1]
      constructor
      · intro h; cases h
      · intro hm; exact absurd hm (by rw [List.Nodup.mem_erase_iff hnd]; simp)
    · rw [getD_set_ne true hkj, h.mem, List.mem_erase_of_ne (Ne.symm hkj)]
  · by_cases hij : j = k
    · subst hij
      rw [hoi] at hk
      obtain rfl := Option.some.inj hk
      exact getD_set_true (hall e he hb)
    · rw [getD_set_ne false hij] at hl
      exact getD_set_true (h.closed k ok hk hl e he hb)
theorem deps_spec {p : Nat} {j : Nat} (hj : j ∈ Region.depsOf md ops p) (hjp : j ≠ p) : ∀ listed : Array Bool, (∀ j oj, ops[j]? = some oj → listed.getD j false = true → ∀ e ∈ oj.after, Region.binds md e = true → listed.getD e.on false = true) → j ∈ Region.ready md ops listed → listed.getD p false = true := by
  have key : ∀ (r acc : List Nat), (∀ k ∈ acc, (∀ listed : Array Bool, (∀ j oj, ops[j]? = some oj → listed.getD j false = true → ∀ e ∈ oj.after, Region.binds md e = true → listed.getD e.on false = true) → listed.getD k false = true → listed.getD p false = true) ∧ (k = p ∨ ∀ listed : Array Bool, (∀ j oj, ops[j]? = some oj → listed.getD j false = true → ∀ e ∈ oj.after, Region.binds md e = true → listed.getD e.on false = true) → k ∈ Region.ready md ops listed → listed.getD p false = true)) →
      ∀ k ∈ r.foldl (fun acc k => if acc.any (fun i => Region.waitB md ops k i) then k :: acc else acc) acc, (∀ listed : Array Bool, (∀ j oj, ops[j]? = some oj → listed.getD j false = true → ∀ e ∈ oj.after, Region.binds md e = true → listed.getD e.on false = true) → listed.getD k false = true → listed.getD p false = true) ∧ (k = p ∨ ∀ listed : Array Bool, (∀ j oj, ops[j]? = some oj → listed.getD j false = true → ∀ e ∈ oj.after, Region.binds md e = true → listed.getD e.on false = true) → k ∈ Region.ready md ops listed → listed.getD p false = true) := by
    intro r
    induction r with
    | nil => intro acc h; exact h
    | cons x r ih =>
      intro acc h
      rw [List.foldl_cons]
      refine ih _ fun k hk => ?_
      split at hk
      · rename_i hany
        rcases List.mem_cons.1 hk with rfl | hk
        · obtain ⟨i, hi, hw⟩ := List.any_eq_true.1 hany
          obtain ⟨oj, hoj, e, he, hb, hon⟩ := Region.waitB_spec hw
          refine ⟨fun listed hc hl => (h i hi).1 listed hc (hon ▸ hc k oj hoj hl e he hb), .inr fun listed hc hr => ?_⟩
          obtain ⟨_, o2, ho2, hall⟩ := mem_ready.1 hr
          rw [hoj] at ho2
          obtain rfl := Option.some.inj ho2
          exact (h i hi).1 listed hc (hon ▸ hall e he hb)
        · exact h k hk
      · exact h k hk
  have := (key (List.range ops.size) [p] (fun k hk => by obtain rfl := List.mem_singleton.1 hk; exact ⟨fun _ _ h => h, .inl rfl⟩) j hj).2
  exact this.resolve_left hjp
theorem mix_any {xs : List Nat} (hB : Region.mixB md ops xs fin = true) :
    ∀ (n : Nat) (l : List Nat), l.length = n → ∀ (listed : Array Bool) (a : Act) (w : World), MixInv md ops listed l → (l = [] ∨ C w) → mixRun P ops C fin Q (heavyAt ops xs) l a w → wpAny P md ops Q n listed a w := by
  simp only [Region.mixB, Bool.and_eq_true, List.all_eq_true, List.mem_range] at hB
  obtain ⟨⟨⟨⟨hsel, hback⟩, hpair⟩, hheavy⟩, hsink⟩ := hB
  have nosel := Region.noSelect_spec hsel
  have back : ∀ j oj, ops[j]? = some oj → ∀ e ∈ oj.after, Region.binds md e = true → e.on < j := fun j oj hj e he hb => by
    have h1 := hback j (Array.getElem?_eq_some_iff.1 hj).1
    simp only [hj] at h1
    have h2 := Array.all_eq_true_iff_forall_mem.1 h1 e he
    rw [hb] at h2
    simpa using h2
  have pair : ∀ j oj, ops[j]? = some oj → ∀ i oi, ops[i]? = some oi → i < j → (∀ e ∈ oj.after, Region.binds md e = true → e.on ≠ i) → oi.apart ops oj = true := fun j oj hj i oi hi hij hno => by
    have h1 := hpair j (Array.getElem?_eq_some_iff.1 hj).1 i hij
    rw [Bool.or_eq_true] at h1
    rcases h1 with h1 | h1
    · obtain ⟨o, ho, e, he, hb, hon⟩ := Region.waitB_spec h1
      rw [hj] at ho
      obtain rfl := Option.some.inj ho
      exact absurd hon (hno e he hb)
    · simpa [hi, hj] using h1
  have heavy : ∀ p j, p < j → heavyAt ops xs p = true → heavyAt ops xs j = true → p < ops.size → j < ops.size → j ∈ Region.depsOf md ops p := fun p j hpj h1 h2 hp hj => by
    have h3 := hheavy p hp
    rw [h1] at h3
    simp only [Bool.not_true, Bool.false_or, List.all_eq_true, List.mem_range] at h3
    have h4 := h3 j hj
    rw [h2] at h4
    have h5 : decide (j ≤ p) = false := by simp; omega
    rw [h5] at h4
    simpa using h4
  have sink : ∀ (listed : Array Bool) (l : List Nat), MixInv md ops listed l → fin = true → ∀ d i, ops.size - 1 - i = d → i ∈ l → ops.size - 1 ∈ l ∧ (i ≠ ops.size - 1 → ops.size - 1 ∉ Region.ready md ops listed) := by
    intro listed l inv hf d
    induction d using Nat.strongRecOn with
    | _ d ih =>
      intro i hd hi
      have hil := inv.lt hi
      by_cases he : i = ops.size - 1
      · exact ⟨he ▸ hi, fun h => absurd he h⟩
      · rw [hf] at hsink
        simp only [Bool.not_true, Bool.false_or, List.all_eq_true, List.mem_range] at hsink
        obtain ⟨j, hj, hw⟩ := List.any_eq_true.1 (hsink i (by omega))
        rw [List.mem_range] at hj
        simp only [Bool.and_eq_true, decide_eq_true_eq] at hw
        obtain ⟨oj, hoj, e, hee, hb, hon⟩ := Region.waitB_spec hw.2
        have hun := getD_un ((inv.mem i).2 hi)
        have hjl : j ∈ l := (inv.mem j).1 (Classical.byContradiction fun hn => by
          have h1 := inv.closed j oj hoj (getD_of_not (by rw [inv.size]; exact hj) hn) e hee hb
          rw [hon, hun] at h1; cases h1)
        by_cases hjn : j = ops.size - 1
        · refine ⟨hjn ▸ hjl, fun _ hr => ?_⟩
          obtain ⟨_, o2, ho2, hall⟩ := mem_ready.1 hr
          rw [← hjn, hoj] at ho2
          obtain rfl := Option.some.inj ho2
          have h1 := hall e hee hb
          rw [hon, hun] at h1; cases h1
        · obtain ⟨h1, h2⟩ := ih (ops.size - 1 - j) (by omega) j rfl hjl
          exact ⟨h1, fun _ => h2 hjn⟩
  intro n
  induction n with
  | zero =>
    intro l hl listed a w inv _ h
    obtain rfl := List.length_eq_zero_iff.1 hl
    refine ⟨?_, h⟩
    cases hr : Region.ready md ops listed with
    | nil => rfl
    | cons x r =>
      have := (mem_ready.1 (show x ∈ Region.ready md ops listed by rw [hr]; simp)).1
      have := (inv.mem x).1 this
      cases this
  | succ n ih =>
    intro l hl listed a w inv hC h
    cases l with
    | nil => simp at hl
    | cons i l =>
      have hC := hC.resolve_left (by simp)
      have hnd : (i :: l).Nodup := inv.asc.imp fun h => Nat.ne_of_lt h
      have him : i ∈ i :: l := List.mem_cons_self
      have hil := inv.lt him
      have hoi : ops[i]? = some ops[i] := Array.getElem?_eq_getElem hil
      have hri : i ∈ Region.ready md ops listed := mem_ready.2 ⟨(inv.mem i).2 him, _, hoi, fun e he hb => by
        have h1 := back i _ hoi e he hb
        refine getD_of_not (by rw [inv.size]; omega) fun h2 => ?_
        rcases List.mem_cons.1 ((inv.mem e.on).1 h2) with h3 | h3
        · omega
        · have := (List.pairwise_cons.1 inv.asc).1 _ h3; omega⟩
      refine ⟨fun h0 => (by rw [h0] at hri; cases hri), fun j hj => ?_⟩
      obtain ⟨hjun, oj, hoj, hall⟩ := mem_ready.1 hj
      have hjm := (inv.mem j).1 hjun
      have inv' := inv.set hj
      have hlen : ((i :: l).erase j).length = n := by rw [List.length_erase_of_mem hjm]; simpa using hl
      have hno : ∀ k ∈ i :: l, ∀ e ∈ oj.after, Region.binds md e = true → e.on ≠ k := fun k hk e he hb hon => by
        have h1 := hall e he hb
        rw [hon, getD_un ((inv.mem k).2 hk)] at h1; cases h1
      have before : ∀ k, (∃ l1 l2, i :: l = l1 ++ j :: l2 ∧ k ∈ l1) → k < j := fun k ⟨l1, l2, e, hk⟩ => by
        have := inv.asc
        rw [e] at this
        exact (List.pairwise_append.1 this).2.2 k hk j List.mem_cons_self
      cases hvj : heavyAt ops xs j with
      | false =>
        obtain ⟨v, hy, hr⟩ := mixRun_light hoj hvj nosel (i :: l) a w hjm hnd (fun k hk => inv.lt hk) (fun k ok hk hok hkj hb => pair j oj hoj k ok hok (before k hb) (hno k hk)) hC h
        exact hy.wpOp hoj hC (ih _ hlen _ _ _ inv' (.inr hC) hr)
      | true =>
        by_cases hij : i = j
        · subst hij
          unfold mixRun at h
          rw [hvj] at h
          simp only [if_true] at h
          rw [List.erase_cons_head] at inv' hlen
          refine wpOp_mono (fun a' w' ⟨h1, h2⟩ => ih _ hlen _ _ _ inv' (h1.imp (fun h => h.2) id) h2) (wpOp_exit h)
        · have hfin : fin = true → j + 1 = ops.size → False := fun hf hj1 => by
            have h1 := (sink listed _ inv hf _ i rfl him).2 (by omega)
            exact h1 (by rw [show ops.size - 1 = j by omega]; exact hj)
          have h2 := mixRun_heavy hoj hvj nosel hfin (i :: l) a w hjm inv.asc (fun k hk => inv.lt hk) (fun hf => (sink listed _ inv hf _ i rfl him).1) (fun k ok hk hok hkj hb => ⟨pair j oj hoj k ok hok (before k hb) (hno k hk), by
            cases hvk : heavyAt ops xs k with
            | false => rfl
            | true =>
              have h3 := deps_spec (heavy k j (before k hb) hvk hvj (inv.lt hk) (inv.lt hjm)) (Ne.symm hkj) listed inv.closed hj
              rw [getD_un ((inv.mem k).2 hk)] at h3; cases h3⟩) hC h
          exact wpOp_mono (fun a' w' ⟨h1, h2⟩ => ih _ hlen _ _ _ inv' (.inr h1) h2) (wpOp_exit h2)
/-! The walk's own form. -/
def wpMix (P : Program) (ops : Array Oper) (C : World → Prop) (fin : Bool) (Q : Exit → Act → World → Prop) (xs : List Nat) : List Oper → Act → World → Prop
  | [], a, w => Q .normal a w
  | o :: l, a, w =>
    if heavyB xs o = true then (if Region.wanted o (yielded ops a.tmps) = true then o.wp P a w (fun a' w' => ((fin = true ∧ l = []) ∨ C w') ∧ wpMix P ops C fin Q xs l a' w') noExit else ((fin = true ∧ l = []) ∨ C w) ∧ wpMix P ops C fin Q xs l (a.put o.dst undef) w)
    else wpQuiet P ops C (fun a' => wpMix P ops C fin Q xs l a' w) [o] a
variable {xs : List Nat} {o : Oper} {ol : List Oper} {a : Act} {w : World}
theorem wpMix_nil (h : Q .normal a w) : wpMix P ops C fin Q xs [] a w := h
theorem wpMix_light (hh : heavyB xs o = false) (h : wpQuiet P ops C (fun a' => wpMix P ops C fin Q xs ol a' w) [o] a) : wpMix P ops C fin Q xs (o :: ol) a w := by
  unfold wpMix; rw [hh]; exact h
theorem wpMix_heavy (hh : heavyB xs o = true) (hw : Region.wanted o (yielded ops a.tmps) = true) (h : ∀ K : Act → World → Prop, Hid (∀ a' w', C w' → wpMix P ops C fin Q xs ol a' w' → K a' w') → o.wp P a w K noExit) : wpMix P ops C fin Q xs (o :: ol) a w := by
  unfold wpMix; rw [hh, hw, if_pos rfl, if_pos rfl]; exact h _ (Lib.hid fun a' w' h1 h2 => ⟨.inr h1, h2⟩)
theorem wpMix_skip (hh : heavyB xs o = true) (hw : Region.wanted o (yielded ops a.tmps) = false) (hC : C w) (h : wpMix P ops C fin Q xs ol (a.put o.dst undef) w) : wpMix P ops C fin Q xs (o :: ol) a w := by
  unfold wpMix; rw [hh, hw]; exact ⟨.inr hC, h⟩
theorem wpMix_last (hh : heavyB xs o = true) (hw : Region.wanted o (yielded ops a.tmps) = true) (h : ∀ K : Act → World → Prop, Hid (∀ a' w', Q .normal a' w' → K a' w') → o.wp P a w K noExit) : wpMix P ops C true Q xs [o] a w := by
  unfold wpMix; rw [hh, hw, if_pos rfl, if_pos rfl]; exact h _ (Lib.hid fun a' w' h1 => ⟨.inl ⟨rfl, rfl⟩, h1⟩)
theorem mixRun_of_wp : ∀ (l : List Oper) (k : Nat) (a : Act) (w : World), (∀ j, l[j]? = ops[k + j]?) → wpMix P ops C fin Q xs l a w → mixRun P ops C fin Q (heavyAt ops xs) (List.range' k l.length) a w := by
  intro l
  induction l with
  | nil => intro k a w _ h; exact h
  | cons o l ih =>
    intro k a w hl h
    have h0 : ops[k]? = some o := by simpa using (hl 0).symm
    have hl' : ∀ j, l[j]? = ops[k + 1 + j]? := fun j => by have := hl (j + 1); simpa [Nat.add_assoc, Nat.add_comm 1 j] using this
    rw [List.length_cons, List.range'_succ]
    have hnil : l = [] → List.range' (k + 1) l.length = [] := fun e => by rw [e]; rfl
    unfold wpMix at h
    unfold mixRun
    have hv : heavyAt ops xs k = heavyB xs o := by unfold heavyAt; rw [h0]
    rw [hv]
    cases hh : heavyB xs o with
    | true =>
      rw [hh] at h
      simp only [if_true] at h ⊢
      have step : ∀ a' w', (((fin = true ∧ l = []) ∨ C w') ∧ wpMix P ops C fin Q xs l a' w') → ((fin = true ∧ List.range' (k + 1) l.length = []) ∨ C w') ∧ mixRun P ops C fin Q (heavyAt ops xs) (List.range' (k + 1) l.length) a' w' := fun a' w' ⟨h1, h2⟩ => ⟨h1.imp (fun h => ⟨h.1, hnil h.2⟩) id, ih _ _ _ hl' h2⟩
      unfold wpOp
      simp only [h0]
      split
      · rename_i hw
        simp only [hw, if_true] at h
        exact .inl (Oper.wp_mono step h)
      · rename_i hw
        simp only [hw] at h
        exact step _ _ h
    | false =>
      rw [hh] at h
      simp only [Bool.false_eq_true, if_false] at h ⊢
      have hlb : lightB o = true := by
        unfold heavyB at hh
        rw [Bool.or_eq_false_iff] at hh
        simpa using hh.1
      unfold wpQuiet at h
      split at h
      · rename_i hw
        obtain ⟨v, hq, hr⟩ := h
        refine ⟨o, v, h0, .inl ⟨hw, fun w' hw' => ?_⟩, ih _ _ _ hl' hr⟩
        have h1 := hq w' hw'
        unfold Oper.quietAt at h1
        cases hres : (execOp a.eval o).run P w' with
        | ok n w1 =>
          obtain ⟨u, rfl⟩ := light_value hlb hres
          rw [hres] at h1
          obtain ⟨rfl, rfl⟩ := h1
          rfl
        | halt x w1 => rw [hres] at h1; exact h1.elim
      · rename_i hw
        exact ⟨o, undef, h0, .inr ⟨by simpa using hw, rfl⟩, ih _ _ _ hl' h⟩
/-- THE RULE. -/
theorem wp_region_mix {id : Nat} {l : List Oper} (xs : List Nat) (fin : Bool) (hm : P.follows .mixedOrders = true) (hB : Region.mixB .any l.toArray xs fin = true)
    (hC : C w.drew) (h : wpMix P l.toArray C fin Q xs l a w.drew) : (Code.region id l.toArray true).wp P Q a w := by
  refine wp_region_any hm ?_
  refine mix_any (C := C) (xs := xs) (fin := fin) hB _ (List.range l.length) (by simp) _ _ _ ⟨by simp, fun j => ?_, List.pairwise_lt_range, fun j oj _ hl => ?_⟩ (.inr hC) ?_
  · rw [List.mem_range]
    rcases Nat.lt_or_ge j l.length with h1 | h1
    · simp [h1]
    · simp [Nat.not_lt.2 h1]
  · exfalso
    rcases Nat.lt_or_ge j l.length with h1 | h1
    · simp [h1] at hl
    · simp [Nat.not_lt.2 h1] at hl
  · rw [List.range_eq_range']
    exact mixRun_of_wp l 0 a _ (fun j => by simp) h
/-- Over the worlds that are as w in all blocks below B. -/
theorem wp_region_mix_ext {id : Nat} {l : List Oper} (B : Nat) (xs : List Nat) (fin : Bool) (hB : B ≤ w.heap.size) (hm : P.follows .mixedOrders = true) (hb : Region.mixB .any l.toArray xs fin = true)
    (h : Inhabited (Ext B w) → wpMix P l.toArray (fun w' => ∃ x : Ext B w, w' = w.ext B x) fin Q xs l a w.drew) : (Code.region id l.toArray true).wp P Q a w :=
  wp_region_mix xs fin hm hb (Below.toExt ((Below.refl _ _).drew) hB) (h ⟨⟨w, Below.refl _ _, hB⟩⟩)
end
end Go
namespace Go
open Go.RowKit
/-- A world that has the blocks of S as w has them. -/
structure ExtS (S : Nat → Prop) (w : World) where
  val : World
  same : ∀ b, S b → val.heap[b]? = w.heap[b]?
def World.exts (w : World) (S : Nat → Prop) (x : ExtS S w) : World := x.val
section
variable {w w' : World} {S : Nat → Prop}
theorem toExtS (h : ∀ b, S b → w'.heap[b]? = w.heap[b]?) : ∃ x : ExtS S w, w' = w.exts S x := ⟨⟨w', h⟩, rfl⟩
@[simp, go_sem] theorem World.cell?_exts (x : ExtS S w) (b o : Nat) (h : S b) : (w.exts S x).cell? ⟨b, o, none⟩ = w.cell? ⟨b, o, none⟩ := by
  have e : (w.exts S x).heap[b]? = w.heap[b]? := x.same b h
  simp only [World.cell?, e]
@[simp, go_sem] theorem World.frozen?_exts (x : ExtS S w) (b o : Nat) (h : S b) : (w.exts S x).frozen? ⟨b, o, none⟩ = w.frozen? ⟨b, o, none⟩ := by
  have e : (w.exts S x).heap[b]? = w.heap[b]? := x.same b h
  simp only [World.frozen?, e]
theorem wp_region_mix_exts {P : Program} {Q : Exit → Act → World → Prop} {a : Act} {id : Nat} {l : List Oper} (S : Nat → Prop) (xs : List Nat) (fin : Bool) (hm : P.follows .mixedOrders = true) (hb : Region.mixB .any l.toArray xs fin = true)
    (h : Inhabited (ExtS S w) → wpMix P l.toArray (fun w' => ∃ x : ExtS S w, w' = w.exts S x) fin Q xs l a w.drew) : (Code.region id l.toArray true).wp P Q a w :=
  wp_region_mix xs fin hm hb (toExtS (w := w) (w' := w.drew) fun _ _ => rfl) (h ⟨⟨w, fun _ _ => rfl⟩⟩)
end
theorem World.row.three {w : World} {b : Nat} {t : TypeId} {v0 v1 v2 : Value} (h : w.row b [v0, v1, v2] t) : w.cell? ⟨b, 0, none⟩ = some v0 ∧ w.cell? ⟨b, 1, none⟩ = some v1 ∧ w.cell? ⟨b, 2, none⟩ = some v2 ∧ (∀ i, w.frozen? ⟨b, i, none⟩ = false) := ⟨h.cell 0 rfl, h.cell 1 rfl, h.cell 2 rfl, h.free⟩
end Go
/- More general laws of my own, no program in them. -/
namespace Go
open Go.RowKit
/-- A contract 'returned v, all old blocks as they were': the world behind it is a name. -/
theorem Calls.pure_to {P : Program} {f : FuncId} {args : Array Value} {w : World} {v : Value} {R : Ending → World → Prop}
    (h : Calls P f args w fun e w' => e = .returned v ∧ Below w.heap.size w w') (k : ∀ w', Below w.heap.size w w' → R (.returned v) w') : Calls P f args w R :=
  h.mono fun _ w' ⟨he, hm⟩ => he ▸ k w' hm
theorem RowKit.Below.grownBy {w w' : World} (h : Below w.heap.size w w') (r : Option Nat) : w.grownBy w' r := ⟨h.os, h.tape, h.output, h.size, fun k hk _ => h.block k hk⟩
theorem World.ownsRow.below {w w' : World} {base : Nat} {e : TypeId} {size : Nat} {v : Value} {n : Nat} {xs : List Value} (h : w.ownsRow base e size v n xs) (hb : Below w.heap.size w w') : w'.ownsRow base e size v n xs := by
  cases hv : v.ownBlock with
  | none => exact h.kept (hb.grownBy none) (.inl hv)
  | some k => exact h.kept (hb.grownBy none) (.inr (by rw [hv]; simp))
theorem World.row.grown {w w' : World} {b : Nat} {cs : List Value} {t : TypeId} {r : Option Nat} (h : w.row b cs t) (hg : w.grownBy w' r) (hn : some b ≠ r) : w'.row b cs t := by
  have lt := h.lt; unfold World.row at *; rw [hg.block b lt hn]; exact h
end Go
/- Whole arrays as blocks: laws of my own over the kit's, no program in them. -/
namespace Go
open Go.RowKit
section
variable {P : Program} {ops : Array Oper} {rest : List Oper} {o : Oper} {a : Act} {w : World} {Q : Exit → Act → World → Prop}
theorem wpList_alloc_row (hgd : o.guard = none) (T : TypeId) (ho : o.op = .alloc T) (zs : List Value) (hz : (P.info? T).map (·.zero) = some (some (.agg zs.toArray)))
    (h : wpList P ops Q rest (a.put o.dst (.pointer (some ⟨w.heap.size, 0, none⟩))) (w.alloc (.cells zs.toArray T))) : wpList P ops Q (o :: rest) a w := by
  refine wpList_plain hgd fun K hK => ?_
  cases hi : P.info? T with
  | none => rw [hi] at hz; cases hz
  | some i =>
    rw [hi] at hz
    have hz2 : i.zero = some (.agg zs.toArray) := by simpa using hz
    unfold Oper.wp execOp
    simp only [ho, Instr.alloc, zeroValue, typeInfo, newVar, newRow, newObj, Sem.run_bind, Sem.run_pure, Value.cells]
    simp [hi, hz2]
    exact hK _ _ h
theorem wpList_box_row (hgd : o.guard = none) (T : TypeId) (x : Operand) (ho : o.op = .box T x) (cs : List Value) (hx : a.eval x = .agg cs.toArray)
    (h : wpList P ops Q rest (a.put o.dst (.pointer (some ⟨w.heap.size, 0, none⟩))) (w.alloc (.cells cs.toArray T))) : wpList P ops Q (o :: rest) a w := by
  refine wpList_plain hgd fun K hK => ?_
  unfold Oper.wp execOp
  simp only [ho, hx, Instr.box, newVar, newRow, newObj, Sem.run_bind, Sem.run_pure, Value.cells]
  exact hK _ _ h
theorem World.row.setRow {g : Nat} {cs ds : List Value} {t : TypeId} (h : w.row g cs t) : (w.setRow g ds.toArray).row g ds t := setRow_heap w g _ _ t _ h
theorem World.row.setRow_other {g b : Nat} {cs ds : List Value} {t : TypeId} (h : w.row b cs t) (hn : g ≠ b) : (w.setRow g ds.toArray).row b cs t := by
  unfold World.row at *
  rw [← h]; unfold World.setRow; simp [Array.getElem?_modify, hn]
theorem RowKit.Below.setRow {B g : Nat} {u : World} (h : Below B u w) (hg : B ≤ g) (cs : Array Value) : Below B u (w.setRow g cs) :=
  h.trans ⟨rfl, rfl, rfl, by simp [World.setRow], fun k hk => by unfold World.setRow; simp [Array.getElem?_modify, show g ≠ k by omega]⟩
end
end Go
/- Loads of whole structs and arrays by ranges, in plain and in drawn regions: laws of my own over the kit's, no program in them. -/
namespace Go
open Go.RowKit
/-- A struct or an array of n cells. -/
def RowTy (P : Program) (ty : TypeId) (n : Nat) : Prop := ∃ d, P.underlying ty = some d ∧ d.isRow = true ∧ (P.info? ty).map (·.size) = some n
section
variable {P : Program} {ops : Array Oper} {rest : List Oper} {o : Oper} {a : Act} {w : World} {Q : Exit → Act → World → Prop} {B : Nat}
theorem World.row.range {g : Nat} {cs : List Value} {t : TypeId} (h : w.row g cs t) : w.rangeAt g 0 cs := fun j v hj => by rw [Nat.zero_add]; exact h.cell j hj
theorem World.rangeAt.part {b o : Nat} {cs : List Value} (h : w.rangeAt b o cs) (k m : Nat) : w.rangeAt b (o + k) ((cs.drop k).take m) := fun j v hj => by
  rw [List.getElem?_take] at hj
  split at hj
  · rw [List.getElem?_drop] at hj
    rw [Nat.add_assoc]; exact h (k + j) v hj
  · cases hj
theorem World.rangeAt.ext {b o : Nat} {cs : List Value} (h : w.rangeAt b o cs) (x : Ext B w) (hb : b < B) : (w.ext B x).rangeAt b o cs := fun j v hj => by
  rw [World.cell?_ext x b _ hb]; exact h j v hj
theorem World.rangeAt.below {w' : World} {b o : Nat} {cs : List Value} (h : w.rangeAt b o cs) (hb : Below B w w') (hB : b < B) : w'.rangeAt b o cs := fun j v hj => by
  rw [hb.cell (p := ⟨b, o + j, none⟩) hB]; exact h j v hj
/-- A load of a whole struct or array, in a drawn region over the worlds that are as w below B. -/
theorem wpQuiet_ld {Q : Act → Prop} {ty : TypeId} {x : Operand} {b off : Nat} {cs : List Value} (hw : Region.wanted o (yielded ops a.tmps) = true) (ho : o.op = .load ty x) (hx : a.eval x = .pointer (some ⟨b, off, none⟩))
    (hc : w.rangeAt b off cs) (hb : b < B) (ht : RowTy P ty cs.length)
    (h : wpQuiet P ops (fun w' => ∃ x : Ext B w, w' = w.ext B x) Q rest (a.put o.dst (.agg cs.toArray))) : wpQuiet P ops (fun w' => ∃ x : Ext B w, w' = w.ext B x) Q (o :: rest) a := by
  obtain ⟨d, hu, hd, hi⟩ := ht
  refine wpQuiet_step fun K hK => ?_
  rw [if_pos hw]
  refine ⟨_, fun w' hw' => ?_, hK _ h⟩
  obtain ⟨y, rfl⟩ := hw'
  unfold Oper.quietAt execOp
  simp only [ho, hx, Instr.loadAt, Instr.sureAddr, Sem.run_bind, Sem.run_pure, Result.andThen_ok, run_loadVar_mid _ b off ty cs d (hc.ext y hb) hu hd hi]
  exact ⟨rfl, rfl⟩
theorem wpList_want (hw : Region.wanted o (yielded ops a.tmps) = true) (h : ∀ K : Act → World → Prop, (∀ a w, wpList P ops Q rest a w → K a w) → o.wp P a w K Q) : wpList P ops Q (o :: rest) a w :=
  wpList_step fun K hK => by rw [if_pos hw]; exact h K hK
theorem wpList_ld {ty : TypeId} {x : Operand} {b off : Nat} {cs : List Value} (hw : Region.wanted o (yielded ops a.tmps) = true) (ho : o.op = .load ty x) (hx : a.eval x = .pointer (some ⟨b, off, none⟩))
    (hc : w.rangeAt b off cs) (ht : RowTy P ty cs.length) (h : wpList P ops Q rest (a.put o.dst (.agg cs.toArray)) w) : wpList P ops Q (o :: rest) a w := by
  obtain ⟨d, hu, hd, hi⟩ := ht
  exact wpList_want hw fun _ hK => wp_load_mid ty x ho b off hx cs d hc hu hd hi (hK _ _ h)
/-- A whole struct or array is stored into a block of its own. -/
theorem wpList_st {ty : TypeId} {x y : Operand} {g n : Nat} {cs old : List Value} {t : TypeId} (hgd : o.guard = none) (ho : o.op = .store ty x y) (hx : a.eval x = .pointer (some ⟨g, 0, none⟩)) (hy : a.eval y = .agg cs.toArray)
    (hr : w.row g old t) (ht : RowTy P ty n) (hn : cs.length = n) (hold : old.length = n) (h1 : ∀ v ∈ cs, v.oneCell' = true)
    (h : wpList P ops Q rest (a.put o.dst undef) (w.setRow g cs.toArray)) : wpList P ops Q (o :: rest) a w := by
  obtain ⟨d, _, _, hi⟩ := ht
  refine wpList_store_row hgd ty x y ho g cs.toArray hx hy t old.toArray hr (by rw [hi, ← hn]; simp) (by simp; omega) (all_oneCell_toArray h1) h
theorem World.rangeAt.exts {S : Nat → Prop} {b o : Nat} {cs : List Value} (h : w.rangeAt b o cs) (x : ExtS S w) (hb : S b) : (w.exts S x).rangeAt b o cs := fun j v hj => by
  rw [World.cell?_exts x b _ hb]; exact h j v hj
theorem wpQuiet_lds {S : Nat → Prop} {Q : Act → Prop} {ty : TypeId} {x : Operand} {b off : Nat} {cs : List Value} (hw : Region.wanted o (yielded ops a.tmps) = true) (ho : o.op = .load ty x) (hx : a.eval x = .pointer (some ⟨b, off, none⟩))
    (hc : w.rangeAt b off cs) (hb : S b) (ht : RowTy P ty cs.length)
    (h : wpQuiet P ops (fun w' => ∃ x : ExtS S w, w' = w.exts S x) Q rest (a.put o.dst (.agg cs.toArray))) : wpQuiet P ops (fun w' => ∃ x : ExtS S w, w' = w.exts S x) Q (o :: rest) a := by
  obtain ⟨d, hu, hd, hi⟩ := ht
  refine wpQuiet_step fun K hK => ?_
  rw [if_pos hw]
  refine ⟨_, fun w' hw' => ?_, hK _ h⟩
  obtain ⟨y, rfl⟩ := hw'
  unfold Oper.quietAt execOp
  simp only [ho, hx, Instr.loadAt, Instr.sureAddr, Sem.run_bind, Sem.run_pure, Result.andThen_ok, run_loadVar_mid _ b off ty cs d (hc.exts y hb) hu hd hi]
  exact ⟨rfl, rfl⟩
/-- A store of a whole struct or array, met as an operation. -/
theorem wp_st {K : Act → World → Prop} {ty : TypeId} {x y : Operand} {g n : Nat} {cs old : List Value} {t : TypeId} (ho : o.op = .store ty x y) (hx : a.eval x = .pointer (some ⟨g, 0, none⟩)) (hy : a.eval y = .agg cs.toArray)
    (hr : w.row g old t) (ht : RowTy P ty n) (hn : cs.length = n) (hold : old.length = n) (h1 : ∀ v ∈ cs, v.oneCell' = true)
    (h : K (a.put o.dst undef) (w.setRow g cs.toArray)) : o.wp P a w K Q := by
  obtain ⟨d, _, _, hi⟩ := ht
  exact wp_store_row ty x y ho g cs.toArray hx hy t old.toArray hr (by rw [hi, ← hn]; simp) (by simp; omega) (all_oneCell_toArray h1) h
/-- Two results, the first one in a block of its own. -/
theorem bodyPost_ct {fn : Func} {R : Ending → World → Prop} {p u : Tmp} {ty : TypeId} {g : Nat} {cs : List Value} {t : TypeId} (h : fn.results = #[.cell p ty, .tmp u]) (hp : a.tmps.getD p undef = .pointer (some ⟨g, 0, none⟩)) (hr : w.row g cs t)
    (ht : RowTy P ty cs.length) (hdf : a.defers = []) (hR : R (.returned (.tuple #[.agg cs.toArray, a.tmps.getD u undef])) w) : bodyPost P fn R .ret a w := by
  obtain ⟨d, hu, hd, hi⟩ := ht
  have hp' : a.tmps[p]?.getD undef = .pointer (some ⟨g, 0, none⟩) := by simpa using hp
  refine bodyPost_ret (v := .tuple #[.agg cs.toArray, a.tmps.getD u undef]) ?_ hdf hR
  simp [results, h, hp', asAddr, run_loadVar_mid w g 0 ty cs d hr.range hu hd hi]
theorem bodyPost_c {fn : Func} {R : Ending → World → Prop} {p : Tmp} {ty : TypeId} {g : Nat} {cs : List Value} {t : TypeId} (h : fn.results = #[.cell p ty]) (hp : a.tmps.getD p undef = .pointer (some ⟨g, 0, none⟩)) (hr : w.row g cs t)
    (ht : RowTy P ty cs.length) (hdf : a.defers = []) (hR : R (.returned (.agg cs.toArray)) w) : bodyPost P fn R .ret a w := by
  obtain ⟨d, hu, hd, hi⟩ := ht
  have hp' : a.tmps[p]?.getD undef = .pointer (some ⟨g, 0, none⟩) := by simpa using hp
  refine bodyPost_ret (v := .agg cs.toArray) ?_ hdf hR
  simp [results, h, hp', asAddr, run_loadVar_mid w g 0 ty cs d hr.range hu hd hi]
theorem World.setRow_heap_ne {g b : Nat} (w : World) (cs : Array Value) (h : g ≠ b) : (w.setRow g cs).heap[b]? = w.heap[b]? := by unfold World.setRow; simp [Array.getElem?_modify, h]
theorem wpList_world {l : List Oper} (F : World → Prop) (h1 : F w) (h2 : ∀ wc, F wc → wpList P ops Q l a wc) : wpList P ops Q l a w := h2 w h1
theorem wpMix_world {C : World → Prop} {fin : Bool} {xs : List Nat} {l : List Oper} (F : World → Prop) (h1 : F w) (h2 : ∀ wc, F wc → wpMix P ops C fin Q xs l a wc) : wpMix P ops C fin Q xs l a w := h2 w h1
/-- A value built of parts, by a closed fact. -/
theorem run_build2 {t : TypeId} {i j : Nat} {x y : Operand} {vx vy v : Value} (ho : o.op = .build t #[(i, x), (j, y)]) (hx : a.eval x = vx) (hy : a.eval y = vy) (hb : ∀ w, (Instr.build t #[(i, vx), (j, vy)]).run P w = .ok v w) (w : World) :
    (execOp a.eval o).run P w = .ok (.value v) w := by
  unfold execOp
  simp only [ho, Sem.run_bind, List.map_toArray, List.map_cons, List.map_nil, hx, hy]
  rw [hb]
  rfl
theorem run_build1 {t : TypeId} {i : Nat} {x : Operand} {vx v : Value} (ho : o.op = .build t #[(i, x)]) (hx : a.eval x = vx) (hb : ∀ w, (Instr.build t #[(i, vx)]).run P w = .ok v w) (w : World) :
    (execOp a.eval o).run P w = .ok (.value v) w := by
  unfold execOp
  simp only [ho, Sem.run_bind, List.map_toArray, List.map_cons, List.map_nil, hx]
  rw [hb]
  rfl
/-- A light operation by a closed fact. -/
theorem wpQuiet_val {C : World → Prop} {Q : Act → Prop} {v : Value} (hw : Region.wanted o (yielded ops a.tmps) = true) (hr : ∀ w, (execOp a.eval o).run P w = .ok (.value v) w) (h : wpQuiet P ops C Q rest (a.put o.dst v)) : wpQuiet P ops C Q (o :: rest) a := by
  refine wpQuiet_step fun K hK => ?_
  rw [if_pos hw]
  refine ⟨_, fun w' _ => ?_, hK _ h⟩
  unfold Oper.quietAt
  rw [hr]
  exact ⟨rfl, rfl⟩
theorem wpList_val {v : Value} (hw : Region.wanted o (yielded ops a.tmps) = true) (hr : ∀ w, (execOp a.eval o).run P w = .ok (.value v) w) (h : wpList P ops Q rest (a.put o.dst v) w) : wpList P ops Q (o :: rest) a w :=
  wpList_want hw fun K hK => by
    unfold Oper.wp
    rw [hr]
    exact hK _ _ h
/-- A slice literal of one element, by a closed fact. -/
theorem wp_bs1 {K : Act → World → Prop} {t e : TypeId} {x : Operand} {v : Value} {cs : Array Value} (ho : o.op = .buildSlice t 1 #[(0, x)]) (hx : a.eval x = v)
    (hb : ∀ w, (Instr.buildSlice t 1 #[(0, v)]).run P w = .ok (.slice (some ⟨w.heap.size, 0, none⟩) 1 1) (w.alloc (.cells cs e)))
    (h : K (a.put o.dst (.slice (some ⟨w.heap.size, 0, none⟩) 1 1)) (w.alloc (.cells cs e))) : o.wp P a w K Q := by
  unfold Oper.wp execOp
  simp only [ho, Sem.run_bind, List.map_toArray, List.map_cons, List.map_nil, hx]
  rw [hb]
  exact h
theorem wpList_bs1 {t e : TypeId} {x : Operand} {v : Value} {cs : Array Value} (hw : Region.wanted o (yielded ops a.tmps) = true) (ho : o.op = .buildSlice t 1 #[(0, x)]) (hx : a.eval x = v)
    (hb : ∀ w, (Instr.buildSlice t 1 #[(0, v)]).run P w = .ok (.slice (some ⟨w.heap.size, 0, none⟩) 1 1) (w.alloc (.cells cs e)))
    (h : wpList P ops Q rest (a.put o.dst (.slice (some ⟨w.heap.size, 0, none⟩) 1 1)) (w.alloc (.cells cs e))) : wpList P ops Q (o :: rest) a w :=
  wpList_want hw fun _ hK => wp_bs1 ho hx hb (hK _ _ h)
end
end Go
/- A region that draws its order: calls that leave old memory alone, loads, fresh variables, and a forced tail; walked once. No program in it. -/
namespace Go
open Go.RowKit
/-- A class of worlds that are as w in all blocks below B; what is made anew stays in it. -/
structure Cls (B : Nat) (w : World) where
  C : World → Prop
  sub : ∀ w', C w' → Below B w w' ∧ B ≤ w'.heap.size
  ext : ∀ w1 w2, C w1 → Below w1.heap.size w1 w2 → C w2
structure ClsW {B : Nat} {w : World} (K : Cls B w) where
  val : World
  mem : K.C val
def World.cl {B : Nat} {w : World} (K : Cls B w) (x : ClsW K) : World := x.val
section
variable {w : World} {B : Nat} {K : Cls B w}
@[simp, go_sem] theorem World.cell?_cl (x : ClsW K) (b o : Nat) (h : b < B) : (World.cl K x).cell? ⟨b, o, none⟩ = w.cell? ⟨b, o, none⟩ := (K.sub _ x.mem).1.cell (p := ⟨b, o, none⟩) h
@[simp, go_sem] theorem World.frozen?_cl (x : ClsW K) (b o : Nat) (h : b < B) : (World.cl K x).frozen? ⟨b, o, none⟩ = w.frozen? ⟨b, o, none⟩ := (K.sub _ x.mem).1.frozen (p := ⟨b, o, none⟩) h
theorem World.cl_below (x : ClsW K) : Below B w (World.cl K x) := (K.sub _ x.mem).1
theorem World.cl_size (x : ClsW K) : B ≤ (World.cl K x).heap.size := (K.sub _ x.mem).2
abbrev Cls.pred (K : Cls B w) : World → Prop := fun w' => ∃ x : ClsW K, w' = World.cl K x
theorem Calls.cl_of {P : Program} {f : FuncId} {args : Array Value} {x : ClsW K} {v : Value}
    (h : Calls P f args (World.cl K x) fun e w' => e = .returned v ∧ Below (World.cl K x).heap.size (World.cl K x) w') : Calls P f args (World.cl K x) fun e w'' => e = .returned v ∧ ∃ y : ClsW K, w'' = World.cl K y :=
  h.mono fun _ w' ⟨he, hm⟩ => ⟨he, ⟨w', K.ext _ _ x.mem hm⟩, rfl⟩
theorem Calls.cl_same {P : Program} {f : FuncId} {args : Array Value} {x : ClsW K} {v : Value}
    (h : Calls P f args (World.cl K x) fun e w' => e = .returned v ∧ World.cl K x = w') : Calls P f args (World.cl K x) fun e w'' => e = .returned v ∧ ∃ y : ClsW K, w'' = World.cl K y :=
  h.mono fun _ _ ⟨he, hm⟩ => ⟨he, x, hm.symm⟩
theorem wpQuiet_ldc {P : Program} {ops : Array Oper} {rest : List Oper} {o : Oper} {a : Act} {Q : Act → Prop} {ty : TypeId} {x : Operand} {b off : Nat} {cs : List Value} (hw : Region.wanted o (yielded ops a.tmps) = true) (ho : o.op = .load ty x) (hx : a.eval x = .pointer (some ⟨b, off, none⟩))
    (hc : w.rangeAt b off cs) (hb : b < B) (ht : RowTy P ty cs.length)
    (h : wpQuiet P ops (fun w' => ∃ x : ClsW K, w' = World.cl K x) Q rest (a.put o.dst (.agg cs.toArray))) : wpQuiet P ops (fun w' => ∃ x : ClsW K, w' = World.cl K x) Q (o :: rest) a := by
  obtain ⟨d, hu, hd, hi⟩ := ht
  refine wpQuiet_step fun J hJ => ?_
  rw [if_pos hw]
  refine ⟨_, fun w' hw' => ?_, hJ _ h⟩
  obtain ⟨y, rfl⟩ := hw'
  unfold Oper.quietAt execOp
  simp only [ho, hx, Instr.loadAt, Instr.sureAddr, Sem.run_bind, Sem.run_pure, Result.andThen_ok, run_loadVar_mid _ b off ty cs d (hc.below (World.cl_below y) hb) hu hd hi]
  exact ⟨rfl, rfl⟩
end
section
variable {P : Program} {ops : Array Oper} {md : Region.Mode} {Q : Exit → Act → World → Prop} {B : Nat} {w0 : World}
/-- In every class the operation yields u, or something that comes to the same frame. -/
def CalmAt (P : Program) (ops : Array Oper) (B : Nat) (w0 : World) (o : Oper) (u : Value) (a : Act) : Prop :=
  if Region.wanted o (yielded ops a.tmps) = true then ∀ K : Cls B w0, (∃ w, K.C w) → ∃ v, (∀ b : Act, b.tmps.size = a.tmps.size → b.put o.dst v = b.put o.dst u) ∧ ∀ w, K.C w → o.quietAt P a K.C w v
  else ∀ b : Act, b.tmps.size = a.tmps.size → b.put o.dst undef = b.put o.dst u
theorem CalmAt.of_same {o : Oper} {u : Value} {a a' : Act} (h : CalmAt P ops B w0 o u a) (he : execOp a'.eval o = execOp a.eval o) (hw : Region.wanted o (yielded ops a'.tmps) = Region.wanted o (yielded ops a.tmps)) (hs : a'.tmps.size = a.tmps.size) : CalmAt P ops B w0 o u a' := by
  unfold CalmAt Oper.quietAt at *
  rw [he, hw, hs]
  exact h
theorem put_size (a : Act) (d : Option Tmp) (v : Value) : (a.put d v).tmps.size = a.tmps.size := by
  cases d <;> simp [Act.put]
/-- Running it in a class. -/
theorem CalmAt.wpOp {i : Nat} {o : Oper} {u : Value} {a : Act} {w : World} {J : Act → World → Prop} (hi : ops[i]? = some o) (h : CalmAt P ops B w0 o u a) (K : Cls B w0) (hw : K.C w) (hJ : ∀ w', K.C w' → J (a.put o.dst u) w') : wpOp P ops Q i J a w := by
  unfold Go.wpOp
  simp only [hi]
  unfold CalmAt at h
  split
  · rename_i hwt
    rw [if_pos hwt] at h
    obtain ⟨v, hv, hq⟩ := h K ⟨w, hw⟩
    left
    have h1 := hq w hw
    unfold Oper.quietAt at h1
    unfold Oper.wp
    have e := hv a rfl
    generalize (execOp a.eval o).run P w = r at *
    cases r with
    | ok n w' =>
      cases n <;> simp only [Oper.quietUpon] at h1 <;> simp only [Oper.upon]
      case value z => obtain ⟨rfl, rfl⟩ := h1; rw [e]; exact hJ _ hw
      case skip => obtain ⟨rfl, rfl⟩ := h1; rw [e]; exact hJ _ hw
      case enter f args =>
        obtain ⟨rfl, hc⟩ := h1
        refine hc.mono fun x w'' ⟨hx, hw''⟩ => ?_
        subst hx
        show J (a.put o.dst v) w''
        rw [e]; exact hJ _ hw''
    | halt x w' => simp only [Oper.quietUpon] at h1
  · rename_i hwt
    rw [if_neg hwt] at h
    rw [h a rfl]; exact hJ _ hw
/-- The head's operations, in this order, come to this frame. -/
def calmRun (P : Program) (ops : Array Oper) (B : Nat) (w0 : World) (aend : Act) : List Nat → Act → Prop
  | [], a => a = aend
  | i :: l, a => ∃ o u, ops[i]? = some o ∧ CalmAt P ops B w0 o u a ∧ calmRun P ops B w0 aend l (a.put o.dst u)
theorem calmRun_take {aend : Act} {j : Nat} {oj : Oper} (hj : ops[j]? = some oj) (hsel : ∀ (k : Nat) (o : Oper) cs b, ops[k]? = some o → o.op ≠ .select cs b) :
    ∀ (l : List Nat) (a : Act), j ∈ l → l.Nodup → (∀ i oi, i ∈ l → ops[i]? = some oi → i ≠ j → (∃ l1 l2, l = l1 ++ j :: l2 ∧ i ∈ l1) → oi.apart ops oj = true) → calmRun P ops B w0 aend l a →
      ∃ u, CalmAt P ops B w0 oj u a ∧ calmRun P ops B w0 aend (l.erase j) (a.put oj.dst u) := by
  intro l
  induction l with
  | nil => intro a hm; cases hm
  | cons i l ih =>
    intro a hm hn hap h
    obtain ⟨o, u, ho, hc, hr⟩ := h
    by_cases hij : i = j
    · subst hij
      rw [hj] at ho
      obtain rfl := Option.some.inj ho
      exact ⟨u, hc, by rw [List.erase_cons_head]; exact hr⟩
    · have hml : j ∈ l := (List.mem_cons.1 hm).resolve_left fun e => hij e.symm
      obtain ⟨l1, l2, hl⟩ := List.append_of_mem hml
      have hapi := hap i o List.mem_cons_self ho hij ⟨i :: l1, l2, by rw [hl]; rfl, List.mem_cons_self⟩
      obtain ⟨uj, h1, h2⟩ := ih (a.put o.dst u) hml (List.nodup_cons.1 hn).2 (fun k ok hk hok hkj ⟨m1, m2, e, hkm⟩ => hap k ok (List.mem_cons_of_mem _ hk) hok hkj ⟨i :: m1, m2, by rw [e]; rfl, List.mem_cons_of_mem _ hkm⟩) hr
      obtain ⟨p1, p2, p3⟩ := Oper.apart_spec hapi
      rw [List.erase_cons_tail (by simpa using hij)]
      refine ⟨uj, h1.of_same (execOp_put oj (fun cs b => hsel j oj cs b hj) a o.dst u p1).symm (wanted_put oj a o.dst u p1).symm (put_size _ _ _).symm, o, u, ho, hc.of_same (execOp_put o (fun cs b => hsel i o cs b ho) a oj.dst uj p3) (wanted_put o a oj.dst uj p3) (put_size _ _ _), ?_⟩
      rw [← Act.put_comm a u uj p2]; exact h2
/-- The class with a block made anew. -/
def Cls.withRow (K : Cls B w0) (b : Nat) (zs : List Value) (T : TypeId) : Cls B w0 where
  C w' := K.C w' ∧ w'.row b zs T
  sub w' h := K.sub w' h.1
  ext _ _ h hb := ⟨K.ext _ _ h.1 hb, h.2.below hb h.2.lt⟩
def Cls.all (B : Nat) (w : World) : Cls B w where
  C w' := Below B w w' ∧ B ≤ w'.heap.size
  sub _ h := h
  ext _ _ h hb := ⟨h.1.trans (hb.mono h.2), Nat.le_trans h.2 hb.size⟩
theorem run_alloc_row {o : Oper} {a : Act} {w : World} {T : TypeId} (ho : o.op = .alloc T) {z : Value} {zs : List Value} (hz : (P.info? T).map (·.zero) = some (some z)) (hzs : z.cells = zs.toArray) :
    (execOp a.eval o).run P w = .ok (.value (.pointer (some ⟨w.heap.size, 0, none⟩))) (w.alloc (.cells zs.toArray T)) := by
  cases hi : P.info? T with
  | none => rw [hi] at hz; cases hz
  | some i =>
    rw [hi] at hz
    have hz2 : i.zero = some z := by simpa using hz
    unfold execOp
    simp only [ho, Instr.alloc, zeroValue, typeInfo, newVar, newRow, newObj, Sem.run_bind, Sem.run_pure]
    simp [hi, hz2, hzs]
    rfl
def headDone (n m : Nat) : Array Bool := (List.replicate n true ++ List.replicate m false).toArray
/-- What is looked up in the region's text: the head (numbers below n), fresh variables F in it, the tail behind all. -/
def Region.calmB (md : Region.Mode) (ops : Array Oper) (n : Nat) (F : List Nat) : Bool :=
  Region.noSelect ops && decide (n < ops.size) && decide F.Nodup && decide (F ≠ []) &&
  (F.all fun f => decide (f < n) && (match ops[f]? with | some o => o.guard.isNone && o.after.all (fun e => !Region.binds md e) | none => false)) &&
  ((List.range n).all fun j => (List.range j).all fun i => F.contains i || F.contains j || Region.waitB md ops j i || (match ops[i]?, ops[j]? with | some oi, some oj => oi.apart ops oj | _, _ => true)) &&
  (F.all fun f => (List.range n).all fun j => j == f || (match ops[f]?, ops[j]? with | some oi, some oj => oi.apart ops oj | _, _ => true)) &&
  ((List.range n).all fun j => match ops[j]? with | some oj => oj.after.all (fun e => !Region.binds md e || decide (e.on < j)) | none => true) &&
  Region.sinkB md ops n && Region.chainB md ops n &&
  Region.seqB md ops (ops.size - n) n (headDone n (ops.size - n))
abbrev VarSpec := Nat → TypeId × List Value
/-- The variables made, each with its block: put into the frame; what they hold. -/
def putAll (ops : Array Oper) : List (Nat × Nat) → Act → Act
  | [], a => a
  | (f, b) :: D, a => (putAll ops D a).put ((ops[f]?).bind (·.dst)) (.pointer (some ⟨b, 0, none⟩))
def Cls.withRows (K : Cls B w0) (sp : VarSpec) (D : List (Nat × Nat)) : Cls B w0 where
  C w' := K.C w' ∧ ∀ x ∈ D, w'.row x.2 (sp x.1).2 (sp x.1).1
  sub w' h := K.sub w' h.1
  ext _ _ h hb := ⟨K.ext _ _ h.1 hb, fun x hx => (h.2 x hx).below hb (h.2 x hx).lt⟩
structure CalmInv (md : Region.Mode) (ops : Array Oper) (n : Nat) (F : List Nat) (listed : Array Bool) (l r : List Nat) (D : List (Nat × Nat)) (B : Nat) : Prop where
  head : HeadInv md ops n listed
  mem : ∀ j, j < n → (listed.getD j true = false ↔ j ∈ l ∨ j ∈ r)
  low : ∀ j ∈ l, j < n ∧ j ∉ F
  asc : l.Pairwise (· < ·)
  perm : (D.map Prod.fst ++ r).Perm F
  far : ∀ x ∈ D, B ≤ x.2
  dist : (D.map Prod.snd).Nodup
variable {n : Nat} {F : List Nat} {listed : Array Bool} {l r : List Nat} {D : List (Nat × Nat)}
theorem CalmInv.inF (h : CalmInv md ops n F listed l r D B) {f : Nat} (hf : f ∈ r) : f ∈ F := h.perm.mem_iff.1 (List.mem_append.2 (.inr hf))
theorem CalmInv.doneF (h : CalmInv md ops n F listed l r D B) {x : Nat × Nat} (hx : x ∈ D) : x.1 ∈ F := h.perm.mem_iff.1 (List.mem_append.2 (.inl (List.mem_map.2 ⟨x, hx, rfl⟩)))
theorem CalmInv.set (h : CalmInv md ops n F listed l r D B) {j : Nat} (hj : j ∈ Region.ready md ops listed) (hjn : j < n) (hjl : j ∈ l) : CalmInv md ops n F (listed.setIfInBounds j true) (l.erase j) r D B := by
  have hnd : l.Nodup := h.asc.imp fun h => Nat.ne_of_lt h
  refine ⟨h.head.set hj hjn, fun k hk => ?_, fun k hk => h.low k (List.mem_of_mem_erase hk), h.asc.sublist List.erase_sublist, h.perm, h.far, h.dist⟩
  by_cases hkj : j = k
  · subst hkj
    have hlt := getD_true_lt (mem_ready.1 hj).1
    have h1 : (listed.setIfInBounds j true).getD j true = true := by simp [hlt]
    rw [h1]
    constructor
    · intro h; cases h
    · rintro (hm | e)
      · exact absurd hm (by rw [List.Nodup.mem_erase_iff hnd]; simp)
      · exact absurd (h.inF e) (h.low j hjl).2
  · rw [getD_set_ne true hkj, h.mem k hk, List.mem_erase_of_ne (Ne.symm hkj)]
theorem CalmInv.setF (h : CalmInv md ops n F listed l r D B) (hF : F.Nodup) {f b : Nat} (hf : f ∈ Region.ready md ops listed) (hfn : f < n) (hfr : f ∈ r) (hb : B ≤ b) (hd : ∀ x ∈ D, x.2 ≠ b) : CalmInv md ops n F (listed.setIfInBounds f true) l (r.erase f) ((f, b) :: D) B := by
  have hnd : r.Nodup := ((h.perm.nodup_iff.2 hF).sublist (List.sublist_append_right _ _))
  refine ⟨h.head.set hf hfn, fun k hk => ?_, h.low, h.asc, ?_, ?_, ?_⟩
  · by_cases hkj : f = k
    · subst hkj
      have hlt := getD_true_lt (mem_ready.1 hf).1
      have h1 : (listed.setIfInBounds f true).getD f true = true := by simp [hlt]
      rw [h1]
      constructor
      · intro h; cases h
      · rintro (hm | hm)
        · exact absurd (h.inF hfr) (h.low f hm).2
        · exact absurd hm (by rw [List.Nodup.mem_erase_iff hnd]; simp)
    · rw [getD_set_ne true hkj, h.mem k hk, List.mem_erase_of_ne (Ne.symm hkj)]
  · have h1 : ((f :: D.map Prod.fst) ++ r.erase f).Perm (D.map Prod.fst ++ r) := by
      rw [List.cons_append]
      exact (List.perm_middle.symm).trans ((List.perm_cons_erase hfr).symm.append_left _)
    exact h1.trans h.perm
  · intro x hx
    rcases List.mem_cons.1 hx with rfl | hx
    · exact hb
    · exact h.far x hx
  · rw [List.map_cons, List.nodup_cons]
    refine ⟨fun hm => ?_, h.dist⟩
    obtain ⟨x, hx, e⟩ := List.mem_map.1 hm
    exact hd x hx e
theorem CalmInv.done (h : CalmInv md ops n F listed [] [] D B) (hn : n < ops.size) : listed = headDone n (ops.size - n) := by
  apply Array.ext
  · rw [h.head.size]; simp [headDone]; omega
  · intro i h1 h2
    have hi : i < ops.size := h.head.size ▸ h1
    by_cases hin : i < n
    · have h3 : listed.getD i false = true := getD_of_not h1 fun h4 => by
        rcases (h.mem i hin).1 h4 with h5 | h5
        · cases h5
        · cases h5
      have h4 : listed[i] = true := by simpa [h1] using h3
      rw [h4]
      simp [headDone, hin]
    · have h3 := h.head.tail i (by omega) hi
      have h4 : listed[i] = false := by simpa [h1] using h3
      rw [h4]
      simp [headDone, List.getElem_append, hin]
theorem putAll_size (D : List (Nat × Nat)) (a : Act) : (putAll ops D a).tmps.size = a.tmps.size := by
  induction D with
  | nil => rfl
  | cons x D ih => obtain ⟨f, b⟩ := x; exact (put_size _ _ _).trans ih
/-- An operation that is apart from all of them. -/
theorem putAll_calm {o : Oper} {u : Value} (hsel : ∀ cs b, o.op ≠ .select cs b) : ∀ (D : List (Nat × Nat)) (a : Act), (∀ x ∈ D, ∃ of, ops[x.1]? = some of ∧ of.apart ops o = true) → CalmAt P ops B w0 o u a → CalmAt P ops B w0 o u (putAll ops D a) ∧ (putAll ops D a).put o.dst u = putAll ops D (a.put o.dst u)
  | [], _, _, h => ⟨h, rfl⟩
  | (f, b) :: D, a, hap, h => by
    obtain ⟨of, hof, hp⟩ := hap (f, b) List.mem_cons_self
    obtain ⟨p1, p2, _⟩ := Oper.apart_spec hp
    obtain ⟨h1, h2⟩ := putAll_calm hsel D a (fun x hx => hap x (List.mem_cons_of_mem _ hx)) h
    have e : (ops[f]?).bind (·.dst) = of.dst := by simp only at hof; rw [hof]; rfl
    unfold putAll
    rw [e]
    refine ⟨h1.of_same (execOp_put o hsel _ of.dst _ p1) (wanted_put o _ of.dst _ p1) (put_size _ _ _), ?_⟩
    rw [Act.put_comm _ _ u p2, h2]
theorem putAll_perm {D D' : List (Nat × Nat)} (hp : D.Perm D') (a : Act) (hd : ∀ x ∈ D, ∀ y ∈ D, x.1 ≠ y.1 → ∀ d, (ops[x.1]?).bind (·.dst) = some d → (ops[y.1]?).bind (·.dst) ≠ some d) (hn : (D.map Prod.fst).Nodup) : putAll ops D a = putAll ops D' a := by
  induction hp with
  | nil => rfl
  | cons x _ ih =>
    obtain ⟨f, b⟩ := x
    unfold putAll
    rw [ih (fun x hx y hy => hd x (List.mem_cons_of_mem _ hx) y (List.mem_cons_of_mem _ hy)) (List.nodup_cons.1 hn).2]
  | swap x y l =>
    obtain ⟨f, b⟩ := x
    obtain ⟨g, c⟩ := y
    have hne : g ≠ f := fun e => by
      subst e
      simp at hn
    show ((putAll ops l a).put _ _).put _ _ = ((putAll ops l a).put _ _).put _ _
    exact Act.put_comm _ _ _ fun d hd1 => hd (f, b) (by simp) (g, c) (by simp) (Ne.symm hne) d hd1
  | trans h1 _ ih1 ih2 =>
    have hn2 := (h1.map Prod.fst).nodup_iff.1 hn
    rw [ih1 hd hn, ih2 (fun x hx y hy => hd x (h1.mem_iff.2 hx) y (h1.mem_iff.2 hy)) hn2]
theorem calm_any {aend : Act} {sp : VarSpec} (hB : Region.calmB md ops n F = true) (hop : ∀ f ∈ F, ∃ of, ops[f]? = some of ∧ of.op = .alloc (sp f).1 ∧ ∃ z, (P.info? (sp f).1).map (·.zero) = some (some z) ∧ z.cells = (sp f).2.toArray)
    (rest : List Oper) (hrest : ∀ j, rest[j]? = ops[n + j]?) (hrl : rest.length = ops.size - n)
    (ht : ∀ (bs : Nat → Nat) w', Below B w0 w' → (∀ f ∈ F, B ≤ bs f ∧ w'.row (bs f) (sp f).2 (sp f).1) → (F.map bs).Nodup → wpList P ops Q rest (putAll ops (F.map fun f => (f, bs f)) aend) w') :
    ∀ (m : Nat) (l r : List Nat), l.length + r.length = m → ∀ (D : List (Nat × Nat)) (listed : Array Bool) (a : Act) (w : World), calmRun P ops B w0 aend l a → CalmInv md ops n F listed l r D B → ((Cls.all B w0).withRows sp D).C w →
      wpAny P md ops Q (m + (ops.size - n)) listed (putAll ops D a) w := by
  simp only [Region.calmB, Bool.and_eq_true, List.all_eq_true, List.mem_range, decide_eq_true_eq] at hB
  obtain ⟨⟨⟨⟨⟨⟨⟨⟨⟨⟨hsel, hn⟩, hFnd⟩, _⟩, hFok⟩, hpair⟩, hfree⟩, hback⟩, hsink⟩, hchain⟩, hseq⟩ := hB
  have nosel := Region.noSelect_spec hsel
  have pair : ∀ j oj, j < n → j ∉ F → ops[j]? = some oj → ∀ i oi, i ∉ F → ops[i]? = some oi → i < j → (∀ e ∈ oj.after, Region.binds md e = true → e.on ≠ i) → oi.apart ops oj = true := fun j oj hjn hjF hj i oi hiF hi hij hno => by
    have h1 := hpair j hjn i hij
    simp only [Bool.or_eq_true, List.contains_eq_mem, decide_eq_true_eq] at h1
    rcases h1 with ((h1 | h1) | h1) | h1
    · exact absurd h1 hiF
    · exact absurd h1 hjF
    · obtain ⟨o, ho, e, he, hb, hon⟩ := Region.waitB_spec h1
      rw [hj] at ho
      obtain rfl := Option.some.inj ho
      exact absurd hon (hno e he hb)
    · simpa [hi, hj] using h1
  have ffree : ∀ f ∈ F, ∀ of, ops[f]? = some of → ∀ j oj, j < n → j ≠ f → ops[j]? = some oj → of.apart ops oj = true := fun f hf of hof j oj hjn hjf hj => by
    have h1 := hfree f hf j hjn
    rw [Bool.or_eq_true] at h1
    rcases h1 with h1 | h1
    · exact absurd (by simpa using h1) hjf
    · rw [hof, hj] at h1
      exact h1
  have before : ∀ (l : List Nat) (j : Nat), l.Pairwise (· < ·) → ∀ k, (∃ l1 l2, l = l1 ++ j :: l2 ∧ k ∈ l1) → k < j := fun l j ha k ⟨l1, l2, e, hk⟩ => by
    rw [e] at ha
    exact (List.pairwise_append.1 ha).2.2 k hk j List.mem_cons_self
  have un : ∀ (listed : Array Bool) (j : Nat) (oj : Oper), ops[j]? = some oj → j ∈ Region.ready md ops listed → ∀ k, listed.getD k true = false → ∀ e ∈ oj.after, Region.binds md e = true → e.on ≠ k := fun listed j oj hoj hj k hk e he hb hon => by
    obtain ⟨_, o2, ho2, hall⟩ := mem_ready.1 hj
    rw [hoj] at ho2
    obtain rfl := Option.some.inj ho2
    have h1 := hall e he hb
    rw [hon, getD_un hk] at h1; cases h1
  intro m
  induction m with
  | zero =>
    intro l r hl D listed a w hrun inv hC
    obtain rfl : l = [] := List.length_eq_zero_iff.1 (by omega)
    obtain rfl : r = [] := List.length_eq_zero_iff.1 (by omega)
    obtain rfl : a = aend := hrun
    rw [Nat.zero_add, ← hrl]
    -- the blocks by their variables
    have hDn : (D.map Prod.fst).Nodup := by have := inv.perm.nodup_iff.2 hFnd; rwa [List.append_nil] at this
    have hDp : (D.map Prod.fst).Perm F := by have := inv.perm; rwa [List.append_nil] at this
    obtain ⟨bs, hbs⟩ : ∃ bs : Nat → Nat, ∀ x ∈ D, bs x.1 = x.2 := by
      refine ⟨fun f => ((D.find? fun x => x.1 == f).map Prod.snd).getD 0, fun x hx => ?_⟩
      cases hf : D.find? (fun y => y.1 == x.1) with
      | none => exact absurd (List.find?_eq_none.1 hf x hx) (by simp)
      | some y =>
        have h1 := List.find?_some hf
        have h2 := List.mem_of_find?_eq_some hf
        have h3 : y.1 = x.1 := by simpa using h1
        obtain ⟨i, hi, ei⟩ := List.getElem_of_mem h2
        obtain ⟨k, hk, ek⟩ := List.getElem_of_mem hx
        have h4 : (D.map Prod.fst)[i]'(by simpa using hi) = (D.map Prod.fst)[k]'(by simpa using hk) := by simp [ei, ek, h3]
        have h5 := (List.getElem_inj hDn).1 h4
        subst h5
        rw [ei] at ek
        simp [hf, ek]
    have hDe : D = (D.map Prod.fst).map fun f => (f, bs f) := by
      rw [List.map_map]
      conv => lhs; rw [← List.map_id D]
      refine List.map_congr_left fun x hx => ?_
      show x = (x.1, bs x.1)
      rw [hbs x hx]
    have hperm : D.Perm (F.map fun f => (f, bs f)) := by
      conv => lhs; rw [hDe]
      exact hDp.map _
    have hdst : ∀ x ∈ D, ∀ y ∈ D, x.1 ≠ y.1 → ∀ d, (ops[x.1]?).bind (·.dst) = some d → (ops[y.1]?).bind (·.dst) ≠ some d := fun x hx y hy hne d hd1 hd2 => by
      have hxF := inv.doneF hx
      have hyF := inv.doneF hy
      obtain ⟨ox, hox, _⟩ := hop _ hxF
      obtain ⟨oy, hoy, _⟩ := hop _ hyF
      have hyn : y.1 < n := (hFok _ hyF).1
      have h1 := ffree _ hxF ox hox _ oy hyn (Ne.symm hne) hoy
      obtain ⟨_, p2, _⟩ := Oper.apart_spec h1
      rw [hox] at hd1; rw [hoy] at hd2
      exact p2 d hd1 hd2
    rw [putAll_perm hperm a hdst hDn]
    refine wpAny_of_seq rest n listed _ w hrest ?_ (ht bs w hC.1.1 (fun f hf => ?_) ?_)
    · rw [inv.done hn, hrl]; exact hseq
    · obtain ⟨x, hx, rfl⟩ := List.mem_map.1 (hDp.mem_iff.2 hf)
      rw [hbs x hx]
      exact ⟨inv.far x hx, hC.2 x hx⟩
    · have h1 : (D.map Prod.snd) = (D.map Prod.fst).map bs := by
        rw [List.map_map]
        exact List.map_congr_left fun x hx => (hbs x hx).symm
      have h2 := inv.dist
      rw [h1] at h2
      exact (hDp.map bs).nodup_iff.1 h2
  | succ m ih =>
    intro l r hl D listed a w hrun inv hC
    have Fn : ∀ f ∈ F, f < n := fun f hf => (hFok f hf).1
    -- one that may come up
    obtain ⟨i, hin, hiun, hri⟩ : ∃ i, i < n ∧ listed.getD i true = false ∧ i ∈ Region.ready md ops listed := by
      cases r with
      | cons f r' =>
        have hf := inv.inF (f := f) List.mem_cons_self
        obtain ⟨of, hof, _⟩ := hop f hf
        have hun := (inv.mem f (Fn f hf)).2 (.inr List.mem_cons_self)
        refine ⟨f, Fn f hf, hun, mem_ready.2 ⟨hun, of, hof, fun e he hb => ?_⟩⟩
        have h1 := hFok f hf
        rw [hof] at h1
        simp only [Bool.and_eq_true] at h1
        have h2 := Array.all_eq_true_iff_forall_mem.1 h1.2.2 e he
        rw [hb] at h2; cases h2
      | nil =>
        obtain ⟨i, l', hll⟩ : ∃ i l', l = i :: l' := by
          cases l with
          | nil => simp at hl
          | cons i l' => exact ⟨i, l', rfl⟩
        have hil : i ∈ l := by rw [hll]; exact List.mem_cons_self
        have hin := (inv.low i hil).1
        have hiun := (inv.mem i hin).2 (.inl hil)
        have hoi : ops[i]? = some ops[i] := Array.getElem?_eq_getElem (by omega)
        refine ⟨i, hin, hiun, mem_ready.2 ⟨hiun, _, hoi, fun e he hbd => ?_⟩⟩
        have h1 := hback i hin
        rw [hoi] at h1
        have h2 := Array.all_eq_true_iff_forall_mem.1 h1 e he
        rw [hbd] at h2
        have h3 : e.on < i := by simpa using h2
        refine getD_of_not (by rw [inv.head.size]; omega) fun h4 => ?_
        rcases (inv.mem e.on (by omega)).1 h4 with h5 | h5
        · have ha := inv.asc
          rw [hll] at h5 ha
          rcases List.mem_cons.1 h5 with h6 | h6
          · omega
          · have := (List.pairwise_cons.1 ha).1 _ h6; omega
        · cases h5
    rw [show m + 1 + (ops.size - n) = (m + (ops.size - n)) + 1 by omega]
    refine ⟨fun h0 => (by rw [h0] at hri; cases hri), fun j hj => ?_⟩
    have hjn : j < n := Nat.lt_of_not_le fun h => tail_waits hsink hchain hn inv.head _ i rfl hin hiun j h hj
    obtain ⟨_, oj, hoj, _⟩ := mem_ready.1 hj
    rcases (inv.mem j hjn).1 (mem_ready.1 hj).1 with hjl | hjr
    · -- an operation of the head
      have hjF := (inv.low j hjl).2
      obtain ⟨u, hu, hrun'⟩ := calmRun_take hoj nosel l a hjl (inv.asc.imp fun h => Nat.ne_of_lt h) (fun k ok hk hok _ hb => pair j oj hjn hjF hoj k ok (inv.low k hk).2 hok (before l j inv.asc k hb) (un listed j oj hoj hj k ((inv.mem k (inv.low k hk).1).2 (.inl hk)))) hrun
      obtain ⟨h1, h2⟩ := putAll_calm (P := P) (B := B) (w0 := w0) (fun cs b => nosel j oj cs b hoj) D a (fun x hx => by
        have hxF := inv.doneF hx
        obtain ⟨ox, hox, _⟩ := hop _ hxF
        exact ⟨ox, hox, ffree _ hxF ox hox j oj hjn (fun e => hjF (e ▸ hxF)) hoj⟩) hu
      refine h1.wpOp hoj ((Cls.all B w0).withRows sp D) hC fun w' hC' => ?_
      rw [h2]
      exact ih (l.erase j) r (by have := List.length_erase_of_mem hjl; have := List.length_pos_of_mem hjl; omega) D _ _ w' hrun' (inv.set hj hjn hjl) hC'
    · -- a variable is made
      have hjF := inv.inF hjr
      obtain ⟨of, hof, hopf, z, hz, hzs⟩ := hop j hjF
      have fwant : ∀ a : Act, Region.wanted of (yielded ops a.tmps) = true := fun a => by
        have h1 := hFok j hjF
        rw [hof] at h1
        simp only [Bool.and_eq_true] at h1
        unfold Region.wanted
        cases hg : of.guard with
        | none => rfl
        | some x => rw [hg] at h1; cases h1.2.1
      have e : (ops[j]?).bind (·.dst) = of.dst := by rw [hof]; rfl
      unfold wpOp
      simp only [hof, fwant]
      left
      unfold Oper.wp
      rw [run_alloc_row hopf hz hzs]
      show wpAny P md ops Q (m + (ops.size - n)) (listed.setIfInBounds j true) ((putAll ops D a).put of.dst _) (w.alloc _)
      have h3 := ih l (r.erase j) (by have := List.length_erase_of_mem hjr; have := List.length_pos_of_mem hjr; omega) ((j, w.heap.size) :: D) (listed.setIfInBounds j true) a (w.alloc (.cells (sp j).2.toArray (sp j).1)) hrun
        (inv.setF hFnd hj hjn hjr hC.1.2 fun x hx => by have := (hC.2 x hx).lt; omega) ⟨(Cls.all B w0).ext _ _ hC.1 ((Below.refl _ _).alloc (Nat.le_refl _) _), fun x hx => by
          rcases List.mem_cons.1 hx with rfl | hx
          · exact World.row.new _ _ _
          · exact (hC.2 x hx).alloc _⟩
      unfold putAll at h3
      rw [e] at h3
      exact h3
theorem getElem_put_ne (a : Act) {d e : Nat} (v : Value) (h : d ≠ e) : (a.put (some d) v).tmps[e]? = a.tmps[e]? := by simp [Act.put, Array.getElem?_setIfInBounds_ne h]
theorem getElem_put_self (a : Act) {d : Nat} (v : Value) (h : d < a.tmps.size) : (a.put (some d) v).tmps[d]? = some v := by simp [Act.put, h]
theorem wpQuiet_keep {C : World → Prop} {aend : Act} {d : Nat} : ∀ (l : List Oper) (a : Act), wpQuiet P ops C (fun a' => a' = aend) l a → (∀ o ∈ l, o.dst ≠ some d) → aend.tmps[d]? = a.tmps[d]? := by
  intro l
  induction l with
  | nil => intro a h _; rw [show a = aend from h]
  | cons o l ih =>
    intro a h hn
    have hne := hn o List.mem_cons_self
    have hput : ∀ v, (a.put o.dst v).tmps[d]? = a.tmps[d]? := fun v => by
      cases hd : o.dst with
      | none => rfl
      | some e => exact getElem_put_ne a v (fun e2 => hne (by rw [hd, e2]))
    unfold wpQuiet at h
    split at h
    · obtain ⟨v, _, h⟩ := h
      exact (ih _ h fun o ho => hn o (List.mem_cons_of_mem _ ho)).trans (hput v)
    · exact (ih _ h fun o ho => hn o (List.mem_cons_of_mem _ ho)).trans (hput undef)
/-- From the walk, over every class, to one frame: values that don't hang on the class. -/
theorem wpQuiet_det (hB : B ≤ w0.heap.size) {aend : Act} : ∀ (l : List (Nat × Oper)) (a : Act), (∀ x ∈ l, ops[x.1]? = some x.2) → (l.map fun x => x.2.dst).Nodup → (∀ K : Cls B w0, (∃ w, K.C w) → wpQuiet P ops K.C (fun a' => a' = aend) (l.map Prod.snd) a) → calmRun P ops B w0 aend (l.map Prod.fst) a := by
  intro l
  induction l with
  | nil => intro a _ _ h; exact h (Cls.all B w0) ⟨w0, Below.refl _ _, hB⟩
  | cons x l ih =>
    obtain ⟨i, o⟩ := x
    intro a hops hnd h
    rw [List.map_cons, List.nodup_cons] at hnd
    have hno : ∀ d, o.dst = some d → ∀ o' ∈ l.map Prod.snd, o'.dst ≠ some d := fun d hd o' ho' e => by
      obtain ⟨y, hy, rfl⟩ := List.mem_map.1 ho'
      exact hnd.1 (List.mem_map.2 ⟨y, hy, by rw [e]; exact hd.symm⟩)
    -- what stands in its slot at the end
    obtain ⟨u, hu⟩ : ∃ u, u = (match o.dst with | some d => (aend.tmps[d]?).getD undef | none => undef) := ⟨_, rfl⟩
    have same : ∀ (C : World → Prop) (v : Value), wpQuiet P ops C (fun a' => a' = aend) (l.map Prod.snd) (a.put o.dst v) → ∀ b : Act, b.tmps.size = a.tmps.size → b.put o.dst v = b.put o.dst u := fun C v hq b hb => by
      cases hd : o.dst with
      | none => rfl
      | some d =>
        rw [hd] at hu hq
        have h1 := wpQuiet_keep _ _ hq (hno d hd)
        have hu2 : u = (aend.tmps[d]?).getD undef := hu
        by_cases hlt : d < a.tmps.size
        · rw [getElem_put_self a v hlt] at h1
          rw [h1] at hu2
          rw [hu2]; rfl
        · have : ∀ z, b.put (some d) z = b := fun z => by
            simp only [Act.put]
            rw [Array.setIfInBounds, dif_neg (by rw [hb]; exact hlt)]
          rw [this, this]
    have step : CalmAt P ops B w0 o u a := by
      unfold CalmAt
      split
      · rename_i hw
        intro K hK
        have h1 := h K hK
        rw [List.map_cons] at h1
        unfold wpQuiet at h1
        rw [if_pos hw] at h1
        obtain ⟨v, hv, hr⟩ := h1
        exact ⟨v, same _ v hr, hv⟩
      · rename_i hw
        have h1 := h (Cls.all B w0) ⟨w0, Below.refl _ _, hB⟩
        rw [List.map_cons] at h1
        unfold wpQuiet at h1
        rw [if_neg hw] at h1
        exact same _ undef h1
    refine ⟨o, u, hops _ List.mem_cons_self, step, ih _ (fun y hy => hops y (List.mem_cons_of_mem _ hy)) hnd.2 fun K hK => ?_⟩
    have h1 := h K hK
    rw [List.map_cons] at h1
    unfold wpQuiet at h1
    split at h1
    · obtain ⟨v, _, hr⟩ := h1
      rw [← same _ v hr a rfl]; exact hr
    · rw [← same _ undef h1 a rfl]; exact h1
end
theorem map_eraseIdx {α β : Type} (g : α → β) : ∀ (l : List α) (i : Nat), (l.eraseIdx i).map g = (l.map g).eraseIdx i
  | [], _ => rfl
  | _ :: _, 0 => rfl
  | _ :: l, i + 1 => by simp [List.eraseIdx_cons_succ, map_eraseIdx g l i]
def dstsB (l : List Oper) : Bool := decide ((l.map (·.dst)).Nodup)
/-- THE RULE: n operations of head, the variables F made in it, and the tail. -/
theorem wp_region_calms {P : Program} {id : Nat} {Q : Exit → Act → World → Prop} {a : Act} {w : World} {l : List Oper} (n B : Nat) (F : List Nat) (sp : VarSpec) (hd : List Oper)
    (hB : B ≤ w.heap.size) (hm : P.follows .mixedOrders = true) (hb : Region.calmB .any l.toArray n F = true) (hhd : (((l.take n).zipIdx.filter fun x => !F.contains x.2).map Prod.fst) = hd) (hnd : dstsB hd = true)
    (hop : ∀ f ∈ F, ∃ of, l[f]? = some of ∧ of.op = .alloc (sp f).1 ∧ ∃ z, (P.info? (sp f).1).map (·.zero) = some (some z) ∧ z.cells = (sp f).2.toArray)
    (hw : ∃ aend : Act, (∀ K : Cls B w, Inhabited (ClsW K) → wpQuiet P l.toArray (fun w' => ∃ x : ClsW K, w' = World.cl K x) (fun a' => a' = aend) hd a) ∧
      ∀ (bs : Nat → Nat) w', Below B w w' → (∀ f ∈ F, B ≤ bs f ∧ w'.row (bs f) (sp f).2 (sp f).1) → (F.map bs).Nodup → wpList P l.toArray Q (l.drop n) (putAll l.toArray (F.map fun f => (f, bs f)) aend) w') : (Code.region id l.toArray true).wp P Q a w := by
  obtain ⟨aend, hw, ht⟩ := hw
  have hb' := hb
  simp only [Region.calmB, Bool.and_eq_true, decide_eq_true_eq, List.all_eq_true] at hb'
  have hn : n < l.length := by simpa using hb'.1.1.1.1.1.1.1.1.1.2
  have hFnd : F.Nodup := hb'.1.1.1.1.1.1.1.1.2
  have hFn : ∀ f ∈ F, f < n := fun f hf => (hb'.1.1.1.1.1.1.2 f hf).1
  obtain ⟨ix, hix⟩ : ∃ ix, ix = (l.take n).zipIdx.filter (fun x => !F.contains x.2) := ⟨_, rfl⟩
  rw [← hix] at hhd
  have hsnd : (ix.map fun x => (x.2, x.1)).map Prod.snd = hd := by rw [List.map_map]; exact hhd
  have hfst : (ix.map fun x => (x.2, x.1)).map Prod.fst = (List.range n).filter fun j => !F.contains j := by
    rw [hix, List.map_map]
    have h1 : (l.take n).zipIdx.map Prod.snd = List.range n := by
      rw [List.zipIdx_map_snd]
      simp [List.range_eq_range', Nat.min_eq_left (Nat.le_of_lt hn)]
    rw [← h1, List.filter_map]
    rfl
  have hmem : ∀ j, j ∈ (List.range n).filter (fun j => !F.contains j) ↔ j < n ∧ j ∉ F := fun j => by
    rw [List.mem_filter, List.mem_range]
    simp
  have hrun : calmRun P l.toArray B w aend ((List.range n).filter fun j => !F.contains j) a := by
    rw [← hfst]
    refine wpQuiet_det hB _ _ (fun x hx => ?_) ?_ fun K hK => ?_
    · obtain ⟨y, hy, rfl⟩ := List.mem_map.1 hx
      rw [hix] at hy
      have h1 := List.mem_zipIdx_iff_getElem?.1 (List.mem_filter.1 hy).1
      rw [List.getElem?_take] at h1
      split at h1
      · simpa using h1
      · cases h1
    · have h1 : (((ix.map fun x => (x.2, x.1)).map Prod.snd).map (·.dst)).Nodup := by rw [hsnd]; exact of_decide_eq_true hnd
      rw [List.map_map] at h1
      exact h1
    · rw [hsnd]
      obtain ⟨w', hw'⟩ := hK
      have h1 := hw K ⟨⟨w', hw'⟩⟩
      have e : (fun w' => ∃ x : ClsW K, w' = World.cl K x) = K.C := funext fun w' => propext ⟨fun ⟨x, hx⟩ => hx ▸ x.mem, fun h => ⟨⟨w', h⟩, rfl⟩⟩
      rw [e] at h1
      exact h1
  refine wp_region_any hm ?_
  have hlen : ((List.range n).filter fun j => !F.contains j).length + F.length = n := by
    have h1 : ((List.range n).filter fun j => F.contains j).Perm F := by
      refine (List.perm_ext_iff_of_nodup (List.nodup_range.sublist List.filter_sublist) hFnd).2 fun j => ?_
      rw [List.mem_filter, List.mem_range]
      constructor
      · rintro ⟨_, h⟩; simpa using h
      · intro h; exact ⟨hFn j h, by simpa using h⟩
    have h2 := h1.length_eq
    have h3 : ∀ L : List Nat, (L.filter fun j => !F.contains j).length + (L.filter fun j => F.contains j).length = L.length := by
      intro L
      induction L with
      | nil => rfl
      | cons x L ih =>
        cases e : F.contains x <;> simp only [List.filter_cons, e, Bool.not_true, Bool.not_false, if_true, Bool.false_eq_true, if_false, List.length_cons] <;> omega
    have h4 := h3 (List.range n)
    rw [h2] at h4
    simpa using h4
  have H := calm_any (P := P) (Q := Q) (w0 := w) (B := B) (md := .any) (sp := sp) hb (fun f hf => by obtain ⟨of, h1, h2⟩ := hop f hf; exact ⟨of, by simpa using h1, h2⟩) (l.drop n) (fun j => by simp [List.getElem?_drop]) (by simp) ht n ((List.range n).filter fun j => !F.contains j) F hlen []
    (Array.replicate l.toArray.size false) a w.drew hrun ⟨⟨by simp, fun j oj _ hl => (by rw [getD_replicate_false] at hl; cases hl), fun t _ ht => getD_in (by simpa using ht) (getD_replicate_false _ _)⟩, fun j hj => ?_, fun j hj => (hmem j).1 hj, ?_, by simp, (fun x hx => by cases hx), by simp⟩ ⟨⟨(Below.refl _ _).drew, hB⟩, (fun x hx => by cases hx)⟩
  · rw [show n + (l.toArray.size - n) = l.toArray.size by simp; omega] at H
    exact H
  · have h1 : (Array.replicate l.toArray.size false).getD j true = false := getD_in (by simp; omega) (getD_replicate_false _ _)
    rw [h1, hmem]
    simp only [true_iff]
    by_cases e : j ∈ F
    · exact .inr e
    · exact .inl ⟨hj, e⟩
  · exact (List.pairwise_lt_range).sublist List.filter_sublist
theorem op_at {l : List Oper} {f : Nat} {T : TypeId} {d : Option Tmp} (hop : (l[f]?).map (fun o => (o.op, o.dst)) = some (.alloc T, d)) : ∃ of, l[f]? = some of ∧ of.op = .alloc T ∧ of.dst = d := by
  cases h : l[f]? with
  | none => rw [h] at hop; cases hop
  | some o => rw [h] at hop; simp at hop; exact ⟨o, rfl, hop.1, hop.2⟩
/-- One variable made. -/
theorem wp_region_calm {P : Program} {id : Nat} {Q : Exit → Act → World → Prop} {a : Act} {w : World} {l : List Oper} (n f B : Nat) {T : TypeId} {z : Value} (zs : List Value) {d : Option Tmp}
    (hB : B ≤ w.heap.size) (hm : P.follows .mixedOrders = true) (hb : Region.calmB .any l.toArray n [f] = true) (hhd : (((l.take n).zipIdx.filter fun x => ![f].contains x.2).map Prod.fst) = (l.take n).eraseIdx f) (hnd : dstsB ((l.take n).eraseIdx f) = true)
    (hop : (l[f]?).map (fun o => (o.op, o.dst)) = some (.alloc T, d)) (hz : (P.info? T).map (·.zero) = some (some z)) (hzs : z.cells = zs.toArray)
    (hw : ∃ aend : Act, (∀ K : Cls B w, Inhabited (ClsW K) → wpQuiet P l.toArray (fun w' => ∃ x : ClsW K, w' = World.cl K x) (fun a' => a' = aend) ((l.take n).eraseIdx f) a) ∧
      ∀ b w', Below B w w' → B ≤ b → w'.row b zs T → wpList P l.toArray Q (l.drop n) (aend.put d (.pointer (some ⟨b, 0, none⟩))) w') : (Code.region id l.toArray true).wp P Q a w := by
  obtain ⟨aend, hw, ht⟩ := hw
  obtain ⟨of, hof, hopf, hdf⟩ := op_at hop
  refine wp_region_calms n B [f] (fun _ => (T, zs)) _ hB hm hb hhd hnd (fun g hg => ?_) ⟨aend, hw, fun bs w' h1 h2 _ => ?_⟩
  · obtain rfl := List.mem_singleton.1 hg
    exact ⟨of, hof, hopf, z, hz, hzs⟩
  · have h3 := h2 f (by simp)
    have h4 := ht (bs f) w' h1 h3.1 h3.2
    have e : (l.toArray[f]?).bind (·.dst) = d := by rw [List.getElem?_toArray, hof]; exact hdf
    show wpList P l.toArray Q (l.drop n) (aend.put ((l.toArray[f]?).bind (·.dst)) _) w'
    rw [e]; exact h4
/-- Two variables made. -/
theorem wp_region_calm2 {P : Program} {id : Nat} {Q : Exit → Act → World → Prop} {a : Act} {w : World} {l : List Oper} (n f g B : Nat) {T U : TypeId} {z y : Value} (zs ys : List Value) {d e : Option Tmp}
    (hB : B ≤ w.heap.size) (hm : P.follows .mixedOrders = true) (hb : Region.calmB .any l.toArray n [f, g] = true) (hhd : (((l.take n).zipIdx.filter fun x => ![f, g].contains x.2).map Prod.fst) = ((l.take n).eraseIdx g).eraseIdx f) (hnd : dstsB (((l.take n).eraseIdx g).eraseIdx f) = true)
    (hop : (l[f]?).map (fun o => (o.op, o.dst)) = some (.alloc T, d)) (hop2 : (l[g]?).map (fun o => (o.op, o.dst)) = some (.alloc U, e)) (hz : (P.info? T).map (·.zero) = some (some z)) (hzs : z.cells = zs.toArray) (hy : (P.info? U).map (·.zero) = some (some y)) (hys : y.cells = ys.toArray)
    (hw : ∃ aend : Act, (∀ K : Cls B w, Inhabited (ClsW K) → wpQuiet P l.toArray (fun w' => ∃ x : ClsW K, w' = World.cl K x) (fun a' => a' = aend) (((l.take n).eraseIdx g).eraseIdx f) a) ∧
      ∀ b c w', Below B w w' → B ≤ b → B ≤ c → b ≠ c → w'.row b zs T → w'.row c ys U → wpList P l.toArray Q (l.drop n) ((aend.put e (.pointer (some ⟨c, 0, none⟩))).put d (.pointer (some ⟨b, 0, none⟩))) w') : (Code.region id l.toArray true).wp P Q a w := by
  obtain ⟨aend, hw, ht⟩ := hw
  obtain ⟨of, hof, hopf, hdf⟩ := op_at hop
  obtain ⟨og, hog, hopg, hdg⟩ := op_at hop2
  have hfg : f ≠ g := by
    simp only [Region.calmB, Bool.and_eq_true, decide_eq_true_eq] at hb
    have := hb.1.1.1.1.1.1.1.1.2
    simpa using this
  refine wp_region_calms n B [f, g] (fun k => if k = f then (T, zs) else (U, ys)) _ hB hm hb hhd hnd (fun k hk => ?_) ⟨aend, hw, fun bs w' h1 h2 h3 => ?_⟩
  · rcases List.mem_cons.1 hk with rfl | hk
    · rw [if_pos rfl]; exact ⟨of, hof, hopf, z, hz, hzs⟩
    · obtain rfl := List.mem_singleton.1 hk
      rw [if_neg (Ne.symm hfg)]; exact ⟨og, hog, hopg, y, hy, hys⟩
  · have k1 := h2 f (by simp)
    have k2 := h2 g (by simp)
    rw [if_pos rfl] at k1
    rw [if_neg (Ne.symm hfg)] at k2
    have h4 := ht (bs f) (bs g) w' h1 k1.1 k2.1 (by simpa using h3) k1.2 k2.2
    have e1 : (l.toArray[f]?).bind (·.dst) = d := by rw [List.getElem?_toArray, hof]; exact hdf
    have e2 : (l.toArray[g]?).bind (·.dst) = e := by rw [List.getElem?_toArray, hog]; exact hdg
    show wpList P l.toArray Q (l.drop n) ((aend.put ((l.toArray[g]?).bind (·.dst)) _).put ((l.toArray[f]?).bind (·.dst)) _) w'
    rw [e1, e2]; exact h4
end Go
