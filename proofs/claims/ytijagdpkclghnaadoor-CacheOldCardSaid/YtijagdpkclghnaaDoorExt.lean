/- General laws of my own, no program in them: 'w.ext x': the world w after anything that has left all old blocks as they were; a drawing region walked once over that class. -/
import Derived.WalkKit
import Derived.BigQuiet
import Derived.Lib.Hide
import Derived.StillTail
namespace Go
open Go.RowKit
/-- A world that is as w was in all blocks below B, and has B blocks at least. -/
structure Ext (B : Nat) (w : World) where
  val : World
  below : Below B w val
  size : B ≤ val.heap.size
def World.ext (w : World) (B : Nat) (x : Ext B w) : World := x.val
theorem RowKit.Below.toExt {B : Nat} {w w' : World} (h : Below B w w') (hB : B ≤ w.heap.size) : ∃ x : Ext B w, w' = w.ext B x := ⟨⟨w', h, Nat.le_trans hB h.size⟩, rfl⟩
theorem RowKit.Below.drewN {B : Nat} {a w : World} (h : Below B a w) (n : Nat) : Below B a (w.drewN n) := ⟨h.os, h.tape, h.output, h.size, h.block⟩
section
variable {w : World} {B : Nat}
@[simp, go_sem] theorem World.cell?_ext (x : Ext B w) (b o : Nat) (h : b < B) : (w.ext B x).cell? ⟨b, o, none⟩ = w.cell? ⟨b, o, none⟩ := x.below.cell (p := ⟨b, o, none⟩) h
@[simp, go_sem] theorem World.frozen?_ext (x : Ext B w) (b o : Nat) (h : b < B) : (w.ext B x).frozen? ⟨b, o, none⟩ = w.frozen? ⟨b, o, none⟩ := x.below.frozen (p := ⟨b, o, none⟩) h
@[simp, go_sem] theorem World.ext_lt (x : Ext B w) (b : Nat) (h : b < B) : (b < (w.ext B x).heap.size) = True := eq_true (Nat.lt_of_lt_of_le h x.size)
@[simp, go_sem] theorem World.ext_eq (x : Ext B w) (b : Nat) (h : b < B) : (b = (w.ext B x).heap.size) = False := eq_false (fun e => by have h2 := x.size; unfold World.ext at e; omega)
@[simp, go_sem] theorem World.ext_eq' (x : Ext B w) (b : Nat) (h : b < B) : ((w.ext B x).heap.size = b) = False := eq_false (fun e => by have h2 := x.size; unfold World.ext at e; omega)
@[simp, go_sem] theorem World.ext_le (x : Ext B w) (b : Nat) (h : b ≤ B) : (b ≤ (w.ext B x).heap.size) = True := eq_true (Nat.le_trans h x.size)
theorem World.ext_size (x : Ext B w) : B ≤ (w.ext B x).heap.size := x.size
theorem World.ext_block (x : Ext B w) (b : Nat) (h : b < B) : (w.ext B x).heap[b]? = w.heap[b]? := x.below.block b h
theorem World.ext_below (x : Ext B w) : Below B w (w.ext B x) := x.below
theorem RowKit.Below.ext {b : Nat} {u : World} (h : Below b u w) (x : Ext B w) (hb : b ≤ B) : Below b u (w.ext B x) := h.trans (x.below.mono hb)
end
/-- The region that draws, walked once, over the worlds that are as w in all blocks below B. -/
theorem wp_region_ext {P : Program} {id : Nat} {Q : Exit → Act → World → Prop} {a : Act} {w : World} {l : List Oper} (B : Nat) (hB : B ≤ w.heap.size) (hm : P.follows .mixedOrders = true) (hl : Region.lexB .any l.toArray = true)
    (h : Inhabited (Ext B w) → wpQuiet P l.toArray (fun w' => ∃ x : Ext B w, w' = w.ext B x) (fun a' => ∀ x : Ext B w, Q .normal a' (w.ext B x)) l a) : (Code.region id l.toArray true).wp P Q a w :=
  wp_region_quiet (C := fun w' => ∃ x : Ext B w, w' = w.ext B x) hm hl (Below.toExt ((Below.refl _ _).drew) hB) (by
    simp only [forall_exists_index]
    have e : (fun a' => ∀ (w' : World) (x : Ext B w), w' = w.ext B x → Q .normal a' w') = (fun a' => ∀ x : Ext B w, Q .normal a' (w.ext B x)) :=
      funext fun a' => propext ⟨fun h x => h _ x rfl, fun h w' x e => e ▸ h x⟩
    rw [e]; exact h ⟨⟨w, Below.refl _ _, hB⟩⟩)
/-- A contract 'returned v, all old blocks as they were', met in such a region. -/
theorem Calls.ext_of {P : Program} {f : FuncId} {args : Array Value} {w : World} {B : Nat} {x : Ext B w} {v : Value}
    (h : Calls P f args (w.ext B x) fun e w' => e = .returned v ∧ Below (w.ext B x).heap.size (w.ext B x) w') : Calls P f args (w.ext B x) fun e w'' => e = .returned v ∧ ∃ y : Ext B w, w'' = w.ext B y :=
  h.mono fun _ w' ⟨he, hm⟩ => ⟨he, ⟨w', x.below.trans (hm.mono x.size), Nat.le_trans x.size hm.size⟩, rfl⟩
theorem Calls.ext_of_same {P : Program} {f : FuncId} {args : Array Value} {w : World} {B : Nat} {x : Ext B w} {v : Value}
    (h : Calls P f args (w.ext B x) fun e w' => e = .returned v ∧ w.ext B x = w') : Calls P f args (w.ext B x) fun e w'' => e = .returned v ∧ ∃ y : Ext B w, w'' = w.ext B y :=
  h.mono fun _ _ ⟨he, hm⟩ => ⟨he, x, hm.symm⟩
/-- A contract 'returned v, all old blocks as they were', met anywhere: the world behind it is called 'w.ext B x'. -/
theorem Calls.pure_of {P : Program} {f : FuncId} {args : Array Value} {w : World} {v : Value} {R : Ending → World → Prop} (B : Nat) (hB : B ≤ w.heap.size)
    (h : Calls P f args w fun e w' => e = .returned v ∧ Below w.heap.size w w') (k : ∀ x : Ext B w, R (.returned v) (w.ext B x)) : Calls P f args w R :=
  h.mono fun _ w' ⟨he, hm⟩ => he ▸ k ⟨w', hm.mono hB, Nat.le_trans hB hm.size⟩
/-! A drawing region whose first n operations only read or call quietly over a class of worlds, and whose other operations come behind them in one forced order. -/
section
variable {P : Program} {ops : Array Oper} {md : Region.Mode} {C : World → Prop}
def HeadRun (P : Program) (md : Region.Mode) (ops : Array Oper) (C : World → Prop) (n : Nat) (L : Array Bool → Act → Prop) : Nat → Array Bool → Act → Prop
  | 0, s, a => L s a
  | f + 1, s, a => (∃ j, j ∈ Region.ready md ops s) ∧ ∀ j, j ∈ Region.ready md ops s → j < n ∧ qOp P ops C j (HeadRun P md ops C n L f (s.setIfInBounds j true)) a
theorem HeadRun.any {n g : Nat} {L : Array Bool → Act → Prop} {Q : Exit → Act → World → Prop} (hL : ∀ s a w, C w → L s a → wpAny P md ops Q g s a w) :
    ∀ f s a w, C w → HeadRun P md ops C n L f s a → wpAny P md ops Q (f + g) s a w := by
  intro f
  induction f with
  | zero => intro s a w hw h; rw [Nat.zero_add]; exact hL s a w hw h
  | succ f ih =>
    intro s a w hw h
    have e : f + 1 + g = (f + g) + 1 := by omega
    rw [e]
    refine ⟨fun h0 => ?_, fun j hj => wpOp_of_qOp hw (fun a' w' hw' h' => ih _ a' w' hw' h') (h.2 j hj).2⟩
    obtain ⟨j, hj⟩ := h.1
    rw [h0] at hj
    cases hj
theorem HeadRun.take {n i : Nat} {o : Oper} {v : Value} {L : Array Bool → Act → Prop} (hi : ops[i]? = some o) (hsel : Region.noSelect ops = true)
    (hs : Region.sinkB md ops n = true) (hc : Region.chainB md ops n = true) (hn : n < ops.size) (hin : i < n)
    (hL : ∀ s a, L s a → ∀ j ∈ Region.ready md ops s, n ≤ j) :
    ∀ f s a, HeadInv md ops n s →
      (∀ j oj, ops[j]? = some oj → j ≠ i → s.getD j true = false → (∀ e ∈ oj.after, Region.binds md e = true → e.on ≠ i) → o.apart ops oj = true) →
      i ∈ Region.ready md ops s → YieldsIn P ops C o v a → HeadRun P md ops C n L f (s.setIfInBounds i true) (a.put o.dst v) → HeadRun P md ops C n L (f + 1) s a := by
  have nosel := Region.noSelect_spec hsel
  intro f
  induction f with
  | zero =>
    intro s a inv _ hr hy H
    refine ⟨⟨i, hr⟩, fun j hj => ?_⟩
    have low : j < n := Nat.lt_of_not_le fun h => tail_waits hs hc hn inv _ i rfl hin (mem_ready.1 hr).1 j h hj
    refine ⟨low, ?_⟩
    by_cases e : j = i
    · rw [e]; exact hy.qOp hi H
    · exact absurd (hL _ _ H j (ready_mono hj e)) (by omega)
  | succ f ih =>
    intro s a inv fr hr hy H
    refine ⟨⟨i, hr⟩, fun j hj => ?_⟩
    have low : j < n := Nat.lt_of_not_le fun h => tail_waits hs hc hn inv _ i rfl hin (mem_ready.1 hr).1 j h hj
    refine ⟨low, ?_⟩
    by_cases e : j = i
    · rw [e]; exact hy.qOp hi H
    · obtain ⟨un, oj, hoj, hall⟩ := mem_ready.1 hj
      have away : ∀ e ∈ oj.after, Region.binds md e = true → e.on ≠ i := fun x hx hb he => by
        have := hall x hx hb
        rw [he, getD_both (mem_ready.1 hr).1] at this
        cases this
      have two := qOp_put hoj (fr j oj hoj e un away) (fun cs b => nosel i o cs b hi) (fun cs b => nosel j oj cs b hoj) hy (H.2 j (ready_mono hj e)).2
      refine qOp_mono (fun a' h3 => ih (s.setIfInBounds j true) a' (inv.set hj low) (fun k ok hk hki hun hno => fr k ok hk hki ?_ hno) (ready_mono hr (Ne.symm e)) h3.1 ?_) two
      · by_cases e2 : j = k
        · rw [← e2]; exact un
        · rwa [getD_set_ne true e2] at hun
      · rw [Array.setIfInBounds_comm _ _ e]; exact h3.2
theorem HeadRun.lex {n g : Nat} {K : Act → Prop} (hsel : Region.noSelect ops = true) (hs : Region.sinkB md ops n = true) (hc : Region.chainB md ops n = true) (hn : n < ops.size) :
    ∀ (l : List Oper) (k : Nat) (s : Array Bool) (a : Act), (∀ j, j < l.length → l[j]? = ops[k + j]?) → k + l.length = n → HeadInv md ops n s →
      Region.lexHead md ops g l.length k s = true → wpQuiet P ops C K l a → HeadRun P md ops C n (fun s' a' => Region.seqB md ops g n s' = true ∧ K a') l.length s a := by
  intro l
  induction l with
  | nil =>
    intro k s a _ hk _ hB h
    obtain rfl : k = n := by simpa using hk
    exact ⟨by simpa [Region.lexHead] using hB, h⟩
  | cons o l ih =>
    intro k s a hl hk inv hB h
    have h0 : ops[k]? = some o := by simpa using (hl 0 (by simp)).symm
    simp only [List.length_cons, Region.lexHead, Bool.and_eq_true] at hB
    have kn : k < n := by simp only [List.length_cons] at hk; omega
    have hr : k ∈ Region.ready md ops s := by simpa using hB.1.1
    have hq : qOp P ops C k (wpQuiet P ops C K l) a := by unfold qOp; simp only [h0]; exact h
    obtain ⟨v, hy, hK⟩ := yieldsIn_of_qOp h0 hq
    refine HeadRun.take h0 hsel hs hc hn kn (fun s' a' hL => seqB_ready hL.1) l.length s a inv (Region.free_spec h0 hB.1.2) hr hy ?_
    refine ih (k + 1) _ _ (fun j hj => ?_) (by simp only [List.length_cons] at hk; omega) (inv.set hr kn) hB.2 hK
    have := hl (j + 1) (by simp; omega)
    simpa [Nat.add_assoc, Nat.add_comm 1 j] using this
/-- The rule: the first n operations walked once, over the class; the rest as it stands, in every world of the class. -/
theorem wp_region_head {id : Nat} {Q : Exit → Act → World → Prop} {a : Act} {w : World} {l : List Oper} (n : Nat) (hm : P.follows .mixedOrders = true) (hB : Region.lexTailB .any l.toArray n = true)
    (hC : C { w with drawn := w.drawn + 1 }) (h : wpQuiet P l.toArray C (fun a' => ∀ w', C w' → wpList P l.toArray Q (l.drop n) a' w') (l.take n) a) : (Code.region id l.toArray true).wp P Q a w := by
  simp only [Region.lexTailB, Bool.and_eq_true, decide_eq_true_eq] at hB
  obtain ⟨⟨⟨⟨hsel, hn⟩, hs⟩, hc⟩, hlex⟩ := hB
  have hn' : n < l.length := by simpa using hn
  have tl : (l.take n).length = n := by simp; omega
  have dl : (l.drop n).length = l.toArray.size - n := by simp
  have inv0 : HeadInv .any l.toArray n (Array.replicate l.toArray.size false) :=
    ⟨by simp, fun j oj _ hl => (by rw [getD_replicate_false] at hl; cases hl), fun t _ ht => getD_in (by simpa using ht) (getD_replicate_false _ _)⟩
  have H := HeadRun.lex (P := P) (C := C) (md := .any) (g := l.toArray.size - n) hsel hs hc hn (l.take n) 0 _ a
    (fun j hj => by have : j < n := by omega
                    simp [this]) (by omega) inv0 (by rw [tl]; exact hlex) h
  refine wp_region_any hm ?_
  have fin := HeadRun.any (Q := Q) (g := l.toArray.size - n) (fun s a' w' hw hL => by
    have := wpAny_of_seq (md := .any) (Q' := Q) (l.drop n) n s a' w' (fun j => by simp [List.getElem?_drop]) (by rw [dl]; exact hL.1) (hL.2 w' hw)
    rwa [dl] at this) _ _ _ _ hC H
  rw [tl, show n + (l.toArray.size - n) = l.toArray.size by omega] at fin
  exact fin
theorem wp_region_ext_head {id : Nat} {Q : Exit → Act → World → Prop} {a : Act} {w : World} {l : List Oper} (n B : Nat) (hB : B ≤ w.heap.size) (hm : P.follows .mixedOrders = true) (hl : Region.lexTailB .any l.toArray n = true)
    (h : Inhabited (Ext B w) → wpQuiet P l.toArray (fun w' => ∃ x : Ext B w, w' = w.ext B x) (fun a' => ∀ x : Ext B w, wpList P l.toArray Q (l.drop n) a' (w.ext B x)) (l.take n) a) : (Code.region id l.toArray true).wp P Q a w :=
  wp_region_head n hm hl (Below.toExt ((Below.refl _ _).drew) hB) (by
    have e : (fun a' => ∀ (w' : World), (∃ x : Ext B w, w' = w.ext B x) → wpList P l.toArray Q (l.drop n) a' w') = (fun a' => ∀ x : Ext B w, wpList P l.toArray Q (l.drop n) a' (w.ext B x)) :=
      funext fun a' => propext ⟨fun h x => h _ ⟨x, rfl⟩, fun h w' ⟨x, e⟩ => e ▸ h x⟩
    rw [e]; exact h ⟨⟨w, Below.refl _ _, hB⟩⟩)
end
/-! Blocks known whole. -/
/-- Block b is the row of cells cs, none of them frozen. -/
def World.row (w : World) (b : Nat) (cs : List Value) (t : TypeId) : Prop := w.heap[b]? = some (.cells cs.toArray t (0, 0))
namespace World
section
variable {w : World} {b : Nat} {cs : List Value} {t : TypeId}
theorem row.lt (h : w.row b cs t) : b < w.heap.size := (Array.getElem?_eq_some_iff.1 h).1
theorem row.cell (h : w.row b cs t) (i : Nat) {v : Value} (hi : cs[i]? = some v) : w.cell? ⟨b, i, none⟩ = some v := by
  unfold World.row at h; unfold World.cell?; simp [h, hi]
theorem row.cellAt (h : w.row b cs t) (i : Nat) (hi : i < cs.length) : w.cell? ⟨b, i, none⟩ = some cs[i] := h.cell i (by simp [hi])
theorem row.free (h : w.row b cs t) (i : Nat) : w.frozen? ⟨b, i, none⟩ = false := by
  unfold World.row at h; unfold World.frozen?; simp [h]
theorem row.alloc (h : w.row b cs t) (o : Obj) : (w.alloc o).row b cs t := by
  have := h.lt; unfold World.row at *; rw [Below.heap_alloc _ _ _ this]; exact h
theorem row.new (w : World) (cs : List Value) (t : TypeId) : (w.alloc (.cells cs.toArray t)).row w.heap.size cs t := by
  unfold World.row World.alloc; simp
theorem row.new' {w : World} {b : Nat} {cs : List Value} {t : TypeId} (h : w.heap.size = b) : (w.alloc (.cells cs.toArray t)).row b cs t := h ▸ row.new w cs t
theorem row.below {w' : World} {B : Nat} (h : w.row b cs t) (hb : Below B w w') (hB : b < B) : w'.row b cs t := by
  unfold World.row at *; rw [hb.block b hB]; exact h
theorem row.ext {B : Nat} (h : w.row b cs t) (x : Ext B w) (hB : b < B) : (w.ext B x).row b cs t := h.below x.below hB
theorem row.drewN (h : w.row b cs t) (n : Nat) : (w.drewN n).row b cs t := h
theorem row.drew (h : w.row b cs t) : w.drew.row b cs t := h
theorem row.set (h : w.row b cs t) (i : Nat) (v : Value) : (w.setCell ⟨b, i, none⟩ v).row b (cs.set i v) t := by
  have lt := h.lt
  unfold World.row at *
  simp only [World.setCell, Array.getElem?_modify, h]
  simp
theorem row.other (h : w.row b cs t) (a : Addr) (v : Value) (hn : a.block ≠ b) : (w.setCell a v).row b cs t := by
  unfold World.row at *; rw [Below.heap_setCell _ _ _ _ (fun e => hn e.symm)]; exact h
theorem row.four {v0 v1 v2 v3 : Value} (h : w.row b [v0, v1, v2, v3] t) : w.cell? ⟨b, 0, none⟩ = some v0 ∧ w.cell? ⟨b, 1, none⟩ = some v1 ∧ w.cell? ⟨b, 2, none⟩ = some v2 ∧ w.cell? ⟨b, 3, none⟩ = some v3 ∧ (∀ i, w.frozen? ⟨b, i, none⟩ = false) :=
  ⟨h.cell 0 rfl, h.cell 1 rfl, h.cell 2 rfl, h.cell 3 rfl, h.free⟩
theorem row.one {v0 : Value} (h : w.row b [v0] t) : w.cell? ⟨b, 0, none⟩ = some v0 ∧ (∀ i, w.frozen? ⟨b, i, none⟩ = false) := ⟨h.cell 0 rfl, h.free⟩
theorem row.two {v0 v1 : Value} (h : w.row b [v0, v1] t) : w.cell? ⟨b, 0, none⟩ = some v0 ∧ w.cell? ⟨b, 1, none⟩ = some v1 ∧ (∀ i, w.frozen? ⟨b, i, none⟩ = false) := ⟨h.cell 0 rfl, h.cell 1 rfl, h.free⟩
end
end World
/-- The world at a piece of code is given a name: what is known of it stands in F. -/
theorem wp_world {P : Program} {c : Code} {Q : Exit → Act → World → Prop} {a : Act} {w : World} (F : World → Prop) (h1 : F w) (h2 : ∀ wc, F wc → c.wp P Q a wc) : c.wp P Q a w := h2 w h1
theorem rounds_world {P : Program} {c : Code} {n : Nat} {Q : Exit → Act → World → Prop} {a : Act} {w : World} (F : World → Prop) (h1 : F w) (h2 : ∀ wc, F wc → Code.rounds P c Q n a wc) : Code.rounds P c Q n a w := h2 w h1
/-- A result that lies in a block known whole. -/
theorem bodyPost_row {P : Program} {fn : Func} {R : Ending → World → Prop} {a : Act} {w : World} {p : Tmp} {ty : TypeId} {g : Nat} {cs : List Value} {t : TypeId} {d : TypeDesc}
    (h : fn.results = #[.cell p ty]) (hp : a.tmps.getD p undef = .pointer (some ⟨g, 0, none⟩)) (hr : w.row g cs t) (hu : P.underlying ty = some d)
    (hd : (match d with | .struct _ | .array _ _ => true | _ => false) = true) (hi : (P.info? ty).map (·.size) = some cs.length) (hdf : a.defers = []) (hR : R (.returned (.agg cs.toArray)) w) : bodyPost P fn R .ret a w :=
  bodyPost_ret (results_cell_row h a.tmps w g t cs.toArray (0, 0) d hp hr hu hd (by simpa using hi)) hdf hR
/-! A slice that reads as a list (elements of one cell). -/
def World.lst (w : World) (v : Value) (vs : List Value) : Prop :=
  (v = .slice none 0 0 ∧ vs = []) ∨ ∃ b o c, v = .slice (some ⟨b, o, none⟩) vs.length c ∧ ∀ j u, vs[j]? = some u → w.cell? ⟨b, o + j, none⟩ = some u
theorem World.lst.below {w w' : World} {B : Nat} {v : Value} {vs : List Value} (h : w.lst v vs) (hb : Below B w w') (hB : w.heap.size ≤ B) : w'.lst v vs := by
  rcases h with h | ⟨b, o, c, hv, hc⟩
  · exact .inl h
  · refine .inr ⟨b, o, c, hv, fun j u hj => ?_⟩
    have h1 := hc j u hj
    rw [hb.cell (p := ⟨b, o + j, none⟩) (Nat.lt_of_lt_of_le (block_lt_of_cell h1) hB)]
    exact h1
theorem World.ownsRow.lst {w : World} {base : Nat} {e : TypeId} {v : Value} {n : Nat} {xs : List Value} (h : w.ownsRow base e 1 v n xs) : w.lst v xs := by
  obtain ⟨hl, h⟩ := h
  have hn : n = xs.length := by omega
  rcases h with ⟨h1, h2⟩ | ⟨g, cap, cur, hv, _, hh, h1, _, hs, ht⟩
  · subst h2; exact .inl ⟨h1, List.length_eq_zero_iff.1 hn.symm⟩
  · refine .inr ⟨g, 0, cap, by rw [hv, hn], fun j u hj => ?_⟩
    have h2 : cur[j]? = some u := by
      rw [← ht] at hj
      rw [List.getElem?_take] at hj
      split at hj
      · simpa using hj
      · cases hj
    simp [World.cell?, hh, h2]
/-! '==' on two arrays of four integers. -/
section
variable {P : Program}
theorem run_eq_array4 (d : Nat) (t e : TypeId) (i : TypeInfo) (k : IntKind) (w : World) (ht : P.underlying t = some (.array 4 e)) (he : P.underlying e = some (.int k)) (hi : P.info? e = some i) (hs : i.size = 1) (a0 a1 a2 a3 b0 b1 b2 b3 : Int) :
   (Op.equalIn (d + 2) t (.agg #[.int k a0, .int k a1, .int k a2, .int k a3]) (.agg #[.int k b0, .int k b1, .int k b2, .int k b3])).run P w = .ok (a0 == b0 && (a1 == b1 && (a2 == b2 && a3 == b3))) w := by
  have hsz : ∀ w, (sizeOf e).run P w = .ok 1 w := fun w => by simp [sizeOf, typeInfo, hi, hs]
  have heq : ∀ (a b : Int) (w : World), (Op.equalIn (d + 1) e (.int k a) (.int k b)).run P w = .ok (a == b) w := fun a b w => run_equalIn_int w d e k k a b he
  rw [show d + 2 = (d + 1) + 1 by rfl, Op.equalIn]
  simp only [Sem.run_bind, run_underlying ht, Result.andThen_ok, hsz]
  simp only [Std.Legacy.Range.forIn_eq_forIn_range', Std.Legacy.Range.size, List.range'_succ, List.range'_zero, List.forIn_cons, List.forIn_nil]
  cases h0 : (a0 == b0) <;> cases h1 : (a1 == b1) <;> cases h2 : (a2 == b2) <;> cases h3 : (a3 == b3) <;> simp [part, isAgg, run_underlying he, heq, h0, h1, h2, h3]
end
end Go
