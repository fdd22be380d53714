/- The plan's state: data, ends, within, good: contracts. -/
import Derived.Test.YtdmbenhhjpeepaaDoorMSets
import Derived.Test.YtdmbenhhjpeepaaDoorMUpto
import Derived.Test.YtdmbenhhjpeepaaDoorMOf
import Derived.Test.YtdmbenhhjpeepaaDoorMCnt
import Derived.Test.YtdmbenhhjpeepaaDoorMOps
import Derived.Test.YtdmbenhhjpeepaaDoorExt2
import Derived.Test.YtdmbenhhjpeepaaDoorCalm
import Derived.Deep.DeepCutAuto
namespace Go.Proofs.YtdmbenhhjpeepaaDoor
open Go Go.RowKit
set_option maxRecDepth 100000
/-- A set's cells, not looked into. -/
def Set4.cs (s : Set4) : List Value := s.cells
abbrev Set4.v (s : Set4) : Value := .agg s.cs.toArray
theorem Set4.cs_one (s : Set4) : ∀ c ∈ s.cs, c.oneCell' = true := by intro c hc; simp [Set4.cs] at hc; rcases hc with rfl | rfl | rfl | rfl <;> rfl
theorem Or_v (s t : Set4) (w : World) : Calls Tryd.prog 25 #[s.v, t.v] w fun r w' => r = .returned (s.or t).v ∧ Below w.heap.size w w' := or_any s t w
theorem And_v (s t : Set4) (w : World) : Calls Tryd.prog 15 #[s.v, t.v] w fun r w' => r = .returned (s.and t).v ∧ Below w.heap.size w w' := and_any s t w
theorem Less_v (s t : Set4) (w : World) : Calls Tryd.prog 27 #[s.v, t.v] w fun r w' => r = .returned (s.less t).v ∧ Below w.heap.size w w' := less_any s t w
theorem Empty_v (s : Set4) (w : World) : Calls Tryd.prog 16 #[s.v] w fun e w' => e = .returned (.bool s.empty) ∧ Below w.heap.size w w' := Empty_any s w
theorem Count_v (s : Set4) (w : World) : Calls Tryd.prog 17 #[s.v] w fun e w' => e = .returned (.int .i64 (s.count : Int)) ∧ Below w.heap.size w w' := Count_any s w
theorem Upto_v (n : Int) (w : World) : Calls Tryd.prog 18 #[.int .i64 n] w fun e w' => e = .returned (Set4.upto n.toNat).v ∧ Below w.heap.size w w' := Upto_any n w
abbrev tS : TypeId := 28
abbrev tP : TypeId := 30
theorem rtS (s : Set4) : RowTy Tryd.prog tS s.cs.length := ⟨_, Tryd.underlying28, rfl, by show _ = some 4; kernel_rfl⟩
structure PS where
  data : Int
  D : Set4
  H : Set4
  K : Set4
  L : Set4
/-- A state's cells, not looked into. -/
def PS.cs (p : PS) : List Value := .int .i64 p.data :: (p.D.cells ++ (p.H.cells ++ (p.K.cells ++ p.L.cells)))
abbrev PS.v (p : PS) : Value := .agg p.cs.toArray
theorem rtP (p : PS) : RowTy Tryd.prog tP p.cs.length := ⟨_, Tryd.underlying30, rfl, by show _ = some 17; kernel_rfl⟩
/-- What lies in a state's block. -/
theorem PS.parts {w : World} {g : Nat} {p : PS} {t : TypeId} (h : w.row g p.cs t) : w.cell? ⟨g, 0, none⟩ = some (.int .i64 p.data) ∧ w.rangeAt g 0 p.cs ∧ w.rangeAt g 1 p.D.cs ∧ w.rangeAt g 5 p.H.cs ∧ w.rangeAt g 9 p.K.cs ∧ w.rangeAt g 13 p.L.cs ∧ g < w.heap.size :=
  ⟨h.cell 0 rfl, h.range, (by have := h.range.part 1 4; rw [Nat.zero_add] at this; exact this), (by have := h.range.part 5 4; rw [Nat.zero_add] at this; exact this), (by have := h.range.part 9 4; rw [Nat.zero_add] at this; exact this), (by have := h.range.part 13 4; rw [Nat.zero_add] at this; exact this), h.lt⟩
def PS.all (p : PS) : Set4 := Set4.upto p.data.toNat
def PS.ends (p : PS) : Set4 := Set4.ofInts [p.data, p.data + 1]
theorem box_st (p : PS) (w : World) : (w.alloc (.cells p.cs.toArray tP)).row w.heap.size p.cs tP := World.row.new w p.cs tP
theorem cs_len (s : Set4) : s.cs.length = 4 := rfl
theorem results_set {fn : Func} {R : Ending → World → Prop} {a : Act} {w : World} {p : Tmp} {g : Nat} {s : Set4} (h : fn.results = #[.cell p tS]) (hp : a.tmps.getD p undef = .pointer (some ⟨g, 0, none⟩)) (hr : w.row g s.cs tS) (hdf : a.defers = []) (hR : R (.returned s.v) w) : bodyPost Tryd.prog fn R .ret a w :=
  bodyPost_row h hp hr Tryd.underlying28 rfl (by kernel_rfl) hdf hR
theorem zeroS : (Tryd.prog.info? tS).map (·.zero) = some (some (.agg Set4.zero.cs.toArray)) := by kernel_rfl
theorem within_any (s t : Set4) (w : World) : Calls Tryd.prog 37 #[s.v, t.v] w fun e w' => e = .returned (.bool (s.less t).empty) ∧ Below w.heap.size w w' := by
  go_enter Tryd.func37, Tryd.ntmps37
  go_upto_region 1 with fail
  refine wp_world (fun w1 => w1.rangeAt w.heap.size 0 s.cs ∧ w1.rangeAt (w.heap.size + 1) 0 t.cs ∧ Below w.heap.size w w1) ⟨(World.row.alloc (World.row.new' rfl) _).range, (World.row.new' (by simp)).range, (by repeat' (first | (with_reducible exact Below.refl _ _) | (with_reducible assumption) | (with_reducible refine Below.setCell ?_ ?_ _) | (with_reducible refine Below.ext ?_ _ ?_) | (with_reducible refine Below.alloc ?_ ?_ _) | (with_reducible refine Below.drew ?_) | (with_reducible refine Below.drewN ?_ _) | (with_reducible exact Nat.le_refl _) | (dsimp only; omega) | (simp <;> omega)))⟩ ?_
  rintro w1 ⟨r0, r1, b1⟩
  go_wp2_with ((refine wpList_ld (by rfl) rfl rfl (by assumption) (by first | exact rtS _ | exact rtP _ | exact rtPl _ _) ?_; simp only [Act.put, List.setIfInBounds_toArray, List.set_cons_zero, List.set_cons_succ]))
  refine Calls.pure_to (Less_v s t _) ?_
  intro w2 b2
  go_wp2_with fail
  refine Calls.pure_to (Empty_v _ _) ?_
  intro w3 b3
  go_wp2_with fail
  go_returns
  exact ⟨rfl, b1.trans ((b2.trans (b3.mono b2.size)).mono b1.size)⟩
theorem zero_row {w : World} {g : Nat} (h : w.row g Set4.zero.cells tS) : w.row g Set4.zero.cs tS := h
theorem st_row {w w' : World} {g : Nat} {s t : Set4} {ty : TypeId} (h : w.row g t.cs ty) (e : w' = w.setRow g s.cs.toArray) : w'.row g s.cs ty := by rw [e]; exact h.setRow
theorem data_any (p : PS) (w : World) : Calls Tryd.prog 22 #[p.v] w fun e w' => e = .returned p.all.v ∧ Below w.heap.size w w' := by
  go_enter Tryd.func22, Tryd.ntmps22
  go_upto_region 1 with fail
  refine wp_world (fun w1 => w1.row w.heap.size p.cs tP ∧ w1.row (w.heap.size + 1) Set4.zero.cs tS ∧ Below w.heap.size w w1) ⟨World.row.alloc (World.row.new' rfl) _, World.row.new' (by simp), (by repeat' (first | (with_reducible exact Below.refl _ _) | (with_reducible assumption) | (with_reducible refine Below.setCell ?_ ?_ _) | (with_reducible refine Below.ext ?_ _ ?_) | (with_reducible refine Below.alloc ?_ ?_ _) | (with_reducible refine Below.drew ?_) | (with_reducible refine Below.drewN ?_ _) | (with_reducible exact Nat.le_refl _) | (dsimp only; omega) | (simp <;> omega)))⟩ ?_
  rintro w1 ⟨r0, r1, b1⟩
  obtain ⟨k0, _⟩ := PS.parts r0
  go_wp2_with fail
  refine Calls.pure_to (Upto_v p.data _) ?_
  intro w2 b2
  have r2 := r1.below b2 r1.lt
  go_wp2_with (refine wpList_st (n := 4) rfl rfl rfl rfl r2 (rtS p.all) rfl rfl (Set4.cs_one _) ?_; simp only [Act.put])
  exact results_set rfl rfl r2.setRow rfl ⟨rfl, ((b1.trans (b2.mono b1.size))).setRow (by omega) _⟩
theorem ends_any (p : PS) (w : World) (h0 : 0 ≤ p.data) (h1 : p.data ≤ 1000) : Calls Tryd.prog 26 #[p.v] w fun e w' => e = .returned p.ends.v ∧ Below w.heap.size w w' := by
  go_enter Tryd.func26, Tryd.ntmps26
  go_upto_region 1 with fail
  refine wp_world (fun w1 => w1.row w.heap.size p.cs tP ∧ w1.row (w.heap.size + 1) Set4.zero.cs tS ∧ Below w.heap.size w w1) ⟨World.row.alloc (World.row.new' rfl) _, World.row.new' (by simp), (by repeat' (first | (with_reducible exact Below.refl _ _) | (with_reducible assumption) | (with_reducible refine Below.setCell ?_ ?_ _) | (with_reducible refine Below.ext ?_ _ ?_) | (with_reducible refine Below.alloc ?_ ?_ _) | (with_reducible refine Below.drew ?_) | (with_reducible refine Below.drewN ?_ _) | (with_reducible exact Nat.le_refl _) | (dsimp only; omega) | (simp <;> omega)))⟩ ?_
  rintro w1 ⟨r0, r1, b1⟩
  obtain ⟨k0, _⟩ := PS.parts r0
  go_wp2_with fail
  refine Calls.pure_to (Of_any [p.data, p.data + 1] w1.heap.size 0 2 _ ?hc (by simp)) ?_
  case hc =>
    intro j u hj
    rw [Nat.zero_add]
    exact (World.row.new' (cs := ints [p.data, p.data + 1]) rfl).cell j hj
  intro w2 b2
  have r2 := (r1.alloc (.cells #[.int .i64 p.data, .int .i64 (p.data + 1)] 3)).below b2 (by have := r1.lt; simp; omega)
  have b2' : Below w1.heap.size w1 w2 := (((Below.refl _ w1).alloc (Nat.le_refl _) (.cells #[.int .i64 p.data, .int .i64 (p.data + 1)] 3))).trans (b2.mono (by simp))
  go_wp2_with (refine wpList_st (n := 4) rfl rfl rfl rfl r2 (rtS p.ends) rfl rfl (Set4.cs_one _) ?_; simp only [Act.put])
  exact results_set rfl rfl r2.setRow rfl ⟨rfl, ((b1.trans (b2'.mono b1.size))).setRow (by omega) _⟩
end Go.Proofs.YtdmbenhhjpeepaaDoor
