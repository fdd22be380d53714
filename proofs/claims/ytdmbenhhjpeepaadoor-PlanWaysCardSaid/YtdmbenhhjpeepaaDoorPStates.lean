/- The law's states: its contract. -/
import Derived.Test.YtdmbenhhjpeepaaDoorPBits
import Derived.Test.YtdmbenhhjpeepaaDoorMid
namespace Go.Proofs.YtdmbenhhjpeepaaDoor
open Go Go.RowKit
set_option maxRecDepth 100000
/-- The document's state. -/
structure RSt where
  data : Int
  D : Nat → Bool
  H : Nat → Bool
  K : Nat → Bool
  L : Nat → Bool
  odd : Bool
def RSt.cs (r : RSt) : List Value := [.int .i64 r.data] ++ (blist 32 r.D ++ (blist 32 r.H ++ (blist 32 r.K ++ (blist 32 r.L ++ [.bool r.odd]))))
abbrev RSt.v (r : RSt) : Value := .agg r.cs.toArray
abbrev tR : TypeId := 33
theorem RSt.len (r : RSt) : r.cs.length = 130 := by simp [RSt.cs, blist_len]
theorem rtR (r : RSt) : RowTy Tryd.prog tR r.cs.length := ⟨_, Tryd.underlying33, rfl, by rw [RSt.len]; kernel_rfl⟩
theorem RSt.one (r : RSt) : ∀ c ∈ r.cs, c.oneCell' = true := by
  intro c hc
  simp only [RSt.cs, List.mem_append, List.mem_singleton] at hc
  rcases hc with rfl | hc | hc | hc | hc | rfl
  · rfl
  · exact blist_one _ _ c hc
  · exact blist_one _ _ c hc
  · exact blist_one _ _ c hc
  · exact blist_one _ _ c hc
  · rfl
def RSt.zero : RSt := ⟨0, fun _ => false, fun _ => false, fun _ => false, fun _ => false, false⟩
theorem zeroR : (Tryd.prog.info? tR).map (·.zero) = some (some (.agg RSt.zero.cs.toArray)) := by kernel_rfl
theorem build_R (n : Int) (w : World) : (Instr.build tR #[(0, .int .i64 n)]).run Tryd.prog w = .ok (RSt.v { RSt.zero with data := n }) w := by kernel_rfl
theorem RSt.putD (r : RSt) (f : Nat → Bool) : putAt r.cs 1 (blist 32 f) = ({ r with D := f } : RSt).cs := putAt_mid (blist 32 f) [.int .i64 r.data] (blist 32 r.D) _ (by simp [blist_len])
theorem RSt.putH (r : RSt) (f : Nat → Bool) : putAt r.cs 33 (blist 32 f) = ({ r with H := f } : RSt).cs := by
  have := putAt_mid (blist 32 f) ([.int .i64 r.data] ++ blist 32 r.D) (blist 32 r.H) (blist 32 r.K ++ (blist 32 r.L ++ [.bool r.odd])) (by simp [blist_len])
  rw [show ([Value.int .i64 r.data] ++ blist 32 r.D).length = 33 by simp [blist_len]] at this
  simpa [RSt.cs] using this
theorem RSt.putK (r : RSt) (f : Nat → Bool) : putAt r.cs 65 (blist 32 f) = ({ r with K := f } : RSt).cs := by
  have := putAt_mid (blist 32 f) ([.int .i64 r.data] ++ (blist 32 r.D ++ blist 32 r.H)) (blist 32 r.K) (blist 32 r.L ++ [.bool r.odd]) (by simp [blist_len])
  rw [show ([Value.int .i64 r.data] ++ (blist 32 r.D ++ blist 32 r.H)).length = 65 by simp [blist_len]] at this
  simpa [RSt.cs] using this
theorem RSt.putL (r : RSt) (f : Nat → Bool) : putAt r.cs 97 (blist 32 f) = ({ r with L := f } : RSt).cs := by
  have := putAt_mid (blist 32 f) ([.int .i64 r.data] ++ (blist 32 r.D ++ (blist 32 r.H ++ blist 32 r.K))) (blist 32 r.L) [.bool r.odd] (by simp [blist_len])
  rw [show ([Value.int .i64 r.data] ++ (blist 32 r.D ++ (blist 32 r.H ++ blist 32 r.K))).length = 97 by simp [blist_len]] at this
  simpa [RSt.cs] using this
theorem RSt.setOdd (r : RSt) (b : Bool) : r.cs.set 129 (.bool b) = ({ r with odd := b } : RSt).cs := by
  have h : ∀ (l : List Value) (x y : Value), (l ++ [x]).set l.length y = l ++ [y] := fun l x y => by simp
  have := h ([.int .i64 r.data] ++ (blist 32 r.D ++ (blist 32 r.H ++ (blist 32 r.K ++ blist 32 r.L)))) (.bool r.odd) (.bool b)
  rw [show ([Value.int .i64 r.data] ++ (blist 32 r.D ++ (blist 32 r.H ++ (blist 32 r.K ++ blist 32 r.L)))).length = 129 by simp [blist_len]] at this
  simpa [RSt.cs] using this
theorem RSt.oddAt (r : RSt) : r.cs[129]? = some (.bool r.odd) := by
  have h : ∀ (l : List Value) (x : Value), (l ++ [x])[l.length]? = some x := fun l x => by simp
  have := h ([.int .i64 r.data] ++ (blist 32 r.D ++ (blist 32 r.H ++ (blist 32 r.K ++ blist 32 r.L)))) (.bool r.odd)
  rw [show ([Value.int .i64 r.data] ++ (blist 32 r.D ++ (blist 32 r.H ++ (blist 32 r.K ++ blist 32 r.L)))).length = 129 by simp [blist_len]] at this
  simpa [RSt.cs] using this
/-- Plain numbers as they come. -/
structure Raw where
  data : Int
  D : Nat
  H : Nat
  K : Nat
  L : Nat
  hD : D < 18446744073709551616
  hH : H < 18446744073709551616
  hK : K < 18446744073709551616
  hL : L < 18446744073709551616
abbrev Raw.cells (x : Raw) : List Value := [.int .i64 x.data, .int .u64 (x.D : Int), .int .u64 (x.H : Int), .int .u64 (x.K : Int), .int .u64 (x.L : Int)]
abbrev Raw.val (x : Raw) : Value := .agg #[.int .i64 x.data, .int .u64 (x.D : Int), .int .u64 (x.H : Int), .int .u64 (x.K : Int), .int .u64 (x.L : Int)]
def Raw.ps (x : Raw) : PS := ⟨x.data, Set4.ofNat x.D x.hD, Set4.ofNat x.H x.hH, Set4.ofNat x.K x.hK, Set4.ofNat x.L x.hL⟩
def Raw.big (n : Nat) : Bool := decide (4294967296 ≤ n)
def Raw.rs (x : Raw) : RSt := ⟨x.data, x.D.testBit, x.H.testBit, x.K.testBit, x.L.testBit, Raw.big x.D || Raw.big x.H || Raw.big x.K || Raw.big x.L⟩
def PS.zero : PS := ⟨0, Set4.zero, Set4.zero, Set4.zero, Set4.zero⟩
theorem PS.one (p : PS) : ∀ c ∈ p.cs, c.oneCell' = true := by
  intro c hc
  unfold PS.cs at hc
  rcases List.mem_cons.1 hc with rfl | hc
  · rfl
  · rcases List.mem_append.1 hc with hc | hc
    · exact Set4.cs_one p.D c hc
    · rcases List.mem_append.1 hc with hc | hc
      · exact Set4.cs_one p.H c hc
      · rcases List.mem_append.1 hc with hc | hc
        · exact Set4.cs_one p.K c hc
        · exact Set4.cs_one p.L c hc
theorem zeroP : (Tryd.prog.info? tP).map (·.zero) = some (some (.agg PS.zero.cs.toArray)) := by kernel_rfl
theorem build_P (x : Raw) (w : World) : (Instr.build tP #[(0, .int .i64 x.data), (1, (Set4.ofNat x.D x.hD).v), (2, (Set4.ofNat x.H x.hH).v), (3, (Set4.ofNat x.K x.hK).v), (4, (Set4.ofNat x.L x.hL).v)]).run Tryd.prog w = .ok x.ps.v w := by kernel_rfl
/-- The blocks of the law's 'states'. -/
structure StAt (w0 w : World) (x : Raw) (g : Nat) (p : PS) (r : RSt) (o : List Value) (g4 g5 g6 : Nat) : Prop where
  s1 : w.row g x.cells 24
  s2 : w.row (g + 1) PS.zero.cs tP
  s3 : w.row (g + 1 + 1) RSt.zero.cs tR
  s4 : w.row g4 p.cs tP
  s5 : w.row g5 r.cs tR
  s6 : w.row g6 o 62
  n4 : g + 1 + 1 < g4
  n5 : g4 < g5
  n6 : g5 < g6
  b : Below g w0 w
section
variable {w0 w w' : World} {x : Raw} {g g4 g5 g6 : Nat} {p : PS} {r r' : RSt} {o : List Value}
theorem StAt.below (h : StAt w0 w x g p r o g4 g5 g6) (hb : Below w.heap.size w w') : StAt w0 w' x g p r o g4 g5 g6 :=
  ⟨h.s1.below hb h.s1.lt, h.s2.below hb h.s2.lt, h.s3.below hb h.s3.lt, h.s4.below hb h.s4.lt, h.s5.below hb h.s5.lt, h.s6.below hb h.s6.lt, h.n4, h.n5, h.n6, h.b.trans (hb.mono (Nat.le_of_lt h.s1.lt))⟩
theorem row_same {b : Nat} {cs : List Value} {t : TypeId} (h : w.row b cs t) (e : w'.heap[b]? = w.heap[b]?) : w'.row b cs t := by unfold World.row at *; rw [e]; exact h
theorem StAt.t5 (h : StAt w0 w x g p r o g4 g5 g6) (h5 : w'.row g5 r'.cs tR) (hk : ∀ k, k ≠ g5 → w'.heap[k]? = w.heap[k]?) (hb : ∀ B u, B ≤ g5 → Below B u w → Below B u w') : StAt w0 w' x g p r' o g4 g5 g6 := by
  have n4 := h.n4; have n5 := h.n5; have n6 := h.n6
  exact ⟨row_same h.s1 (hk _ (by omega)), row_same h.s2 (hk _ (by omega)), row_same h.s3 (hk _ (by omega)), row_same h.s4 (hk _ (by omega)), h5, row_same h.s6 (hk _ (by omega)), n4, n5, n6, hb _ _ (by omega) h.b⟩
theorem StAt.t6 (h : StAt w0 w x g p r o g4 g5 g6) (i : Nat) (v : Value) : StAt w0 (w.setCell ⟨g6, i, none⟩ v) x g p r (o.set i v) g4 g5 g6 := by
  have n4 := h.n4; have n5 := h.n5; have n6 := h.n6
  exact ⟨h.s1.other _ _ (by show g6 ≠ _; omega), h.s2.other _ _ (by show g6 ≠ _; omega), h.s3.other _ _ (by show g6 ≠ _; omega), h.s4.other _ _ (by show g6 ≠ _; omega), h.s5.other _ _ (by show g6 ≠ _; omega), h.s6.set i v, n4, n5, n6, h.b.setCell (by show g ≤ g6; omega) _⟩
theorem StAt.odd (h : StAt w0 w x g p r o g4 g5 g6) (b : Bool) : StAt w0 (w.setCell ⟨g5, 129, none⟩ (.bool b)) x g p { r with odd := b } o g4 g5 g6 := by
  have n4 := h.n4; have n5 := h.n5; have n6 := h.n6
  have h5 := h.s5.set 129 (.bool b)
  rw [RSt.setOdd] at h5
  exact ⟨h.s1.other _ _ (by show g5 ≠ _; omega), h.s2.other _ _ (by show g5 ≠ _; omega), h.s3.other _ _ (by show g5 ≠ _; omega), h.s4.other _ _ (by show g5 ≠ _; omega), h5, h.s6.other _ _ (by show g5 ≠ _; omega), n4, n5, n6, h.b.setCell (by show g ≤ g5; omega) _⟩
theorem StAt.go {P : Program} {c : Code} {a : Act} {Q : Exit → Act → World → Prop} (h : StAt w0 w x g p r o g4 g5 g6) (k : ∀ w, StAt w0 w x g p r o g4 g5 g6 → Code.wp P c Q a w) : Code.wp P c Q a w := k w h
end
theorem five {w : World} {b : Nat} {v0 v1 v2 v3 v4 : Value} {t : TypeId} (h : w.row b [v0, v1, v2, v3, v4] t) : w.cell? ⟨b, 0, none⟩ = some v0 ∧ w.cell? ⟨b, 1, none⟩ = some v1 ∧ w.cell? ⟨b, 2, none⟩ = some v2 ∧ w.cell? ⟨b, 3, none⟩ = some v3 ∧ w.cell? ⟨b, 4, none⟩ = some v4 :=
  ⟨h.cell 0 rfl, h.cell 1 rfl, h.cell 2 rfl, h.cell 3 rfl, h.cell 4 rfl⟩
set_option maxHeartbeats 4000000 in
theorem states_any (x : Raw) (w : World) : Calls Tryd.prog 6 #[x.val] w fun e w' => e = .returned (.tuple #[x.ps.v, x.rs.v]) ∧ Below w.heap.size w w' := by
  go_enter Tryd.func6, Tryd.ntmps6
  go_upto_region 1 with ((with_reducible apply op_alloc); (case hw => rfl); (case hz => first | exact zeroP | exact zeroR); (case hzs => rfl); simp only [Act.put, List.setIfInBounds_toArray, List.set_cons_zero, List.set_cons_succ])
  obtain ⟨g, hg⟩ : ∃ g, g = w.heap.size := ⟨_, rfl⟩
  refine wp_world (fun w1 => w1.row g x.cells 24 ∧ w1.row (g + 1) PS.zero.cs tP ∧ w1.row (g + 1 + 1) RSt.zero.cs tR ∧ Below g w w1) ⟨((World.row.new' (cs := x.cells) hg.symm).alloc _).alloc _, (World.row.new' (cs := PS.zero.cs) (by simp [hg])).alloc _, World.row.new' (cs := RSt.zero.cs) (by simp [hg]), by rw [hg]; exact (by repeat' (first | (with_reducible exact Below.refl _ _) | (with_reducible assumption) | (with_reducible refine Below.setCell ?_ ?_ _) | (with_reducible refine Below.ext ?_ _ ?_) | (with_reducible refine Below.alloc ?_ ?_ _) | (with_reducible refine Below.drew ?_) | (with_reducible refine Below.drewN ?_ _) | (with_reducible exact Nat.le_refl _) | (dsimp only; omega) | (simp <;> omega)))⟩ ?_
  rintro w1 ⟨r1, r2, r3, B1⟩
  simp only [World.size_alloc, ← hg]
  have hgl : w.heap.size ≤ g := Nat.le_of_eq hg.symm
  have hgu : g ≤ w.heap.size := Nat.le_of_eq hg
  clear hg
  have hB0 : w1.heap.size ≤ w1.heap.size := Nat.le_refl _
  have gl := r1.lt
  obtain ⟨x0, x1, x2, x3, x4⟩ := five r1
  refine wp_region_calm 16 15 w1.heap.size PS.zero.cs hB0 (by kernel_rfl) (by kernel_rfl) (by kernel_rfl) (by kernel_rfl) rfl zeroP rfl ?_
  apply Exists.intro
  refine ⟨fun K _ => ?_, ?_⟩
  · simp only [List.take_succ_cons, List.take_zero, List.eraseIdx_cons_succ, List.eraseIdx_cons_zero]
    repeat (first | ((with_reducible apply q_cell); (case hw => rfl); (case hx => rfl); (case ht => intro _; rfl); (case hc => (rintro _ ⟨y, rfl⟩; rw [World.cell?_cl y _ _ (by assumption)]; assumption)); simp only [Act.put, List.setIfInBounds_toArray, List.set_cons_zero, List.set_cons_succ]) | ((with_reducible apply q_build5); (case hw => rfl); (case h0 => rfl); (case h1 => rfl); (case h2 => rfl); (case h3 => rfl); (case h4 => rfl); (case hb => exact build_P x); simp only [Act.put, List.setIfInBounds_toArray, List.set_cons_zero, List.set_cons_succ]) | go_big_quiet_step (first | with_reducible exact Calls.cl_of (set_any x.D x.hD _) | with_reducible exact Calls.cl_of (set_any x.H x.hH _) | with_reducible exact Calls.cl_of (set_any x.K x.hK _) | with_reducible exact Calls.cl_of (set_any x.L x.hL _)))
    refine wpQuiet_nil ?_
    rfl
  intro g4 w2 b2 hg4 r4
  simp only [List.drop_succ_cons, List.drop_zero, Act.put, List.setIfInBounds_toArray, List.set_cons_zero, List.set_cons_succ]
  ((with_reducible apply op_st); (case hw => rfl); (case hx => rfl); (case hy => rfl); (case hr => exact r4); (case ht => exact rtP PS.zero); (case hn => rfl); (case hold => rfl); (case h1 => exact x.ps.one); simp only [Act.put])
  have hr1 := r1.lt; have hr2 := r2.lt; have hr3 := r3.lt
  refine wpList_world (fun w3 => w3.row g x.cells 24 ∧ w3.row (g + 1) PS.zero.cs tP ∧ w3.row (g + 1 + 1) RSt.zero.cs tR ∧ w3.row g4 x.ps.cs tP ∧ Below g w w3)
    ⟨(r1.below b2 hr1).setRow_other (by omega), (r2.below b2 hr2).setRow_other (by omega), (r3.below b2 hr3).setRow_other (by omega), r4.setRow, (B1.trans (b2.mono (by omega))).setRow (by omega) _⟩ ?_
  have hg4' : g + 1 + 1 < g4 := by omega
  clear x0 x1 x2 x3 x4 gl hB0 r1 r2 r3 r4 B1 b2 hg4 hr1 hr2 hr3
  rintro w3 ⟨r1, r2, r3, r4, B1⟩
  obtain ⟨x0, x1, x2, x3, x4⟩ := five r1
  go_upto_region 3 with (first | ((with_reducible apply op_build1); (case hw => rfl); (case hx => rfl); (case hb => exact build_R x.data); simp only [Act.put, List.setIfInBounds_toArray, List.set_cons_zero, List.set_cons_succ]) | ((with_reducible apply op_alloc); (case hw => rfl); (case hz => exact zeroR); (case hzs => rfl); simp only [Act.put, List.setIfInBounds_toArray, List.set_cons_zero, List.set_cons_succ]) | (((with_reducible apply op_st); (case hw => rfl); (case hx => rfl); (case hy => rfl); (case hr => exact World.row.new' (cs := RSt.zero.cs) rfl); (case ht => exact rtR RSt.zero); (case hn => rfl); (case hold => rfl); (case h1 => exact RSt.one _); simp only [Act.put])))
  obtain ⟨g5, hg5⟩ : ∃ g5, g5 = w3.heap.size := ⟨_, rfl⟩
  refine wp_world (fun w4 => w4.row g x.cells 24 ∧ w4.row (g + 1) PS.zero.cs tP ∧ w4.row (g + 1 + 1) RSt.zero.cs tR ∧ w4.row g4 x.ps.cs tP ∧ w4.row g5 ({ RSt.zero with data := x.data } : RSt).cs tR ∧ Below g w w4)
    ⟨(r1.alloc _).setRow_other (by have := r1.lt; omega), (r2.alloc _).setRow_other (by have := r2.lt; omega), (r3.alloc _).setRow_other (by have := r3.lt; omega), (r4.alloc _).setRow_other (by have := r4.lt; omega), by rw [hg5]; exact (World.row.new' (cs := RSt.zero.cs) rfl).setRow, (B1.alloc (by have := r1.lt; omega) _).setRow (by have := r1.lt; omega) _⟩ ?_
  have hg45 : g4 < g5 := by have := r4.lt; omega
  simp only [← hg5]
  clear x0 x1 x2 x3 x4 r1 r2 r3 r4 B1 hg5
  rintro w4 ⟨r1, r2, r3, r4, r5, B1⟩
  go_upto_region 4 with fail
  obtain ⟨g6, hg6⟩ : ∃ g6, g6 = w4.heap.size := ⟨_, rfl⟩
  refine wp_world (fun w5 => StAt w w5 x g x.ps { RSt.zero with data := x.data } [.bool false, .bool false, .bool false, .bool false] g4 g5 g6)
    ⟨r1.alloc _, r2.alloc _, r3.alloc _, r4.alloc _, r5.alloc _, by rw [hg6]; exact World.row.new' rfl, hg4', hg45, by have := r5.lt; omega, B1.alloc (by have := r1.lt; omega) _⟩ ?_
  simp only [← hg6]
  clear r1 r2 r3 r4 r5 B1 hg6
  intro w5 HS
  replace HS := Lib.hid HS
  obtain ⟨x0, x1, x2, x3, x4⟩ := five HS.out.s1
  go_wp2_with fail
  refine Calls.pure_to (bits_any x.D x.hD _) ?_
  intro w6 b6
  replace HS := Lib.hid (HS.out.below b6)
  clear x0 x1 x2 x3 x4 b6
  obtain ⟨c0, c1, c2, c3⟩ := HS.out.s6.four
  have z6 := HS.out.s6.free
  have l6 := HS.out.s6.lt
  go_upto_region 5 with ((with_reducible apply op_stm); (case hw => rfl); (case hx => rfl); (case hy => rfl); (case hr => exact HS.out.s5); (case ht => exact rtB (Nat.testBit 0)); (case hn => rw [blist_len, blist_len]); (case hold => (rw [RSt.len, blist_len]; omega)); (case h1 => exact blist_one _ _); intro w7 r7 k7 B7; rw [RSt.putD] at r7; replace HS := Lib.hid (HS.out.t5 r7 k7 B7); clear c0 c1 c2 c3 z6 l6 r7 k7 B7; (try obtain ⟨c0, c1, c2, c3⟩ := HS.out.s6.four); (have z6 := HS.out.s6.free); simp only [Act.put])
  refine (HS.out.t6 0 _).go ?_
  clear z6 c0 c1 c2 c3 HS
  intro w8 HS
  simp only [List.set_cons_zero] at HS
  replace HS := Lib.hid HS
  obtain ⟨x0, x1, x2, x3, x4⟩ := five HS.out.s1
  go_wp2_with fail
  refine Calls.pure_to (bits_any x.H x.hH _) ?_
  intro w6 b6
  replace HS := Lib.hid (HS.out.below b6)
  clear x0 x1 x2 x3 x4 b6
  obtain ⟨c0, c1, c2, c3⟩ := HS.out.s6.four
  have z6 := HS.out.s6.free
  have l6 := HS.out.s6.lt
  go_upto_region 6 with ((with_reducible apply op_stm); (case hw => rfl); (case hx => rfl); (case hy => rfl); (case hr => exact HS.out.s5); (case ht => exact rtB (Nat.testBit 0)); (case hn => rw [blist_len, blist_len]); (case hold => (rw [RSt.len, blist_len]; omega)); (case h1 => exact blist_one _ _); intro w7 r7 k7 B7; rw [RSt.putH] at r7; replace HS := Lib.hid (HS.out.t5 r7 k7 B7); clear c0 c1 c2 c3 z6 l6 r7 k7 B7; (try obtain ⟨c0, c1, c2, c3⟩ := HS.out.s6.four); (have z6 := HS.out.s6.free); simp only [Act.put])
  refine (HS.out.t6 1 _).go ?_
  clear z6 c0 c1 c2 c3 HS
  intro w8 HS
  simp only [List.set_cons_zero, List.set_cons_succ] at HS
  replace HS := Lib.hid HS
  obtain ⟨x0, x1, x2, x3, x4⟩ := five HS.out.s1
  go_wp2_with fail
  refine Calls.pure_to (bits_any x.K x.hK _) ?_
  intro w6 b6
  replace HS := Lib.hid (HS.out.below b6)
  clear x0 x1 x2 x3 x4 b6
  obtain ⟨c0, c1, c2, c3⟩ := HS.out.s6.four
  have z6 := HS.out.s6.free
  have l6 := HS.out.s6.lt
  go_upto_region 7 with ((with_reducible apply op_stm); (case hw => rfl); (case hx => rfl); (case hy => rfl); (case hr => exact HS.out.s5); (case ht => exact rtB (Nat.testBit 0)); (case hn => rw [blist_len, blist_len]); (case hold => (rw [RSt.len, blist_len]; omega)); (case h1 => exact blist_one _ _); intro w7 r7 k7 B7; rw [RSt.putK] at r7; replace HS := Lib.hid (HS.out.t5 r7 k7 B7); clear c0 c1 c2 c3 z6 l6 r7 k7 B7; (try obtain ⟨c0, c1, c2, c3⟩ := HS.out.s6.four); (have z6 := HS.out.s6.free); simp only [Act.put])
  refine (HS.out.t6 2 _).go ?_
  clear z6 c0 c1 c2 c3 HS
  intro w8 HS
  simp only [List.set_cons_zero, List.set_cons_succ] at HS
  replace HS := Lib.hid HS
  obtain ⟨x0, x1, x2, x3, x4⟩ := five HS.out.s1
  go_wp2_with fail
  refine Calls.pure_to (bits_any x.L x.hL _) ?_
  intro w6 b6
  replace HS := Lib.hid (HS.out.below b6)
  clear x0 x1 x2 x3 x4 b6
  obtain ⟨c0, c1, c2, c3⟩ := HS.out.s6.four
  have z6 := HS.out.s6.free
  have l6 := HS.out.s6.lt
  go_upto_region 8 with ((with_reducible apply op_stm); (case hw => rfl); (case hx => rfl); (case hy => rfl); (case hr => exact HS.out.s5); (case ht => exact rtB (Nat.testBit 0)); (case hn => rw [blist_len, blist_len]); (case hold => (rw [RSt.len, blist_len]; omega)); (case h1 => exact blist_one _ _); intro w7 r7 k7 B7; rw [RSt.putL] at r7; replace HS := Lib.hid (HS.out.t5 r7 k7 B7); clear c0 c1 c2 c3 z6 l6 r7 k7 B7; (try obtain ⟨c0, c1, c2, c3⟩ := HS.out.s6.four); (have z6 := HS.out.s6.free); simp only [Act.put])
  refine (HS.out.t6 3 _).go ?_
  clear z6 c0 c1 c2 c3 HS
  intro w8 HS
  simp only [List.set_cons_zero, List.set_cons_succ] at HS
  replace HS := Lib.hid HS
  obtain ⟨bD, eD⟩ : ∃ b, b = decide (4294967296 ≤ x.D) := ⟨_, rfl⟩
  obtain ⟨bH, eH⟩ : ∃ b, b = decide (4294967296 ≤ x.H) := ⟨_, rfl⟩
  obtain ⟨bK, eK⟩ : ∃ b, b = decide (4294967296 ≤ x.K) := ⟨_, rfl⟩
  obtain ⟨bL, eL⟩ : ∃ b, b = decide (4294967296 ≤ x.L) := ⟨_, rfl⟩
  simp only [← eD, ← eH, ← eK, ← eL] at HS ⊢
  have EO : Hid (x.rs = ⟨x.data, x.D.testBit, x.H.testBit, x.K.testBit, x.L.testBit, bD || bH || bK || bL⟩) := Lib.hid (by rw [eD, eH, eK, eL]; rfl)
  clear eD eH eK eL
  obtain ⟨c0, c1, c2, c3⟩ := HS.out.s6.four
  have o5 := HS.out.s5.cell 129 (RSt.oddAt _)
  have z5 := HS.out.s5.free
  cases bD
  case' true => have EO : x.rs = ⟨x.data, x.D.testBit, x.H.testBit, x.K.testBit, x.L.testBit, true⟩ := EO.out
  case' false => cases bH
  case' false.true => have EO : x.rs = ⟨x.data, x.D.testBit, x.H.testBit, x.K.testBit, x.L.testBit, true⟩ := EO.out
  case' false.false => cases bK
  case' false.false.true => have EO : x.rs = ⟨x.data, x.D.testBit, x.H.testBit, x.K.testBit, x.L.testBit, true⟩ := EO.out
  case' false.false.false => cases bL
  case' false.false.false.true => have EO : x.rs = ⟨x.data, x.D.testBit, x.H.testBit, x.K.testBit, x.L.testBit, true⟩ := EO.out
  case' false.false.false.false => have EO : x.rs = ⟨x.data, x.D.testBit, x.H.testBit, x.K.testBit, x.L.testBit, false⟩ := EO.out
  all_goals
    replace EO := Lib.hid EO
    go_upto_region 9 with fail
    refine (HS.out.odd _).go ?_
    clear HS c0 c1 c2 c3 o5 z5
    intro w9 HS
    replace HS : StAt w w9 x g x.ps ⟨x.data, x.D.testBit, x.H.testBit, x.K.testBit, x.L.testBit, _⟩ _ g4 g5 g6 := HS
    rw [← EO.out] at HS
    clear EO
    replace HS := Lib.hid HS
    have m4 := HS.out.s4.range
    have m5 := HS.out.s5.range
    refine wp_region_mix_exts (fun k => k = g4 ∨ k = g5) [] false (by kernel_rfl) (by kernel_rfl) ?_
    intro _
    repeat ((with_reducible refine wpMix_light ?hh ?_); (case hh => rfl); (with_reducible apply q_lds); (case hw => rfl); (case hx => rfl); (case hc => assumption); (case hb => first | exact .inl rfl | exact .inr rfl); (case ht => first | exact rtP _ | exact rtR _); simp only [Act.put, List.setIfInBounds_toArray, List.set_cons_zero, List.set_cons_succ]; (with_reducible refine wpQuiet_nil ?_))
    (with_reducible refine wpMix_heavy ?hh ?hw (fun K hK => ?_)); (case hh => rfl); (case hw => rfl)
    with_reducible apply w_st
    (case hx => rfl)
    (case hy => rfl)
    (case hr => exact HS.out.s2)
    (case ht => exact rtP PS.zero)
    (case hn => rfl)
    (case hold => rfl)
    (case h1 => exact x.ps.one)
    have n4 := HS.out.n4
    have n5 := HS.out.n5
    refine hK.out _ _ (toExtS (fun k hk => World.setRow_heap_ne _ _ (by rcases hk with rfl | rfl <;> omega))) ?_
    clear hK K
    simp only [Act.put]
    (with_reducible refine wpMix_heavy ?hh ?hw (fun K hK => ?_)); (case hh => rfl); (case hw => rfl)
    with_reducible apply w_st
    (case hx => rfl)
    (case hy => rfl)
    (case hr => exact HS.out.s3.setRow_other (by omega))
    (case ht => exact rtR RSt.zero)
    (case hn => exact RSt.len _)
    (case hold => rfl)
    (case h1 => exact RSt.one _)
    refine hK.out _ _ (toExtS (fun k hk => (World.setRow_heap_ne _ _ (by rcases hk with rfl | rfl <;> omega)).trans (World.setRow_heap_ne _ _ (by rcases hk with rfl | rfl <;> omega)))) ?_
    clear hK K
    simp only [Act.put]
    refine wpMix_nil ?_
    go_wp2_with fail
    exact bodyPost_cc rfl rfl rfl (HS.out.s2.setRow.setRow_other (by omega)) (HS.out.s3.setRow_other (by omega)).setRow (rtP _) (rtR _) rfl ⟨rfl, ((HS.out.b.mono hgl).drew.setRow (by omega) _).setRow (by omega) _⟩
end Go.Proofs.YtdmbenhhjpeepaaDoor
