import Derived.Test.YtdmbenhhjpeepaaDoorProg
import Derived.Test.YtdmbenhhjpeepaaDoorExt
import Derived.Test.YtdmbenhhjpeepaaDoorSet
import Derived.Handy
namespace Go.Proofs.YtdmbenhhjpeepaaDoor
open Go Go.RowKit
set_option maxRecDepth 100000
set_option maxHeartbeats 400000 in
theorem each_raw (F : Nat) (g : Nat → Nat → Nat) (hF : ∀ (x y : Nat) w, x < 18446744073709551616 → y < 18446744073709551616 → Calls Tryd.prog F #[.int .u64 x, .int .u64 y] w fun e w' => e = .returned (.int .u64 (g x y : Nat)) ∧ w = w')
    (hcf : ∀ (vs : Array Value) (w : World), Sem.run Tryd.prog (callFunc F vs) w = .ok (.enter F vs) w)
    (a b c d e f h i : Nat) (w : World) (ha : a < 18446744073709551616) (hb : b < 18446744073709551616) (hc : c < 18446744073709551616) (hd : d < 18446744073709551616)
    (he : e < 18446744073709551616) (hf : f < 18446744073709551616) (hh : h < 18446744073709551616) (hi : i < 18446744073709551616) :
    Calls Tryd.prog 34 #[.agg #[.int .u64 a, .int .u64 b, .int .u64 c, .int .u64 d], .agg #[.int .u64 e, .int .u64 f, .int .u64 h, .int .u64 i], .func (.func F) #[] #[]] w
      fun r w' => r = .returned (.agg #[.int .u64 (g a e : Nat), .int .u64 (g b f : Nat), .int .u64 (g c h : Nat), .int .u64 (g d i : Nat)]) ∧ Below w.heap.size w w' := by
  go_enter Tryd.func34, Tryd.ntmps34
  go_wp2
  refine wp_world (fun wc => Below w.heap.size w wc ∧ w.heap.size + 3 ≤ wc.heap.size ∧ wc.row w.heap.size [.int .u64 (a : Nat), .int .u64 (b : Nat), .int .u64 (c : Nat), .int .u64 (d : Nat)] 28 ∧ wc.row (w.heap.size + 1) [.int .u64 (e : Nat), .int .u64 (f : Nat), .int .u64 (h : Nat), .int .u64 (i : Nat)] 28 ∧ wc.row (w.heap.size + 2) [.int .u64 (0 : Nat), .int .u64 (0 : Nat), .int .u64 (0 : Nat), .int .u64 (0 : Nat)] 28) ⟨(((Below.refl _ _).alloc (Nat.le_refl _) _).alloc (by simp only [World.size_alloc]; omega) _).alloc (by simp only [World.size_alloc]; omega) _, by simp, ((World.row.new w [.int .u64 (a : Nat), .int .u64 (b : Nat), .int .u64 (c : Nat), .int .u64 (d : Nat)] 28).alloc _).alloc _, ?_, ?_⟩ ?_
  · have := ((World.row.new (w.alloc (.cells [.int .u64 (a : Nat), .int .u64 (b : Nat), .int .u64 (c : Nat), .int .u64 (d : Nat)].toArray 28)) [.int .u64 (e : Nat), .int .u64 (f : Nat), .int .u64 (h : Nat), .int .u64 (i : Nat)] 28).alloc (.cells [.int .u64 (0 : Nat), .int .u64 (0 : Nat), .int .u64 (0 : Nat), .int .u64 (0 : Nat)].toArray 28)); simpa using this
  · have := (World.row.new ((w.alloc (.cells [.int .u64 (a : Nat), .int .u64 (b : Nat), .int .u64 (c : Nat), .int .u64 (d : Nat)].toArray 28)).alloc (.cells [.int .u64 (e : Nat), .int .u64 (f : Nat), .int .u64 (h : Nat), .int .u64 (i : Nat)].toArray 28)) [.int .u64 (0 : Nat), .int .u64 (0 : Nat), .int .u64 (0 : Nat), .int .u64 (0 : Nat)] 28); simpa using this
  intro wc ⟨hB, hz, r0, r1, r2⟩
  refine wp_loop_rounds 5 ?_
  obtain ⟨c00, c01, c02, c03, z0⟩ := r0.four
  obtain ⟨c10, c11, c12, c13, z1⟩ := r1.four
  rw [rounds_succ]
  go_wp2
  refine wp_region_ext_head 10 (w.heap.size + 3) hz (by kernel_rfl) (by kernel_rfl) ?_
  intro _
  simp only [List.take_succ_cons, List.take_zero, List.drop_succ_cons, List.drop_zero]
  repeat (go_big_quiet_step (exact Calls.ext_of_same (hF a e _ ha he)))
  refine wpQuiet_nil ?_
  intro x0
  go_wp2
  refine rounds_world (fun wc => Below w.heap.size w wc ∧ w.heap.size + 3 ≤ wc.heap.size ∧ wc.row w.heap.size [.int .u64 (g a e : Nat), .int .u64 (b : Nat), .int .u64 (c : Nat), .int .u64 (d : Nat)] 28 ∧ wc.row (w.heap.size + 1) [.int .u64 (e : Nat), .int .u64 (f : Nat), .int .u64 (h : Nat), .int .u64 (i : Nat)] 28 ∧ wc.row (w.heap.size + 2) [.int .u64 (0 : Nat), .int .u64 (0 : Nat), .int .u64 (0 : Nat), .int .u64 (0 : Nat)] 28) ⟨(hB.ext _ (by omega)).setCell (Nat.le_refl _) _, by simp, (r0.ext _ (by omega)).set 0 _, (r1.ext _ (by omega)).other _ _ (by simp), (r2.ext _ (by omega)).other _ _ (by simp)⟩ ?_
  clear hB hz r0 r1 r2 c00 c01 c02 c03 z0 c10 c11 c12 c13 z1
  rename_i _inst
  clear _inst
  intro wd ⟨hB, hz, r0, r1, r2⟩
  obtain ⟨c00, c01, c02, c03, z0⟩ := r0.four
  obtain ⟨c10, c11, c12, c13, z1⟩ := r1.four
  rw [rounds_succ]
  go_wp2
  refine wp_region_ext_head 10 (w.heap.size + 3) hz (by kernel_rfl) (by kernel_rfl) ?_
  intro _
  simp only [List.take_succ_cons, List.take_zero, List.drop_succ_cons, List.drop_zero]
  repeat (go_big_quiet_step (exact Calls.ext_of_same (hF b f _ hb hf)))
  refine wpQuiet_nil ?_
  intro x1
  go_wp2
  refine rounds_world (fun wc => Below w.heap.size w wc ∧ w.heap.size + 3 ≤ wc.heap.size ∧ wc.row w.heap.size [.int .u64 (g a e : Nat), .int .u64 (g b f : Nat), .int .u64 (c : Nat), .int .u64 (d : Nat)] 28 ∧ wc.row (w.heap.size + 1) [.int .u64 (e : Nat), .int .u64 (f : Nat), .int .u64 (h : Nat), .int .u64 (i : Nat)] 28 ∧ wc.row (w.heap.size + 2) [.int .u64 (0 : Nat), .int .u64 (0 : Nat), .int .u64 (0 : Nat), .int .u64 (0 : Nat)] 28) ⟨(hB.ext _ (by omega)).setCell (Nat.le_refl _) _, by simp, (r0.ext _ (by omega)).set 1 _, (r1.ext _ (by omega)).other _ _ (by simp), (r2.ext _ (by omega)).other _ _ (by simp)⟩ ?_
  clear hB hz r0 r1 r2 c00 c01 c02 c03 z0 c10 c11 c12 c13 z1
  rename_i _inst
  clear _inst
  intro wd ⟨hB, hz, r0, r1, r2⟩
  obtain ⟨c00, c01, c02, c03, z0⟩ := r0.four
  obtain ⟨c10, c11, c12, c13, z1⟩ := r1.four
  rw [rounds_succ]
  go_wp2
  refine wp_region_ext_head 10 (w.heap.size + 3) hz (by kernel_rfl) (by kernel_rfl) ?_
  intro _
  simp only [List.take_succ_cons, List.take_zero, List.drop_succ_cons, List.drop_zero]
  repeat (go_big_quiet_step (exact Calls.ext_of_same (hF c h _ hc hh)))
  refine wpQuiet_nil ?_
  intro x2
  go_wp2
  refine rounds_world (fun wc => Below w.heap.size w wc ∧ w.heap.size + 3 ≤ wc.heap.size ∧ wc.row w.heap.size [.int .u64 (g a e : Nat), .int .u64 (g b f : Nat), .int .u64 (g c h : Nat), .int .u64 (d : Nat)] 28 ∧ wc.row (w.heap.size + 1) [.int .u64 (e : Nat), .int .u64 (f : Nat), .int .u64 (h : Nat), .int .u64 (i : Nat)] 28 ∧ wc.row (w.heap.size + 2) [.int .u64 (0 : Nat), .int .u64 (0 : Nat), .int .u64 (0 : Nat), .int .u64 (0 : Nat)] 28) ⟨(hB.ext _ (by omega)).setCell (Nat.le_refl _) _, by simp, (r0.ext _ (by omega)).set 2 _, (r1.ext _ (by omega)).other _ _ (by simp), (r2.ext _ (by omega)).other _ _ (by simp)⟩ ?_
  clear hB hz r0 r1 r2 c00 c01 c02 c03 z0 c10 c11 c12 c13 z1
  rename_i _inst
  clear _inst
  intro wd ⟨hB, hz, r0, r1, r2⟩
  obtain ⟨c00, c01, c02, c03, z0⟩ := r0.four
  obtain ⟨c10, c11, c12, c13, z1⟩ := r1.four
  rw [rounds_succ]
  go_wp2
  refine wp_region_ext_head 10 (w.heap.size + 3) hz (by kernel_rfl) (by kernel_rfl) ?_
  intro _
  simp only [List.take_succ_cons, List.take_zero, List.drop_succ_cons, List.drop_zero]
  repeat (go_big_quiet_step (exact Calls.ext_of_same (hF d i _ hd hi)))
  refine wpQuiet_nil ?_
  intro x3
  go_wp2
  refine rounds_world (fun wc => Below w.heap.size w wc ∧ w.heap.size + 3 ≤ wc.heap.size ∧ wc.row w.heap.size [.int .u64 (g a e : Nat), .int .u64 (g b f : Nat), .int .u64 (g c h : Nat), .int .u64 (g d i : Nat)] 28 ∧ wc.row (w.heap.size + 1) [.int .u64 (e : Nat), .int .u64 (f : Nat), .int .u64 (h : Nat), .int .u64 (i : Nat)] 28 ∧ wc.row (w.heap.size + 2) [.int .u64 (0 : Nat), .int .u64 (0 : Nat), .int .u64 (0 : Nat), .int .u64 (0 : Nat)] 28) ⟨(hB.ext _ (by omega)).setCell (Nat.le_refl _) _, by simp, (r0.ext _ (by omega)).set 3 _, (r1.ext _ (by omega)).other _ _ (by simp), (r2.ext _ (by omega)).other _ _ (by simp)⟩ ?_
  clear hB hz r0 r1 r2 c00 c01 c02 c03 z0 c10 c11 c12 c13 z1
  rename_i _inst
  clear _inst
  intro wd ⟨hB, hz, r0, r1, r2⟩
  obtain ⟨c00, c01, c02, c03, z0⟩ := r0.four
  obtain ⟨c20, c21, c22, c23, z2⟩ := r2.four
  rw [rounds_succ]
  go_wp2
  have r3 := (((r2.set 0 (.int .u64 (g a e : Nat))).set 1 (.int .u64 (g b f : Nat))).set 2 (.int .u64 (g c h : Nat))).set 3 (.int .u64 (g d i : Nat))
  exact bodyPost_row rfl rfl r3 Tryd.underlying28 rfl (by kernel_rfl) rfl ⟨rfl, (((hB.setCell (by dsimp only; omega) _).setCell (by dsimp only; omega) _).setCell (by dsimp only; omega) _).setCell (by dsimp only; omega) _⟩
/-- The words of two sets, put together by a function. -/
theorem each_any (F : Nat) (g : Nat → Nat → Nat) (hg : ∀ x y, x < 18446744073709551616 → y < 18446744073709551616 → g x y < 18446744073709551616)
    (hF : ∀ (x y : Nat) w, x < 18446744073709551616 → y < 18446744073709551616 → Calls Tryd.prog F #[.int .u64 x, .int .u64 y] w fun e w' => e = .returned (.int .u64 (g x y : Nat)) ∧ w = w')
    (hcf : ∀ (vs : Array Value) (w : World), Sem.run Tryd.prog (callFunc F vs) w = .ok (.enter F vs) w) (s t : Set4) (w : World) :
    Calls Tryd.prog 34 #[s.val, t.val, .func (.func F) #[] #[]] w fun r w' => r = .returned (Set4.zip g hg s t).val ∧ Below w.heap.size w w' :=
  each_raw F g hF hcf _ _ _ _ _ _ _ _ w s.ha s.hb s.hc s.hd t.ha t.hb t.hc t.hd
end Go.Proofs.YtdmbenhhjpeepaaDoor
