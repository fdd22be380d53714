/- Rows of laws that list one variable of strings: from the walk to the row. -/
import Derived.Test.YtdmbenhhjpeepaaDoorRows
import Derived.Test.YtdmbenhhjpeepaaDoorTie
import Derived.Test.YtdmbenhhjpeepaaDoorCards
import Derived.Test.YtdmbenhhjpeepaaDoorOpen
import Derived.Test.YtdmbenhhjpeepaaDoorLaidStr
import Derived.Test.YtdmbenhhjpeepaaDoorPLeast
import Derived.ChangeSame
namespace Go.Proofs.YtdmbenhhjpeepaaDoor
open Go Go.ChangeShapes Go.WideShapes Go.ChangeAt Go.RowKit
theorem own : ownKnob Tryd.prog.godebug = none := by kernel_rfl
theorem laidOut : laidOutB Tryd.prog = true := by kernel_rfl
abbrev laidL : List (String × DataW Unit) := [("trunnion/plan.names", Rows.laid_trunnion_plan_names)]
theorem Nam.of {W : World} (h : laidMet Tryd.prog laidL W) : Nam W :=
  strs_of_head (ss := nmS) (P := Tryd.prog) (name := "trunnion/plan.names") (rest := []) (g := 0) (t := 76) (e := 9) (n := 4) (by kernel_rfl) (by kernel_rfl) Tryd.underlying76 Tryd.underlying9 (by kernel_rfl) (by kernel_rfl) h
/-- A world in which the variable holds what the program's text lays. -/
noncomputable def laidWorld (os : Os) : World :=
  { World.holding Tryd.prog os ⟨#[], #[], []⟩ with heap := (World.holding Tryd.prog os ⟨#[], #[], []⟩).heap.modify 0 fun
      | .cells _ t frozen => .cells (nmS.map strV).toArray t frozen
      | o => o }
theorem laidWorld_met (os : Os) (args : Array Value) : laidMet Tryd.prog laidL ((laidWorld os).forCall (fun _ _ => 0) ⟨#[], args, []⟩).memory :=
  laidMet_of_run' 8 (by kernel_rfl) (by kernel_rfl)
theorem law_row {spec : ChangeSpec} {n : Nat} {fn : Func} (hf : Tryd.prog.funcs[n]? = some fn) (hvars : spec.vars = []) (hres : fn.resultTypes = #[4]) (hin : Tryd.prog.inits.idxOf? n = none)
    (hr : ∀ t ∈ fn.params.toList, Tryd.prog.readableRec t = true ∧ t < Tryd.prog.types.size) (os : Os) (started : os.Started) (H : Type) (enc : TypeId × Value → H) (zeros : Array Value)
    (hv : ((laidWorld os).forCall (fun _ _ => 0) ⟨#[], zeros, []⟩).variablesB Tryd.prog = true)
    (hrr : (((laidWorld os).forCall (fun _ _ => 0) ⟨#[], zeros, []⟩).heap.toList.drop Tryd.prog.globals.size).take ((begin Tryd.prog (fun _ _ => 0) default).world.heap.size - Tryd.prog.globals.size) =
      (begin Tryd.prog (fun _ _ => 0) default).world.heap.toList.drop Tryd.prog.globals.size)
    (hok : Input.okWideB Tryd.prog ((laidWorld os).forCall (fun _ _ => 0) ⟨#[], zeros, []⟩) n ⟨#[], zeros, []⟩ = true)
    (hpre : spec.preB enc Tryd.prog fn [] false ((laidWorld os).forCall (fun _ _ => 0) ⟨#[], zeros, []⟩).memory zeros 8 = true)
    (hsz : spec.sizedB enc Tryd.prog fn false ((laidWorld os).forCall (fun _ _ => 0) ⟨#[], zeros, []⟩).memory zeros 8 = true)
    (walk : ∀ (W : World) (base : Nat) (args : Array Value) (ds : List (DataW H)) (p : List MemPlace), (∀ (j : Nat) t v, fn.params[j]? = some t → args[j]? = some v → Value.okWide Tryd.prog W .any base t v) →
      DataW.TrodAll enc Tryd.prog W 0 (fun _ => true) true fn.params.toList args.toList ds p → (DataW.weightsEach Tryd.prog (fn.params.toList ++ spec.plain.varTypes Tryd.prog) (ds ++ [])).all (· ≤ reachBytes) = true → Nam W →
      spec.fn H (ds ++ []) = { results := [.lit (.bool true)], args := ds } ∧ Calls Tryd.prog n args W fun e W' => e = .returned (.bool true) ∧ Below W.heap.size W W') :
    ReturnsInHanded {} Tryd.checked os n .any (fun w args => (spec.pre enc Tryd.prog fn [] false w args ∧ laidMet Tryd.prog laidL w) ∧ sizedMet enc Tryd.prog fn (OpenSpec.ofChange spec) false w args)
      (spec.post enc Tryd.prog fn false true false false) := by
  refine returnsInHanded_of_change_and (C := Tryd.checked) (X := fun w _ => laidMet Tryd.prog laidL w) (fun _ _ _ hh h => h.of_heap hh) own started hin hf
    (ChangeSpec.witness_at (enc := enc) (C := Tryd.checked) (os := os) (X := fun w _ => laidMet Tryd.prog laidL w) false (laidWorld os) zeros 8 rfl hv hrr hok hpre hsz (laidWorld_met os _)) ?_
  intro W base args ds gs before hval hW _ hsz0 hL _
  have hW' := hW
  obtain ⟨p, q, hA, hV, rfl, hfz, hnd⟩ := hW
  rw [hvars] at hV
  obtain ⟨rfl, rfl⟩ := trodVars_none hV
  obtain ⟨h1, h2⟩ := walk W base args ds p hval hA hsz0 (Nam.of hL)
  exact h2.mono fun e W' ⟨he, bel⟩ => ⟨_, he, law_post laidOut hr hW' hvars hres Tryd.underlying4 h1 bel⟩
theorem wf_u64 {z : Int} (h : (Lit.int .u64 z).wf = true) : ∃ n : Nat, z = (n : Int) ∧ n < 18446744073709551616 := by
  have := bounds_u64 h
  exact ⟨z.toNat, by omega, by omega⟩
/-- A state as plain data that came in. -/
theorem open_raw {H : Type} {enc : TypeId × Value → H} {W : World} {base : Nat} {held : Bool} {v : Value} {d : DataW H} {p : List MemPlace} {r : Reach} (hv : Value.okWide Tryd.prog W r base 24 v)
    (h : DataW.Trod enc Tryd.prog W 0 (fun _ => true) held 24 v d p) : ∃ y : Raw, v = y.val := by
  obtain ⟨cs, rfl, hs⟩ : ∃ cs, v = .agg cs ∧ cs.size = Tryd.prog.cellsOf 24 := by
    simp only [Value.okWide, Tryd.underlying24] at hv
    obtain ⟨cs, h1, h2, _⟩ := hv
    exact ⟨cs, h1, h2⟩
  obtain ⟨fuel, hf⟩ := h
  obtain ⟨xs, n, _, _, hl, hlen, hf⟩ := DataW.trod_struct Tryd.underlying24 hf
  have hct : Tryd.prog.cellsOf 24 = 5 := by kernel_rfl
  have ci : Tryd.prog.cellsOf 3 = 1 := by kernel_rfl
  have cu : Tryd.prog.cellsOf 22 = 1 := by kernel_rfl
  obtain ⟨l⟩ := cs
  simp only [Value.cells] at hl hf
  rw [hct] at hl
  match l, hl, xs, hlen with
  | [v0, v1, v2, v3, v4], _, [y0, y1, y2, y3, y4], _ =>
    have g0 : DataW.trod enc Tryd.prog W 0 (fun _ => true) held n 3 (List.take (Tryd.prog.cellsOf 3) (List.drop 0 [v0, v1, v2, v3, v4])) = some y0 := hf 0 _ rfl
    rw [ci] at g0
    have g1 : DataW.trod enc Tryd.prog W 0 (fun _ => true) held n 22 (List.take (Tryd.prog.cellsOf 22) (List.drop 1 [v0, v1, v2, v3, v4])) = some y1 := hf 1 _ rfl
    rw [cu] at g1
    have g2 : DataW.trod enc Tryd.prog W 0 (fun _ => true) held n 22 (List.take (Tryd.prog.cellsOf 22) (List.drop 2 [v0, v1, v2, v3, v4])) = some y2 := hf 2 _ rfl
    rw [cu] at g2
    have g3 : DataW.trod enc Tryd.prog W 0 (fun _ => true) held n 22 (List.take (Tryd.prog.cellsOf 22) (List.drop 3 [v0, v1, v2, v3, v4])) = some y3 := hf 3 _ rfl
    rw [cu] at g3
    have g4 : DataW.trod enc Tryd.prog W 0 (fun _ => true) held n 22 (List.take (Tryd.prog.cellsOf 22) (List.drop 4 [v0, v1, v2, v3, v4])) = some y4 := hf 4 _ rfl
    rw [cu] at g4
    obtain ⟨z0, h0, _, w0⟩ := DataW.trod_int (x := y0) Tryd.underlying3 (by simpa using g0)
    obtain ⟨z1, h1, _, w1⟩ := DataW.trod_int (x := y1) Tryd.underlying22 (by simpa using g1)
    obtain ⟨z2, h2, _, w2⟩ := DataW.trod_int (x := y2) Tryd.underlying22 (by simpa using g2)
    obtain ⟨z3, h3, _, w3⟩ := DataW.trod_int (x := y3) Tryd.underlying22 (by simpa using g3)
    obtain ⟨z4, h4, _, w4⟩ := DataW.trod_int (x := y4) Tryd.underlying22 (by simpa using g4)
    simp at h0 h1 h2 h3 h4
    subst h0; subst h1; subst h2; subst h3; subst h4
    obtain ⟨n1, rfl, b1⟩ := wf_u64 w1
    obtain ⟨n2, rfl, b2⟩ := wf_u64 w2
    obtain ⟨n3, rfl, b3⟩ := wf_u64 w3
    obtain ⟨n4, rfl, b4⟩ := wf_u64 w4
    exact ⟨⟨z0, n1, n2, n3, n4, b1, b2, b3, b4⟩, rfl⟩
end Go.Proofs.YtdmbenhhjpeepaaDoor
