/- Rows of laws that list no variable: from the walk to the row. -/
import Derived.Test.YtfbcgnehpkffeaaRows
import Derived.Test.YtfbcgnehpkffeaaOpen
import Derived.Test.YtfbcgnehpkffeaaOpen3
import Derived.SizedLaws
import Derived.JoinedOf
import Derived.ChangeSame
namespace Go.Proofs.Ytfbcgnehpkffeaa
open Go Go.ChangeShapes Go.WideShapes Go.ChangeAt Go.RowKit
theorem own : ownKnob Try.prog.godebug = none := by kernel_rfl
theorem laidOut : laidOutB Try.prog = true := by kernel_rfl
theorem law_row {spec : ChangeSpec} {n : Nat} {fn : Func} (hf : Try.prog.funcs[n]? = some fn) (hvars : spec.vars = []) (hres : fn.resultTypes = #[4]) (hin : Try.prog.inits.idxOf? n = none)
    (hr : ∀ t ∈ fn.params.toList, Try.prog.readableRec t = true ∧ t < Try.prog.types.size) (os : Os) (started : os.Started) (H : Type) (enc : TypeId × Value → H) (zeros : Array Value)
    (hv : (World.plainHolding Try.prog os ⟨#[], zeros, []⟩).variablesB Try.prog = true)
    (hrr : ((World.plainHolding Try.prog os ⟨#[], zeros, []⟩).heap.toList.drop Try.prog.globals.size).take ((begin Try.prog (fun _ _ => 0) default).world.heap.size - Try.prog.globals.size) =
      (begin Try.prog (fun _ _ => 0) default).world.heap.toList.drop Try.prog.globals.size)
    (hok : Input.okWideB Try.prog (World.plainHolding Try.prog os ⟨#[], zeros, []⟩) n ⟨#[], zeros, []⟩ = true)
    (hpre : spec.preB enc Try.prog fn [] false (World.plainHolding Try.prog os ⟨#[], zeros, []⟩).memory zeros 8 = true)
    (hsz : spec.sizedB enc Try.prog fn false (World.plainHolding Try.prog os ⟨#[], zeros, []⟩).memory zeros 8 = true)
    (walk : ∀ (W : World) (base : Nat) (args : Array Value) (ds : List (DataW H)) (p : List MemPlace), (∀ (j : Nat) t v, fn.params[j]? = some t → args[j]? = some v → Value.okWide Try.prog W .any base t v) →
      DataW.TrodAll enc Try.prog W 0 (fun _ => true) true fn.params.toList args.toList ds p → (DataW.weightsEach Try.prog (fn.params.toList ++ spec.plain.varTypes Try.prog) (ds ++ [])).all (· ≤ reachBytes) = true →
      spec.fn H (ds ++ []) = { results := [.lit (.bool true)], args := ds } ∧ Calls Try.prog n args W fun e W' => e = .returned (.bool true) ∧ Below W.heap.size W W') :
    ReturnsInHanded {} Try.checked os n .any (spec.pre6 enc Try.prog fn [] false) (spec.post enc Try.prog fn false true false false) := by
  refine returnsInHanded_of_change_sized (C := Try.checked) own started hin hf (ChangeSpec.witness6 (enc := enc) (C := Try.checked) (os := os) false ⟨#[], zeros, []⟩ 8 hv hrr hok hpre hsz) ?_
  intro W base args ds gs before hval hW _ hsz0 _
  have hW' := hW
  obtain ⟨p, q, hA, hV, rfl, hfz, hnd⟩ := hW
  rw [hvars] at hV
  obtain ⟨rfl, rfl⟩ := trodVars_none hV
  obtain ⟨h1, h2⟩ := walk W base args ds p hval hA hsz0
  exact h2.mono fun e W' ⟨he, bel⟩ => ⟨_, he, law_post laidOut hr hW' hvars hres Try.underlying4 h1 bel⟩
/-- Two integers that came in. -/
theorem open_two {H : Type} {enc : TypeId × Value → H} {W : World} {base : Nat} {sp : Nat → Bool} {held : Bool} {v : Value} {d : DataW H} {p : List MemPlace} {r : Reach} {t e : TypeId} (ht : Try.prog.underlying t = some (.array 2 e)) (he : Try.prog.underlying e = some (.int .i64)) (hce : Try.prog.cellsOf e = 1) (hct : Try.prog.cellsOf t = 2)
    (hv : Value.okWide Try.prog W r base t v) (h : DataW.Trod enc Try.prog W 0 sp held t v d p) : ∃ a b : Int, v = .agg #[.int .i64 a, .int .i64 b] ∧ In64 a ∧ In64 b := by
  obtain ⟨zs, hl, rfl, hw⟩ := open_array_ints ht he hce hct hv h
  match zs, hl, hw with
  | [a, b], _, hw => exact ⟨a, b, rfl, in64_of (hw a (by simp)), in64_of (hw b (by simp))⟩
end Go.Proofs.Ytfbcgnehpkffeaa
