/- Rows of laws that list one variable of strings: from the walk to the row. -/
import Derived.Test.YtnndoajflimkmaaDoorRows
import Derived.Test.YtnndoajflimkmaaDoorTie
import Derived.Test.YtnndoajflimkmaaDoorCards
import Derived.Test.YtnndoajflimkmaaDoorOpen
import Derived.Test.YtnndoajflimkmaaDoorOpen3
import Derived.Test.YtnndoajflimkmaaDoorLaidStr
import Derived.Test.YtnndoajflimkmaaDoorTName
import Derived.ChangeSame
namespace Go.Proofs.YtnndoajflimkmaaDoor
open Go Go.ChangeShapes Go.WideShapes Go.ChangeAt Go.RowKit
theorem own : ownKnob Tryd.prog.godebug = none := by kernel_rfl
theorem laidOut : laidOutB Tryd.prog = true := by kernel_rfl
abbrev laidL : List (String × DataW Unit) := [("trunnion/tally.names", Rows.laid_trunnion_tally_names)]
theorem Nam.of {W : World} (h : laidMet Tryd.prog laidL W) : Nam W :=
  strs_of_head (ss := nmS) (P := Tryd.prog) (name := "trunnion/tally.names") (rest := []) (g := 0) (t := 71) (e := 9) (n := 9) (by kernel_rfl) (by kernel_rfl) Tryd.underlying71 Tryd.underlying9 (by kernel_rfl) (by kernel_rfl) h
/-- A world in which the variable holds what the program's text lays. -/
noncomputable def laidWorld (os : Os) : World :=
  { World.holding Tryd.prog os ⟨#[], #[], []⟩ with heap := (World.holding Tryd.prog os ⟨#[], #[], []⟩).heap.modify 0 fun
      | .cells _ t frozen => .cells (nmS.map strV).toArray t frozen
      | o => o }
theorem laidWorld_met (os : Os) (args : Array Value) : laidMet Tryd.prog laidL ((laidWorld os).forCall (fun _ _ => 0) ⟨#[], args, []⟩).memory :=
  laidMet_of_run' 8 (by kernel_rfl) (by kernel_rfl)
theorem law_row {spec : ChangeSpec} {n : Nat} {fn : Func} (hf : Tryd.prog.funcs[n]? = some fn) (hvars : spec.vars = []) (hres : fn.resultTypes = #[4]) (hin : Tryd.prog.inits.idxOf? n = none)
    (hr : ∀ t ∈ fn.params.toList, Tryd.prog.readableRec t = true ∧ t < Tryd.prog.types.size) (os : Os) (started : os.Started) (H : Type) (enc : TypeId × Value → H) (zeros : Array Value)
    (hv : ((laidWorld os).forCall (fun _ _ => 0) ⟨#[], zeros, []⟩).variablesB Tryd.prog = true)
    (hrr : (((laidWorld os).forCall (fun _ _ => 0) ⟨#[], zeros, []⟩).heap.toList.drop Tryd.prog.globals.size).take ((begin Tryd.prog (fun _ _ => 0) default).world.heap.size - Tryd.prog.globals.size) =
      (begin Tryd.prog (fun _ _ => 0) default).world.heap.toList.drop Tryd.prog.globals.size)
    (hok : Input.okWideB Tryd.prog ((laidWorld os).forCall (fun _ _ => 0) ⟨#[], zeros, []⟩) n ⟨#[], zeros, []⟩ = true)
    (hpre : spec.preB enc Tryd.prog fn [] false ((laidWorld os).forCall (fun _ _ => 0) ⟨#[], zeros, []⟩).memory zeros 8 = true)
    (hsz : spec.sizedB enc Tryd.prog fn false ((laidWorld os).forCall (fun _ _ => 0) ⟨#[], zeros, []⟩).memory zeros 8 = true)
    (walk : ∀ (W : World) (base : Nat) (args : Array Value) (ds : List (DataW H)) (p : List MemPlace), (∀ (j : Nat) t v, fn.params[j]? = some t → args[j]? = some v → Value.okWide Tryd.prog W .any base t v) →
      DataW.TrodAll enc Tryd.prog W 0 (fun _ => true) true fn.params.toList args.toList ds p → (DataW.weightsEach Tryd.prog (fn.params.toList ++ spec.plain.varTypes Tryd.prog) (ds ++ [])).all (· ≤ reachBytes) = true → Nam W →
      spec.fn H (ds ++ []) = { results := [.lit (.bool true)], args := ds } ∧ Calls Tryd.prog n args W fun e W' => e = .returned (.bool true) ∧ Below W.heap.size W W') :
    ReturnsInHanded {} Tryd.checked os n .any (fun w args => (spec.pre enc Tryd.prog fn [] false w args ∧ laidMet Tryd.prog laidL w) ∧ sizedMet enc Tryd.prog fn (OpenSpec.ofChange spec) false w args)
      (spec.post enc Tryd.prog fn false true false false) := by
  refine returnsInHanded_of_change_and (C := Tryd.checked) (X := fun w _ => laidMet Tryd.prog laidL w) (fun _ _ _ hh h => h.of_heap hh) own started hin hf
    (ChangeSpec.witness_at (enc := enc) (C := Tryd.checked) (os := os) (X := fun w _ => laidMet Tryd.prog laidL w) false (laidWorld os) zeros 8 rfl hv hrr hok hpre hsz (laidWorld_met os _)) ?_
  intro W base args ds gs before hval hW _ hsz0 hL _
  have hW' := hW
  obtain ⟨p, q, hA, hV, rfl, hfz, hnd⟩ := hW
  rw [hvars] at hV
  obtain ⟨rfl, rfl⟩ := trodVars_none hV
  obtain ⟨h1, h2⟩ := walk W base args ds p hval hA hsz0 (Nam.of hL)
  exact h2.mono fun e W' ⟨he, bel⟩ => ⟨_, he, law_post laidOut hr hW' hvars hres Tryd.underlying4 h1 bel⟩
theorem trod_act {H : Type} {enc : TypeId × Value → H} {W : World} {sp : Nat → Bool} {held : Bool} (n : Nat) (cs : List Value) (x : DataW H × List MemPlace) (h : DataW.trod enc Tryd.prog W 0 sp held n 44 cs = some x) : ∃ y, cs = int4 y ∧ In4 y :=
  trod_int4 Tryd.underlying44 (by kernel_rfl) rfl rfl rfl rfl (by kernel_rfl) (by kernel_rfl) (by kernel_rfl) (by kernel_rfl) Tryd.underlying3 Tryd.underlying3 Tryd.underlying3 Tryd.underlying2 h
/-- An act that came in. -/
theorem open_act {H : Type} {enc : TypeId × Value → H} {W : World} {base : Nat} {held : Bool} {v : Value} {d : DataW H} {p : List MemPlace} {r : Reach} (hv : Value.okWide Tryd.prog W r base 44 v)
    (h : DataW.Trod enc Tryd.prog W 0 (fun _ => true) held 44 v d p) : ∃ y, v = .agg (int4 y).toArray ∧ In4 y := by
  obtain ⟨cs, rfl, hs⟩ : ∃ cs, v = .agg cs ∧ cs.size = Tryd.prog.cellsOf 44 := by
    simp only [Value.okWide, Tryd.underlying44] at hv
    obtain ⟨cs, h1, h2, _⟩ := hv
    exact ⟨cs, h1, h2⟩
  obtain ⟨fuel, hf⟩ := h
  obtain ⟨y, h1, h2⟩ := trod_act _ _ _ hf
  obtain ⟨l⟩ := cs
  simp only [Value.cells] at h1
  exact ⟨y, by rw [← h1], h2⟩
/-- A list of acts that came in. -/
theorem open_acts {H : Type} {enc : TypeId × Value → H} {W : World} {held : Bool} {a : Option Addr} {len cap : Nat} {d : DataW H} {p : List MemPlace}
    (h : DataW.Trod enc Tryd.prog W 0 (fun _ => true) held 41 (.slice a len cap) d p) :
    ∃ l : List (Int × Int × Int × Int), l.length = len ∧ len ≤ cap ∧ (∀ x ∈ l, In4 x) ∧ (a = none → len = 0 ∧ cap = 0) ∧
      (l = [] ∨ ∃ b o, a = some ⟨b, o, none⟩ ∧ ∀ i x, l[i]? = some x → ∀ j u, (int4 x)[j]? = some u → W.cell? ⟨b, o + i * 4 + j, none⟩ = some u) := by
  obtain ⟨rs, h1, h2, _, h4, h5, h6⟩ := open_slice_rows (m := 4) (e := 44) (fun cs => ∃ y, cs = int4 y ∧ In4 y) Tryd.underlying41 (by kernel_rfl) (by decide) (fun n cs x hx => trod_act n cs x hx) h
  obtain ⟨l, rfl, hl⟩ := rows_int4 rs h5
  refine ⟨l, by simpa using h1, h2, hl, h4, ?_⟩
  rcases h6 with h6 | ⟨b, o, ha, hc⟩
  · left; simpa using h6
  · right
    exact ⟨b, o, ha, fun i x hx j u hu => hc i (int4 x) (by rw [List.getElem?_map, hx]; rfl) j u hu⟩
/-- Two integers that came in. -/
theorem open_two {H : Type} {enc : TypeId × Value → H} {W : World} {base : Nat} {sp : Nat → Bool} {held : Bool} {v : Value} {d : DataW H} {p : List MemPlace} {r : Reach} {t e : TypeId} (ht : Tryd.prog.underlying t = some (.array 2 e)) (he : Tryd.prog.underlying e = some (.int .i64)) (hce : Tryd.prog.cellsOf e = 1) (hct : Tryd.prog.cellsOf t = 2)
    (hv : Value.okWide Tryd.prog W r base t v) (h : DataW.Trod enc Tryd.prog W 0 sp held t v d p) : ∃ a b : Int, v = .agg #[.int .i64 a, .int .i64 b] ∧ In64 a ∧ In64 b := by
  obtain ⟨zs, hl, rfl, hw⟩ := open_array_ints ht he hce hct hv h
  match zs, hl, hw with
  | [a, b], _, hw => exact ⟨a, b, rfl, in64_of (hw a (by simp)), in64_of (hw b (by simp))⟩
end Go.Proofs.YtnndoajflimkmaaDoor
