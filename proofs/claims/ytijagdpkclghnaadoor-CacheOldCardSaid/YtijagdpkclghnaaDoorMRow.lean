import Derived.Test.YtijagdpkclghnaaDoorRows
import Derived.Test.YtijagdpkclghnaaDoorTie
import Derived.Test.YtijagdpkclghnaaDoorCards
import Derived.Test.YtijagdpkclghnaaDoorOpen
import Derived.Test.YtijagdpkclghnaaDoorMNext
import Derived.ShutString
import Derived.ChangeOld
import Derived.SizedLaws
import Derived.ChangeVars
import Derived.ChangeSame
namespace Go.Proofs.YtijagdpkclghnaaDoor
open Go Go.ChangeShapes Go.WideShapes Go.ChangeAt Go.RowKit
set_option maxRecDepth 100000
theorem own : ownKnob Tryd.prog.godebug = none := by kernel_rfl
theorem laidOut : laidOutB Tryd.prog = true := by kernel_rfl
theorem tabName : Tryd.prog.globalNamed "math/bits.deBruijn64tab" = some 0 := by kernel_rfl
theorem tabType : (Tryd.prog.globals[0]?).map (·.type) = some 121 := by kernel_rfl
/-- The table's numbers. -/
def tab64 : List Int := Lib.deBruijn64tab.map fun n : Nat => (n : Int)
theorem laid_tab {H : Type} : (Rows.laid_math_bits_deBruijn64tab : DataW H) = Lib.tabData .u8 tab64 := rfl
theorem tabIs_of {W : World} (h : laidMet Tryd.prog [("math/bits.deBruijn64tab", Rows.laid_math_bits_deBruijn64tab)] W) : Lib.TabIs Tryd.prog W "math/bits.deBruijn64tab" .u8 tab64 :=
  Lib.tabIs_of_head tabName tabType Tryd.underlying121 Tryd.underlying5 (by kernel_rfl) (by kernel_rfl) h
theorem Tab.of {W : World} (h : Lib.TabIs Tryd.prog W "math/bits.deBruijn64tab" .u8 tab64) : Tab W := fun j hj => by
  have := h.cell tabName j (by unfold tab64; rw [List.length_map]; exact hj)
  rw [this]
  unfold tab64
  have e : j < Lib.deBruijn64tab.length := hj
  simp [List.getD, e]
/-- A set that came in. -/
theorem open_set {H : Type} {enc : TypeId × Value → H} {W : World} {base : Nat} {sp : Nat → Bool} {held : Bool} {v : Value} {d : DataW H} {p : List MemPlace} {r : Reach} (hv : Value.okWide Tryd.prog W r base 62 v)
    (h : DataW.Trod enc Tryd.prog W 0 sp held 62 v d p) : ∃ s : Set4, v = s.val := by
  obtain ⟨zs, hl, rfl, hw⟩ := open_array_ints Tryd.underlying62 Tryd.underlying61 (by kernel_rfl) (by kernel_rfl) hv h
  match zs, hl, hw with
  | [a, b, c, d], _, hw =>
    have ha := bounds_u64 (hw a (by simp)); have hb := bounds_u64 (hw b (by simp)); have hc := bounds_u64 (hw c (by simp)); have hd := bounds_u64 (hw d (by simp))
    refine ⟨⟨a.toNat, b.toNat, c.toNat, d.toNat, by omega, by omega, by omega, by omega⟩, ?_⟩
    show Value.agg #[.int .u64 a, .int .u64 b, .int .u64 c, .int .u64 d] = .agg #[.int .u64 (a.toNat : Int), .int .u64 (b.toNat : Int), .int .u64 (c.toNat : Int), .int .u64 (d.toNat : Int)]
    rw [Int.toNat_of_nonneg ha.1, Int.toNat_of_nonneg hb.1, Int.toNat_of_nonneg hc.1, Int.toNat_of_nonneg hd.1]
/-- A world in which the variable holds what the program's text lays. -/
noncomputable def laidWorld (os : Os) : World :=
  { World.holding Tryd.prog os ⟨#[], #[], []⟩ with heap := (World.holding Tryd.prog os ⟨#[], #[], []⟩).heap.modify 0 fun
      | .cells _ t frozen => .cells (tab64.map (Value.int .u8)).toArray t frozen
      | o => o }
theorem laidWorld_met (os : Os) (args : Array Value) : laidMet Tryd.prog [("math/bits.deBruijn64tab", Rows.laid_math_bits_deBruijn64tab)] ((laidWorld os).forCall (fun _ _ => 0) ⟨#[], args, []⟩).memory :=
  laidMet_of_run' 8 (by kernel_rfl) (by kernel_rfl)
/-- Rows of laws that list the table: from the walk to the row. -/
theorem law_row {spec : ChangeSpec} {n : Nat} {fn : Func} (hf : Tryd.prog.funcs[n]? = some fn) (hvars : spec.vars = []) (hres : fn.resultTypes = #[4]) (hin : Tryd.prog.inits.idxOf? n = none)
    (hr : ∀ t ∈ fn.params.toList, Tryd.prog.readableRec t = true ∧ t < Tryd.prog.types.size) (os : Os) (started : os.Started) (H : Type) (enc : TypeId × Value → H) (zeros : Array Value)
    (hv : ((laidWorld os).forCall (fun _ _ => 0) ⟨#[], zeros, []⟩).variablesB Tryd.prog = true)
    (hrr : (((laidWorld os).forCall (fun _ _ => 0) ⟨#[], zeros, []⟩).heap.toList.drop Tryd.prog.globals.size).take ((begin Tryd.prog (fun _ _ => 0) default).world.heap.size - Tryd.prog.globals.size) =
      (begin Tryd.prog (fun _ _ => 0) default).world.heap.toList.drop Tryd.prog.globals.size)
    (hok : Input.okWideB Tryd.prog ((laidWorld os).forCall (fun _ _ => 0) ⟨#[], zeros, []⟩) n ⟨#[], zeros, []⟩ = true)
    (hpre : spec.preB enc Tryd.prog fn [] false ((laidWorld os).forCall (fun _ _ => 0) ⟨#[], zeros, []⟩).memory zeros 8 = true)
    (hsz : spec.sizedB enc Tryd.prog fn false ((laidWorld os).forCall (fun _ _ => 0) ⟨#[], zeros, []⟩).memory zeros 8 = true)
    (walk : ∀ (W : World) (base : Nat) (args : Array Value) (ds : List (DataW H)) (p : List MemPlace), (∀ (j : Nat) t v, fn.params[j]? = some t → args[j]? = some v → Value.okWide Tryd.prog W .any base t v) →
      DataW.TrodAll enc Tryd.prog W 0 (fun _ => true) true fn.params.toList args.toList ds p → (DataW.weightsEach Tryd.prog (fn.params.toList ++ spec.plain.varTypes Tryd.prog) (ds ++ [])).all (· ≤ reachBytes) = true → Tab W →
      spec.fn H (ds ++ []) = { results := [.lit (.bool true)], args := ds } ∧ Calls Tryd.prog n args W fun e W' => e = .returned (.bool true) ∧ Below W.heap.size W W') :
    ReturnsInHanded {} Tryd.checked os n .any (fun w args => (spec.pre enc Tryd.prog fn [] false w args ∧ laidMet Tryd.prog [("math/bits.deBruijn64tab", Rows.laid_math_bits_deBruijn64tab)] w) ∧ sizedMet enc Tryd.prog fn (OpenSpec.ofChange spec) false w args)
      (spec.post enc Tryd.prog fn false true false false) := by
  refine returnsInHanded_of_change_and (C := Tryd.checked) (X := fun w _ => laidMet Tryd.prog [("math/bits.deBruijn64tab", Rows.laid_math_bits_deBruijn64tab)] w) (fun _ _ _ hh h => h.of_heap hh) own started hin hf
    (ChangeSpec.witness_at (enc := enc) (C := Tryd.checked) (os := os) (X := fun w _ => laidMet Tryd.prog [("math/bits.deBruijn64tab", Rows.laid_math_bits_deBruijn64tab)] w) false (laidWorld os) zeros 8 rfl hv hrr hok hpre hsz (laidWorld_met os _)) ?_
  intro W base args ds gs before hval hW _ hsz0 hL _
  have hW' := hW
  obtain ⟨p, q, hA, hV, rfl, hfz, hnd⟩ := hW
  rw [hvars] at hV
  obtain ⟨rfl, rfl⟩ := trodVars_none hV
  obtain ⟨h1, h2⟩ := walk W base args ds p hval hA hsz0 (Tab.of (tabIs_of hL))
  exact h2.mono fun e W' ⟨he, bel⟩ => ⟨_, he, law_post laidOut hr hW' hvars hres Tryd.underlying4 h1 bel⟩
end Go.Proofs.YtijagdpkclghnaaDoor
