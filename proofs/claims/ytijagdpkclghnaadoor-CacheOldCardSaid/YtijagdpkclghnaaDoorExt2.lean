/- More general laws of my own, no program in them. -/
import Derived.Test.YtijagdpkclghnaaDoorExt
namespace Go
open Go.RowKit
/-- A contract 'returned v, all old blocks as they were': the world behind it is a name. -/
theorem Calls.pure_to {P : Program} {f : FuncId} {args : Array Value} {w : World} {v : Value} {R : Ending → World → Prop}
    (h : Calls P f args w fun e w' => e = .returned v ∧ Below w.heap.size w w') (k : ∀ w', Below w.heap.size w w' → R (.returned v) w') : Calls P f args w R :=
  h.mono fun _ w' ⟨he, hm⟩ => he ▸ k w' hm
theorem RowKit.Below.grownBy {w w' : World} (h : Below w.heap.size w w') (r : Option Nat) : w.grownBy w' r := ⟨h.os, h.tape, h.output, h.size, fun k hk _ => h.block k hk⟩
theorem World.ownsRow.below {w w' : World} {base : Nat} {e : TypeId} {size : Nat} {v : Value} {n : Nat} {xs : List Value} (h : w.ownsRow base e size v n xs) (hb : Below w.heap.size w w') : w'.ownsRow base e size v n xs := by
  cases hv : v.ownBlock with
  | none => exact h.kept (hb.grownBy none) (.inl hv)
  | some k => exact h.kept (hb.grownBy none) (.inr (by rw [hv]; simp))
theorem World.row.grown {w w' : World} {b : Nat} {cs : List Value} {t : TypeId} {r : Option Nat} (h : w.row b cs t) (hg : w.grownBy w' r) (hn : some b ≠ r) : w'.row b cs t := by
  have lt := h.lt; unfold World.row at *; rw [hg.block b lt hn]; exact h
end Go
