import Derived.Test.YtijagdpkclghnaaDoorMCnt
import Derived.Test.YtijagdpkclghnaaDoorSetB
namespace Go.Proofs.YtijagdpkclghnaaDoor
open Go Go.RowKit
set_option maxRecDepth 100000
theorem Tab.below {w w' : World} {B : Nat} (h : Tab w) (hb : Below B w w') (hB : 0 < B) : Tab w' := fun j hj => by rw [hb.cell (p := ⟨0, j, none⟩) hB]; exact h j hj
theorem Tab.ext {w : World} {B : Nat} (h : Tab w) (x : Ext B w) (hB : 0 < B) : Tab (w.ext B x) := h.below x.below hB
theorem Tab.lt {w : World} (h : Tab w) : 0 < w.heap.size := block_lt_of_cell (h 0 (by omega))
theorem Tab.alloc {w : World} (h : Tab w) (o : Obj) : Tab (w.alloc o) := fun j hj => by rw [World.cell?_alloc_lt (w := w) (a := ⟨0, j, none⟩) (o := o) h.lt]; exact h j hj
/-- What Next answers. -/
abbrev nextV (o : Option Nat) : Value := .tuple #[.int .i64 (o.getD 0 : Nat), .bool o.isSome]
end Go.Proofs.YtijagdpkclghnaaDoor
