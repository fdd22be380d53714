/-
  No cell of these rows narrows 'for every input' (looked for: loops, veiled, ifaces, maps, wideKeys, modest, calm, conditions, laid).
  DERIVED. THE GIVEN ROWS OF THIS SEAT. 4 by the template 'for every input the law returns true; each argument reads behind the call as it read before'; 0 by the template 'total and deterministic' (their statements: YtfbcgnehpkffeaaTotals.lean).
  GIVEN WITH THE SEED: the statements are not yours to turn. If you find one false, say at which input.
  Laid BY PROGRAM, IN A SANDBOX (cutbox-rows.mjs): the forced cells as the released guide's own fill.sh prints them over the translation c8b6978257acc037… (all of the seat's roots in one cut). By AI agents, Wed Nov 11 2026. No macro, syntax, notation, axiom, sorry.
-/
import Derived.Test.YtfbcgnehpkffeaaChecked
import GoSem.Claim
import GoSem.ClaimJoined
import GoSem.ClaimMapViews
import Derived.JoinedTies
import Derived.KernelRfl
namespace Go.Proofs.Ytfbcgnehpkffeaa
/- THE CELL 'sum', in the pinned program and in every row, IS THE sha256 OF THE DUMP (.gsa) THAT YtfbcgnehpkffeaaProg.lean LOADS. Nothing in Lean hashes anything: it is a label: what it is worth is what the hold of that sum in a sandbox is worth. -/
noncomputable def Try.pinned : Pinned := { name := "ytfbcgnehpkffeaa", sum := "c8b6978257acc037bbef3c320e34131c1bc63978b08fc7803b6cf83c507a7748", checked := Try.checked }
namespace Rows
def none {H : Type} : Left H := { results := [], args := [] }

/-- 'trunnionlaw23.TurnPlays': WHATEVER THE INPUT: true; the input reads as it did. -/
def turnPlaysSpec : ChangeSpec := { name := "turnPlays", fn := fun _ => fun
  | [d1, d2, d3] => { results := [.lit (.bool true)], args := [d1, d2, d3] }
  | _ => none }
def turnPlaysRow : OpenClaim := { program := "ytfbcgnehpkffeaa", sum := "c8b6978257acc037bbef3c320e34131c1bc63978b08fc7803b6cf83c507a7748", func := "trunnion/trunnionlaw23.TurnPlays", spec := "turnPlays", apart := false }
def TurnPlaysSaid : Prop := turnPlaysRow.holds Try.pinned (OpenSpec.ofChange turnPlaysSpec)

/-- ITS FALSE NEIGHBOUR: 'it returns false'. Refute it at one input. -/
def turnPlaysWrong : ChangeSpec := { name := "turnPlays", fn := fun _ => fun
  | [d1, d2, d3] => { results := [.lit (.bool false)], args := [d1, d2, d3] }
  | _ => none }
def TurnPlaysWrongFalsely : Prop := turnPlaysRow.holds Try.pinned (OpenSpec.ofChange turnPlaysWrong)

/-- 'trunnionlaw23.TurnOnce': WHATEVER THE INPUT: true; the input reads as it did. -/
def turnOnceSpec : ChangeSpec := { name := "turnOnce", fn := fun _ => fun
  | [d1, d2] => { results := [.lit (.bool true)], args := [d1, d2] }
  | _ => none }
def turnOnceRow : OpenClaim := { program := "ytfbcgnehpkffeaa", sum := "c8b6978257acc037bbef3c320e34131c1bc63978b08fc7803b6cf83c507a7748", func := "trunnion/trunnionlaw23.TurnOnce", spec := "turnOnce", apart := false }
def TurnOnceSaid : Prop := turnOnceRow.holds Try.pinned (OpenSpec.ofChange turnOnceSpec)

/-- ITS FALSE NEIGHBOUR: 'it returns false'. Refute it at one input. -/
def turnOnceWrong : ChangeSpec := { name := "turnOnce", fn := fun _ => fun
  | [d1, d2] => { results := [.lit (.bool false)], args := [d1, d2] }
  | _ => none }
def TurnOnceWrongFalsely : Prop := turnOnceRow.holds Try.pinned (OpenSpec.ofChange turnOnceWrong)

/-- 'trunnionlaw23.TurnScan': WHATEVER THE INPUT: true; the input reads as it did. -/
def turnScanSpec : ChangeSpec := { name := "turnScan", fn := fun _ => fun
  | [d1, d2, d3] => { results := [.lit (.bool true)], args := [d1, d2, d3] }
  | _ => none }
def turnScanRow : OpenClaim := { program := "ytfbcgnehpkffeaa", sum := "c8b6978257acc037bbef3c320e34131c1bc63978b08fc7803b6cf83c507a7748", func := "trunnion/trunnionlaw23.TurnScan", spec := "turnScan", apart := false }
def TurnScanSaid : Prop := turnScanRow.holds Try.pinned (OpenSpec.ofChange turnScanSpec)

/-- ITS FALSE NEIGHBOUR: 'it returns false'. Refute it at one input. -/
def turnScanWrong : ChangeSpec := { name := "turnScan", fn := fun _ => fun
  | [d1, d2, d3] => { results := [.lit (.bool false)], args := [d1, d2, d3] }
  | _ => none }
def TurnScanWrongFalsely : Prop := turnScanRow.holds Try.pinned (OpenSpec.ofChange turnScanWrong)

/-- 'trunnionlaw23.TurnUsed': WHATEVER THE INPUT: true; the input reads as it did. -/
def turnUsedSpec : ChangeSpec := { name := "turnUsed", fn := fun _ => fun
  | [d1, d2, d3] => { results := [.lit (.bool true)], args := [d1, d2, d3] }
  | _ => none }
def turnUsedRow : OpenClaim := { program := "ytfbcgnehpkffeaa", sum := "c8b6978257acc037bbef3c320e34131c1bc63978b08fc7803b6cf83c507a7748", func := "trunnion/trunnionlaw23.TurnUsed", spec := "turnUsed", apart := false }
def TurnUsedSaid : Prop := turnUsedRow.holds Try.pinned (OpenSpec.ofChange turnUsedSpec)

/-- ITS FALSE NEIGHBOUR: 'it returns false'. Refute it at one input. -/
def turnUsedWrong : ChangeSpec := { name := "turnUsed", fn := fun _ => fun
  | [d1, d2, d3] => { results := [.lit (.bool false)], args := [d1, d2, d3] }
  | _ => none }
def TurnUsedWrongFalsely : Prop := turnUsedRow.holds Try.pinned (OpenSpec.ofChange turnUsedWrong)

/- THE SECOND FORM. 'bulk': how many values and letters a reading holds, each counted each time it is reached (what is shared counts as often as it is met; a slice's spare places count too). A statement '..UptoSaid' is the law's where the arguments, and the package variables that the reading takes, are together of bulk at most 1048576: NARROWER than '..Said'. Prove '..Said' where nothing that the law and all that it calls make is longer than what came in: it says more and counts as full. Else prove '..UptoSaid'. A law counts once. -/
mutual
def uptoBulk {H : Type} : DataW H → Nat
  | .lit (.string bytes) => bytes.length + 1
  | .lit _ => 1
  | .nil => 1
  | .ptr d => uptoBulk d + 1
  | .slice elems spare => uptoBulkAll elems + uptoBulkAll spare + 1
  | .agg parts => uptoBulkAll parts + 1
  | .iface _ d => uptoBulk d + 1
  | .map entries => uptoBulkEntries entries + 1
  | .held _ => 1
def uptoBulkAll {H : Type} : List (DataW H) → Nat
  | [] => 0
  | d :: r => uptoBulk d + uptoBulkAll r
def uptoBulkEntries {H : Type} : List (Lit × DataW H) → Nat
  | [] => 0
  | x :: r => uptoBulkEntry x + uptoBulkEntries r
def uptoBulkEntry {H : Type} : Lit × DataW H → Nat
  | (.string bytes, d) => bytes.length + uptoBulk d + 1
  | (_, d) => uptoBulk d + 1
 end
def uptoSmall : (H : Type) → List (DataW H) → Bool := fun _ ds => decide (uptoBulkAll ds ≤ 1048576)
def OpenSpec.upto (s : _root_.Go.ChangeSpec) : _root_.Go.OpenSpec := { _root_.Go.OpenSpec.ofChange s with cond := some uptoSmall }

/-- 'trunnionlaw23.TurnPlays', WHERE WHAT IT READS IS OF BULK AT MOST 1048576: true; the input reads as it did. -/
def turnPlaysUptoRow : OpenClaim := { program := "ytfbcgnehpkffeaa", sum := "c8b6978257acc037bbef3c320e34131c1bc63978b08fc7803b6cf83c507a7748", func := "trunnion/trunnionlaw23.TurnPlays", spec := "turnPlays", apart := false, narrowed := true }
def TurnPlaysUptoSaid : Prop := turnPlaysUptoRow.holds Try.pinned (OpenSpec.upto turnPlaysSpec)

/-- 'trunnionlaw23.TurnOnce', WHERE WHAT IT READS IS OF BULK AT MOST 1048576: true; the input reads as it did. -/
def turnOnceUptoRow : OpenClaim := { program := "ytfbcgnehpkffeaa", sum := "c8b6978257acc037bbef3c320e34131c1bc63978b08fc7803b6cf83c507a7748", func := "trunnion/trunnionlaw23.TurnOnce", spec := "turnOnce", apart := false, narrowed := true }
def TurnOnceUptoSaid : Prop := turnOnceUptoRow.holds Try.pinned (OpenSpec.upto turnOnceSpec)

/-- 'trunnionlaw23.TurnScan', WHERE WHAT IT READS IS OF BULK AT MOST 1048576: true; the input reads as it did. -/
def turnScanUptoRow : OpenClaim := { program := "ytfbcgnehpkffeaa", sum := "c8b6978257acc037bbef3c320e34131c1bc63978b08fc7803b6cf83c507a7748", func := "trunnion/trunnionlaw23.TurnScan", spec := "turnScan", apart := false, narrowed := true }
def TurnScanUptoSaid : Prop := turnScanUptoRow.holds Try.pinned (OpenSpec.upto turnScanSpec)

/-- 'trunnionlaw23.TurnUsed', WHERE WHAT IT READS IS OF BULK AT MOST 1048576: true; the input reads as it did. -/
def turnUsedUptoRow : OpenClaim := { program := "ytfbcgnehpkffeaa", sum := "c8b6978257acc037bbef3c320e34131c1bc63978b08fc7803b6cf83c507a7748", func := "trunnion/trunnionlaw23.TurnUsed", spec := "turnUsed", apart := false, narrowed := true }
def TurnUsedUptoSaid : Prop := turnUsedUptoRow.holds Try.pinned (OpenSpec.upto turnUsedSpec)

end Rows
end Go.Proofs.Ytfbcgnehpkffeaa
