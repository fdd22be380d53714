/-
  NARROWER THAN 'FOR EVERY INPUT', by the rows' own cells (each row's printed sentence says how): TallyParts: laid · TallySums: laid · TallyPlays: laid · TallyNil: laid.
  DERIVED. THE GIVEN ROWS OF THIS SEAT. 4 by the template 'for every input the law returns true; each argument reads behind the call as it read before'; 0 by the template 'total and deterministic' (their statements: YtnndoajflimkmaaDoorTotals.lean).
  GIVEN WITH THE SEED: the statements are not yours to turn. If you find one false, say at which input.
  Laid BY PROGRAM, IN A SANDBOX (cutbox-rows.mjs): the forced cells as the released guide's own fill.sh prints them over the translation 637ab81007413c7f… (all of the seat's roots in one cut). By AI agents, Wed Nov 11 2026. No macro, syntax, notation, axiom, sorry.
-/
import Derived.Test.YtnndoajflimkmaaDoorChecked
import GoSem.Claim
import GoSem.ClaimJoined
import GoSem.ClaimMapViews
import Derived.JoinedTies
import Derived.KernelRfl
namespace Go.Proofs.YtnndoajflimkmaaDoor
/- THE CELL 'sum', in the pinned program and in every row, IS THE sha256 OF THE DUMP (.gsa) THAT YtnndoajflimkmaaDoorProg.lean LOADS. Nothing in Lean hashes anything: it is a label: what it is worth is what the hold of that sum in a sandbox is worth. -/
noncomputable def Tryd.pinned : Pinned := { name := "ytnndoajflimkmaadoor", sum := "637ab81007413c7ffff753471139f7e056fb23a02ec9aa07975f585058f5564b", checked := Tryd.checked }
namespace Rows
def none {H : Type} : Left H := { results := [], args := [] }

/- WHAT THE LISTED PACKAGE-LEVEL VARIABLES READ AS WHEN THE CALL BEGINS. Each datum BY PROGRAM (the guide's laid-datum.mjs) off the statement by which the dump's own 'gosem.cut.vars' lays the variable. In a bare row this is a premise. The card (YtnndoajflimkmaaDoorCards.lean) ties it to the program's text. -/
def laid_trunnion_tally_names {H : Type} : DataW H := .agg [.lit (.string [114, 101, 97, 100, 115]), .lit (.string [119, 114, 105, 116, 101, 115]), .lit (.string [104, 105, 116, 115]), .lit (.string [109, 105, 115, 115, 101, 115]), .lit (.string [98, 97, 116, 99, 104, 101, 115]), .lit (.string [115, 109, 97, 108, 108]), .lit (.string [103, 114, 101, 97, 116]), .lit (.string [102, 105, 120, 101, 100]), .lit (.string [97, 104, 101, 97, 100])]

/-- 'trunnionlaw18.TallyParts': WHATEVER THE INPUT: true; the input reads as it did. -/
def tallyPartsSpec : ChangeSpec := { name := "tallyParts", fn := fun _ => fun
  | [d1, d2, d3] => { results := [.lit (.bool true)], args := [d1, d2, d3] }
  | _ => none }
def tallyPartsRow : OpenClaim := { program := "ytnndoajflimkmaadoor", sum := "637ab81007413c7ffff753471139f7e056fb23a02ec9aa07975f585058f5564b", func := "trunnion/trunnionlaw18.TallyParts", spec := "tallyParts", inPlace := ["sync/atomic.LoadInt64", "sync/atomic.CompareAndSwapInt64"], named := ["math/bits.divideError", "math/bits.overflowError", "trunnion/tally.names"], apart := false, laid := [("trunnion/tally.names", laid_trunnion_tally_names)] }
def TallyPartsSaid : Prop := tallyPartsRow.holds Tryd.pinned (OpenSpec.ofChange tallyPartsSpec)

/-- ITS FALSE NEIGHBOUR: 'it returns false'. Refute it at one input. -/
def tallyPartsWrong : ChangeSpec := { name := "tallyParts", fn := fun _ => fun
  | [d1, d2, d3] => { results := [.lit (.bool false)], args := [d1, d2, d3] }
  | _ => none }
def TallyPartsWrongFalsely : Prop := tallyPartsRow.holds Tryd.pinned (OpenSpec.ofChange tallyPartsWrong)

/-- 'trunnionlaw18.TallySums': WHATEVER THE INPUT: true; the input reads as it did. -/
def tallySumsSpec : ChangeSpec := { name := "tallySums", fn := fun _ => fun
  | [d] => { results := [.lit (.bool true)], args := [d] }
  | _ => none }
def tallySumsRow : OpenClaim := { program := "ytnndoajflimkmaadoor", sum := "637ab81007413c7ffff753471139f7e056fb23a02ec9aa07975f585058f5564b", func := "trunnion/trunnionlaw18.TallySums", spec := "tallySums", inPlace := ["sync/atomic.LoadInt64", "sync/atomic.CompareAndSwapInt64"], named := ["math/bits.divideError", "math/bits.overflowError", "trunnion/tally.names"], apart := false, laid := [("trunnion/tally.names", laid_trunnion_tally_names)] }
def TallySumsSaid : Prop := tallySumsRow.holds Tryd.pinned (OpenSpec.ofChange tallySumsSpec)

/-- ITS FALSE NEIGHBOUR: 'it returns false'. Refute it at one input. -/
def tallySumsWrong : ChangeSpec := { name := "tallySums", fn := fun _ => fun
  | [d] => { results := [.lit (.bool false)], args := [d] }
  | _ => none }
def TallySumsWrongFalsely : Prop := tallySumsRow.holds Tryd.pinned (OpenSpec.ofChange tallySumsWrong)

/-- 'trunnionlaw18.TallyPlays': WHATEVER THE INPUT: true; the input reads as it did. -/
def tallyPlaysSpec : ChangeSpec := { name := "tallyPlays", fn := fun _ => fun
  | [d] => { results := [.lit (.bool true)], args := [d] }
  | _ => none }
def tallyPlaysRow : OpenClaim := { program := "ytnndoajflimkmaadoor", sum := "637ab81007413c7ffff753471139f7e056fb23a02ec9aa07975f585058f5564b", func := "trunnion/trunnionlaw18.TallyPlays", spec := "tallyPlays", inPlace := ["sync/atomic.LoadInt64", "sync/atomic.CompareAndSwapInt64", "sync/atomic.StoreInt64"], named := ["math/bits.divideError", "math/bits.overflowError", "trunnion/tally.names"], apart := false, laid := [("trunnion/tally.names", laid_trunnion_tally_names)] }
def TallyPlaysSaid : Prop := tallyPlaysRow.holds Tryd.pinned (OpenSpec.ofChange tallyPlaysSpec)

/-- ITS FALSE NEIGHBOUR: 'it returns false'. Refute it at one input. -/
def tallyPlaysWrong : ChangeSpec := { name := "tallyPlays", fn := fun _ => fun
  | [d] => { results := [.lit (.bool false)], args := [d] }
  | _ => none }
def TallyPlaysWrongFalsely : Prop := tallyPlaysRow.holds Tryd.pinned (OpenSpec.ofChange tallyPlaysWrong)

/-- 'trunnionlaw18.TallyNil': WHATEVER THE INPUT: true; the input reads as it did. -/
def tallyNilSpec : ChangeSpec := { name := "tallyNil", fn := fun _ => fun
  | [d] => { results := [.lit (.bool true)], args := [d] }
  | _ => none }
def tallyNilRow : OpenClaim := { program := "ytnndoajflimkmaadoor", sum := "637ab81007413c7ffff753471139f7e056fb23a02ec9aa07975f585058f5564b", func := "trunnion/trunnionlaw18.TallyNil", spec := "tallyNil", inPlace := ["sync/atomic.LoadInt64", "sync/atomic.CompareAndSwapInt64", "sync/atomic.StoreInt64"], named := ["math/bits.divideError", "math/bits.overflowError", "trunnion/tally.names"], apart := false, laid := [("trunnion/tally.names", laid_trunnion_tally_names)] }
def TallyNilSaid : Prop := tallyNilRow.holds Tryd.pinned (OpenSpec.ofChange tallyNilSpec)

/-- ITS FALSE NEIGHBOUR: 'it returns false'. Refute it at one input. -/
def tallyNilWrong : ChangeSpec := { name := "tallyNil", fn := fun _ => fun
  | [d] => { results := [.lit (.bool false)], args := [d] }
  | _ => none }
def TallyNilWrongFalsely : Prop := tallyNilRow.holds Tryd.pinned (OpenSpec.ofChange tallyNilWrong)

/- THE SECOND FORM. 'bulk': how many values and letters a reading holds, each counted each time it is reached (what is shared counts as often as it is met; a slice's spare places count too). A statement '..UptoSaid' is the law's where the arguments, and the package variables that the reading takes, are together of bulk at most 1048576: NARROWER than '..Said'. Prove '..Said' where nothing that the law and all that it calls make is longer than what came in: it says more and counts as full. Else prove '..UptoSaid'. A law counts once. -/
mutual
def uptoBulk {H : Type} : DataW H → Nat
  | .lit (.string bytes) => bytes.length + 1
  | .lit _ => 1
  | .nil => 1
  | .ptr d => uptoBulk d + 1
  | .slice elems spare => uptoBulkAll elems + uptoBulkAll spare + 1
  | .agg parts => uptoBulkAll parts + 1
  | .iface _ d => uptoBulk d + 1
  | .map entries => uptoBulkEntries entries + 1
  | .held _ => 1
def uptoBulkAll {H : Type} : List (DataW H) → Nat
  | [] => 0
  | d :: r => uptoBulk d + uptoBulkAll r
def uptoBulkEntries {H : Type} : List (Lit × DataW H) → Nat
  | [] => 0
  | x :: r => uptoBulkEntry x + uptoBulkEntries r
def uptoBulkEntry {H : Type} : Lit × DataW H → Nat
  | (.string bytes, d) => bytes.length + uptoBulk d + 1
  | (_, d) => uptoBulk d + 1
 end
def uptoSmall : (H : Type) → List (DataW H) → Bool := fun _ ds => decide (uptoBulkAll ds ≤ 1048576)
def OpenSpec.upto (s : _root_.Go.ChangeSpec) : _root_.Go.OpenSpec := { _root_.Go.OpenSpec.ofChange s with cond := some uptoSmall }

/-- 'trunnionlaw18.TallyParts', WHERE WHAT IT READS IS OF BULK AT MOST 1048576: true; the input reads as it did. -/
def tallyPartsUptoRow : OpenClaim := { program := "ytnndoajflimkmaadoor", sum := "637ab81007413c7ffff753471139f7e056fb23a02ec9aa07975f585058f5564b", func := "trunnion/trunnionlaw18.TallyParts", spec := "tallyParts", inPlace := ["sync/atomic.LoadInt64", "sync/atomic.CompareAndSwapInt64"], named := ["math/bits.divideError", "math/bits.overflowError", "trunnion/tally.names"], apart := false, laid := [("trunnion/tally.names", laid_trunnion_tally_names)], narrowed := true }
def TallyPartsUptoSaid : Prop := tallyPartsUptoRow.holds Tryd.pinned (OpenSpec.upto tallyPartsSpec)

/-- 'trunnionlaw18.TallySums', WHERE WHAT IT READS IS OF BULK AT MOST 1048576: true; the input reads as it did. -/
def tallySumsUptoRow : OpenClaim := { program := "ytnndoajflimkmaadoor", sum := "637ab81007413c7ffff753471139f7e056fb23a02ec9aa07975f585058f5564b", func := "trunnion/trunnionlaw18.TallySums", spec := "tallySums", inPlace := ["sync/atomic.LoadInt64", "sync/atomic.CompareAndSwapInt64"], named := ["math/bits.divideError", "math/bits.overflowError", "trunnion/tally.names"], apart := false, laid := [("trunnion/tally.names", laid_trunnion_tally_names)], narrowed := true }
def TallySumsUptoSaid : Prop := tallySumsUptoRow.holds Tryd.pinned (OpenSpec.upto tallySumsSpec)

/-- 'trunnionlaw18.TallyPlays', WHERE WHAT IT READS IS OF BULK AT MOST 1048576: true; the input reads as it did. -/
def tallyPlaysUptoRow : OpenClaim := { program := "ytnndoajflimkmaadoor", sum := "637ab81007413c7ffff753471139f7e056fb23a02ec9aa07975f585058f5564b", func := "trunnion/trunnionlaw18.TallyPlays", spec := "tallyPlays", inPlace := ["sync/atomic.LoadInt64", "sync/atomic.CompareAndSwapInt64", "sync/atomic.StoreInt64"], named := ["math/bits.divideError", "math/bits.overflowError", "trunnion/tally.names"], apart := false, laid := [("trunnion/tally.names", laid_trunnion_tally_names)], narrowed := true }
def TallyPlaysUptoSaid : Prop := tallyPlaysUptoRow.holds Tryd.pinned (OpenSpec.upto tallyPlaysSpec)

/-- 'trunnionlaw18.TallyNil', WHERE WHAT IT READS IS OF BULK AT MOST 1048576: true; the input reads as it did. -/
def tallyNilUptoRow : OpenClaim := { program := "ytnndoajflimkmaadoor", sum := "637ab81007413c7ffff753471139f7e056fb23a02ec9aa07975f585058f5564b", func := "trunnion/trunnionlaw18.TallyNil", spec := "tallyNil", inPlace := ["sync/atomic.LoadInt64", "sync/atomic.CompareAndSwapInt64", "sync/atomic.StoreInt64"], named := ["math/bits.divideError", "math/bits.overflowError", "trunnion/tally.names"], apart := false, laid := [("trunnion/tally.names", laid_trunnion_tally_names)], narrowed := true }
def TallyNilUptoSaid : Prop := tallyNilUptoRow.holds Tryd.pinned (OpenSpec.upto tallyNilSpec)

end Rows
end Go.Proofs.YtnndoajflimkmaaDoor
