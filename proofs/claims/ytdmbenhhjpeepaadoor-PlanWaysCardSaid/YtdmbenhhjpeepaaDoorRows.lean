/-
  NARROWER THAN 'FOR EVERY INPUT', by the rows' own cells (each row's printed sentence says how): PlanWays: laid · PlanLeast: laid.
  DERIVED. THE GIVEN ROWS OF THIS SEAT. 2 by the template 'for every input the law returns true; each argument reads behind the call as it read before'; 0 by the template 'total and deterministic' (their statements: YtdmbenhhjpeepaaDoorTotals.lean).
  GIVEN WITH THE SEED: the statements are not yours to turn. If you find one false, say at which input.
  Laid BY PROGRAM, IN A SANDBOX (cutbox-rows.mjs): the forced cells as the released guide's own fill.sh prints them over the translation 13dd865b3952c42e… (all of the seat's roots in one cut). By AI agents, Wed Nov 11 2026. No macro, syntax, notation, axiom, sorry.
-/
import Derived.Test.YtdmbenhhjpeepaaDoorChecked
import GoSem.Claim
import GoSem.ClaimJoined
import GoSem.ClaimMapViews
import Derived.JoinedTies
import Derived.KernelRfl
namespace Go.Proofs.YtdmbenhhjpeepaaDoor
/- THE CELL 'sum', in the pinned program and in every row, IS THE sha256 OF THE DUMP (.gsa) THAT YtdmbenhhjpeepaaDoorProg.lean LOADS. Nothing in Lean hashes anything: it is a label: what it is worth is what the hold of that sum in a sandbox is worth. -/
noncomputable def Tryd.pinned : Pinned := { name := "ytdmbenhhjpeepaadoor", sum := "13dd865b3952c42ebca08e21eb27b86e4aa9c551c747b07d9fbd9e73ac5c1a8c", checked := Tryd.checked }
namespace Rows
def none {H : Type} : Left H := { results := [], args := [] }

/- WHAT THE LISTED PACKAGE-LEVEL VARIABLES READ AS WHEN THE CALL BEGINS. Each datum BY PROGRAM (the guide's laid-datum.mjs) off the statement by which the dump's own 'gosem.cut.vars' lays the variable. In a bare row this is a premise. The card (YtdmbenhhjpeepaaDoorCards.lean) ties it to the program's text. -/
def laid_trunnion_plan_names {H : Type} : DataW H := .agg [.lit (.string [102, 117, 108, 108]), .lit (.string [103, 114, 101, 97, 116]), .lit (.string [115, 109, 97, 108, 108]), .lit (.string [119, 104, 111, 108, 101])]

/-- 'trunnionlaw25.PlanWays': WHATEVER THE INPUT: true; the input reads as it did. -/
def planWaysSpec : ChangeSpec := { name := "planWays", fn := fun _ => fun
  | [d1, d2] => { results := [.lit (.bool true)], args := [d1, d2] }
  | _ => none }
def planWaysRow : OpenClaim := { program := "ytdmbenhhjpeepaadoor", sum := "13dd865b3952c42ebca08e21eb27b86e4aa9c551c747b07d9fbd9e73ac5c1a8c", func := "trunnion/trunnionlaw25.PlanWays", spec := "planWays", unfollowed := true, recurses := true, named := ["trunnion/plan.names"], apart := false, laid := [("trunnion/plan.names", laid_trunnion_plan_names)] }
def PlanWaysSaid : Prop := planWaysRow.holds Tryd.pinned (OpenSpec.ofChange planWaysSpec)

/-- ITS FALSE NEIGHBOUR: 'it returns false'. Refute it at one input. -/
def planWaysWrong : ChangeSpec := { name := "planWays", fn := fun _ => fun
  | [d1, d2] => { results := [.lit (.bool false)], args := [d1, d2] }
  | _ => none }
def PlanWaysWrongFalsely : Prop := planWaysRow.holds Tryd.pinned (OpenSpec.ofChange planWaysWrong)

/-- 'trunnionlaw25.PlanLeast': WHATEVER THE INPUT: true; the input reads as it did. -/
def planLeastSpec : ChangeSpec := { name := "planLeast", fn := fun _ => fun
  | [d] => { results := [.lit (.bool true)], args := [d] }
  | _ => none }
def planLeastRow : OpenClaim := { program := "ytdmbenhhjpeepaadoor", sum := "13dd865b3952c42ebca08e21eb27b86e4aa9c551c747b07d9fbd9e73ac5c1a8c", func := "trunnion/trunnionlaw25.PlanLeast", spec := "planLeast", unfollowed := true, recurses := true, named := ["trunnion/plan.names"], apart := false, laid := [("trunnion/plan.names", laid_trunnion_plan_names)] }
def PlanLeastSaid : Prop := planLeastRow.holds Tryd.pinned (OpenSpec.ofChange planLeastSpec)

/-- ITS FALSE NEIGHBOUR: 'it returns false'. Refute it at one input. -/
def planLeastWrong : ChangeSpec := { name := "planLeast", fn := fun _ => fun
  | [d] => { results := [.lit (.bool false)], args := [d] }
  | _ => none }
def PlanLeastWrongFalsely : Prop := planLeastRow.holds Tryd.pinned (OpenSpec.ofChange planLeastWrong)

/- THE SECOND FORM. 'bulk': how many values and letters a reading holds, each counted each time it is reached (what is shared counts as often as it is met; a slice's spare places count too). A statement '..UptoSaid' is the law's where the arguments, and the package variables that the reading takes, are together of bulk at most 1048576: NARROWER than '..Said'. Prove '..Said' where nothing that the law and all that it calls make is longer than what came in: it says more and counts as full. Else prove '..UptoSaid'. A law counts once. -/
mutual
def uptoBulk {H : Type} : DataW H → Nat
  | .lit (.string bytes) => bytes.length + 1
  | .lit _ => 1
  | .nil => 1
  | .ptr d => uptoBulk d + 1
  | .slice elems spare => uptoBulkAll elems + uptoBulkAll spare + 1
  | .agg parts => uptoBulkAll parts + 1
  | .iface _ d => uptoBulk d + 1
  | .map entries => uptoBulkEntries entries + 1
  | .held _ => 1
def uptoBulkAll {H : Type} : List (DataW H) → Nat
  | [] => 0
  | d :: r => uptoBulk d + uptoBulkAll r
def uptoBulkEntries {H : Type} : List (Lit × DataW H) → Nat
  | [] => 0
  | x :: r => uptoBulkEntry x + uptoBulkEntries r
def uptoBulkEntry {H : Type} : Lit × DataW H → Nat
  | (.string bytes, d) => bytes.length + uptoBulk d + 1
  | (_, d) => uptoBulk d + 1
 end
def uptoSmall : (H : Type) → List (DataW H) → Bool := fun _ ds => decide (uptoBulkAll ds ≤ 1048576)
def OpenSpec.upto (s : _root_.Go.ChangeSpec) : _root_.Go.OpenSpec := { _root_.Go.OpenSpec.ofChange s with cond := some uptoSmall }

/-- 'trunnionlaw25.PlanWays', WHERE WHAT IT READS IS OF BULK AT MOST 1048576: true; the input reads as it did. -/
def planWaysUptoRow : OpenClaim := { program := "ytdmbenhhjpeepaadoor", sum := "13dd865b3952c42ebca08e21eb27b86e4aa9c551c747b07d9fbd9e73ac5c1a8c", func := "trunnion/trunnionlaw25.PlanWays", spec := "planWays", unfollowed := true, recurses := true, named := ["trunnion/plan.names"], apart := false, laid := [("trunnion/plan.names", laid_trunnion_plan_names)], narrowed := true }
def PlanWaysUptoSaid : Prop := planWaysUptoRow.holds Tryd.pinned (OpenSpec.upto planWaysSpec)

/-- 'trunnionlaw25.PlanLeast', WHERE WHAT IT READS IS OF BULK AT MOST 1048576: true; the input reads as it did. -/
def planLeastUptoRow : OpenClaim := { program := "ytdmbenhhjpeepaadoor", sum := "13dd865b3952c42ebca08e21eb27b86e4aa9c551c747b07d9fbd9e73ac5c1a8c", func := "trunnion/trunnionlaw25.PlanLeast", spec := "planLeast", unfollowed := true, recurses := true, named := ["trunnion/plan.names"], apart := false, laid := [("trunnion/plan.names", laid_trunnion_plan_names)], narrowed := true }
def PlanLeastUptoSaid : Prop := planLeastUptoRow.holds Tryd.pinned (OpenSpec.upto planLeastSpec)

end Rows
end Go.Proofs.YtdmbenhhjpeepaaDoor
