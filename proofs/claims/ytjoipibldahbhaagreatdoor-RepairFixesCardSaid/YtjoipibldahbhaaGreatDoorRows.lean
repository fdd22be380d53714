/-
  NARROWER THAN 'FOR EVERY INPUT', by the rows' own cells (each row's printed sentence says how): RepairSorts: laid · RepairFixes: laid · RepairAny: laid · RepairWide: laid · RepairThree: laid · RepairCounts: laid.
  DERIVED. THE GIVEN ROWS OF THIS SEAT. 6 by the template 'for every input the law returns true; each argument reads behind the call as it read before'; 0 by the template 'total and deterministic' (their statements: YtjoipibldahbhaaGreatDoorTotals.lean).
  GIVEN WITH THE SEED: the statements are not yours to turn. If you find one false, say at which input.
  Laid BY PROGRAM, IN A SANDBOX (cutbox-rows.mjs): the forced cells as the released guide's own fill.sh prints them over the translation f6222d574c3b7d4c… (all of the seat's roots in one cut). By AI agents, Wed Nov 11 2026. No macro, syntax, notation, axiom, sorry.
-/
import Derived.Test.YtjoipibldahbhaaGreatDoorChecked
import GoSem.Claim
import GoSem.ClaimJoined
import GoSem.ClaimMapViews
import Derived.JoinedTies
import Derived.KernelRfl
namespace Go.Proofs.YtjoipibldahbhaaGreatDoor
/- THE CELL 'sum', in the pinned program and in every row, IS THE sha256 OF THE DUMP (.gsa) THAT YtjoipibldahbhaaGreatDoorProg.lean LOADS. Nothing in Lean hashes anything: it is a label: what it is worth is what the hold of that sum in a sandbox is worth. -/
noncomputable def Tryz.pinned : Pinned := { name := "ytjoipibldahbhaagreatdoor", sum := "f6222d574c3b7d4cb896997971feae85cdb25a217c765e3fa381b4d74bfbb926", checked := Tryz.checked }
namespace Rows
def none {H : Type} : Left H := { results := [], args := [] }

/- WHAT THE LISTED PACKAGE-LEVEL VARIABLES READ AS WHEN THE CALL BEGINS. Each datum BY PROGRAM (the guide's laid-datum.mjs) off the statement by which the dump's own 'gosem.cut.vars' lays the variable. In a bare row this is a premise. The card (YtjoipibldahbhaaGreatDoorCards.lean) ties it to the program's text. -/
def laid_trunnion_repair_names {H : Type} : DataW H := .agg [.lit (.string [119, 104, 111, 108, 101]), .lit (.string [100, 97, 116, 97]), .lit (.string [112]), .lit (.string [113]), .lit (.string [100, 97, 116, 97, 43, 112]), .lit (.string [100, 97, 116, 97, 43, 113]), .lit (.string [112, 43, 113]), .lit (.string [100, 97, 116, 97, 43, 100, 97, 116, 97])]

/-- 'trunnionlaw05.RepairSorts': WHATEVER THE INPUT: true; the input reads as it did. -/
def repairSortsSpec : ChangeSpec := { name := "repairSorts", fn := fun _ => fun
  | [d1, d2, d3] => { results := [.lit (.bool true)], args := [d1, d2, d3] }
  | _ => none }
def repairSortsRow : OpenClaim := { program := "ytjoipibldahbhaagreatdoor", sum := "f6222d574c3b7d4cb896997971feae85cdb25a217c765e3fa381b4d74bfbb926", func := "trunnion/trunnionlaw05.RepairSorts", spec := "repairSorts", inPlace := ["internal/abi.NoEscape", "internal/bytealg.MakeNoZero", "sync/atomic.AddInt64", "sync/atomic.LoadUint32", "(*internal/sync.Mutex).Lock", "internal/race.Disable", "sync/atomic.CompareAndSwapInt32", "internal/race.Enable", "internal/race.Acquire", "(*internal/sync.Mutex).lockSlow", "internal/sync.runtime_canSpin", "internal/sync.runtime_doSpin", "internal/sync.throw", "internal/sync.runtime_nanotime", "internal/sync.runtime_SemacquireMutex", "sync/atomic.AddInt32", "(*internal/sync.Mutex).Unlock", "internal/race.ReleaseMerge", "(*internal/sync.Mutex).unlockSlow", "internal/sync.fatal", "internal/sync.runtime_Semrelease", "sync/atomic.StoreUint32"], unfollowed := true, recurses := true, named := ["trunnion/repair.names"], apart := false, laid := [("trunnion/repair.names", laid_trunnion_repair_names)] }
def RepairSortsSaid : Prop := repairSortsRow.holds Tryz.pinned (OpenSpec.ofChange repairSortsSpec)

/-- ITS FALSE NEIGHBOUR: 'it returns false'. Refute it at one input. -/
def repairSortsWrong : ChangeSpec := { name := "repairSorts", fn := fun _ => fun
  | [d1, d2, d3] => { results := [.lit (.bool false)], args := [d1, d2, d3] }
  | _ => none }
def RepairSortsWrongFalsely : Prop := repairSortsRow.holds Tryz.pinned (OpenSpec.ofChange repairSortsWrong)

/-- 'trunnionlaw05.RepairFixes': WHATEVER THE INPUT: true; the input reads as it did. -/
def repairFixesSpec : ChangeSpec := { name := "repairFixes", fn := fun _ => fun
  | [d1, d2, d3] => { results := [.lit (.bool true)], args := [d1, d2, d3] }
  | _ => none }
def repairFixesRow : OpenClaim := { program := "ytjoipibldahbhaagreatdoor", sum := "f6222d574c3b7d4cb896997971feae85cdb25a217c765e3fa381b4d74bfbb926", func := "trunnion/trunnionlaw05.RepairFixes", spec := "repairFixes", inPlace := ["internal/abi.NoEscape", "internal/bytealg.MakeNoZero", "sync/atomic.AddInt64", "sync/atomic.LoadUint32", "(*internal/sync.Mutex).Lock", "internal/race.Disable", "sync/atomic.CompareAndSwapInt32", "internal/race.Enable", "internal/race.Acquire", "(*internal/sync.Mutex).lockSlow", "internal/sync.runtime_canSpin", "internal/sync.runtime_doSpin", "internal/sync.throw", "internal/sync.runtime_nanotime", "internal/sync.runtime_SemacquireMutex", "sync/atomic.AddInt32", "(*internal/sync.Mutex).Unlock", "internal/race.ReleaseMerge", "(*internal/sync.Mutex).unlockSlow", "internal/sync.fatal", "internal/sync.runtime_Semrelease", "sync/atomic.StoreUint32"], unfollowed := true, recurses := true, named := ["trunnion/repair.names"], apart := false, laid := [("trunnion/repair.names", laid_trunnion_repair_names)] }
def RepairFixesSaid : Prop := repairFixesRow.holds Tryz.pinned (OpenSpec.ofChange repairFixesSpec)

/-- ITS FALSE NEIGHBOUR: 'it returns false'. Refute it at one input. -/
def repairFixesWrong : ChangeSpec := { name := "repairFixes", fn := fun _ => fun
  | [d1, d2, d3] => { results := [.lit (.bool false)], args := [d1, d2, d3] }
  | _ => none }
def RepairFixesWrongFalsely : Prop := repairFixesRow.holds Tryz.pinned (OpenSpec.ofChange repairFixesWrong)

/-- 'trunnionlaw05.RepairAny': WHATEVER THE INPUT: true; the input reads as it did. -/
def repairAnySpec : ChangeSpec := { name := "repairAny", fn := fun _ => fun
  | [d1, d2] => { results := [.lit (.bool true)], args := [d1, d2] }
  | _ => none }
def repairAnyRow : OpenClaim := { program := "ytjoipibldahbhaagreatdoor", sum := "f6222d574c3b7d4cb896997971feae85cdb25a217c765e3fa381b4d74bfbb926", func := "trunnion/trunnionlaw05.RepairAny", spec := "repairAny", inPlace := ["internal/abi.NoEscape", "internal/bytealg.MakeNoZero", "sync/atomic.AddInt64", "sync/atomic.LoadUint32", "(*internal/sync.Mutex).Lock", "internal/race.Disable", "sync/atomic.CompareAndSwapInt32", "internal/race.Enable", "internal/race.Acquire", "(*internal/sync.Mutex).lockSlow", "internal/sync.runtime_canSpin", "internal/sync.runtime_doSpin", "internal/sync.throw", "internal/sync.runtime_nanotime", "internal/sync.runtime_SemacquireMutex", "sync/atomic.AddInt32", "(*internal/sync.Mutex).Unlock", "internal/race.ReleaseMerge", "(*internal/sync.Mutex).unlockSlow", "internal/sync.fatal", "internal/sync.runtime_Semrelease", "sync/atomic.StoreUint32"], unfollowed := true, recurses := true, named := ["trunnion/repair.names"], apart := false, laid := [("trunnion/repair.names", laid_trunnion_repair_names)] }
def RepairAnySaid : Prop := repairAnyRow.holds Tryz.pinned (OpenSpec.ofChange repairAnySpec)

/-- ITS FALSE NEIGHBOUR: 'it returns false'. Refute it at one input. -/
def repairAnyWrong : ChangeSpec := { name := "repairAny", fn := fun _ => fun
  | [d1, d2] => { results := [.lit (.bool false)], args := [d1, d2] }
  | _ => none }
def RepairAnyWrongFalsely : Prop := repairAnyRow.holds Tryz.pinned (OpenSpec.ofChange repairAnyWrong)

/-- 'trunnionlaw05.RepairWide': WHATEVER THE INPUT: true; the input reads as it did. -/
def repairWideSpec : ChangeSpec := { name := "repairWide", fn := fun _ => fun
  | [d1, d2] => { results := [.lit (.bool true)], args := [d1, d2] }
  | _ => none }
def repairWideRow : OpenClaim := { program := "ytjoipibldahbhaagreatdoor", sum := "f6222d574c3b7d4cb896997971feae85cdb25a217c765e3fa381b4d74bfbb926", func := "trunnion/trunnionlaw05.RepairWide", spec := "repairWide", inPlace := ["internal/abi.NoEscape", "internal/bytealg.MakeNoZero", "sync/atomic.AddInt64", "sync/atomic.LoadUint32", "(*internal/sync.Mutex).Lock", "internal/race.Disable", "sync/atomic.CompareAndSwapInt32", "internal/race.Enable", "internal/race.Acquire", "(*internal/sync.Mutex).lockSlow", "internal/sync.runtime_canSpin", "internal/sync.runtime_doSpin", "internal/sync.throw", "internal/sync.runtime_nanotime", "internal/sync.runtime_SemacquireMutex", "sync/atomic.AddInt32", "(*internal/sync.Mutex).Unlock", "internal/race.ReleaseMerge", "(*internal/sync.Mutex).unlockSlow", "internal/sync.fatal", "internal/sync.runtime_Semrelease", "sync/atomic.StoreUint32"], unfollowed := true, recurses := true, named := ["trunnion/repair.names"], apart := false, laid := [("trunnion/repair.names", laid_trunnion_repair_names)] }
def RepairWideSaid : Prop := repairWideRow.holds Tryz.pinned (OpenSpec.ofChange repairWideSpec)

/-- ITS FALSE NEIGHBOUR: 'it returns false'. Refute it at one input. -/
def repairWideWrong : ChangeSpec := { name := "repairWide", fn := fun _ => fun
  | [d1, d2] => { results := [.lit (.bool false)], args := [d1, d2] }
  | _ => none }
def RepairWideWrongFalsely : Prop := repairWideRow.holds Tryz.pinned (OpenSpec.ofChange repairWideWrong)

/-- 'trunnionlaw05.RepairThree': WHATEVER THE INPUT: true; the input reads as it did. -/
def repairThreeSpec : ChangeSpec := { name := "repairThree", fn := fun _ => fun
  | [d1, d2] => { results := [.lit (.bool true)], args := [d1, d2] }
  | _ => none }
def repairThreeRow : OpenClaim := { program := "ytjoipibldahbhaagreatdoor", sum := "f6222d574c3b7d4cb896997971feae85cdb25a217c765e3fa381b4d74bfbb926", func := "trunnion/trunnionlaw05.RepairThree", spec := "repairThree", inPlace := ["internal/abi.NoEscape", "internal/bytealg.MakeNoZero", "sync/atomic.AddInt64", "sync/atomic.LoadUint32", "(*internal/sync.Mutex).Lock", "internal/race.Disable", "sync/atomic.CompareAndSwapInt32", "internal/race.Enable", "internal/race.Acquire", "(*internal/sync.Mutex).lockSlow", "internal/sync.runtime_canSpin", "internal/sync.runtime_doSpin", "internal/sync.throw", "internal/sync.runtime_nanotime", "internal/sync.runtime_SemacquireMutex", "sync/atomic.AddInt32", "(*internal/sync.Mutex).Unlock", "internal/race.ReleaseMerge", "(*internal/sync.Mutex).unlockSlow", "internal/sync.fatal", "internal/sync.runtime_Semrelease", "sync/atomic.StoreUint32"], unfollowed := true, recurses := true, named := ["trunnion/repair.names"], apart := false, laid := [("trunnion/repair.names", laid_trunnion_repair_names)] }
def RepairThreeSaid : Prop := repairThreeRow.holds Tryz.pinned (OpenSpec.ofChange repairThreeSpec)

/-- ITS FALSE NEIGHBOUR: 'it returns false'. Refute it at one input. -/
def repairThreeWrong : ChangeSpec := { name := "repairThree", fn := fun _ => fun
  | [d1, d2] => { results := [.lit (.bool false)], args := [d1, d2] }
  | _ => none }
def RepairThreeWrongFalsely : Prop := repairThreeRow.holds Tryz.pinned (OpenSpec.ofChange repairThreeWrong)

/-- 'trunnionlaw05.RepairCounts': WHATEVER THE INPUT: true; the input reads as it did. -/
def repairCountsSpec : ChangeSpec := { name := "repairCounts", fn := fun _ => fun
  | [d1, d2] => { results := [.lit (.bool true)], args := [d1, d2] }
  | _ => none }
def repairCountsRow : OpenClaim := { program := "ytjoipibldahbhaagreatdoor", sum := "f6222d574c3b7d4cb896997971feae85cdb25a217c765e3fa381b4d74bfbb926", func := "trunnion/trunnionlaw05.RepairCounts", spec := "repairCounts", inPlace := ["internal/abi.NoEscape", "internal/bytealg.MakeNoZero", "sync/atomic.AddInt64", "sync/atomic.LoadUint32", "(*internal/sync.Mutex).Lock", "internal/race.Disable", "sync/atomic.CompareAndSwapInt32", "internal/race.Enable", "internal/race.Acquire", "(*internal/sync.Mutex).lockSlow", "internal/sync.runtime_canSpin", "internal/sync.runtime_doSpin", "internal/sync.throw", "internal/sync.runtime_nanotime", "internal/sync.runtime_SemacquireMutex", "sync/atomic.AddInt32", "(*internal/sync.Mutex).Unlock", "internal/race.ReleaseMerge", "(*internal/sync.Mutex).unlockSlow", "internal/sync.fatal", "internal/sync.runtime_Semrelease", "sync/atomic.StoreUint32", "sync/atomic.LoadInt64"], unfollowed := true, recurses := true, named := ["trunnion/repair.names"], apart := false, laid := [("trunnion/repair.names", laid_trunnion_repair_names)] }
def RepairCountsSaid : Prop := repairCountsRow.holds Tryz.pinned (OpenSpec.ofChange repairCountsSpec)

/-- ITS FALSE NEIGHBOUR: 'it returns false'. Refute it at one input. -/
def repairCountsWrong : ChangeSpec := { name := "repairCounts", fn := fun _ => fun
  | [d1, d2] => { results := [.lit (.bool false)], args := [d1, d2] }
  | _ => none }
def RepairCountsWrongFalsely : Prop := repairCountsRow.holds Tryz.pinned (OpenSpec.ofChange repairCountsWrong)

/- THE SECOND FORM. 'bulk': how many values and letters a reading holds, each counted each time it is reached (what is shared counts as often as it is met; a slice's spare places count too). A statement '..UptoSaid' is the law's where the arguments, and the package variables that the reading takes, are together of bulk at most 1048576: NARROWER than '..Said'. Prove '..Said' where nothing that the law and all that it calls make is longer than what came in: it says more and counts as full. Else prove '..UptoSaid'. A law counts once. -/
mutual
def uptoBulk {H : Type} : DataW H → Nat
  | .lit (.string bytes) => bytes.length + 1
  | .lit _ => 1
  | .nil => 1
  | .ptr d => uptoBulk d + 1
  | .slice elems spare => uptoBulkAll elems + uptoBulkAll spare + 1
  | .agg parts => uptoBulkAll parts + 1
  | .iface _ d => uptoBulk d + 1
  | .map entries => uptoBulkEntries entries + 1
  | .held _ => 1
def uptoBulkAll {H : Type} : List (DataW H) → Nat
  | [] => 0
  | d :: r => uptoBulk d + uptoBulkAll r
def uptoBulkEntries {H : Type} : List (Lit × DataW H) → Nat
  | [] => 0
  | x :: r => uptoBulkEntry x + uptoBulkEntries r
def uptoBulkEntry {H : Type} : Lit × DataW H → Nat
  | (.string bytes, d) => bytes.length + uptoBulk d + 1
  | (_, d) => uptoBulk d + 1
 end
def uptoSmall : (H : Type) → List (DataW H) → Bool := fun _ ds => decide (uptoBulkAll ds ≤ 1048576)
def OpenSpec.upto (s : _root_.Go.ChangeSpec) : _root_.Go.OpenSpec := { _root_.Go.OpenSpec.ofChange s with cond := some uptoSmall }

/-- 'trunnionlaw05.RepairSorts', WHERE WHAT IT READS IS OF BULK AT MOST 1048576: true; the input reads as it did. -/
def repairSortsUptoRow : OpenClaim := { program := "ytjoipibldahbhaagreatdoor", sum := "f6222d574c3b7d4cb896997971feae85cdb25a217c765e3fa381b4d74bfbb926", func := "trunnion/trunnionlaw05.RepairSorts", spec := "repairSorts", inPlace := ["internal/abi.NoEscape", "internal/bytealg.MakeNoZero", "sync/atomic.AddInt64", "sync/atomic.LoadUint32", "(*internal/sync.Mutex).Lock", "internal/race.Disable", "sync/atomic.CompareAndSwapInt32", "internal/race.Enable", "internal/race.Acquire", "(*internal/sync.Mutex).lockSlow", "internal/sync.runtime_canSpin", "internal/sync.runtime_doSpin", "internal/sync.throw", "internal/sync.runtime_nanotime", "internal/sync.runtime_SemacquireMutex", "sync/atomic.AddInt32", "(*internal/sync.Mutex).Unlock", "internal/race.ReleaseMerge", "(*internal/sync.Mutex).unlockSlow", "internal/sync.fatal", "internal/sync.runtime_Semrelease", "sync/atomic.StoreUint32"], unfollowed := true, recurses := true, named := ["trunnion/repair.names"], apart := false, laid := [("trunnion/repair.names", laid_trunnion_repair_names)], narrowed := true }
def RepairSortsUptoSaid : Prop := repairSortsUptoRow.holds Tryz.pinned (OpenSpec.upto repairSortsSpec)

/-- 'trunnionlaw05.RepairFixes', WHERE WHAT IT READS IS OF BULK AT MOST 1048576: true; the input reads as it did. -/
def repairFixesUptoRow : OpenClaim := { program := "ytjoipibldahbhaagreatdoor", sum := "f6222d574c3b7d4cb896997971feae85cdb25a217c765e3fa381b4d74bfbb926", func := "trunnion/trunnionlaw05.RepairFixes", spec := "repairFixes", inPlace := ["internal/abi.NoEscape", "internal/bytealg.MakeNoZero", "sync/atomic.AddInt64", "sync/atomic.LoadUint32", "(*internal/sync.Mutex).Lock", "internal/race.Disable", "sync/atomic.CompareAndSwapInt32", "internal/race.Enable", "internal/race.Acquire", "(*internal/sync.Mutex).lockSlow", "internal/sync.runtime_canSpin", "internal/sync.runtime_doSpin", "internal/sync.throw", "internal/sync.runtime_nanotime", "internal/sync.runtime_SemacquireMutex", "sync/atomic.AddInt32", "(*internal/sync.Mutex).Unlock", "internal/race.ReleaseMerge", "(*internal/sync.Mutex).unlockSlow", "internal/sync.fatal", "internal/sync.runtime_Semrelease", "sync/atomic.StoreUint32"], unfollowed := true, recurses := true, named := ["trunnion/repair.names"], apart := false, laid := [("trunnion/repair.names", laid_trunnion_repair_names)], narrowed := true }
def RepairFixesUptoSaid : Prop := repairFixesUptoRow.holds Tryz.pinned (OpenSpec.upto repairFixesSpec)

/-- 'trunnionlaw05.RepairAny', WHERE WHAT IT READS IS OF BULK AT MOST 1048576: true; the input reads as it did. -/
def repairAnyUptoRow : OpenClaim := { program := "ytjoipibldahbhaagreatdoor", sum := "f6222d574c3b7d4cb896997971feae85cdb25a217c765e3fa381b4d74bfbb926", func := "trunnion/trunnionlaw05.RepairAny", spec := "repairAny", inPlace := ["internal/abi.NoEscape", "internal/bytealg.MakeNoZero", "sync/atomic.AddInt64", "sync/atomic.LoadUint32", "(*internal/sync.Mutex).Lock", "internal/race.Disable", "sync/atomic.CompareAndSwapInt32", "internal/race.Enable", "internal/race.Acquire", "(*internal/sync.Mutex).lockSlow", "internal/sync.runtime_canSpin", "internal/sync.runtime_doSpin", "internal/sync.throw", "internal/sync.runtime_nanotime", "internal/sync.runtime_SemacquireMutex", "sync/atomic.AddInt32", "(*internal/sync.Mutex).Unlock", "internal/race.ReleaseMerge", "(*internal/sync.Mutex).unlockSlow", "internal/sync.fatal", "internal/sync.runtime_Semrelease", "sync/atomic.StoreUint32"], unfollowed := true, recurses := true, named := ["trunnion/repair.names"], apart := false, laid := [("trunnion/repair.names", laid_trunnion_repair_names)], narrowed := true }
def RepairAnyUptoSaid : Prop := repairAnyUptoRow.holds Tryz.pinned (OpenSpec.upto repairAnySpec)

/-- 'trunnionlaw05.RepairWide', WHERE WHAT IT READS IS OF BULK AT MOST 1048576: true; the input reads as it did. -/
def repairWideUptoRow : OpenClaim := { program := "ytjoipibldahbhaagreatdoor", sum := "f6222d574c3b7d4cb896997971feae85cdb25a217c765e3fa381b4d74bfbb926", func := "trunnion/trunnionlaw05.RepairWide", spec := "repairWide", inPlace := ["internal/abi.NoEscape", "internal/bytealg.MakeNoZero", "sync/atomic.AddInt64", "sync/atomic.LoadUint32", "(*internal/sync.Mutex).Lock", "internal/race.Disable", "sync/atomic.CompareAndSwapInt32", "internal/race.Enable", "internal/race.Acquire", "(*internal/sync.Mutex).lockSlow", "internal/sync.runtime_canSpin", "internal/sync.runtime_doSpin", "internal/sync.throw", "internal/sync.runtime_nanotime", "internal/sync.runtime_SemacquireMutex", "sync/atomic.AddInt32", "(*internal/sync.Mutex).Unlock", "internal/race.ReleaseMerge", "(*internal/sync.Mutex).unlockSlow", "internal/sync.fatal", "internal/sync.runtime_Semrelease", "sync/atomic.StoreUint32"], unfollowed := true, recurses := true, named := ["trunnion/repair.names"], apart := false, laid := [("trunnion/repair.names", laid_trunnion_repair_names)], narrowed := true }
def RepairWideUptoSaid : Prop := repairWideUptoRow.holds Tryz.pinned (OpenSpec.upto repairWideSpec)

/-- 'trunnionlaw05.RepairThree', WHERE WHAT IT READS IS OF BULK AT MOST 1048576: true; the input reads as it did. -/
def repairThreeUptoRow : OpenClaim := { program := "ytjoipibldahbhaagreatdoor", sum := "f6222d574c3b7d4cb896997971feae85cdb25a217c765e3fa381b4d74bfbb926", func := "trunnion/trunnionlaw05.RepairThree", spec := "repairThree", inPlace := ["internal/abi.NoEscape", "internal/bytealg.MakeNoZero", "sync/atomic.AddInt64", "sync/atomic.LoadUint32", "(*internal/sync.Mutex).Lock", "internal/race.Disable", "sync/atomic.CompareAndSwapInt32", "internal/race.Enable", "internal/race.Acquire", "(*internal/sync.Mutex).lockSlow", "internal/sync.runtime_canSpin", "internal/sync.runtime_doSpin", "internal/sync.throw", "internal/sync.runtime_nanotime", "internal/sync.runtime_SemacquireMutex", "sync/atomic.AddInt32", "(*internal/sync.Mutex).Unlock", "internal/race.ReleaseMerge", "(*internal/sync.Mutex).unlockSlow", "internal/sync.fatal", "internal/sync.runtime_Semrelease", "sync/atomic.StoreUint32"], unfollowed := true, recurses := true, named := ["trunnion/repair.names"], apart := false, laid := [("trunnion/repair.names", laid_trunnion_repair_names)], narrowed := true }
def RepairThreeUptoSaid : Prop := repairThreeUptoRow.holds Tryz.pinned (OpenSpec.upto repairThreeSpec)

/-- 'trunnionlaw05.RepairCounts', WHERE WHAT IT READS IS OF BULK AT MOST 1048576: true; the input reads as it did. -/
def repairCountsUptoRow : OpenClaim := { program := "ytjoipibldahbhaagreatdoor", sum := "f6222d574c3b7d4cb896997971feae85cdb25a217c765e3fa381b4d74bfbb926", func := "trunnion/trunnionlaw05.RepairCounts", spec := "repairCounts", inPlace := ["internal/abi.NoEscape", "internal/bytealg.MakeNoZero", "sync/atomic.AddInt64", "sync/atomic.LoadUint32", "(*internal/sync.Mutex).Lock", "internal/race.Disable", "sync/atomic.CompareAndSwapInt32", "internal/race.Enable", "internal/race.Acquire", "(*internal/sync.Mutex).lockSlow", "internal/sync.runtime_canSpin", "internal/sync.runtime_doSpin", "internal/sync.throw", "internal/sync.runtime_nanotime", "internal/sync.runtime_SemacquireMutex", "sync/atomic.AddInt32", "(*internal/sync.Mutex).Unlock", "internal/race.ReleaseMerge", "(*internal/sync.Mutex).unlockSlow", "internal/sync.fatal", "internal/sync.runtime_Semrelease", "sync/atomic.StoreUint32", "sync/atomic.LoadInt64"], unfollowed := true, recurses := true, named := ["trunnion/repair.names"], apart := false, laid := [("trunnion/repair.names", laid_trunnion_repair_names)], narrowed := true }
def RepairCountsUptoSaid : Prop := repairCountsUptoRow.holds Tryz.pinned (OpenSpec.upto repairCountsSpec)

end Rows
end Go.Proofs.YtjoipibldahbhaaGreatDoor
