/-
  DERIVED. GIVEN WITH THE SEED: THE CARDS: each row of YtjoipibldahbhaaGreatDoorRows.lean that lists a variable, with what it lists TIED to the program's text (the seventh form; the later family's looks); each row that meets fmt, with fmt's text TOLD by the authors' own Lean function (tested against real Go, not proved from fmt's source: count such statements apart). THE CARD IS WHAT COUNTS. Prove the row's statement (the work); the ties are given (YtjoipibldahbhaaGreatDoorTie.lean); close each card by the builder's one call (the guide's Derived/Test/ToyasCard.lean, 'card_holds'). Laid BY PROGRAM, IN A SANDBOX (cutbox-door.mjs). By AI agents, Wed Nov 11 2026. No macro, syntax, notation, axiom, sorry.
-/
import Derived.Test.YtjoipibldahbhaaGreatDoorRows
import GoSem.ClaimSeven
namespace Go.Proofs.YtjoipibldahbhaaGreatDoor
namespace Rows

/-- THE TIED CARD OF 'trunnionlaw05.RepairSorts'. -/
def repairSortsCard : Claim7 := { stood := { row := repairSortsRow, standIns := [], harness := (true, "f023c873a1373f0c925b56954fcee0129f43855c429939cff4d89d159c24c937"), looks := false }, kinds := [], alts := [], laidByText := true, laidKinds := [.data], laidTests := true, laidLooks := .later }
def RepairSortsCardSaid : Prop := Claim7.holds Tryz.pinned (.plain (OpenSpec.ofChange repairSortsSpec)) repairSortsCard

/-- THE TIED CARD OF 'trunnionlaw05.RepairFixes'. -/
def repairFixesCard : Claim7 := { stood := { row := repairFixesRow, standIns := [], harness := (true, "f023c873a1373f0c925b56954fcee0129f43855c429939cff4d89d159c24c937"), looks := false }, kinds := [], alts := [], laidByText := true, laidKinds := [.data], laidTests := true, laidLooks := .later }
def RepairFixesCardSaid : Prop := Claim7.holds Tryz.pinned (.plain (OpenSpec.ofChange repairFixesSpec)) repairFixesCard

/-- THE TIED CARD OF 'trunnionlaw05.RepairAny'. -/
def repairAnyCard : Claim7 := { stood := { row := repairAnyRow, standIns := [], harness := (true, "f023c873a1373f0c925b56954fcee0129f43855c429939cff4d89d159c24c937"), looks := false }, kinds := [], alts := [], laidByText := true, laidKinds := [.data], laidTests := true, laidLooks := .later }
def RepairAnyCardSaid : Prop := Claim7.holds Tryz.pinned (.plain (OpenSpec.ofChange repairAnySpec)) repairAnyCard

/-- THE TIED CARD OF 'trunnionlaw05.RepairWide'. -/
def repairWideCard : Claim7 := { stood := { row := repairWideRow, standIns := [], harness := (true, "f023c873a1373f0c925b56954fcee0129f43855c429939cff4d89d159c24c937"), looks := false }, kinds := [], alts := [], laidByText := true, laidKinds := [.data], laidTests := true, laidLooks := .later }
def RepairWideCardSaid : Prop := Claim7.holds Tryz.pinned (.plain (OpenSpec.ofChange repairWideSpec)) repairWideCard

/-- THE TIED CARD OF 'trunnionlaw05.RepairThree'. -/
def repairThreeCard : Claim7 := { stood := { row := repairThreeRow, standIns := [], harness := (true, "f023c873a1373f0c925b56954fcee0129f43855c429939cff4d89d159c24c937"), looks := false }, kinds := [], alts := [], laidByText := true, laidKinds := [.data], laidTests := true, laidLooks := .later }
def RepairThreeCardSaid : Prop := Claim7.holds Tryz.pinned (.plain (OpenSpec.ofChange repairThreeSpec)) repairThreeCard

/-- THE TIED CARD OF 'trunnionlaw05.RepairCounts'. -/
def repairCountsCard : Claim7 := { stood := { row := repairCountsRow, standIns := [], harness := (true, "f023c873a1373f0c925b56954fcee0129f43855c429939cff4d89d159c24c937"), looks := false }, kinds := [], alts := [], laidByText := true, laidKinds := [.data], laidTests := true, laidLooks := .later }
def RepairCountsCardSaid : Prop := Claim7.holds Tryz.pinned (.plain (OpenSpec.ofChange repairCountsSpec)) repairCountsCard

/-- THE SECOND FORM's CARD OF 'trunnionlaw05.RepairSorts'. -/
def repairSortsUptoCard : Claim7 := { stood := { row := repairSortsUptoRow, standIns := [], harness := (true, "f023c873a1373f0c925b56954fcee0129f43855c429939cff4d89d159c24c937"), looks := false }, kinds := [], alts := [], laidByText := true, laidKinds := [.data], laidTests := true, laidLooks := .later }
def RepairSortsUptoCardSaid : Prop := Claim7.holds Tryz.pinned (.plain (OpenSpec.upto repairSortsSpec)) repairSortsUptoCard

/-- THE SECOND FORM's CARD OF 'trunnionlaw05.RepairFixes'. -/
def repairFixesUptoCard : Claim7 := { stood := { row := repairFixesUptoRow, standIns := [], harness := (true, "f023c873a1373f0c925b56954fcee0129f43855c429939cff4d89d159c24c937"), looks := false }, kinds := [], alts := [], laidByText := true, laidKinds := [.data], laidTests := true, laidLooks := .later }
def RepairFixesUptoCardSaid : Prop := Claim7.holds Tryz.pinned (.plain (OpenSpec.upto repairFixesSpec)) repairFixesUptoCard

/-- THE SECOND FORM's CARD OF 'trunnionlaw05.RepairAny'. -/
def repairAnyUptoCard : Claim7 := { stood := { row := repairAnyUptoRow, standIns := [], harness := (true, "f023c873a1373f0c925b56954fcee0129f43855c429939cff4d89d159c24c937"), looks := false }, kinds := [], alts := [], laidByText := true, laidKinds := [.data], laidTests := true, laidLooks := .later }
def RepairAnyUptoCardSaid : Prop := Claim7.holds Tryz.pinned (.plain (OpenSpec.upto repairAnySpec)) repairAnyUptoCard

/-- THE SECOND FORM's CARD OF 'trunnionlaw05.RepairWide'. -/
def repairWideUptoCard : Claim7 := { stood := { row := repairWideUptoRow, standIns := [], harness := (true, "f023c873a1373f0c925b56954fcee0129f43855c429939cff4d89d159c24c937"), looks := false }, kinds := [], alts := [], laidByText := true, laidKinds := [.data], laidTests := true, laidLooks := .later }
def RepairWideUptoCardSaid : Prop := Claim7.holds Tryz.pinned (.plain (OpenSpec.upto repairWideSpec)) repairWideUptoCard

/-- THE SECOND FORM's CARD OF 'trunnionlaw05.RepairThree'. -/
def repairThreeUptoCard : Claim7 := { stood := { row := repairThreeUptoRow, standIns := [], harness := (true, "f023c873a1373f0c925b56954fcee0129f43855c429939cff4d89d159c24c937"), looks := false }, kinds := [], alts := [], laidByText := true, laidKinds := [.data], laidTests := true, laidLooks := .later }
def RepairThreeUptoCardSaid : Prop := Claim7.holds Tryz.pinned (.plain (OpenSpec.upto repairThreeSpec)) repairThreeUptoCard

/-- THE SECOND FORM's CARD OF 'trunnionlaw05.RepairCounts'. -/
def repairCountsUptoCard : Claim7 := { stood := { row := repairCountsUptoRow, standIns := [], harness := (true, "f023c873a1373f0c925b56954fcee0129f43855c429939cff4d89d159c24c937"), looks := false }, kinds := [], alts := [], laidByText := true, laidKinds := [.data], laidTests := true, laidLooks := .later }
def RepairCountsUptoCardSaid : Prop := Claim7.holds Tryz.pinned (.plain (OpenSpec.upto repairCountsSpec)) repairCountsUptoCard
end Rows
end Go.Proofs.YtjoipibldahbhaaGreatDoor
