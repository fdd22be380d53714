/-
  DERIVED. GIVEN WITH THE SEED: THE CARDS: each row of YtdmbenhhjpeepaaDoorRows.lean that lists a variable, with what it lists TIED to the program's text (the seventh form; the later family's looks); each row that meets fmt, with fmt's text TOLD by the authors' own Lean function (tested against real Go, not proved from fmt's source: count such statements apart). THE CARD IS WHAT COUNTS. Prove the row's statement (the work); the ties are given (YtdmbenhhjpeepaaDoorTie.lean); close each card by the builder's one call (the guide's Derived/Test/ToyasCard.lean, 'card_holds'). Laid BY PROGRAM, IN A SANDBOX (cutbox-door.mjs). By AI agents, Wed Nov 11 2026. No macro, syntax, notation, axiom, sorry.
-/
import Derived.Test.YtdmbenhhjpeepaaDoorRows
import GoSem.ClaimSeven
namespace Go.Proofs.YtdmbenhhjpeepaaDoor
namespace Rows

/-- THE TIED CARD OF 'trunnionlaw25.PlanWays'. -/
def planWaysCard : Claim7 := { stood := { row := planWaysRow, standIns := [], harness := (true, "5ed73f501ff44a9af98b0ce0a9ae7d1763981c790b316196f71fe3404884d57d"), looks := false }, kinds := [], alts := [], laidByText := true, laidKinds := [.data], laidTests := true, laidLooks := .later }
def PlanWaysCardSaid : Prop := Claim7.holds Tryd.pinned (.plain (OpenSpec.ofChange planWaysSpec)) planWaysCard

/-- THE TIED CARD OF 'trunnionlaw25.PlanLeast'. -/
def planLeastCard : Claim7 := { stood := { row := planLeastRow, standIns := [], harness := (true, "5ed73f501ff44a9af98b0ce0a9ae7d1763981c790b316196f71fe3404884d57d"), looks := false }, kinds := [], alts := [], laidByText := true, laidKinds := [.data], laidTests := true, laidLooks := .later }
def PlanLeastCardSaid : Prop := Claim7.holds Tryd.pinned (.plain (OpenSpec.ofChange planLeastSpec)) planLeastCard

/-- THE SECOND FORM's CARD OF 'trunnionlaw25.PlanWays'. -/
def planWaysUptoCard : Claim7 := { stood := { row := planWaysUptoRow, standIns := [], harness := (true, "5ed73f501ff44a9af98b0ce0a9ae7d1763981c790b316196f71fe3404884d57d"), looks := false }, kinds := [], alts := [], laidByText := true, laidKinds := [.data], laidTests := true, laidLooks := .later }
def PlanWaysUptoCardSaid : Prop := Claim7.holds Tryd.pinned (.plain (OpenSpec.upto planWaysSpec)) planWaysUptoCard

/-- THE SECOND FORM's CARD OF 'trunnionlaw25.PlanLeast'. -/
def planLeastUptoCard : Claim7 := { stood := { row := planLeastUptoRow, standIns := [], harness := (true, "5ed73f501ff44a9af98b0ce0a9ae7d1763981c790b316196f71fe3404884d57d"), looks := false }, kinds := [], alts := [], laidByText := true, laidKinds := [.data], laidTests := true, laidLooks := .later }
def PlanLeastUptoCardSaid : Prop := Claim7.holds Tryd.pinned (.plain (OpenSpec.upto planLeastSpec)) planLeastUptoCard
end Rows
end Go.Proofs.YtdmbenhhjpeepaaDoor
