/-
  DERIVED. GIVEN WITH THE SEED: THE CARDS: each row of YtnndoajflimkmaaDoorRows.lean that lists a variable, with what it lists TIED to the program's text (the seventh form; the later family's looks); each row that meets fmt, with fmt's text TOLD by the authors' own Lean function (tested against real Go, not proved from fmt's source: count such statements apart). THE CARD IS WHAT COUNTS. Prove the row's statement (the work); the ties are given (YtnndoajflimkmaaDoorTie.lean); close each card by the builder's one call (the guide's Derived/Test/ToyasCard.lean, 'card_holds'). Laid BY PROGRAM, IN A SANDBOX (cutbox-door.mjs). By AI agents, Wed Nov 11 2026. No macro, syntax, notation, axiom, sorry.
-/
import Derived.Test.YtnndoajflimkmaaDoorRows
import GoSem.ClaimSeven
namespace Go.Proofs.YtnndoajflimkmaaDoor
namespace Rows

/-- THE TIED CARD OF 'trunnionlaw18.TallyParts'. -/
def tallyPartsCard : Claim7 := { stood := { row := tallyPartsRow, standIns := [], harness := (true, "f57e1a3ca39d27eefa940cd7086192c77291fbe79c11920988e722b88f7bdf86"), looks := false }, kinds := [], alts := [], laidByText := true, laidKinds := [.data], laidTests := true, laidLooks := .later }
def TallyPartsCardSaid : Prop := Claim7.holds Tryd.pinned (.plain (OpenSpec.ofChange tallyPartsSpec)) tallyPartsCard

/-- THE TIED CARD OF 'trunnionlaw18.TallySums'. -/
def tallySumsCard : Claim7 := { stood := { row := tallySumsRow, standIns := [], harness := (true, "f57e1a3ca39d27eefa940cd7086192c77291fbe79c11920988e722b88f7bdf86"), looks := false }, kinds := [], alts := [], laidByText := true, laidKinds := [.data], laidTests := true, laidLooks := .later }
def TallySumsCardSaid : Prop := Claim7.holds Tryd.pinned (.plain (OpenSpec.ofChange tallySumsSpec)) tallySumsCard

/-- THE TIED CARD OF 'trunnionlaw18.TallyPlays'. -/
def tallyPlaysCard : Claim7 := { stood := { row := tallyPlaysRow, standIns := [], harness := (true, "f57e1a3ca39d27eefa940cd7086192c77291fbe79c11920988e722b88f7bdf86"), looks := false }, kinds := [], alts := [], laidByText := true, laidKinds := [.data], laidTests := true, laidLooks := .later }
def TallyPlaysCardSaid : Prop := Claim7.holds Tryd.pinned (.plain (OpenSpec.ofChange tallyPlaysSpec)) tallyPlaysCard

/-- THE TIED CARD OF 'trunnionlaw18.TallyNil'. -/
def tallyNilCard : Claim7 := { stood := { row := tallyNilRow, standIns := [], harness := (true, "f57e1a3ca39d27eefa940cd7086192c77291fbe79c11920988e722b88f7bdf86"), looks := false }, kinds := [], alts := [], laidByText := true, laidKinds := [.data], laidTests := true, laidLooks := .later }
def TallyNilCardSaid : Prop := Claim7.holds Tryd.pinned (.plain (OpenSpec.ofChange tallyNilSpec)) tallyNilCard

/-- THE SECOND FORM's CARD OF 'trunnionlaw18.TallyParts'. -/
def tallyPartsUptoCard : Claim7 := { stood := { row := tallyPartsUptoRow, standIns := [], harness := (true, "f57e1a3ca39d27eefa940cd7086192c77291fbe79c11920988e722b88f7bdf86"), looks := false }, kinds := [], alts := [], laidByText := true, laidKinds := [.data], laidTests := true, laidLooks := .later }
def TallyPartsUptoCardSaid : Prop := Claim7.holds Tryd.pinned (.plain (OpenSpec.upto tallyPartsSpec)) tallyPartsUptoCard

/-- THE SECOND FORM's CARD OF 'trunnionlaw18.TallySums'. -/
def tallySumsUptoCard : Claim7 := { stood := { row := tallySumsUptoRow, standIns := [], harness := (true, "f57e1a3ca39d27eefa940cd7086192c77291fbe79c11920988e722b88f7bdf86"), looks := false }, kinds := [], alts := [], laidByText := true, laidKinds := [.data], laidTests := true, laidLooks := .later }
def TallySumsUptoCardSaid : Prop := Claim7.holds Tryd.pinned (.plain (OpenSpec.upto tallySumsSpec)) tallySumsUptoCard

/-- THE SECOND FORM's CARD OF 'trunnionlaw18.TallyPlays'. -/
def tallyPlaysUptoCard : Claim7 := { stood := { row := tallyPlaysUptoRow, standIns := [], harness := (true, "f57e1a3ca39d27eefa940cd7086192c77291fbe79c11920988e722b88f7bdf86"), looks := false }, kinds := [], alts := [], laidByText := true, laidKinds := [.data], laidTests := true, laidLooks := .later }
def TallyPlaysUptoCardSaid : Prop := Claim7.holds Tryd.pinned (.plain (OpenSpec.upto tallyPlaysSpec)) tallyPlaysUptoCard

/-- THE SECOND FORM's CARD OF 'trunnionlaw18.TallyNil'. -/
def tallyNilUptoCard : Claim7 := { stood := { row := tallyNilUptoRow, standIns := [], harness := (true, "f57e1a3ca39d27eefa940cd7086192c77291fbe79c11920988e722b88f7bdf86"), looks := false }, kinds := [], alts := [], laidByText := true, laidKinds := [.data], laidTests := true, laidLooks := .later }
def TallyNilUptoCardSaid : Prop := Claim7.holds Tryd.pinned (.plain (OpenSpec.upto tallyNilSpec)) tallyNilUptoCard
end Rows
end Go.Proofs.YtnndoajflimkmaaDoor
