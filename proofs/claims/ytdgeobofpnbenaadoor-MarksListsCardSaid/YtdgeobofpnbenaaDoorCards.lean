/-
  DERIVED. GIVEN WITH THE SEED: THE CARDS: each row of YtdgeobofpnbenaaDoorRows.lean that lists a variable, with what it lists TIED to the program's text (the seventh form; the later family's looks); each row that meets fmt, with fmt's text TOLD by the authors' own Lean function (tested against real Go, not proved from fmt's source: count such statements apart). THE CARD IS WHAT COUNTS. Prove the row's statement (the work); the ties are given (YtdgeobofpnbenaaDoorTie.lean); close each card by the builder's one call (the guide's Derived/Test/ToyasCard.lean, 'card_holds'). Laid BY PROGRAM, IN A SANDBOX (cutbox-door.mjs). By AI agents, Wed Nov 11 2026. No macro, syntax, notation, axiom, sorry.
-/
import Derived.Test.YtdgeobofpnbenaaDoorRows
import GoSem.ClaimSeven
namespace Go.Proofs.YtdgeobofpnbenaaDoor
namespace Rows

/-- THE TIED CARD OF 'trunnionlaw07.MarksBoth'. -/
def marksBothCard : Claim7 := { stood := { row := marksBothRow, standIns := [], harness := (true, "bdfa612bbb160a95ceefc5c96a07a4afb2329813a265537e3cf02ba4534f433c"), looks := false }, kinds := [], alts := [], laidByText := true, laidKinds := [.data], laidTests := true, laidLooks := .later }
def MarksBothCardSaid : Prop := Claim7.holds Tryd.pinned (.plain (OpenSpec.ofChange marksBothSpec)) marksBothCard

/-- THE TIED CARD OF 'trunnionlaw07.MarksLaws'. -/
def marksLawsCard : Claim7 := { stood := { row := marksLawsRow, standIns := [], harness := (true, "bdfa612bbb160a95ceefc5c96a07a4afb2329813a265537e3cf02ba4534f433c"), looks := false }, kinds := [], alts := [], laidByText := true, laidKinds := [.data], laidTests := true, laidLooks := .later }
def MarksLawsCardSaid : Prop := Claim7.holds Tryd.pinned (.plain (OpenSpec.ofChange marksLawsSpec)) marksLawsCard

/-- THE TIED CARD OF 'trunnionlaw07.MarksOf'. -/
def marksOfCard : Claim7 := { stood := { row := marksOfRow, standIns := [], harness := (true, "bdfa612bbb160a95ceefc5c96a07a4afb2329813a265537e3cf02ba4534f433c"), looks := false }, kinds := [], alts := [], laidByText := true, laidKinds := [.data], laidTests := true, laidLooks := .later }
def MarksOfCardSaid : Prop := Claim7.holds Tryd.pinned (.plain (OpenSpec.ofChange marksOfSpec)) marksOfCard

/-- THE TIED CARD OF 'trunnionlaw07.MarksBack'. -/
def marksBackCard : Claim7 := { stood := { row := marksBackRow, standIns := [], harness := (true, "bdfa612bbb160a95ceefc5c96a07a4afb2329813a265537e3cf02ba4534f433c"), looks := false }, kinds := [], alts := [], laidByText := true, laidKinds := [.data], laidTests := true, laidLooks := .later }
def MarksBackCardSaid : Prop := Claim7.holds Tryd.pinned (.plain (OpenSpec.ofChange marksBackSpec)) marksBackCard

/-- THE TIED CARD OF 'trunnionlaw07.MarksLists'. -/
def marksListsCard : Claim7 := { stood := { row := marksListsRow, standIns := [], harness := (true, "bdfa612bbb160a95ceefc5c96a07a4afb2329813a265537e3cf02ba4534f433c"), looks := false }, kinds := [], alts := [], laidByText := true, laidKinds := [.data], laidTests := true, laidLooks := .later }
def MarksListsCardSaid : Prop := Claim7.holds Tryd.pinned (.plain (OpenSpec.ofChange marksListsSpec)) marksListsCard

/-- THE SECOND FORM's CARD OF 'trunnionlaw07.MarksBoth'. -/
def marksBothUptoCard : Claim7 := { stood := { row := marksBothUptoRow, standIns := [], harness := (true, "bdfa612bbb160a95ceefc5c96a07a4afb2329813a265537e3cf02ba4534f433c"), looks := false }, kinds := [], alts := [], laidByText := true, laidKinds := [.data], laidTests := true, laidLooks := .later }
def MarksBothUptoCardSaid : Prop := Claim7.holds Tryd.pinned (.plain (OpenSpec.upto marksBothSpec)) marksBothUptoCard

/-- THE SECOND FORM's CARD OF 'trunnionlaw07.MarksLaws'. -/
def marksLawsUptoCard : Claim7 := { stood := { row := marksLawsUptoRow, standIns := [], harness := (true, "bdfa612bbb160a95ceefc5c96a07a4afb2329813a265537e3cf02ba4534f433c"), looks := false }, kinds := [], alts := [], laidByText := true, laidKinds := [.data], laidTests := true, laidLooks := .later }
def MarksLawsUptoCardSaid : Prop := Claim7.holds Tryd.pinned (.plain (OpenSpec.upto marksLawsSpec)) marksLawsUptoCard

/-- THE SECOND FORM's CARD OF 'trunnionlaw07.MarksOf'. -/
def marksOfUptoCard : Claim7 := { stood := { row := marksOfUptoRow, standIns := [], harness := (true, "bdfa612bbb160a95ceefc5c96a07a4afb2329813a265537e3cf02ba4534f433c"), looks := false }, kinds := [], alts := [], laidByText := true, laidKinds := [.data], laidTests := true, laidLooks := .later }
def MarksOfUptoCardSaid : Prop := Claim7.holds Tryd.pinned (.plain (OpenSpec.upto marksOfSpec)) marksOfUptoCard

/-- THE SECOND FORM's CARD OF 'trunnionlaw07.MarksBack'. -/
def marksBackUptoCard : Claim7 := { stood := { row := marksBackUptoRow, standIns := [], harness := (true, "bdfa612bbb160a95ceefc5c96a07a4afb2329813a265537e3cf02ba4534f433c"), looks := false }, kinds := [], alts := [], laidByText := true, laidKinds := [.data], laidTests := true, laidLooks := .later }
def MarksBackUptoCardSaid : Prop := Claim7.holds Tryd.pinned (.plain (OpenSpec.upto marksBackSpec)) marksBackUptoCard

/-- THE SECOND FORM's CARD OF 'trunnionlaw07.MarksLists'. -/
def marksListsUptoCard : Claim7 := { stood := { row := marksListsUptoRow, standIns := [], harness := (true, "bdfa612bbb160a95ceefc5c96a07a4afb2329813a265537e3cf02ba4534f433c"), looks := false }, kinds := [], alts := [], laidByText := true, laidKinds := [.data], laidTests := true, laidLooks := .later }
def MarksListsUptoCardSaid : Prop := Claim7.holds Tryd.pinned (.plain (OpenSpec.upto marksListsSpec)) marksListsUptoCard
end Rows
end Go.Proofs.YtdgeobofpnbenaaDoor
