/-
  DERIVED. GIVEN WITH THE SEED: THE CARDS: each row of YtnpfbjbacakgoaaDoorRows.lean that lists a variable, with what it lists TIED to the program's text (the seventh form; the later family's looks); each row that meets fmt, with fmt's text TOLD by the authors' own Lean function (tested against real Go, not proved from fmt's source: count such statements apart). THE CARD IS WHAT COUNTS. Prove the row's statement (the work); the ties are given (YtnpfbjbacakgoaaDoorTie.lean); close each card by the builder's one call (the guide's Derived/Test/ToyasCard.lean, 'card_holds'). Laid BY PROGRAM, IN A SANDBOX (cutbox-door.mjs). By AI agents, Wed Nov 11 2026. No macro, syntax, notation, axiom, sorry.
-/
import Derived.Test.YtnpfbjbacakgoaaDoorRows
import GoSem.ClaimSeven
namespace Go.Proofs.YtnpfbjbacakgoaaDoor
namespace Rows

/-- THE TIED CARD OF 'tartanlaw24.MarkTells'. -/
def markTellsCard : Claim7 := { stood := { row := markTellsRow, standIns := [], harness := (true, "7b5cd0c98d0fa198fe518c1c0c3cca1801649a6f1cd75a8169a329287ce46185"), looks := true }, kinds := [], alts := [], laidByText := true, laidKinds := [.data, .data, .data, .sentinel, .sentinel], laidTests := true, laidLooks := .later }
def MarkTellsCardSaid : Prop := Claim7.holds Tryd.pinned (.plain (OpenSpec.ofChange markTellsSpec)) markTellsCard

/-- THE TIED CARD OF 'tartanlaw24.MarkReports'. -/
def markReportsCard : Claim7 := { stood := { row := markReportsRow, standIns := [], harness := (true, "7b5cd0c98d0fa198fe518c1c0c3cca1801649a6f1cd75a8169a329287ce46185"), looks := true }, kinds := [], alts := [], laidByText := true, laidKinds := [.data, .data, .data, .sentinel, .sentinel], laidTests := true, laidLooks := .later }
def MarkReportsCardSaid : Prop := Claim7.holds Tryd.pinned (.plain (OpenSpec.ofChange markReportsSpec)) markReportsCard

/-- THE TIED CARD OF 'tartanlaw24.MarkBack'. -/
def markBackCard : Claim7 := { stood := { row := markBackRow, standIns := [], harness := (true, "7b5cd0c98d0fa198fe518c1c0c3cca1801649a6f1cd75a8169a329287ce46185"), looks := true }, kinds := [], alts := [], laidByText := true, laidKinds := [.data, .data, .data, .sentinel, .sentinel], laidTests := true, laidLooks := .later }
def MarkBackCardSaid : Prop := Claim7.holds Tryd.pinned (.plain (OpenSpec.ofChange markBackSpec)) markBackCard

/-- THE TIED CARD OF 'tartanlaw24.MarkOnly'. -/
def markOnlyCard : Claim7 := { stood := { row := markOnlyRow, standIns := [], harness := (true, "7b5cd0c98d0fa198fe518c1c0c3cca1801649a6f1cd75a8169a329287ce46185"), looks := true }, kinds := [], alts := [], laidByText := true, laidKinds := [.data, .data, .data, .sentinel, .sentinel], laidTests := true, laidLooks := .later }
def MarkOnlyCardSaid : Prop := Claim7.holds Tryd.pinned (.plain (OpenSpec.ofChange markOnlySpec)) markOnlyCard

/-- THE TIED CARD OF 'tartanlaw24.MarkElse'. -/
def markElseCard : Claim7 := { stood := { row := markElseRow, standIns := [], harness := (true, "7b5cd0c98d0fa198fe518c1c0c3cca1801649a6f1cd75a8169a329287ce46185"), looks := true }, kinds := [], alts := [], laidByText := true, laidKinds := [.data, .data, .data, .sentinel, .sentinel], laidTests := true, laidLooks := .later }
def MarkElseCardSaid : Prop := Claim7.holds Tryd.pinned (.plain (OpenSpec.ofChange markElseSpec)) markElseCard

/-- THE SECOND FORM's CARD OF 'tartanlaw24.MarkTells'. -/
def markTellsUptoCard : Claim7 := { stood := { row := markTellsUptoRow, standIns := [], harness := (true, "7b5cd0c98d0fa198fe518c1c0c3cca1801649a6f1cd75a8169a329287ce46185"), looks := true }, kinds := [], alts := [], laidByText := true, laidKinds := [.data, .data, .data, .sentinel, .sentinel], laidTests := true, laidLooks := .later }
def MarkTellsUptoCardSaid : Prop := Claim7.holds Tryd.pinned (.plain (OpenSpec.upto markTellsSpec)) markTellsUptoCard

/-- THE SECOND FORM's CARD OF 'tartanlaw24.MarkReports'. -/
def markReportsUptoCard : Claim7 := { stood := { row := markReportsUptoRow, standIns := [], harness := (true, "7b5cd0c98d0fa198fe518c1c0c3cca1801649a6f1cd75a8169a329287ce46185"), looks := true }, kinds := [], alts := [], laidByText := true, laidKinds := [.data, .data, .data, .sentinel, .sentinel], laidTests := true, laidLooks := .later }
def MarkReportsUptoCardSaid : Prop := Claim7.holds Tryd.pinned (.plain (OpenSpec.upto markReportsSpec)) markReportsUptoCard

/-- THE SECOND FORM's CARD OF 'tartanlaw24.MarkBack'. -/
def markBackUptoCard : Claim7 := { stood := { row := markBackUptoRow, standIns := [], harness := (true, "7b5cd0c98d0fa198fe518c1c0c3cca1801649a6f1cd75a8169a329287ce46185"), looks := true }, kinds := [], alts := [], laidByText := true, laidKinds := [.data, .data, .data, .sentinel, .sentinel], laidTests := true, laidLooks := .later }
def MarkBackUptoCardSaid : Prop := Claim7.holds Tryd.pinned (.plain (OpenSpec.upto markBackSpec)) markBackUptoCard

/-- THE SECOND FORM's CARD OF 'tartanlaw24.MarkOnly'. -/
def markOnlyUptoCard : Claim7 := { stood := { row := markOnlyUptoRow, standIns := [], harness := (true, "7b5cd0c98d0fa198fe518c1c0c3cca1801649a6f1cd75a8169a329287ce46185"), looks := true }, kinds := [], alts := [], laidByText := true, laidKinds := [.data, .data, .data, .sentinel, .sentinel], laidTests := true, laidLooks := .later }
def MarkOnlyUptoCardSaid : Prop := Claim7.holds Tryd.pinned (.plain (OpenSpec.upto markOnlySpec)) markOnlyUptoCard

/-- THE SECOND FORM's CARD OF 'tartanlaw24.MarkElse'. -/
def markElseUptoCard : Claim7 := { stood := { row := markElseUptoRow, standIns := [], harness := (true, "7b5cd0c98d0fa198fe518c1c0c3cca1801649a6f1cd75a8169a329287ce46185"), looks := true }, kinds := [], alts := [], laidByText := true, laidKinds := [.data, .data, .data, .sentinel, .sentinel], laidTests := true, laidLooks := .later }
def MarkElseUptoCardSaid : Prop := Claim7.holds Tryd.pinned (.plain (OpenSpec.upto markElseSpec)) markElseUptoCard
end Rows
end Go.Proofs.YtnpfbjbacakgoaaDoor
