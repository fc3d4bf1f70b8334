/-
  DERIVED. GIVEN WITH THE SEED: THE CARDS: each row of YtlabdffgcciepaaGreatDoorRows.lean that lists a variable, with what it lists TIED to the program's text (the seventh form; the later family's looks); each row that meets fmt, with fmt's text TOLD by the authors' own Lean function (tested against real Go, not proved from fmt's source: count such statements apart). THE CARD IS WHAT COUNTS. Prove the row's statement (the work); the ties are given (YtlabdffgcciepaaGreatDoorTie.lean); close each card by the builder's one call (the guide's Derived/Test/ToyasCard.lean, 'card_holds'). Laid BY PROGRAM, IN A SANDBOX (cutbox-door.mjs). By AI agents, Wed Nov 11 2026. No macro, syntax, notation, axiom, sorry.
-/
import Derived.Test.YtlabdffgcciepaaGreatDoorRows
import GoSem.ClaimSeven
namespace Go.Proofs.YtlabdffgcciepaaGreatDoor
namespace Rows

/-- THE TIED CARD OF 'tartanlaw19.HighPuts'. -/
def highPutsCard : Claim7 := { stood := { row := highPutsRow, standIns := [], harness := (true, "18d848b6ecf5b0254f497f442421866fc5e36f57472b52ab9909fe158223f0fb"), looks := true }, kinds := [], alts := [], laidByText := true, laidKinds := [.data, .data, .data], laidTests := true, laidLooks := .later }
def HighPutsCardSaid : Prop := Claim7.holds Tryz.pinned (.plain (OpenSpec.ofChange highPutsSpec)) highPutsCard

/-- THE TIED CARD OF 'tartanlaw19.HighWide'. -/
def highWideCard : Claim7 := { stood := { row := highWideRow, standIns := [], harness := (true, "18d848b6ecf5b0254f497f442421866fc5e36f57472b52ab9909fe158223f0fb"), looks := true }, kinds := [], alts := [], laidByText := true, laidKinds := [.data, .data, .data], laidTests := true, laidLooks := .later }
def HighWideCardSaid : Prop := Claim7.holds Tryz.pinned (.plain (OpenSpec.ofChange highWideSpec)) highWideCard

/-- THE TIED CARD OF 'tartanlaw19.HighApart'. -/
def highApartCard : Claim7 := { stood := { row := highApartRow, standIns := [], harness := (true, "18d848b6ecf5b0254f497f442421866fc5e36f57472b52ab9909fe158223f0fb"), looks := true }, kinds := [], alts := [], laidByText := true, laidKinds := [.data, .data, .data], laidTests := true, laidLooks := .later }
def HighApartCardSaid : Prop := Claim7.holds Tryz.pinned (.plain (OpenSpec.ofChange highApartSpec)) highApartCard

/-- THE SECOND FORM's CARD OF 'tartanlaw19.HighPuts'. -/
def highPutsUptoCard : Claim7 := { stood := { row := highPutsUptoRow, standIns := [], harness := (true, "18d848b6ecf5b0254f497f442421866fc5e36f57472b52ab9909fe158223f0fb"), looks := true }, kinds := [], alts := [], laidByText := true, laidKinds := [.data, .data, .data], laidTests := true, laidLooks := .later }
def HighPutsUptoCardSaid : Prop := Claim7.holds Tryz.pinned (.plain (OpenSpec.upto highPutsSpec)) highPutsUptoCard

/-- THE SECOND FORM's CARD OF 'tartanlaw19.HighWide'. -/
def highWideUptoCard : Claim7 := { stood := { row := highWideUptoRow, standIns := [], harness := (true, "18d848b6ecf5b0254f497f442421866fc5e36f57472b52ab9909fe158223f0fb"), looks := true }, kinds := [], alts := [], laidByText := true, laidKinds := [.data, .data, .data], laidTests := true, laidLooks := .later }
def HighWideUptoCardSaid : Prop := Claim7.holds Tryz.pinned (.plain (OpenSpec.upto highWideSpec)) highWideUptoCard

/-- THE SECOND FORM's CARD OF 'tartanlaw19.HighApart'. -/
def highApartUptoCard : Claim7 := { stood := { row := highApartUptoRow, standIns := [], harness := (true, "18d848b6ecf5b0254f497f442421866fc5e36f57472b52ab9909fe158223f0fb"), looks := true }, kinds := [], alts := [], laidByText := true, laidKinds := [.data, .data, .data], laidTests := true, laidLooks := .later }
def HighApartUptoCardSaid : Prop := Claim7.holds Tryz.pinned (.plain (OpenSpec.upto highApartSpec)) highApartUptoCard
end Rows
end Go.Proofs.YtlabdffgcciepaaGreatDoor
