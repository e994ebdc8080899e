/-
  DERIVED. GIVEN WITH THE SEED: THE CARDS: each row of YtmjfldclpijghaaGreatDoorRows.lean that lists a variable, with what it lists TIED to the program's text (the seventh form; the later family's looks); each row that meets fmt, with fmt's text TOLD by the authors' own Lean function (tested against real Go, not proved from fmt's source: count such statements apart). THE CARD IS WHAT COUNTS. Prove the row's statement (the work); the ties are given (YtmjfldclpijghaaGreatDoorTie.lean); close each card by the builder's one call (the guide's Derived/Test/ToyasCard.lean, 'card_holds'). Laid BY PROGRAM, IN A SANDBOX (cutbox-door.mjs). By AI agents, Wed Nov 11 2026. No macro, syntax, notation, axiom, sorry.
-/
import Derived.Test.YtmjfldclpijghaaGreatDoorRows
import GoSem.ClaimSeven
namespace Go.Proofs.YtmjfldclpijghaaGreatDoor
namespace Rows

/-- THE TIED CARD OF 'furrowlaw8.SemaText'. -/
def semaTextCard : Claim7 := { stood := { row := semaTextRow, standIns := [], harness := (true, "cae87d67ad24eb94a1660843bc33d4220310fe5ffced112f21a9b80541e3a06a"), looks := true }, kinds := [], alts := [], laidByText := true, laidKinds := [.data, .data, .data, .handle, .sentinel, .sentinel, .listed, .data], laidTests := true, laidLooks := .later }
def SemaTextCardSaid : Prop := Claim7.holds Tryz.pinned (.plain (OpenSpec.ofChange semaTextSpec)) semaTextCard

/-- THE TIED CARD OF 'furrowlaw8.SemaCells'. -/
def semaCellsCard : Claim7 := { stood := { row := semaCellsRow, standIns := [], harness := (true, "cae87d67ad24eb94a1660843bc33d4220310fe5ffced112f21a9b80541e3a06a"), looks := true }, kinds := [], alts := [], laidByText := true, laidKinds := [.data, .data, .data, .handle, .sentinel, .sentinel, .listed, .data], laidTests := true, laidLooks := .later }
def SemaCellsCardSaid : Prop := Claim7.holds Tryz.pinned (.plain (OpenSpec.ofChange semaCellsSpec)) semaCellsCard

/-- THE TIED CARD OF 'furrowlaw8.SemaRanks'. -/
def semaRanksCard : Claim7 := { stood := { row := semaRanksRow, standIns := [], harness := (true, "cae87d67ad24eb94a1660843bc33d4220310fe5ffced112f21a9b80541e3a06a"), looks := true }, kinds := [], alts := [], laidByText := true, laidKinds := [.data, .data, .data, .handle, .sentinel, .sentinel, .listed, .data], laidTests := true, laidLooks := .later }
def SemaRanksCardSaid : Prop := Claim7.holds Tryz.pinned (.plain (OpenSpec.ofChange semaRanksSpec)) semaRanksCard

/-- THE TIED CARD OF 'furrowlaw8.SemaIndices'. -/
def semaIndicesCard : Claim7 := { stood := { row := semaIndicesRow, standIns := [], harness := (true, "cae87d67ad24eb94a1660843bc33d4220310fe5ffced112f21a9b80541e3a06a"), looks := true }, kinds := [], alts := [], laidByText := true, laidKinds := [.data, .data, .data, .handle, .sentinel, .sentinel, .listed, .data], laidTests := true, laidLooks := .later }
def SemaIndicesCardSaid : Prop := Claim7.holds Tryz.pinned (.plain (OpenSpec.ofChange semaIndicesSpec)) semaIndicesCard

/-- THE SECOND FORM's CARD OF 'furrowlaw8.SemaText'. -/
def semaTextUptoCard : Claim7 := { stood := { row := semaTextUptoRow, standIns := [], harness := (true, "cae87d67ad24eb94a1660843bc33d4220310fe5ffced112f21a9b80541e3a06a"), looks := true }, kinds := [], alts := [], laidByText := true, laidKinds := [.data, .data, .data, .handle, .sentinel, .sentinel, .listed, .data], laidTests := true, laidLooks := .later }
def SemaTextUptoCardSaid : Prop := Claim7.holds Tryz.pinned (.plain (OpenSpec.upto semaTextSpec)) semaTextUptoCard

/-- THE SECOND FORM's CARD OF 'furrowlaw8.SemaCells'. -/
def semaCellsUptoCard : Claim7 := { stood := { row := semaCellsUptoRow, standIns := [], harness := (true, "cae87d67ad24eb94a1660843bc33d4220310fe5ffced112f21a9b80541e3a06a"), looks := true }, kinds := [], alts := [], laidByText := true, laidKinds := [.data, .data, .data, .handle, .sentinel, .sentinel, .listed, .data], laidTests := true, laidLooks := .later }
def SemaCellsUptoCardSaid : Prop := Claim7.holds Tryz.pinned (.plain (OpenSpec.upto semaCellsSpec)) semaCellsUptoCard

/-- THE SECOND FORM's CARD OF 'furrowlaw8.SemaRanks'. -/
def semaRanksUptoCard : Claim7 := { stood := { row := semaRanksUptoRow, standIns := [], harness := (true, "cae87d67ad24eb94a1660843bc33d4220310fe5ffced112f21a9b80541e3a06a"), looks := true }, kinds := [], alts := [], laidByText := true, laidKinds := [.data, .data, .data, .handle, .sentinel, .sentinel, .listed, .data], laidTests := true, laidLooks := .later }
def SemaRanksUptoCardSaid : Prop := Claim7.holds Tryz.pinned (.plain (OpenSpec.upto semaRanksSpec)) semaRanksUptoCard

/-- THE SECOND FORM's CARD OF 'furrowlaw8.SemaIndices'. -/
def semaIndicesUptoCard : Claim7 := { stood := { row := semaIndicesUptoRow, standIns := [], harness := (true, "cae87d67ad24eb94a1660843bc33d4220310fe5ffced112f21a9b80541e3a06a"), looks := true }, kinds := [], alts := [], laidByText := true, laidKinds := [.data, .data, .data, .handle, .sentinel, .sentinel, .listed, .data], laidTests := true, laidLooks := .later }
def SemaIndicesUptoCardSaid : Prop := Claim7.holds Tryz.pinned (.plain (OpenSpec.upto semaIndicesSpec)) semaIndicesUptoCard
end Rows
end Go.Proofs.YtmjfldclpijghaaGreatDoor
