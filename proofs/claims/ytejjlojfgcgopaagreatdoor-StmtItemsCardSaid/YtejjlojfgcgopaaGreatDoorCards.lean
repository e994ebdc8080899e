/-
  DERIVED. GIVEN WITH THE SEED: THE CARDS: each row of YtejjlojfgcgopaaGreatDoorRows.lean that lists a variable, with what it lists TIED to the program's text (the seventh form; the later family's looks); each row that meets fmt, with fmt's text TOLD by the authors' own Lean function (tested against real Go, not proved from fmt's source: count such statements apart). THE CARD IS WHAT COUNTS. Prove the row's statement (the work); the ties are given (YtejjlojfgcgopaaGreatDoorTie.lean); close each card by the builder's one call (the guide's Derived/Test/ToyasCard.lean, 'card_holds'). Laid BY PROGRAM, IN A SANDBOX (cutbox-door.mjs). By AI agents, Wed Nov 11 2026. No macro, syntax, notation, axiom, sorry.
-/
import Derived.Test.YtejjlojfgcgopaaGreatDoorRows
import GoSem.ClaimSeven
namespace Go.Proofs.YtejjlojfgcgopaaGreatDoor
namespace Rows

/-- THE TIED CARD OF 'furrowlaw6.StmtKinds'. -/
def stmtKindsCard : Claim7 := { stood := { row := stmtKindsRow, standIns := [], harness := (true, "30067dee306ab658d31878f1b269295276a61012b1f1d00496b64082f2d3daf4"), looks := true }, kinds := [], alts := [], laidByText := true, laidKinds := [.data, .data, .data, .handle, .sentinel, .sentinel, .listed, .data], laidTests := true, laidLooks := .later }
def StmtKindsCardSaid : Prop := Claim7.holds Tryz.pinned (.plain (OpenSpec.ofChange stmtKindsSpec)) stmtKindsCard

/-- THE TIED CARD OF 'furrowlaw6.StmtItems'. -/
def stmtItemsCard : Claim7 := { stood := { row := stmtItemsRow, standIns := [], harness := (true, "30067dee306ab658d31878f1b269295276a61012b1f1d00496b64082f2d3daf4"), looks := true }, kinds := [], alts := [], laidByText := true, laidKinds := [.data, .data, .data, .handle, .sentinel, .sentinel, .listed, .data], laidTests := true, laidLooks := .later }
def StmtItemsCardSaid : Prop := Claim7.holds Tryz.pinned (.plain (OpenSpec.ofChange stmtItemsSpec)) stmtItemsCard

/-- THE TIED CARD OF 'furrowlaw6.StmtSteps'. -/
def stmtStepsCard : Claim7 := { stood := { row := stmtStepsRow, standIns := [], harness := (true, "30067dee306ab658d31878f1b269295276a61012b1f1d00496b64082f2d3daf4"), looks := true }, kinds := [], alts := [], laidByText := true, laidKinds := [.data, .data, .data, .handle, .sentinel, .sentinel, .listed, .data], laidTests := true, laidLooks := .later }
def StmtStepsCardSaid : Prop := Claim7.holds Tryz.pinned (.plain (OpenSpec.ofChange stmtStepsSpec)) stmtStepsCard

/-- THE TIED CARD OF 'furrowlaw8.SemaText'. -/
def semaTextCard : Claim7 := { stood := { row := semaTextRow, standIns := [], harness := (true, "30067dee306ab658d31878f1b269295276a61012b1f1d00496b64082f2d3daf4"), looks := true }, kinds := [], alts := [], laidByText := true, laidKinds := [.data, .data, .data, .handle, .sentinel, .sentinel, .listed, .data], laidTests := true, laidLooks := .later }
def SemaTextCardSaid : Prop := Claim7.holds Tryz.pinned (.plain (OpenSpec.ofChange semaTextSpec)) semaTextCard

/-- THE TIED CARD OF 'furrowlaw8.SemaCells'. -/
def semaCellsCard : Claim7 := { stood := { row := semaCellsRow, standIns := [], harness := (true, "30067dee306ab658d31878f1b269295276a61012b1f1d00496b64082f2d3daf4"), looks := true }, kinds := [], alts := [], laidByText := true, laidKinds := [.data, .data, .data, .handle, .sentinel, .sentinel, .listed, .data], laidTests := true, laidLooks := .later }
def SemaCellsCardSaid : Prop := Claim7.holds Tryz.pinned (.plain (OpenSpec.ofChange semaCellsSpec)) semaCellsCard

/-- THE TIED CARD OF 'furrowlaw8.SemaRanks'. -/
def semaRanksCard : Claim7 := { stood := { row := semaRanksRow, standIns := [], harness := (true, "30067dee306ab658d31878f1b269295276a61012b1f1d00496b64082f2d3daf4"), looks := true }, kinds := [], alts := [], laidByText := true, laidKinds := [.data, .data, .data, .handle, .sentinel, .sentinel, .listed, .data], laidTests := true, laidLooks := .later }
def SemaRanksCardSaid : Prop := Claim7.holds Tryz.pinned (.plain (OpenSpec.ofChange semaRanksSpec)) semaRanksCard

/-- THE TIED CARD OF 'furrowlaw8.SemaIndices'. -/
def semaIndicesCard : Claim7 := { stood := { row := semaIndicesRow, standIns := [], harness := (true, "30067dee306ab658d31878f1b269295276a61012b1f1d00496b64082f2d3daf4"), looks := true }, kinds := [], alts := [], laidByText := true, laidKinds := [.data, .data, .data, .handle, .sentinel, .sentinel, .listed, .data], laidTests := true, laidLooks := .later }
def SemaIndicesCardSaid : Prop := Claim7.holds Tryz.pinned (.plain (OpenSpec.ofChange semaIndicesSpec)) semaIndicesCard

/-- THE TIED CARD OF 'furrowlaw7.TreeText'. -/
def treeTextCard : Claim7 := { stood := { row := treeTextRow, standIns := [], harness := (true, "30067dee306ab658d31878f1b269295276a61012b1f1d00496b64082f2d3daf4"), looks := true }, kinds := [], alts := [], laidByText := true, laidKinds := [.data, .data, .data, .data, .handle, .sentinel, .sentinel, .listed, .data, .pinned], laidTests := true, laidLooks := .later }
def TreeTextCardSaid : Prop := Claim7.holds Tryz.pinned (.plain (OpenSpec.ofChange treeTextSpec)) treeTextCard

/-- THE TIED CARD OF 'furrowlaw7.TreeWalk'. -/
def treeWalkCard : Claim7 := { stood := { row := treeWalkRow, standIns := [], harness := (true, "30067dee306ab658d31878f1b269295276a61012b1f1d00496b64082f2d3daf4"), looks := true }, kinds := [], alts := [], laidByText := true, laidKinds := [.data, .data, .data, .data, .handle, .sentinel, .sentinel, .listed, .data, .pinned], laidTests := true, laidLooks := .later }
def TreeWalkCardSaid : Prop := Claim7.holds Tryz.pinned (.plain (OpenSpec.ofChange treeWalkSpec)) treeWalkCard

/-- THE TIED CARD OF 'furrowlaw7.TreeDeep'. -/
def treeDeepCard : Claim7 := { stood := { row := treeDeepRow, standIns := [], harness := (true, "30067dee306ab658d31878f1b269295276a61012b1f1d00496b64082f2d3daf4"), looks := true }, kinds := [], alts := [], laidByText := true, laidKinds := [.data, .data, .data, .data, .handle, .sentinel, .sentinel, .listed, .data, .pinned], laidTests := true, laidLooks := .later }
def TreeDeepCardSaid : Prop := Claim7.holds Tryz.pinned (.plain (OpenSpec.ofChange treeDeepSpec)) treeDeepCard

/-- THE TIED CARD OF 'furrowlaw7.TreeOpen'. -/
def treeOpenCard : Claim7 := { stood := { row := treeOpenRow, standIns := [], harness := (true, "30067dee306ab658d31878f1b269295276a61012b1f1d00496b64082f2d3daf4"), looks := true }, kinds := [], alts := [], laidByText := true, laidKinds := [.data, .data, .data, .data, .handle, .sentinel, .sentinel, .listed, .data, .pinned], laidTests := true, laidLooks := .later }
def TreeOpenCardSaid : Prop := Claim7.holds Tryz.pinned (.plain (OpenSpec.ofChange treeOpenSpec)) treeOpenCard

/-- THE TIED CARD OF 'furrowlaw7.TreeChoices'. -/
def treeChoicesCard : Claim7 := { stood := { row := treeChoicesRow, standIns := [], harness := (true, "30067dee306ab658d31878f1b269295276a61012b1f1d00496b64082f2d3daf4"), looks := true }, kinds := [], alts := [], laidByText := true, laidKinds := [.data, .data, .data, .data, .handle, .sentinel, .sentinel, .listed, .data, .pinned], laidTests := true, laidLooks := .later }
def TreeChoicesCardSaid : Prop := Claim7.holds Tryz.pinned (.plain (OpenSpec.ofChange treeChoicesSpec)) treeChoicesCard

/-- THE SECOND FORM's CARD OF 'furrowlaw6.StmtKinds'. -/
def stmtKindsUptoCard : Claim7 := { stood := { row := stmtKindsUptoRow, standIns := [], harness := (true, "30067dee306ab658d31878f1b269295276a61012b1f1d00496b64082f2d3daf4"), looks := true }, kinds := [], alts := [], laidByText := true, laidKinds := [.data, .data, .data, .handle, .sentinel, .sentinel, .listed, .data], laidTests := true, laidLooks := .later }
def StmtKindsUptoCardSaid : Prop := Claim7.holds Tryz.pinned (.plain (OpenSpec.upto stmtKindsSpec)) stmtKindsUptoCard

/-- THE SECOND FORM's CARD OF 'furrowlaw6.StmtItems'. -/
def stmtItemsUptoCard : Claim7 := { stood := { row := stmtItemsUptoRow, standIns := [], harness := (true, "30067dee306ab658d31878f1b269295276a61012b1f1d00496b64082f2d3daf4"), looks := true }, kinds := [], alts := [], laidByText := true, laidKinds := [.data, .data, .data, .handle, .sentinel, .sentinel, .listed, .data], laidTests := true, laidLooks := .later }
def StmtItemsUptoCardSaid : Prop := Claim7.holds Tryz.pinned (.plain (OpenSpec.upto stmtItemsSpec)) stmtItemsUptoCard

/-- THE SECOND FORM's CARD OF 'furrowlaw6.StmtSteps'. -/
def stmtStepsUptoCard : Claim7 := { stood := { row := stmtStepsUptoRow, standIns := [], harness := (true, "30067dee306ab658d31878f1b269295276a61012b1f1d00496b64082f2d3daf4"), looks := true }, kinds := [], alts := [], laidByText := true, laidKinds := [.data, .data, .data, .handle, .sentinel, .sentinel, .listed, .data], laidTests := true, laidLooks := .later }
def StmtStepsUptoCardSaid : Prop := Claim7.holds Tryz.pinned (.plain (OpenSpec.upto stmtStepsSpec)) stmtStepsUptoCard

/-- THE SECOND FORM's CARD OF 'furrowlaw8.SemaText'. -/
def semaTextUptoCard : Claim7 := { stood := { row := semaTextUptoRow, standIns := [], harness := (true, "30067dee306ab658d31878f1b269295276a61012b1f1d00496b64082f2d3daf4"), looks := true }, kinds := [], alts := [], laidByText := true, laidKinds := [.data, .data, .data, .handle, .sentinel, .sentinel, .listed, .data], laidTests := true, laidLooks := .later }
def SemaTextUptoCardSaid : Prop := Claim7.holds Tryz.pinned (.plain (OpenSpec.upto semaTextSpec)) semaTextUptoCard

/-- THE SECOND FORM's CARD OF 'furrowlaw8.SemaCells'. -/
def semaCellsUptoCard : Claim7 := { stood := { row := semaCellsUptoRow, standIns := [], harness := (true, "30067dee306ab658d31878f1b269295276a61012b1f1d00496b64082f2d3daf4"), looks := true }, kinds := [], alts := [], laidByText := true, laidKinds := [.data, .data, .data, .handle, .sentinel, .sentinel, .listed, .data], laidTests := true, laidLooks := .later }
def SemaCellsUptoCardSaid : Prop := Claim7.holds Tryz.pinned (.plain (OpenSpec.upto semaCellsSpec)) semaCellsUptoCard

/-- THE SECOND FORM's CARD OF 'furrowlaw8.SemaRanks'. -/
def semaRanksUptoCard : Claim7 := { stood := { row := semaRanksUptoRow, standIns := [], harness := (true, "30067dee306ab658d31878f1b269295276a61012b1f1d00496b64082f2d3daf4"), looks := true }, kinds := [], alts := [], laidByText := true, laidKinds := [.data, .data, .data, .handle, .sentinel, .sentinel, .listed, .data], laidTests := true, laidLooks := .later }
def SemaRanksUptoCardSaid : Prop := Claim7.holds Tryz.pinned (.plain (OpenSpec.upto semaRanksSpec)) semaRanksUptoCard

/-- THE SECOND FORM's CARD OF 'furrowlaw8.SemaIndices'. -/
def semaIndicesUptoCard : Claim7 := { stood := { row := semaIndicesUptoRow, standIns := [], harness := (true, "30067dee306ab658d31878f1b269295276a61012b1f1d00496b64082f2d3daf4"), looks := true }, kinds := [], alts := [], laidByText := true, laidKinds := [.data, .data, .data, .handle, .sentinel, .sentinel, .listed, .data], laidTests := true, laidLooks := .later }
def SemaIndicesUptoCardSaid : Prop := Claim7.holds Tryz.pinned (.plain (OpenSpec.upto semaIndicesSpec)) semaIndicesUptoCard

/-- THE SECOND FORM's CARD OF 'furrowlaw7.TreeText'. -/
def treeTextUptoCard : Claim7 := { stood := { row := treeTextUptoRow, standIns := [], harness := (true, "30067dee306ab658d31878f1b269295276a61012b1f1d00496b64082f2d3daf4"), looks := true }, kinds := [], alts := [], laidByText := true, laidKinds := [.data, .data, .data, .data, .handle, .sentinel, .sentinel, .listed, .data, .pinned], laidTests := true, laidLooks := .later }
def TreeTextUptoCardSaid : Prop := Claim7.holds Tryz.pinned (.plain (OpenSpec.upto treeTextSpec)) treeTextUptoCard

/-- THE SECOND FORM's CARD OF 'furrowlaw7.TreeWalk'. -/
def treeWalkUptoCard : Claim7 := { stood := { row := treeWalkUptoRow, standIns := [], harness := (true, "30067dee306ab658d31878f1b269295276a61012b1f1d00496b64082f2d3daf4"), looks := true }, kinds := [], alts := [], laidByText := true, laidKinds := [.data, .data, .data, .data, .handle, .sentinel, .sentinel, .listed, .data, .pinned], laidTests := true, laidLooks := .later }
def TreeWalkUptoCardSaid : Prop := Claim7.holds Tryz.pinned (.plain (OpenSpec.upto treeWalkSpec)) treeWalkUptoCard

/-- THE SECOND FORM's CARD OF 'furrowlaw7.TreeDeep'. -/
def treeDeepUptoCard : Claim7 := { stood := { row := treeDeepUptoRow, standIns := [], harness := (true, "30067dee306ab658d31878f1b269295276a61012b1f1d00496b64082f2d3daf4"), looks := true }, kinds := [], alts := [], laidByText := true, laidKinds := [.data, .data, .data, .data, .handle, .sentinel, .sentinel, .listed, .data, .pinned], laidTests := true, laidLooks := .later }
def TreeDeepUptoCardSaid : Prop := Claim7.holds Tryz.pinned (.plain (OpenSpec.upto treeDeepSpec)) treeDeepUptoCard

/-- THE SECOND FORM's CARD OF 'furrowlaw7.TreeOpen'. -/
def treeOpenUptoCard : Claim7 := { stood := { row := treeOpenUptoRow, standIns := [], harness := (true, "30067dee306ab658d31878f1b269295276a61012b1f1d00496b64082f2d3daf4"), looks := true }, kinds := [], alts := [], laidByText := true, laidKinds := [.data, .data, .data, .data, .handle, .sentinel, .sentinel, .listed, .data, .pinned], laidTests := true, laidLooks := .later }
def TreeOpenUptoCardSaid : Prop := Claim7.holds Tryz.pinned (.plain (OpenSpec.upto treeOpenSpec)) treeOpenUptoCard

/-- THE SECOND FORM's CARD OF 'furrowlaw7.TreeChoices'. -/
def treeChoicesUptoCard : Claim7 := { stood := { row := treeChoicesUptoRow, standIns := [], harness := (true, "30067dee306ab658d31878f1b269295276a61012b1f1d00496b64082f2d3daf4"), looks := true }, kinds := [], alts := [], laidByText := true, laidKinds := [.data, .data, .data, .data, .handle, .sentinel, .sentinel, .listed, .data, .pinned], laidTests := true, laidLooks := .later }
def TreeChoicesUptoCardSaid : Prop := Claim7.holds Tryz.pinned (.plain (OpenSpec.upto treeChoicesSpec)) treeChoicesUptoCard
end Rows
end Go.Proofs.YtejjlojfgcgopaaGreatDoor
