/-
  DERIVED. GIVEN WITH THE SEED: THE CARDS: each row of YtffcldkblcmmiaaGreatDoorRows.lean that lists a variable, with what it lists TIED to the program's text (the seventh form; the later family's looks); each row that meets fmt, with fmt's text TOLD by the authors' own Lean function (tested against real Go, not proved from fmt's source: count such statements apart). THE CARD IS WHAT COUNTS. Prove the row's statement (the work); the ties are given (YtffcldkblcmmiaaGreatDoorTie.lean); close each card by the builder's one call (the guide's Derived/Test/ToyasCard.lean, 'card_holds'). Laid BY PROGRAM, IN A SANDBOX (cutbox-door.mjs). By AI agents, Wed Nov 11 2026. No macro, syntax, notation, axiom, sorry.
-/
import Derived.Test.YtffcldkblcmmiaaGreatDoorRows
import GoSem.ClaimSeven
namespace Go.Proofs.YtffcldkblcmmiaaGreatDoor
namespace Rows

/-- THE TIED CARD OF 'furrowlaw7.TreeText'. -/
def treeTextCard : Claim7 := { stood := { row := treeTextRow, standIns := [], harness := (true, "2de53bcdb2337ed3e67cfeee9e1566543e1722368d89a5e2a15475534ee4f2b2"), looks := true }, kinds := [], alts := [], laidByText := true, laidKinds := [.data, .data, .data, .data, .handle, .sentinel, .sentinel, .listed, .data, .pinned], laidTests := true, laidLooks := .later }
def TreeTextCardSaid : Prop := Claim7.holds Tryz.pinned (.plain (OpenSpec.ofChange treeTextSpec)) treeTextCard

/-- THE SECOND FORM's CARD OF 'furrowlaw7.TreeText'. -/
def treeTextUptoCard : Claim7 := { stood := { row := treeTextUptoRow, standIns := [], harness := (true, "2de53bcdb2337ed3e67cfeee9e1566543e1722368d89a5e2a15475534ee4f2b2"), looks := true }, kinds := [], alts := [], laidByText := true, laidKinds := [.data, .data, .data, .data, .handle, .sentinel, .sentinel, .listed, .data, .pinned], laidTests := true, laidLooks := .later }
def TreeTextUptoCardSaid : Prop := Claim7.holds Tryz.pinned (.plain (OpenSpec.upto treeTextSpec)) treeTextUptoCard
end Rows
end Go.Proofs.YtffcldkblcmmiaaGreatDoor
