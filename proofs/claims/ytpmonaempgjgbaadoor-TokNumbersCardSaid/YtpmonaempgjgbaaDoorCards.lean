/-
  DERIVED. GIVEN WITH THE SEED: THE CARDS: each row of YtpmonaempgjgbaaDoorRows.lean that lists a variable, with what it lists TIED to the program's text (the seventh form; the later family's looks); each row that meets fmt, with fmt's text TOLD by the authors' own Lean function (tested against real Go, not proved from fmt's source: count such statements apart). THE CARD IS WHAT COUNTS. Prove the row's statement (the work); the ties are given (YtpmonaempgjgbaaDoorTie.lean); close each card by the builder's one call (the guide's Derived/Test/ToyasCard.lean, 'card_holds'). Laid BY PROGRAM, IN A SANDBOX (cutbox-door.mjs). By AI agents, Wed Nov 11 2026. No macro, syntax, notation, axiom, sorry.
-/
import Derived.Test.YtpmonaempgjgbaaDoorRows
import GoSem.ClaimSeven
namespace Go.Proofs.YtpmonaempgjgbaaDoor
namespace Rows

/-- THE TIED CARD OF 'furrowlaw4.TokReplace'. -/
def tokReplaceCard : Claim7 := { stood := { row := tokReplaceRow, standIns := [], harness := (true, "caabba127ca61af663c045ed74200d1ac491352f9a93b30bad3cc1b89bcffd0a"), looks := true }, kinds := [], alts := [], laidByText := true, laidKinds := [.data, .data, .data, .sentinel, .sentinel, .listed, .data], laidTests := true, laidLooks := .later }
def TokReplaceCardSaid : Prop := Claim7.holds Tryd.pinned (.plain (OpenSpec.ofChange tokReplaceSpec)) tokReplaceCard

/-- THE TIED CARD OF 'furrowlaw4.TokBlanks'. -/
def tokBlanksCard : Claim7 := { stood := { row := tokBlanksRow, standIns := [], harness := (true, "caabba127ca61af663c045ed74200d1ac491352f9a93b30bad3cc1b89bcffd0a"), looks := true }, kinds := [], alts := [], laidByText := true, laidKinds := [.data, .data, .data, .sentinel, .sentinel, .listed, .data], laidTests := true, laidLooks := .later }
def TokBlanksCardSaid : Prop := Claim7.holds Tryd.pinned (.plain (OpenSpec.ofChange tokBlanksSpec)) tokBlanksCard

/-- THE TIED CARD OF 'furrowlaw4.TokJoined'. -/
def tokJoinedCard : Claim7 := { stood := { row := tokJoinedRow, standIns := [], harness := (true, "caabba127ca61af663c045ed74200d1ac491352f9a93b30bad3cc1b89bcffd0a"), looks := true }, kinds := [], alts := [], laidByText := true, laidKinds := [.data, .data, .data, .sentinel, .sentinel, .listed, .data], laidTests := true, laidLooks := .later }
def TokJoinedCardSaid : Prop := Claim7.holds Tryd.pinned (.plain (OpenSpec.ofChange tokJoinedSpec)) tokJoinedCard

/-- THE TIED CARD OF 'furrowlaw4.TokNumbers'. -/
def tokNumbersCard : Claim7 := { stood := { row := tokNumbersRow, standIns := [], harness := (true, "caabba127ca61af663c045ed74200d1ac491352f9a93b30bad3cc1b89bcffd0a"), looks := true }, kinds := [], alts := [], laidByText := true, laidKinds := [.data, .data, .data, .handle, .sentinel, .sentinel, .listed, .data], laidTests := true, laidLooks := .later }
def TokNumbersCardSaid : Prop := Claim7.holds Tryd.pinned (.plain (OpenSpec.ofChange tokNumbersSpec)) tokNumbersCard

/-- THE SECOND FORM's CARD OF 'furrowlaw4.TokReplace'. -/
def tokReplaceUptoCard : Claim7 := { stood := { row := tokReplaceUptoRow, standIns := [], harness := (true, "caabba127ca61af663c045ed74200d1ac491352f9a93b30bad3cc1b89bcffd0a"), looks := true }, kinds := [], alts := [], laidByText := true, laidKinds := [.data, .data, .data, .sentinel, .sentinel, .listed, .data], laidTests := true, laidLooks := .later }
def TokReplaceUptoCardSaid : Prop := Claim7.holds Tryd.pinned (.plain (OpenSpec.upto tokReplaceSpec)) tokReplaceUptoCard

/-- THE SECOND FORM's CARD OF 'furrowlaw4.TokBlanks'. -/
def tokBlanksUptoCard : Claim7 := { stood := { row := tokBlanksUptoRow, standIns := [], harness := (true, "caabba127ca61af663c045ed74200d1ac491352f9a93b30bad3cc1b89bcffd0a"), looks := true }, kinds := [], alts := [], laidByText := true, laidKinds := [.data, .data, .data, .sentinel, .sentinel, .listed, .data], laidTests := true, laidLooks := .later }
def TokBlanksUptoCardSaid : Prop := Claim7.holds Tryd.pinned (.plain (OpenSpec.upto tokBlanksSpec)) tokBlanksUptoCard

/-- THE SECOND FORM's CARD OF 'furrowlaw4.TokJoined'. -/
def tokJoinedUptoCard : Claim7 := { stood := { row := tokJoinedUptoRow, standIns := [], harness := (true, "caabba127ca61af663c045ed74200d1ac491352f9a93b30bad3cc1b89bcffd0a"), looks := true }, kinds := [], alts := [], laidByText := true, laidKinds := [.data, .data, .data, .sentinel, .sentinel, .listed, .data], laidTests := true, laidLooks := .later }
def TokJoinedUptoCardSaid : Prop := Claim7.holds Tryd.pinned (.plain (OpenSpec.upto tokJoinedSpec)) tokJoinedUptoCard

/-- THE SECOND FORM's CARD OF 'furrowlaw4.TokNumbers'. -/
def tokNumbersUptoCard : Claim7 := { stood := { row := tokNumbersUptoRow, standIns := [], harness := (true, "caabba127ca61af663c045ed74200d1ac491352f9a93b30bad3cc1b89bcffd0a"), looks := true }, kinds := [], alts := [], laidByText := true, laidKinds := [.data, .data, .data, .handle, .sentinel, .sentinel, .listed, .data], laidTests := true, laidLooks := .later }
def TokNumbersUptoCardSaid : Prop := Claim7.holds Tryd.pinned (.plain (OpenSpec.upto tokNumbersSpec)) tokNumbersUptoCard
end Rows
end Go.Proofs.YtpmonaempgjgbaaDoor
