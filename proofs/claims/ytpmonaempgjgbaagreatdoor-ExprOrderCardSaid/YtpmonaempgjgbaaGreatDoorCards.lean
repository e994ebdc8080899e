/-
  DERIVED. GIVEN WITH THE SEED: THE CARDS: each row of YtpmonaempgjgbaaGreatDoorRows.lean that lists a variable, with what it lists TIED to the program's text (the seventh form; the later family's looks); each row that meets fmt, with fmt's text TOLD by the authors' own Lean function (tested against real Go, not proved from fmt's source: count such statements apart). THE CARD IS WHAT COUNTS. Prove the row's statement (the work); the ties are given (YtpmonaempgjgbaaGreatDoorTie.lean); close each card by the builder's one call (the guide's Derived/Test/ToyasCard.lean, 'card_holds'). Laid BY PROGRAM, IN A SANDBOX (cutbox-door.mjs). By AI agents, Wed Nov 11 2026. No macro, syntax, notation, axiom, sorry.
-/
import Derived.Test.YtpmonaempgjgbaaGreatDoorRows
import GoSem.ClaimSeven
namespace Go.Proofs.YtpmonaempgjgbaaGreatDoor
namespace Rows

/-- THE TIED CARD OF 'furrowlaw22.FreshMany'. -/
def freshManyCard : Claim7 := { stood := { row := freshManyRow, standIns := [], harness := (true, "4f6f992887abff7798555deebbeb3b2371414666f62490f36f4199f1fef5246c"), looks := true }, kinds := [], alts := [], laidByText := true, laidKinds := [.data, .data, .data, .sentinel, .sentinel, .listed, .data], laidTests := true, laidLooks := .later }
def FreshManyCardSaid : Prop := Claim7.holds Tryz.pinned (.plain (OpenSpec.ofChange freshManySpec)) freshManyCard

/-- THE TIED CARD OF 'furrowlaw5.ExprWords'. -/
def exprWordsCard : Claim7 := { stood := { row := exprWordsRow, standIns := [], harness := (true, "4f6f992887abff7798555deebbeb3b2371414666f62490f36f4199f1fef5246c"), looks := true }, kinds := [], alts := [], laidByText := true, laidKinds := [.data, .data, .data, .handle, .sentinel, .sentinel, .listed, .data], laidTests := true, laidLooks := .later }
def ExprWordsCardSaid : Prop := Claim7.holds Tryz.pinned (.plain (OpenSpec.ofChange exprWordsSpec)) exprWordsCard

/-- THE TIED CARD OF 'furrowlaw5.ExprBack'. -/
def exprBackCard : Claim7 := { stood := { row := exprBackRow, standIns := [], harness := (true, "4f6f992887abff7798555deebbeb3b2371414666f62490f36f4199f1fef5246c"), looks := true }, kinds := [], alts := [], laidByText := true, laidKinds := [.data, .data, .data, .handle, .sentinel, .sentinel, .listed, .data], laidTests := true, laidLooks := .later }
def ExprBackCardSaid : Prop := Claim7.holds Tryz.pinned (.plain (OpenSpec.ofChange exprBackSpec)) exprBackCard

/-- THE TIED CARD OF 'furrowlaw5.ExprOrder'. -/
def exprOrderCard : Claim7 := { stood := { row := exprOrderRow, standIns := [], harness := (true, "4f6f992887abff7798555deebbeb3b2371414666f62490f36f4199f1fef5246c"), looks := true }, kinds := [], alts := [], laidByText := true, laidKinds := [.data, .data, .data, .handle, .sentinel, .sentinel, .listed, .data], laidTests := true, laidLooks := .later }
def ExprOrderCardSaid : Prop := Claim7.holds Tryz.pinned (.plain (OpenSpec.ofChange exprOrderSpec)) exprOrderCard

/-- THE TIED CARD OF 'furrowlaw5.ExprDeep'. -/
def exprDeepCard : Claim7 := { stood := { row := exprDeepRow, standIns := [], harness := (true, "4f6f992887abff7798555deebbeb3b2371414666f62490f36f4199f1fef5246c"), looks := true }, kinds := [], alts := [], laidByText := true, laidKinds := [.data, .data, .data, .handle, .sentinel, .sentinel, .listed, .data], laidTests := true, laidLooks := .later }
def ExprDeepCardSaid : Prop := Claim7.holds Tryz.pinned (.plain (OpenSpec.ofChange exprDeepSpec)) exprDeepCard

/-- THE SECOND FORM's CARD OF 'furrowlaw22.FreshMany'. -/
def freshManyUptoCard : Claim7 := { stood := { row := freshManyUptoRow, standIns := [], harness := (true, "4f6f992887abff7798555deebbeb3b2371414666f62490f36f4199f1fef5246c"), looks := true }, kinds := [], alts := [], laidByText := true, laidKinds := [.data, .data, .data, .sentinel, .sentinel, .listed, .data], laidTests := true, laidLooks := .later }
def FreshManyUptoCardSaid : Prop := Claim7.holds Tryz.pinned (.plain (OpenSpec.upto freshManySpec)) freshManyUptoCard

/-- THE SECOND FORM's CARD OF 'furrowlaw5.ExprWords'. -/
def exprWordsUptoCard : Claim7 := { stood := { row := exprWordsUptoRow, standIns := [], harness := (true, "4f6f992887abff7798555deebbeb3b2371414666f62490f36f4199f1fef5246c"), looks := true }, kinds := [], alts := [], laidByText := true, laidKinds := [.data, .data, .data, .handle, .sentinel, .sentinel, .listed, .data], laidTests := true, laidLooks := .later }
def ExprWordsUptoCardSaid : Prop := Claim7.holds Tryz.pinned (.plain (OpenSpec.upto exprWordsSpec)) exprWordsUptoCard

/-- THE SECOND FORM's CARD OF 'furrowlaw5.ExprBack'. -/
def exprBackUptoCard : Claim7 := { stood := { row := exprBackUptoRow, standIns := [], harness := (true, "4f6f992887abff7798555deebbeb3b2371414666f62490f36f4199f1fef5246c"), looks := true }, kinds := [], alts := [], laidByText := true, laidKinds := [.data, .data, .data, .handle, .sentinel, .sentinel, .listed, .data], laidTests := true, laidLooks := .later }
def ExprBackUptoCardSaid : Prop := Claim7.holds Tryz.pinned (.plain (OpenSpec.upto exprBackSpec)) exprBackUptoCard

/-- THE SECOND FORM's CARD OF 'furrowlaw5.ExprOrder'. -/
def exprOrderUptoCard : Claim7 := { stood := { row := exprOrderUptoRow, standIns := [], harness := (true, "4f6f992887abff7798555deebbeb3b2371414666f62490f36f4199f1fef5246c"), looks := true }, kinds := [], alts := [], laidByText := true, laidKinds := [.data, .data, .data, .handle, .sentinel, .sentinel, .listed, .data], laidTests := true, laidLooks := .later }
def ExprOrderUptoCardSaid : Prop := Claim7.holds Tryz.pinned (.plain (OpenSpec.upto exprOrderSpec)) exprOrderUptoCard

/-- THE SECOND FORM's CARD OF 'furrowlaw5.ExprDeep'. -/
def exprDeepUptoCard : Claim7 := { stood := { row := exprDeepUptoRow, standIns := [], harness := (true, "4f6f992887abff7798555deebbeb3b2371414666f62490f36f4199f1fef5246c"), looks := true }, kinds := [], alts := [], laidByText := true, laidKinds := [.data, .data, .data, .handle, .sentinel, .sentinel, .listed, .data], laidTests := true, laidLooks := .later }
def ExprDeepUptoCardSaid : Prop := Claim7.holds Tryz.pinned (.plain (OpenSpec.upto exprDeepSpec)) exprDeepUptoCard
end Rows
end Go.Proofs.YtpmonaempgjgbaaGreatDoor
