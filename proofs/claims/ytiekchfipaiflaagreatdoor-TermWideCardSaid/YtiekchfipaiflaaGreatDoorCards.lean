/-
  DERIVED. GIVEN WITH THE SEED: THE CARDS: each row of YtiekchfipaiflaaGreatDoorRows.lean that lists a variable, with what it lists TIED to the program's text (the seventh form; the later family's looks); each row that meets fmt, with fmt's text TOLD by the authors' own Lean function (tested against real Go, not proved from fmt's source: count such statements apart). THE CARD IS WHAT COUNTS. Prove the row's statement (the work); the ties are given (YtiekchfipaiflaaGreatDoorTie.lean); close each card by the builder's one call (the guide's Derived/Test/ToyasCard.lean, 'card_holds'). Laid BY PROGRAM, IN A SANDBOX (cutbox-door.mjs). By AI agents, Wed Nov 11 2026. No macro, syntax, notation, axiom, sorry.
-/
import Derived.Test.YtiekchfipaiflaaGreatDoorRows
import GoSem.ClaimSeven
namespace Go.Proofs.YtiekchfipaiflaaGreatDoor
namespace Rows

/-- THE TIED CARD OF 'tiklaw12.TermTitle'. -/
def termTitleCard : Claim7 := { stood := { row := termTitleRow, standIns := [], harness := (true, "9bc957bae79e9e6bc37ea70595c118f646773ad82e27f6808906c738bdeba654"), looks := false }, kinds := [], alts := [], laidByText := true, laidKinds := [.data, .data, .data, .widerDeep, .widerDeep, .data, .pinned], laidTests := true, laidLooks := .later }
def TermTitleCardSaid : Prop := Claim7.holds Tryz.pinned (.plain (OpenSpec.ofChange termTitleSpec)) termTitleCard

/-- THE TIED CARD OF 'tiklaw12.TermWide'. -/
def termWideCard : Claim7 := { stood := { row := termWideRow, standIns := [], harness := (true, "9bc957bae79e9e6bc37ea70595c118f646773ad82e27f6808906c738bdeba654"), looks := false }, kinds := [], alts := [], laidByText := true, laidKinds := [.data, .data, .data, .widerDeep, .widerDeep, .data, .pinned], laidTests := true, laidLooks := .later }
def TermWideCardSaid : Prop := Claim7.holds Tryz.pinned (.plain (OpenSpec.ofChange termWideSpec)) termWideCard

/-- THE TIED CARD OF 'tiklaw12.TermPieces'. -/
def termPiecesCard : Claim7 := { stood := { row := termPiecesRow, standIns := [], harness := (true, "9bc957bae79e9e6bc37ea70595c118f646773ad82e27f6808906c738bdeba654"), looks := false }, kinds := [], alts := [], laidByText := true, laidKinds := [.data, .data, .data, .widerDeep, .widerDeep, .data, .pinned], laidTests := true, laidLooks := .later }
def TermPiecesCardSaid : Prop := Claim7.holds Tryz.pinned (.plain (OpenSpec.ofChange termPiecesSpec)) termPiecesCard

/-- THE TIED CARD OF 'tiklaw12.TermBack'. -/
def termBackCard : Claim7 := { stood := { row := termBackRow, standIns := [], harness := (true, "9bc957bae79e9e6bc37ea70595c118f646773ad82e27f6808906c738bdeba654"), looks := false }, kinds := [], alts := [], laidByText := true, laidKinds := [.data, .data, .data, .widerDeep, .widerDeep, .data, .pinned], laidTests := true, laidLooks := .later }
def TermBackCardSaid : Prop := Claim7.holds Tryz.pinned (.plain (OpenSpec.ofChange termBackSpec)) termBackCard

/-- THE TIED CARD OF 'tiklaw12.TermErases'. -/
def termErasesCard : Claim7 := { stood := { row := termErasesRow, standIns := [], harness := (true, "9bc957bae79e9e6bc37ea70595c118f646773ad82e27f6808906c738bdeba654"), looks := false }, kinds := [], alts := [], laidByText := true, laidKinds := [.data, .data, .data, .widerDeep, .widerDeep, .data, .pinned], laidTests := true, laidLooks := .later }
def TermErasesCardSaid : Prop := Claim7.holds Tryz.pinned (.plain (OpenSpec.ofChange termErasesSpec)) termErasesCard

/-- THE SECOND FORM's CARD OF 'tiklaw12.TermTitle'. -/
def termTitleUptoCard : Claim7 := { stood := { row := termTitleUptoRow, standIns := [], harness := (true, "9bc957bae79e9e6bc37ea70595c118f646773ad82e27f6808906c738bdeba654"), looks := false }, kinds := [], alts := [], laidByText := true, laidKinds := [.data, .data, .data, .widerDeep, .widerDeep, .data, .pinned], laidTests := true, laidLooks := .later }
def TermTitleUptoCardSaid : Prop := Claim7.holds Tryz.pinned (.plain (OpenSpec.upto termTitleSpec)) termTitleUptoCard

/-- THE SECOND FORM's CARD OF 'tiklaw12.TermWide'. -/
def termWideUptoCard : Claim7 := { stood := { row := termWideUptoRow, standIns := [], harness := (true, "9bc957bae79e9e6bc37ea70595c118f646773ad82e27f6808906c738bdeba654"), looks := false }, kinds := [], alts := [], laidByText := true, laidKinds := [.data, .data, .data, .widerDeep, .widerDeep, .data, .pinned], laidTests := true, laidLooks := .later }
def TermWideUptoCardSaid : Prop := Claim7.holds Tryz.pinned (.plain (OpenSpec.upto termWideSpec)) termWideUptoCard

/-- THE SECOND FORM's CARD OF 'tiklaw12.TermPieces'. -/
def termPiecesUptoCard : Claim7 := { stood := { row := termPiecesUptoRow, standIns := [], harness := (true, "9bc957bae79e9e6bc37ea70595c118f646773ad82e27f6808906c738bdeba654"), looks := false }, kinds := [], alts := [], laidByText := true, laidKinds := [.data, .data, .data, .widerDeep, .widerDeep, .data, .pinned], laidTests := true, laidLooks := .later }
def TermPiecesUptoCardSaid : Prop := Claim7.holds Tryz.pinned (.plain (OpenSpec.upto termPiecesSpec)) termPiecesUptoCard

/-- THE SECOND FORM's CARD OF 'tiklaw12.TermBack'. -/
def termBackUptoCard : Claim7 := { stood := { row := termBackUptoRow, standIns := [], harness := (true, "9bc957bae79e9e6bc37ea70595c118f646773ad82e27f6808906c738bdeba654"), looks := false }, kinds := [], alts := [], laidByText := true, laidKinds := [.data, .data, .data, .widerDeep, .widerDeep, .data, .pinned], laidTests := true, laidLooks := .later }
def TermBackUptoCardSaid : Prop := Claim7.holds Tryz.pinned (.plain (OpenSpec.upto termBackSpec)) termBackUptoCard

/-- THE SECOND FORM's CARD OF 'tiklaw12.TermErases'. -/
def termErasesUptoCard : Claim7 := { stood := { row := termErasesUptoRow, standIns := [], harness := (true, "9bc957bae79e9e6bc37ea70595c118f646773ad82e27f6808906c738bdeba654"), looks := false }, kinds := [], alts := [], laidByText := true, laidKinds := [.data, .data, .data, .widerDeep, .widerDeep, .data, .pinned], laidTests := true, laidLooks := .later }
def TermErasesUptoCardSaid : Prop := Claim7.holds Tryz.pinned (.plain (OpenSpec.upto termErasesSpec)) termErasesUptoCard
end Rows
end Go.Proofs.YtiekchfipaiflaaGreatDoor
