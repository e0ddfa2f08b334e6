/-
  DERIVED. GIVEN WITH THE SEED: THE CARDS: each row of YtjffpbodflkehaaGreatDoorRows.lean that lists a variable, with what it lists TIED to the program's text (the seventh form; the later family's looks); each row that meets fmt, with fmt's text TOLD by the authors' own Lean function (tested against real Go, not proved from fmt's source: count such statements apart). THE CARD IS WHAT COUNTS. Prove the row's statement (the work); the ties are given (YtjffpbodflkehaaGreatDoorTie.lean); close each card by the builder's one call (the guide's Derived/Test/ToyasCard.lean, 'card_holds'). Laid BY PROGRAM, IN A SANDBOX (cutbox-door.mjs). By AI agents, Wed Nov 11 2026. No macro, syntax, notation, axiom, sorry.
-/
import Derived.Test.YtjffpbodflkehaaGreatDoorRows
import GoSem.ClaimSeven
namespace Go.Proofs.YtjffpbodflkehaaGreatDoor
namespace Rows

/-- THE TIED CARD OF 'veneerlaw20.DropHeld'. -/
def dropHeldCard : Claim7 := { stood := { row := dropHeldRow, standIns := [], harness := (true, "afa665a21c821d8acbf25603997c95c63d0d2a22189160898dd5b70052d52a4f"), looks := false }, kinds := [], alts := [], laidByText := true, laidKinds := [.data, .data, .data], laidTests := true, laidLooks := .later }
def DropHeldCardSaid : Prop := Claim7.holds Tryz.pinned (.plain (OpenSpec.ofChange dropHeldSpec)) dropHeldCard

/-- THE TIED CARD OF 'veneerlaw20.DropNone'. -/
def dropNoneCard : Claim7 := { stood := { row := dropNoneRow, standIns := [], harness := (true, "afa665a21c821d8acbf25603997c95c63d0d2a22189160898dd5b70052d52a4f"), looks := false }, kinds := [], alts := [], laidByText := true, laidKinds := [.data, .data, .data], laidTests := true, laidLooks := .later }
def DropNoneCardSaid : Prop := Claim7.holds Tryz.pinned (.plain (OpenSpec.ofChange dropNoneSpec)) dropNoneCard

/-- THE TIED CARD OF 'veneerlaw20.DropDirs'. -/
def dropDirsCard : Claim7 := { stood := { row := dropDirsRow, standIns := [], harness := (true, "afa665a21c821d8acbf25603997c95c63d0d2a22189160898dd5b70052d52a4f"), looks := false }, kinds := [], alts := [], laidByText := true, laidKinds := [.data, .data, .data], laidTests := true, laidLooks := .later }
def DropDirsCardSaid : Prop := Claim7.holds Tryz.pinned (.plain (OpenSpec.ofChange dropDirsSpec)) dropDirsCard

/-- THE TIED CARD OF 'veneerlaw21.TurnDeep'. -/
def turnDeepCard : Claim7 := { stood := { row := turnDeepRow, standIns := [], harness := (true, "afa665a21c821d8acbf25603997c95c63d0d2a22189160898dd5b70052d52a4f"), looks := false }, kinds := [], alts := [], laidByText := true, laidKinds := [.data, .data, .data], laidTests := true, laidLooks := .later }
def TurnDeepCardSaid : Prop := Claim7.holds Tryz.pinned (.plain (OpenSpec.ofChange turnDeepSpec)) turnDeepCard

/-- THE TIED CARD OF 'veneerlaw21.TurnBack'. -/
def turnBackCard : Claim7 := { stood := { row := turnBackRow, standIns := [], harness := (true, "afa665a21c821d8acbf25603997c95c63d0d2a22189160898dd5b70052d52a4f"), looks := false }, kinds := [], alts := [], laidByText := true, laidKinds := [.data, .data, .data], laidTests := true, laidLooks := .later }
def TurnBackCardSaid : Prop := Claim7.holds Tryz.pinned (.plain (OpenSpec.ofChange turnBackSpec)) turnBackCard

/-- THE TIED CARD OF 'veneerlaw21.TurnOver'. -/
def turnOverCard : Claim7 := { stood := { row := turnOverRow, standIns := [], harness := (true, "afa665a21c821d8acbf25603997c95c63d0d2a22189160898dd5b70052d52a4f"), looks := false }, kinds := [], alts := [], laidByText := true, laidKinds := [.data, .data, .data], laidTests := true, laidLooks := .later }
def TurnOverCardSaid : Prop := Claim7.holds Tryz.pinned (.plain (OpenSpec.ofChange turnOverSpec)) turnOverCard

/-- THE SECOND FORM's CARD OF 'veneerlaw20.DropHeld'. -/
def dropHeldUptoCard : Claim7 := { stood := { row := dropHeldUptoRow, standIns := [], harness := (true, "afa665a21c821d8acbf25603997c95c63d0d2a22189160898dd5b70052d52a4f"), looks := false }, kinds := [], alts := [], laidByText := true, laidKinds := [.data, .data, .data], laidTests := true, laidLooks := .later }
def DropHeldUptoCardSaid : Prop := Claim7.holds Tryz.pinned (.plain (OpenSpec.upto dropHeldSpec)) dropHeldUptoCard

/-- THE SECOND FORM's CARD OF 'veneerlaw20.DropNone'. -/
def dropNoneUptoCard : Claim7 := { stood := { row := dropNoneUptoRow, standIns := [], harness := (true, "afa665a21c821d8acbf25603997c95c63d0d2a22189160898dd5b70052d52a4f"), looks := false }, kinds := [], alts := [], laidByText := true, laidKinds := [.data, .data, .data], laidTests := true, laidLooks := .later }
def DropNoneUptoCardSaid : Prop := Claim7.holds Tryz.pinned (.plain (OpenSpec.upto dropNoneSpec)) dropNoneUptoCard

/-- THE SECOND FORM's CARD OF 'veneerlaw20.DropDirs'. -/
def dropDirsUptoCard : Claim7 := { stood := { row := dropDirsUptoRow, standIns := [], harness := (true, "afa665a21c821d8acbf25603997c95c63d0d2a22189160898dd5b70052d52a4f"), looks := false }, kinds := [], alts := [], laidByText := true, laidKinds := [.data, .data, .data], laidTests := true, laidLooks := .later }
def DropDirsUptoCardSaid : Prop := Claim7.holds Tryz.pinned (.plain (OpenSpec.upto dropDirsSpec)) dropDirsUptoCard

/-- THE SECOND FORM's CARD OF 'veneerlaw21.TurnDeep'. -/
def turnDeepUptoCard : Claim7 := { stood := { row := turnDeepUptoRow, standIns := [], harness := (true, "afa665a21c821d8acbf25603997c95c63d0d2a22189160898dd5b70052d52a4f"), looks := false }, kinds := [], alts := [], laidByText := true, laidKinds := [.data, .data, .data], laidTests := true, laidLooks := .later }
def TurnDeepUptoCardSaid : Prop := Claim7.holds Tryz.pinned (.plain (OpenSpec.upto turnDeepSpec)) turnDeepUptoCard

/-- THE SECOND FORM's CARD OF 'veneerlaw21.TurnBack'. -/
def turnBackUptoCard : Claim7 := { stood := { row := turnBackUptoRow, standIns := [], harness := (true, "afa665a21c821d8acbf25603997c95c63d0d2a22189160898dd5b70052d52a4f"), looks := false }, kinds := [], alts := [], laidByText := true, laidKinds := [.data, .data, .data], laidTests := true, laidLooks := .later }
def TurnBackUptoCardSaid : Prop := Claim7.holds Tryz.pinned (.plain (OpenSpec.upto turnBackSpec)) turnBackUptoCard

/-- THE SECOND FORM's CARD OF 'veneerlaw21.TurnOver'. -/
def turnOverUptoCard : Claim7 := { stood := { row := turnOverUptoRow, standIns := [], harness := (true, "afa665a21c821d8acbf25603997c95c63d0d2a22189160898dd5b70052d52a4f"), looks := false }, kinds := [], alts := [], laidByText := true, laidKinds := [.data, .data, .data], laidTests := true, laidLooks := .later }
def TurnOverUptoCardSaid : Prop := Claim7.holds Tryz.pinned (.plain (OpenSpec.upto turnOverSpec)) turnOverUptoCard
end Rows
end Go.Proofs.YtjffpbodflkehaaGreatDoor
