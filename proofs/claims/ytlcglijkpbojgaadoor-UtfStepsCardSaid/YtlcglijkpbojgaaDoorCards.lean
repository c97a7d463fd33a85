/-
  DERIVED. GIVEN WITH THE SEED: THE CARDS: each row of YtlcglijkpbojgaaDoorRows.lean that lists a variable, with what it lists TIED to the program's text (the seventh form; the later family's looks); each row that meets fmt, with fmt's text TOLD by the authors' own Lean function (tested against real Go, not proved from fmt's source: count such statements apart). THE CARD IS WHAT COUNTS. Prove the row's statement (the work); the ties are given (YtlcglijkpbojgaaDoorTie.lean); close each card by the builder's one call (the guide's Derived/Test/ToyasCard.lean, 'card_holds'). Laid BY PROGRAM, IN A SANDBOX (cutbox-door.mjs). By AI agents, Wed Nov 11 2026. No macro, syntax, notation, axiom, sorry.
-/
import Derived.Test.YtlcglijkpbojgaaDoorRows
import GoSem.ClaimSeven
namespace Go.Proofs.YtlcglijkpbojgaaDoor
namespace Rows

/-- THE TIED CARD OF 'quillpenlaw01.DialectChecks'. -/
def dialectChecksCard : Claim7 := { stood := { row := dialectChecksRow, standIns := [], harness := (true, "50adeae04356bdcedbf966aeea641943efdb6d22aef0163da746962ee71f62d7"), looks := false }, kinds := [], alts := [], laidByText := true, laidKinds := [.widerDeep], laidTests := true, laidLooks := .later }
def DialectChecksCardSaid : Prop := Claim7.holds Tryd.pinned (.plain (OpenSpec.ofChange dialectChecksSpec)) dialectChecksCard

/-- THE TIED CARD OF 'quillpenlaw01.DialectLimits'. -/
def dialectLimitsCard : Claim7 := { stood := { row := dialectLimitsRow, standIns := [], harness := (true, "50adeae04356bdcedbf966aeea641943efdb6d22aef0163da746962ee71f62d7"), looks := false }, kinds := [], alts := [], laidByText := true, laidKinds := [.widerDeep], laidTests := true, laidLooks := .later }
def DialectLimitsCardSaid : Prop := Claim7.holds Tryd.pinned (.plain (OpenSpec.ofChange dialectLimitsSpec)) dialectLimitsCard

/-- THE TIED CARD OF 'quillpenlaw02.UtfSteps'. -/
def utfStepsCard : Claim7 := { stood := { row := utfStepsRow, standIns := [], harness := (true, "50adeae04356bdcedbf966aeea641943efdb6d22aef0163da746962ee71f62d7"), looks := false }, kinds := [], alts := [], laidByText := true, laidKinds := [.data], laidTests := true, laidLooks := .later }
def UtfStepsCardSaid : Prop := Claim7.holds Tryd.pinned (.plain (OpenSpec.ofChange utfStepsSpec)) utfStepsCard

/-- THE TIED CARD OF 'quillpenlaw02.UtfPieces'. -/
def utfPiecesCard : Claim7 := { stood := { row := utfPiecesRow, standIns := [], harness := (true, "50adeae04356bdcedbf966aeea641943efdb6d22aef0163da746962ee71f62d7"), looks := false }, kinds := [], alts := [], laidByText := true, laidKinds := [.data], laidTests := true, laidLooks := .later }
def UtfPiecesCardSaid : Prop := Claim7.holds Tryd.pinned (.plain (OpenSpec.ofChange utfPiecesSpec)) utfPiecesCard

/-- THE TIED CARD OF 'quillpenlaw02.UtfBad'. -/
def utfBadCard : Claim7 := { stood := { row := utfBadRow, standIns := [], harness := (true, "50adeae04356bdcedbf966aeea641943efdb6d22aef0163da746962ee71f62d7"), looks := false }, kinds := [], alts := [], laidByText := true, laidKinds := [.data], laidTests := true, laidLooks := .later }
def UtfBadCardSaid : Prop := Claim7.holds Tryd.pinned (.plain (OpenSpec.ofChange utfBadSpec)) utfBadCard

/-- THE TIED CARD OF 'quillpenlaw02.UtfTexts'. -/
def utfTextsCard : Claim7 := { stood := { row := utfTextsRow, standIns := [], harness := (true, "50adeae04356bdcedbf966aeea641943efdb6d22aef0163da746962ee71f62d7"), looks := false }, kinds := [], alts := [], laidByText := true, laidKinds := [.data], laidTests := true, laidLooks := .later }
def UtfTextsCardSaid : Prop := Claim7.holds Tryd.pinned (.plain (OpenSpec.ofChange utfTextsSpec)) utfTextsCard

/-- THE SECOND FORM's CARD OF 'quillpenlaw01.DialectChecks'. -/
def dialectChecksUptoCard : Claim7 := { stood := { row := dialectChecksUptoRow, standIns := [], harness := (true, "50adeae04356bdcedbf966aeea641943efdb6d22aef0163da746962ee71f62d7"), looks := false }, kinds := [], alts := [], laidByText := true, laidKinds := [.widerDeep], laidTests := true, laidLooks := .later }
def DialectChecksUptoCardSaid : Prop := Claim7.holds Tryd.pinned (.plain (OpenSpec.upto dialectChecksSpec)) dialectChecksUptoCard

/-- THE SECOND FORM's CARD OF 'quillpenlaw01.DialectLimits'. -/
def dialectLimitsUptoCard : Claim7 := { stood := { row := dialectLimitsUptoRow, standIns := [], harness := (true, "50adeae04356bdcedbf966aeea641943efdb6d22aef0163da746962ee71f62d7"), looks := false }, kinds := [], alts := [], laidByText := true, laidKinds := [.widerDeep], laidTests := true, laidLooks := .later }
def DialectLimitsUptoCardSaid : Prop := Claim7.holds Tryd.pinned (.plain (OpenSpec.upto dialectLimitsSpec)) dialectLimitsUptoCard

/-- THE SECOND FORM's CARD OF 'quillpenlaw02.UtfSteps'. -/
def utfStepsUptoCard : Claim7 := { stood := { row := utfStepsUptoRow, standIns := [], harness := (true, "50adeae04356bdcedbf966aeea641943efdb6d22aef0163da746962ee71f62d7"), looks := false }, kinds := [], alts := [], laidByText := true, laidKinds := [.data], laidTests := true, laidLooks := .later }
def UtfStepsUptoCardSaid : Prop := Claim7.holds Tryd.pinned (.plain (OpenSpec.upto utfStepsSpec)) utfStepsUptoCard

/-- THE SECOND FORM's CARD OF 'quillpenlaw02.UtfPieces'. -/
def utfPiecesUptoCard : Claim7 := { stood := { row := utfPiecesUptoRow, standIns := [], harness := (true, "50adeae04356bdcedbf966aeea641943efdb6d22aef0163da746962ee71f62d7"), looks := false }, kinds := [], alts := [], laidByText := true, laidKinds := [.data], laidTests := true, laidLooks := .later }
def UtfPiecesUptoCardSaid : Prop := Claim7.holds Tryd.pinned (.plain (OpenSpec.upto utfPiecesSpec)) utfPiecesUptoCard

/-- THE SECOND FORM's CARD OF 'quillpenlaw02.UtfBad'. -/
def utfBadUptoCard : Claim7 := { stood := { row := utfBadUptoRow, standIns := [], harness := (true, "50adeae04356bdcedbf966aeea641943efdb6d22aef0163da746962ee71f62d7"), looks := false }, kinds := [], alts := [], laidByText := true, laidKinds := [.data], laidTests := true, laidLooks := .later }
def UtfBadUptoCardSaid : Prop := Claim7.holds Tryd.pinned (.plain (OpenSpec.upto utfBadSpec)) utfBadUptoCard

/-- THE SECOND FORM's CARD OF 'quillpenlaw02.UtfTexts'. -/
def utfTextsUptoCard : Claim7 := { stood := { row := utfTextsUptoRow, standIns := [], harness := (true, "50adeae04356bdcedbf966aeea641943efdb6d22aef0163da746962ee71f62d7"), looks := false }, kinds := [], alts := [], laidByText := true, laidKinds := [.data], laidTests := true, laidLooks := .later }
def UtfTextsUptoCardSaid : Prop := Claim7.holds Tryd.pinned (.plain (OpenSpec.upto utfTextsSpec)) utfTextsUptoCard
end Rows
end Go.Proofs.YtlcglijkpbojgaaDoor
