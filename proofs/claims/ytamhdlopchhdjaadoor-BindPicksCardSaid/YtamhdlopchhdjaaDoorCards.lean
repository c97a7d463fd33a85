/-
  DERIVED. GIVEN WITH THE SEED: THE CARDS: each row of YtamhdlopchhdjaaDoorRows.lean that lists a variable, with what it lists TIED to the program's text (the seventh form; the later family's looks); each row that meets fmt, with fmt's text TOLD by the authors' own Lean function (tested against real Go, not proved from fmt's source: count such statements apart). THE CARD IS WHAT COUNTS. Prove the row's statement (the work); the ties are given (YtamhdlopchhdjaaDoorTie.lean); close each card by the builder's one call (the guide's Derived/Test/ToyasCard.lean, 'card_holds'). Laid BY PROGRAM, IN A SANDBOX (cutbox-door.mjs). By AI agents, Wed Nov 11 2026. No macro, syntax, notation, axiom, sorry.
-/
import Derived.Test.YtamhdlopchhdjaaDoorRows
import GoSem.ClaimSeven
namespace Go.Proofs.YtamhdlopchhdjaaDoor
namespace Rows

/-- THE TIED CARD OF 'quillpenlaw15.HeadNew'. -/
def headNewCard : Claim7 := { stood := { row := headNewRow, standIns := [], harness := (true, "a64d1dfa715e955151d03f317a6c3659e2f9ad20835fb0f379816205a97ed1ed"), looks := false }, kinds := [], alts := [], laidByText := true, laidKinds := [.data], laidTests := true, laidLooks := .later }
def HeadNewCardSaid : Prop := Claim7.holds Tryd.pinned (.plain (OpenSpec.ofChange headNewSpec)) headNewCard

/-- THE TIED CARD OF 'quillpenlaw15.HeadFinds'. -/
def headFindsCard : Claim7 := { stood := { row := headFindsRow, standIns := [], harness := (true, "a64d1dfa715e955151d03f317a6c3659e2f9ad20835fb0f379816205a97ed1ed"), looks := false }, kinds := [], alts := [], laidByText := true, laidKinds := [.data], laidTests := true, laidLooks := .later }
def HeadFindsCardSaid : Prop := Claim7.holds Tryd.pinned (.plain (OpenSpec.ofChange headFindsSpec)) headFindsCard

/-- THE TIED CARD OF 'quillpenlaw15.HeadGets'. -/
def headGetsCard : Claim7 := { stood := { row := headGetsRow, standIns := [], harness := (true, "a64d1dfa715e955151d03f317a6c3659e2f9ad20835fb0f379816205a97ed1ed"), looks := false }, kinds := [], alts := [], laidByText := true, laidKinds := [.data], laidTests := true, laidLooks := .later }
def HeadGetsCardSaid : Prop := Claim7.holds Tryd.pinned (.plain (OpenSpec.ofChange headGetsSpec)) headGetsCard

/-- THE TIED CARD OF 'quillpenlaw15.HeadWithout'. -/
def headWithoutCard : Claim7 := { stood := { row := headWithoutRow, standIns := [], harness := (true, "a64d1dfa715e955151d03f317a6c3659e2f9ad20835fb0f379816205a97ed1ed"), looks := false }, kinds := [], alts := [], laidByText := true, laidKinds := [.data], laidTests := true, laidLooks := .later }
def HeadWithoutCardSaid : Prop := Claim7.holds Tryd.pinned (.plain (OpenSpec.ofChange headWithoutSpec)) headWithoutCard

/-- THE TIED CARD OF 'quillpenlaw19.BindBinds'. -/
def bindBindsCard : Claim7 := { stood := { row := bindBindsRow, standIns := [], harness := (true, "a64d1dfa715e955151d03f317a6c3659e2f9ad20835fb0f379816205a97ed1ed"), looks := false }, kinds := [], alts := [], laidByText := true, laidKinds := [.data], laidTests := true, laidLooks := .later }
def BindBindsCardSaid : Prop := Claim7.holds Tryd.pinned (.plain (OpenSpec.ofChange bindBindsSpec)) bindBindsCard

/-- THE TIED CARD OF 'quillpenlaw19.BindModes'. -/
def bindModesCard : Claim7 := { stood := { row := bindModesRow, standIns := [], harness := (true, "a64d1dfa715e955151d03f317a6c3659e2f9ad20835fb0f379816205a97ed1ed"), looks := false }, kinds := [], alts := [], laidByText := true, laidKinds := [.data], laidTests := true, laidLooks := .later }
def BindModesCardSaid : Prop := Claim7.holds Tryd.pinned (.plain (OpenSpec.ofChange bindModesSpec)) bindModesCard

/-- THE TIED CARD OF 'quillpenlaw19.BindPicks'. -/
def bindPicksCard : Claim7 := { stood := { row := bindPicksRow, standIns := [], harness := (true, "a64d1dfa715e955151d03f317a6c3659e2f9ad20835fb0f379816205a97ed1ed"), looks := false }, kinds := [], alts := [], laidByText := true, laidKinds := [.data], laidTests := true, laidLooks := .later }
def BindPicksCardSaid : Prop := Claim7.holds Tryd.pinned (.plain (OpenSpec.ofChange bindPicksSpec)) bindPicksCard

/-- THE TIED CARD OF 'quillpenlaw19.BindSpreads'. -/
def bindSpreadsCard : Claim7 := { stood := { row := bindSpreadsRow, standIns := [], harness := (true, "a64d1dfa715e955151d03f317a6c3659e2f9ad20835fb0f379816205a97ed1ed"), looks := false }, kinds := [], alts := [], laidByText := true, laidKinds := [.data], laidTests := true, laidLooks := .later }
def BindSpreadsCardSaid : Prop := Claim7.holds Tryd.pinned (.plain (OpenSpec.ofChange bindSpreadsSpec)) bindSpreadsCard

/-- THE SECOND FORM's CARD OF 'quillpenlaw15.HeadNew'. -/
def headNewUptoCard : Claim7 := { stood := { row := headNewUptoRow, standIns := [], harness := (true, "a64d1dfa715e955151d03f317a6c3659e2f9ad20835fb0f379816205a97ed1ed"), looks := false }, kinds := [], alts := [], laidByText := true, laidKinds := [.data], laidTests := true, laidLooks := .later }
def HeadNewUptoCardSaid : Prop := Claim7.holds Tryd.pinned (.plain (OpenSpec.upto headNewSpec)) headNewUptoCard

/-- THE SECOND FORM's CARD OF 'quillpenlaw15.HeadFinds'. -/
def headFindsUptoCard : Claim7 := { stood := { row := headFindsUptoRow, standIns := [], harness := (true, "a64d1dfa715e955151d03f317a6c3659e2f9ad20835fb0f379816205a97ed1ed"), looks := false }, kinds := [], alts := [], laidByText := true, laidKinds := [.data], laidTests := true, laidLooks := .later }
def HeadFindsUptoCardSaid : Prop := Claim7.holds Tryd.pinned (.plain (OpenSpec.upto headFindsSpec)) headFindsUptoCard

/-- THE SECOND FORM's CARD OF 'quillpenlaw15.HeadGets'. -/
def headGetsUptoCard : Claim7 := { stood := { row := headGetsUptoRow, standIns := [], harness := (true, "a64d1dfa715e955151d03f317a6c3659e2f9ad20835fb0f379816205a97ed1ed"), looks := false }, kinds := [], alts := [], laidByText := true, laidKinds := [.data], laidTests := true, laidLooks := .later }
def HeadGetsUptoCardSaid : Prop := Claim7.holds Tryd.pinned (.plain (OpenSpec.upto headGetsSpec)) headGetsUptoCard

/-- THE SECOND FORM's CARD OF 'quillpenlaw15.HeadWithout'. -/
def headWithoutUptoCard : Claim7 := { stood := { row := headWithoutUptoRow, standIns := [], harness := (true, "a64d1dfa715e955151d03f317a6c3659e2f9ad20835fb0f379816205a97ed1ed"), looks := false }, kinds := [], alts := [], laidByText := true, laidKinds := [.data], laidTests := true, laidLooks := .later }
def HeadWithoutUptoCardSaid : Prop := Claim7.holds Tryd.pinned (.plain (OpenSpec.upto headWithoutSpec)) headWithoutUptoCard

/-- THE SECOND FORM's CARD OF 'quillpenlaw19.BindBinds'. -/
def bindBindsUptoCard : Claim7 := { stood := { row := bindBindsUptoRow, standIns := [], harness := (true, "a64d1dfa715e955151d03f317a6c3659e2f9ad20835fb0f379816205a97ed1ed"), looks := false }, kinds := [], alts := [], laidByText := true, laidKinds := [.data], laidTests := true, laidLooks := .later }
def BindBindsUptoCardSaid : Prop := Claim7.holds Tryd.pinned (.plain (OpenSpec.upto bindBindsSpec)) bindBindsUptoCard

/-- THE SECOND FORM's CARD OF 'quillpenlaw19.BindModes'. -/
def bindModesUptoCard : Claim7 := { stood := { row := bindModesUptoRow, standIns := [], harness := (true, "a64d1dfa715e955151d03f317a6c3659e2f9ad20835fb0f379816205a97ed1ed"), looks := false }, kinds := [], alts := [], laidByText := true, laidKinds := [.data], laidTests := true, laidLooks := .later }
def BindModesUptoCardSaid : Prop := Claim7.holds Tryd.pinned (.plain (OpenSpec.upto bindModesSpec)) bindModesUptoCard

/-- THE SECOND FORM's CARD OF 'quillpenlaw19.BindPicks'. -/
def bindPicksUptoCard : Claim7 := { stood := { row := bindPicksUptoRow, standIns := [], harness := (true, "a64d1dfa715e955151d03f317a6c3659e2f9ad20835fb0f379816205a97ed1ed"), looks := false }, kinds := [], alts := [], laidByText := true, laidKinds := [.data], laidTests := true, laidLooks := .later }
def BindPicksUptoCardSaid : Prop := Claim7.holds Tryd.pinned (.plain (OpenSpec.upto bindPicksSpec)) bindPicksUptoCard

/-- THE SECOND FORM's CARD OF 'quillpenlaw19.BindSpreads'. -/
def bindSpreadsUptoCard : Claim7 := { stood := { row := bindSpreadsUptoRow, standIns := [], harness := (true, "a64d1dfa715e955151d03f317a6c3659e2f9ad20835fb0f379816205a97ed1ed"), looks := false }, kinds := [], alts := [], laidByText := true, laidKinds := [.data], laidTests := true, laidLooks := .later }
def BindSpreadsUptoCardSaid : Prop := Claim7.holds Tryd.pinned (.plain (OpenSpec.upto bindSpreadsSpec)) bindSpreadsUptoCard
end Rows
end Go.Proofs.YtamhdlopchhdjaaDoor
