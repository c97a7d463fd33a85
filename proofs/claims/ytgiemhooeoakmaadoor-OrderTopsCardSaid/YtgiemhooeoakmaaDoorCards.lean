/-
  DERIVED. GIVEN WITH THE SEED: THE CARDS: each row of YtgiemhooeoakmaaDoorRows.lean that lists a variable, with what it lists TIED to the program's text (the seventh form; the later family's looks); each row that meets fmt, with fmt's text TOLD by the authors' own Lean function (tested against real Go, not proved from fmt's source: count such statements apart). THE CARD IS WHAT COUNTS. Prove the row's statement (the work); the ties are given (YtgiemhooeoakmaaDoorTie.lean); close each card by the builder's one call (the guide's Derived/Test/ToyasCard.lean, 'card_holds'). Laid BY PROGRAM, IN A SANDBOX (cutbox-door.mjs). By AI agents, Wed Nov 11 2026. No macro, syntax, notation, axiom, sorry.
-/
import Derived.Test.YtgiemhooeoakmaaDoorRows
import GoSem.ClaimSeven
namespace Go.Proofs.YtgiemhooeoakmaaDoor
namespace Rows

/-- THE TIED CARD OF 'quillpenlaw25.DiffChecks'. -/
def diffChecksCard : Claim7 := { stood := { row := diffChecksRow, standIns := [], harness := (true, "252129de89ad4b646cc8e1d0fce325c6d01c75312e77942fd9b59e4c2a4951a1"), looks := false }, kinds := [], alts := [], laidByText := true, laidKinds := [.data], laidTests := true, laidLooks := .later }
def DiffChecksCardSaid : Prop := Claim7.holds Tryd.pinned (.plain (OpenSpec.ofChange diffChecksSpec)) diffChecksCard

/-- THE TIED CARD OF 'quillpenlaw25.DiffTells'. -/
def diffTellsCard : Claim7 := { stood := { row := diffTellsRow, standIns := [], harness := (true, "252129de89ad4b646cc8e1d0fce325c6d01c75312e77942fd9b59e4c2a4951a1"), looks := false }, kinds := [], alts := [], laidByText := true, laidKinds := [.data], laidTests := true, laidLooks := .later }
def DiffTellsCardSaid : Prop := Claim7.holds Tryd.pinned (.plain (OpenSpec.ofChange diffTellsSpec)) diffTellsCard

/-- THE TIED CARD OF 'quillpenlaw23.JoinParts'. -/
def joinPartsCard : Claim7 := { stood := { row := joinPartsRow, standIns := [], harness := (true, "252129de89ad4b646cc8e1d0fce325c6d01c75312e77942fd9b59e4c2a4951a1"), looks := false }, kinds := [], alts := [], laidByText := true, laidKinds := [.data], laidTests := true, laidLooks := .later }
def JoinPartsCardSaid : Prop := Claim7.holds Tryd.pinned (.plain (OpenSpec.ofChange joinPartsSpec)) joinPartsCard

/-- THE TIED CARD OF 'quillpenlaw25.DiffTurns'. -/
def diffTurnsCard : Claim7 := { stood := { row := diffTurnsRow, standIns := [], harness := (true, "252129de89ad4b646cc8e1d0fce325c6d01c75312e77942fd9b59e4c2a4951a1"), looks := false }, kinds := [], alts := [], laidByText := true, laidKinds := [.data], laidTests := true, laidLooks := .later }
def DiffTurnsCardSaid : Prop := Claim7.holds Tryd.pinned (.plain (OpenSpec.ofChange diffTurnsSpec)) diffTurnsCard

/-- THE TIED CARD OF 'quillpenlaw23.JoinChecks'. -/
def joinChecksCard : Claim7 := { stood := { row := joinChecksRow, standIns := [], harness := (true, "252129de89ad4b646cc8e1d0fce325c6d01c75312e77942fd9b59e4c2a4951a1"), looks := false }, kinds := [], alts := [], laidByText := true, laidKinds := [.data], laidTests := true, laidLooks := .later }
def JoinChecksCardSaid : Prop := Claim7.holds Tryd.pinned (.plain (OpenSpec.ofChange joinChecksSpec)) joinChecksCard

/-- THE TIED CARD OF 'quillpenlaw23.JoinJoins'. -/
def joinJoinsCard : Claim7 := { stood := { row := joinJoinsRow, standIns := [], harness := (true, "252129de89ad4b646cc8e1d0fce325c6d01c75312e77942fd9b59e4c2a4951a1"), looks := false }, kinds := [], alts := [], laidByText := true, laidKinds := [.data], laidTests := true, laidLooks := .later }
def JoinJoinsCardSaid : Prop := Claim7.holds Tryd.pinned (.plain (OpenSpec.ofChange joinJoinsSpec)) joinJoinsCard

/-- THE TIED CARD OF 'quillpenlaw22.OrderChecks'. -/
def orderChecksCard : Claim7 := { stood := { row := orderChecksRow, standIns := [], harness := (true, "252129de89ad4b646cc8e1d0fce325c6d01c75312e77942fd9b59e4c2a4951a1"), looks := false }, kinds := [], alts := [], laidByText := true, laidKinds := [.data], laidTests := true, laidLooks := .later }
def OrderChecksCardSaid : Prop := Claim7.holds Tryd.pinned (.plain (OpenSpec.ofChange orderChecksSpec)) orderChecksCard

/-- THE TIED CARD OF 'quillpenlaw22.OrderSorts'. -/
def orderSortsCard : Claim7 := { stood := { row := orderSortsRow, standIns := [], harness := (true, "252129de89ad4b646cc8e1d0fce325c6d01c75312e77942fd9b59e4c2a4951a1"), looks := false }, kinds := [], alts := [], laidByText := true, laidKinds := [.data], laidTests := true, laidLooks := .later }
def OrderSortsCardSaid : Prop := Claim7.holds Tryd.pinned (.plain (OpenSpec.ofChange orderSortsSpec)) orderSortsCard

/-- THE TIED CARD OF 'quillpenlaw22.OrderCompares'. -/
def orderComparesCard : Claim7 := { stood := { row := orderComparesRow, standIns := [], harness := (true, "252129de89ad4b646cc8e1d0fce325c6d01c75312e77942fd9b59e4c2a4951a1"), looks := false }, kinds := [], alts := [], laidByText := true, laidKinds := [.data], laidTests := true, laidLooks := .later }
def OrderComparesCardSaid : Prop := Claim7.holds Tryd.pinned (.plain (OpenSpec.ofChange orderComparesSpec)) orderComparesCard

/-- THE TIED CARD OF 'quillpenlaw22.OrderTops'. -/
def orderTopsCard : Claim7 := { stood := { row := orderTopsRow, standIns := [], harness := (true, "252129de89ad4b646cc8e1d0fce325c6d01c75312e77942fd9b59e4c2a4951a1"), looks := false }, kinds := [], alts := [], laidByText := true, laidKinds := [.data], laidTests := true, laidLooks := .later }
def OrderTopsCardSaid : Prop := Claim7.holds Tryd.pinned (.plain (OpenSpec.ofChange orderTopsSpec)) orderTopsCard

/-- THE TIED CARD OF 'quillpenlaw22.OrderMerges'. -/
def orderMergesCard : Claim7 := { stood := { row := orderMergesRow, standIns := [], harness := (true, "252129de89ad4b646cc8e1d0fce325c6d01c75312e77942fd9b59e4c2a4951a1"), looks := false }, kinds := [], alts := [], laidByText := true, laidKinds := [.data], laidTests := true, laidLooks := .later }
def OrderMergesCardSaid : Prop := Claim7.holds Tryd.pinned (.plain (OpenSpec.ofChange orderMergesSpec)) orderMergesCard

/-- THE SECOND FORM's CARD OF 'quillpenlaw25.DiffChecks'. -/
def diffChecksUptoCard : Claim7 := { stood := { row := diffChecksUptoRow, standIns := [], harness := (true, "252129de89ad4b646cc8e1d0fce325c6d01c75312e77942fd9b59e4c2a4951a1"), looks := false }, kinds := [], alts := [], laidByText := true, laidKinds := [.data], laidTests := true, laidLooks := .later }
def DiffChecksUptoCardSaid : Prop := Claim7.holds Tryd.pinned (.plain (OpenSpec.upto diffChecksSpec)) diffChecksUptoCard

/-- THE SECOND FORM's CARD OF 'quillpenlaw25.DiffTells'. -/
def diffTellsUptoCard : Claim7 := { stood := { row := diffTellsUptoRow, standIns := [], harness := (true, "252129de89ad4b646cc8e1d0fce325c6d01c75312e77942fd9b59e4c2a4951a1"), looks := false }, kinds := [], alts := [], laidByText := true, laidKinds := [.data], laidTests := true, laidLooks := .later }
def DiffTellsUptoCardSaid : Prop := Claim7.holds Tryd.pinned (.plain (OpenSpec.upto diffTellsSpec)) diffTellsUptoCard

/-- THE SECOND FORM's CARD OF 'quillpenlaw23.JoinParts'. -/
def joinPartsUptoCard : Claim7 := { stood := { row := joinPartsUptoRow, standIns := [], harness := (true, "252129de89ad4b646cc8e1d0fce325c6d01c75312e77942fd9b59e4c2a4951a1"), looks := false }, kinds := [], alts := [], laidByText := true, laidKinds := [.data], laidTests := true, laidLooks := .later }
def JoinPartsUptoCardSaid : Prop := Claim7.holds Tryd.pinned (.plain (OpenSpec.upto joinPartsSpec)) joinPartsUptoCard

/-- THE SECOND FORM's CARD OF 'quillpenlaw25.DiffTurns'. -/
def diffTurnsUptoCard : Claim7 := { stood := { row := diffTurnsUptoRow, standIns := [], harness := (true, "252129de89ad4b646cc8e1d0fce325c6d01c75312e77942fd9b59e4c2a4951a1"), looks := false }, kinds := [], alts := [], laidByText := true, laidKinds := [.data], laidTests := true, laidLooks := .later }
def DiffTurnsUptoCardSaid : Prop := Claim7.holds Tryd.pinned (.plain (OpenSpec.upto diffTurnsSpec)) diffTurnsUptoCard

/-- THE SECOND FORM's CARD OF 'quillpenlaw23.JoinChecks'. -/
def joinChecksUptoCard : Claim7 := { stood := { row := joinChecksUptoRow, standIns := [], harness := (true, "252129de89ad4b646cc8e1d0fce325c6d01c75312e77942fd9b59e4c2a4951a1"), looks := false }, kinds := [], alts := [], laidByText := true, laidKinds := [.data], laidTests := true, laidLooks := .later }
def JoinChecksUptoCardSaid : Prop := Claim7.holds Tryd.pinned (.plain (OpenSpec.upto joinChecksSpec)) joinChecksUptoCard

/-- THE SECOND FORM's CARD OF 'quillpenlaw23.JoinJoins'. -/
def joinJoinsUptoCard : Claim7 := { stood := { row := joinJoinsUptoRow, standIns := [], harness := (true, "252129de89ad4b646cc8e1d0fce325c6d01c75312e77942fd9b59e4c2a4951a1"), looks := false }, kinds := [], alts := [], laidByText := true, laidKinds := [.data], laidTests := true, laidLooks := .later }
def JoinJoinsUptoCardSaid : Prop := Claim7.holds Tryd.pinned (.plain (OpenSpec.upto joinJoinsSpec)) joinJoinsUptoCard

/-- THE SECOND FORM's CARD OF 'quillpenlaw22.OrderChecks'. -/
def orderChecksUptoCard : Claim7 := { stood := { row := orderChecksUptoRow, standIns := [], harness := (true, "252129de89ad4b646cc8e1d0fce325c6d01c75312e77942fd9b59e4c2a4951a1"), looks := false }, kinds := [], alts := [], laidByText := true, laidKinds := [.data], laidTests := true, laidLooks := .later }
def OrderChecksUptoCardSaid : Prop := Claim7.holds Tryd.pinned (.plain (OpenSpec.upto orderChecksSpec)) orderChecksUptoCard

/-- THE SECOND FORM's CARD OF 'quillpenlaw22.OrderSorts'. -/
def orderSortsUptoCard : Claim7 := { stood := { row := orderSortsUptoRow, standIns := [], harness := (true, "252129de89ad4b646cc8e1d0fce325c6d01c75312e77942fd9b59e4c2a4951a1"), looks := false }, kinds := [], alts := [], laidByText := true, laidKinds := [.data], laidTests := true, laidLooks := .later }
def OrderSortsUptoCardSaid : Prop := Claim7.holds Tryd.pinned (.plain (OpenSpec.upto orderSortsSpec)) orderSortsUptoCard

/-- THE SECOND FORM's CARD OF 'quillpenlaw22.OrderCompares'. -/
def orderComparesUptoCard : Claim7 := { stood := { row := orderComparesUptoRow, standIns := [], harness := (true, "252129de89ad4b646cc8e1d0fce325c6d01c75312e77942fd9b59e4c2a4951a1"), looks := false }, kinds := [], alts := [], laidByText := true, laidKinds := [.data], laidTests := true, laidLooks := .later }
def OrderComparesUptoCardSaid : Prop := Claim7.holds Tryd.pinned (.plain (OpenSpec.upto orderComparesSpec)) orderComparesUptoCard

/-- THE SECOND FORM's CARD OF 'quillpenlaw22.OrderTops'. -/
def orderTopsUptoCard : Claim7 := { stood := { row := orderTopsUptoRow, standIns := [], harness := (true, "252129de89ad4b646cc8e1d0fce325c6d01c75312e77942fd9b59e4c2a4951a1"), looks := false }, kinds := [], alts := [], laidByText := true, laidKinds := [.data], laidTests := true, laidLooks := .later }
def OrderTopsUptoCardSaid : Prop := Claim7.holds Tryd.pinned (.plain (OpenSpec.upto orderTopsSpec)) orderTopsUptoCard

/-- THE SECOND FORM's CARD OF 'quillpenlaw22.OrderMerges'. -/
def orderMergesUptoCard : Claim7 := { stood := { row := orderMergesUptoRow, standIns := [], harness := (true, "252129de89ad4b646cc8e1d0fce325c6d01c75312e77942fd9b59e4c2a4951a1"), looks := false }, kinds := [], alts := [], laidByText := true, laidKinds := [.data], laidTests := true, laidLooks := .later }
def OrderMergesUptoCardSaid : Prop := Claim7.holds Tryd.pinned (.plain (OpenSpec.upto orderMergesSpec)) orderMergesUptoCard
end Rows
end Go.Proofs.YtgiemhooeoakmaaDoor
