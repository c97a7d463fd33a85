/-
  NARROWER THAN 'FOR EVERY INPUT', by the rows' own cells (each row's printed sentence says how): DiffChecks: laid · DiffTells: laid · JoinParts: laid · DiffTurns: laid · JoinChecks: laid · JoinJoins: laid · OrderChecks: laid · OrderSorts: laid · OrderCompares: laid · OrderTops: laid · OrderMerges: laid.
  DERIVED. THE GIVEN ROWS OF THIS SEAT. 11 by the template 'for every input the law returns true; each argument reads behind the call as it read before'; 0 by the template 'total and deterministic' (their statements: YtgiemhooeoakmaaDoorTotals.lean).
  GIVEN WITH THE SEED: the statements are not yours to turn. If you find one false, say at which input.
  Laid BY PROGRAM, IN A SANDBOX (cutbox-rows.mjs): the forced cells as the released guide's own fill.sh prints them over the translation a25d0cf1559ab8a3… (all of the seat's roots in one cut). By AI agents, Wed Nov 11 2026. No macro, syntax, notation, axiom, sorry.
-/
import Derived.Test.YtgiemhooeoakmaaDoorChecked
import GoSem.Claim
import GoSem.ClaimJoined
import GoSem.ClaimMapViews
import Derived.JoinedTies
import Derived.KernelRfl
namespace Go.Proofs.YtgiemhooeoakmaaDoor
/- THE CELL 'sum', in the pinned program and in every row, IS THE sha256 OF THE DUMP (.gsa) THAT YtgiemhooeoakmaaDoorProg.lean LOADS. Nothing in Lean hashes anything: it is a label: what it is worth is what the hold of that sum in a sandbox is worth. -/
noncomputable def Tryd.pinned : Pinned := { name := "ytgiemhooeoakmaadoor", sum := "a25d0cf1559ab8a39d37b44501b5d139606690e93aa49191fae1dc1c8903a679", checked := Tryd.checked }
namespace Rows
def none {H : Type} : Left H := { results := [], args := [] }

/- WHAT THE LISTED PACKAGE-LEVEL VARIABLES READ AS WHEN THE CALL BEGINS. Each datum BY PROGRAM (the guide's laid-datum.mjs) off the statement by which the dump's own 'gosem.cut.vars' lays the variable. In a bare row this is a premise. The card (YtgiemhooeoakmaaDoorCards.lean) ties it to the program's text. -/
def laid_quillpen_utf_table {H : Type} : DataW H := .agg [.slice [.agg [.lit (.int .u8 0), .lit (.int .u8 127), .lit (.int .i64 0)], .agg [.lit (.int .u8 194), .lit (.int .u8 223), .lit (.int .i64 1)], .agg [.lit (.int .u8 224), .lit (.int .u8 224), .lit (.int .i64 4)], .agg [.lit (.int .u8 225), .lit (.int .u8 236), .lit (.int .i64 2)], .agg [.lit (.int .u8 237), .lit (.int .u8 237), .lit (.int .i64 5)], .agg [.lit (.int .u8 238), .lit (.int .u8 239), .lit (.int .i64 2)], .agg [.lit (.int .u8 240), .lit (.int .u8 240), .lit (.int .i64 6)], .agg [.lit (.int .u8 241), .lit (.int .u8 243), .lit (.int .i64 3)], .agg [.lit (.int .u8 244), .lit (.int .u8 244), .lit (.int .i64 7)]] [], .slice [.agg [.lit (.int .u8 128), .lit (.int .u8 191), .lit (.int .i64 0)]] [], .slice [.agg [.lit (.int .u8 128), .lit (.int .u8 191), .lit (.int .i64 1)]] [], .slice [.agg [.lit (.int .u8 128), .lit (.int .u8 191), .lit (.int .i64 2)]] [], .slice [.agg [.lit (.int .u8 160), .lit (.int .u8 191), .lit (.int .i64 1)]] [], .slice [.agg [.lit (.int .u8 128), .lit (.int .u8 159), .lit (.int .i64 1)]] [], .slice [.agg [.lit (.int .u8 144), .lit (.int .u8 191), .lit (.int .i64 2)]] [], .slice [.agg [.lit (.int .u8 128), .lit (.int .u8 143), .lit (.int .i64 2)]] []]

/-- 'quillpenlaw25.DiffChecks': WHATEVER THE INPUT: true; the input reads as it did. -/
def diffChecksSpec : ChangeSpec := { name := "diffChecks", fn := fun _ => fun
  | [d] => { results := [.lit (.bool true)], args := [d] }
  | _ => none }
def diffChecksRow : OpenClaim := { program := "ytgiemhooeoakmaadoor", sum := "a25d0cf1559ab8a39d37b44501b5d139606690e93aa49191fae1dc1c8903a679", func := "quillpen/quillpenlaw25.DiffChecks", spec := "diffChecks", inPlace := ["internal/bytealg.abigen_runtime_cmpstring"], unfollowed := true, recurses := true, named := ["quillpen/utf.table"], apart := false, laid := [("quillpen/utf.table", laid_quillpen_utf_table)] }
def DiffChecksSaid : Prop := diffChecksRow.holds Tryd.pinned (OpenSpec.ofChange diffChecksSpec)

/-- ITS FALSE NEIGHBOUR: 'it returns false'. Refute it at one input. -/
def diffChecksWrong : ChangeSpec := { name := "diffChecks", fn := fun _ => fun
  | [d] => { results := [.lit (.bool false)], args := [d] }
  | _ => none }
def DiffChecksWrongFalsely : Prop := diffChecksRow.holds Tryd.pinned (OpenSpec.ofChange diffChecksWrong)

/-- 'quillpenlaw25.DiffTells': WHATEVER THE INPUT: true; the input reads as it did. -/
def diffTellsSpec : ChangeSpec := { name := "diffTells", fn := fun _ => fun
  | [d] => { results := [.lit (.bool true)], args := [d] }
  | _ => none }
def diffTellsRow : OpenClaim := { program := "ytgiemhooeoakmaadoor", sum := "a25d0cf1559ab8a39d37b44501b5d139606690e93aa49191fae1dc1c8903a679", func := "quillpen/quillpenlaw25.DiffTells", spec := "diffTells", inPlace := ["internal/bytealg.abigen_runtime_cmpstring"], unfollowed := true, recurses := true, named := ["quillpen/utf.table"], apart := false, laid := [("quillpen/utf.table", laid_quillpen_utf_table)] }
def DiffTellsSaid : Prop := diffTellsRow.holds Tryd.pinned (OpenSpec.ofChange diffTellsSpec)

/-- ITS FALSE NEIGHBOUR: 'it returns false'. Refute it at one input. -/
def diffTellsWrong : ChangeSpec := { name := "diffTells", fn := fun _ => fun
  | [d] => { results := [.lit (.bool false)], args := [d] }
  | _ => none }
def DiffTellsWrongFalsely : Prop := diffTellsRow.holds Tryd.pinned (OpenSpec.ofChange diffTellsWrong)

/-- 'quillpenlaw23.JoinParts': WHATEVER THE INPUT: true; the input reads as it did. -/
def joinPartsSpec : ChangeSpec := { name := "joinParts", fn := fun _ => fun
  | [d] => { results := [.lit (.bool true)], args := [d] }
  | _ => none }
def joinPartsRow : OpenClaim := { program := "ytgiemhooeoakmaadoor", sum := "a25d0cf1559ab8a39d37b44501b5d139606690e93aa49191fae1dc1c8903a679", func := "quillpen/quillpenlaw23.JoinParts", spec := "joinParts", inPlace := ["internal/bytealg.abigen_runtime_cmpstring"], unfollowed := true, recurses := true, named := ["quillpen/utf.table"], apart := false, laid := [("quillpen/utf.table", laid_quillpen_utf_table)] }
def JoinPartsSaid : Prop := joinPartsRow.holds Tryd.pinned (OpenSpec.ofChange joinPartsSpec)

/-- ITS FALSE NEIGHBOUR: 'it returns false'. Refute it at one input. -/
def joinPartsWrong : ChangeSpec := { name := "joinParts", fn := fun _ => fun
  | [d] => { results := [.lit (.bool false)], args := [d] }
  | _ => none }
def JoinPartsWrongFalsely : Prop := joinPartsRow.holds Tryd.pinned (OpenSpec.ofChange joinPartsWrong)

/-- 'quillpenlaw25.DiffTurns': WHATEVER THE INPUT: true; the input reads as it did. -/
def diffTurnsSpec : ChangeSpec := { name := "diffTurns", fn := fun _ => fun
  | [d] => { results := [.lit (.bool true)], args := [d] }
  | _ => none }
def diffTurnsRow : OpenClaim := { program := "ytgiemhooeoakmaadoor", sum := "a25d0cf1559ab8a39d37b44501b5d139606690e93aa49191fae1dc1c8903a679", func := "quillpen/quillpenlaw25.DiffTurns", spec := "diffTurns", inPlace := ["internal/bytealg.abigen_runtime_cmpstring"], unfollowed := true, recurses := true, named := ["quillpen/utf.table"], apart := false, laid := [("quillpen/utf.table", laid_quillpen_utf_table)] }
def DiffTurnsSaid : Prop := diffTurnsRow.holds Tryd.pinned (OpenSpec.ofChange diffTurnsSpec)

/-- ITS FALSE NEIGHBOUR: 'it returns false'. Refute it at one input. -/
def diffTurnsWrong : ChangeSpec := { name := "diffTurns", fn := fun _ => fun
  | [d] => { results := [.lit (.bool false)], args := [d] }
  | _ => none }
def DiffTurnsWrongFalsely : Prop := diffTurnsRow.holds Tryd.pinned (OpenSpec.ofChange diffTurnsWrong)

/-- 'quillpenlaw23.JoinChecks': WHATEVER THE INPUT: true; the input reads as it did. -/
def joinChecksSpec : ChangeSpec := { name := "joinChecks", fn := fun _ => fun
  | [d] => { results := [.lit (.bool true)], args := [d] }
  | _ => none }
def joinChecksRow : OpenClaim := { program := "ytgiemhooeoakmaadoor", sum := "a25d0cf1559ab8a39d37b44501b5d139606690e93aa49191fae1dc1c8903a679", func := "quillpen/quillpenlaw23.JoinChecks", spec := "joinChecks", inPlace := ["internal/bytealg.abigen_runtime_cmpstring"], unfollowed := true, recurses := true, named := ["quillpen/utf.table"], apart := false, laid := [("quillpen/utf.table", laid_quillpen_utf_table)] }
def JoinChecksSaid : Prop := joinChecksRow.holds Tryd.pinned (OpenSpec.ofChange joinChecksSpec)

/-- ITS FALSE NEIGHBOUR: 'it returns false'. Refute it at one input. -/
def joinChecksWrong : ChangeSpec := { name := "joinChecks", fn := fun _ => fun
  | [d] => { results := [.lit (.bool false)], args := [d] }
  | _ => none }
def JoinChecksWrongFalsely : Prop := joinChecksRow.holds Tryd.pinned (OpenSpec.ofChange joinChecksWrong)

/-- 'quillpenlaw23.JoinJoins': WHATEVER THE INPUT: true; the input reads as it did. -/
def joinJoinsSpec : ChangeSpec := { name := "joinJoins", fn := fun _ => fun
  | [d] => { results := [.lit (.bool true)], args := [d] }
  | _ => none }
def joinJoinsRow : OpenClaim := { program := "ytgiemhooeoakmaadoor", sum := "a25d0cf1559ab8a39d37b44501b5d139606690e93aa49191fae1dc1c8903a679", func := "quillpen/quillpenlaw23.JoinJoins", spec := "joinJoins", inPlace := ["internal/bytealg.abigen_runtime_cmpstring"], unfollowed := true, recurses := true, named := ["quillpen/utf.table"], apart := false, laid := [("quillpen/utf.table", laid_quillpen_utf_table)] }
def JoinJoinsSaid : Prop := joinJoinsRow.holds Tryd.pinned (OpenSpec.ofChange joinJoinsSpec)

/-- ITS FALSE NEIGHBOUR: 'it returns false'. Refute it at one input. -/
def joinJoinsWrong : ChangeSpec := { name := "joinJoins", fn := fun _ => fun
  | [d] => { results := [.lit (.bool false)], args := [d] }
  | _ => none }
def JoinJoinsWrongFalsely : Prop := joinJoinsRow.holds Tryd.pinned (OpenSpec.ofChange joinJoinsWrong)

/-- 'quillpenlaw22.OrderChecks': WHATEVER THE INPUT: true; the input reads as it did. -/
def orderChecksSpec : ChangeSpec := { name := "orderChecks", fn := fun _ => fun
  | [d] => { results := [.lit (.bool true)], args := [d] }
  | _ => none }
def orderChecksRow : OpenClaim := { program := "ytgiemhooeoakmaadoor", sum := "a25d0cf1559ab8a39d37b44501b5d139606690e93aa49191fae1dc1c8903a679", func := "quillpen/quillpenlaw22.OrderChecks", spec := "orderChecks", inPlace := ["internal/bytealg.abigen_runtime_cmpstring"], unfollowed := true, recurses := true, named := ["quillpen/utf.table"], apart := false, laid := [("quillpen/utf.table", laid_quillpen_utf_table)] }
def OrderChecksSaid : Prop := orderChecksRow.holds Tryd.pinned (OpenSpec.ofChange orderChecksSpec)

/-- ITS FALSE NEIGHBOUR: 'it returns false'. Refute it at one input. -/
def orderChecksWrong : ChangeSpec := { name := "orderChecks", fn := fun _ => fun
  | [d] => { results := [.lit (.bool false)], args := [d] }
  | _ => none }
def OrderChecksWrongFalsely : Prop := orderChecksRow.holds Tryd.pinned (OpenSpec.ofChange orderChecksWrong)

/-- 'quillpenlaw22.OrderSorts': WHATEVER THE INPUT: true; the input reads as it did. -/
def orderSortsSpec : ChangeSpec := { name := "orderSorts", fn := fun _ => fun
  | [d] => { results := [.lit (.bool true)], args := [d] }
  | _ => none }
def orderSortsRow : OpenClaim := { program := "ytgiemhooeoakmaadoor", sum := "a25d0cf1559ab8a39d37b44501b5d139606690e93aa49191fae1dc1c8903a679", func := "quillpen/quillpenlaw22.OrderSorts", spec := "orderSorts", inPlace := ["internal/bytealg.abigen_runtime_cmpstring"], unfollowed := true, recurses := true, named := ["quillpen/utf.table"], apart := false, laid := [("quillpen/utf.table", laid_quillpen_utf_table)] }
def OrderSortsSaid : Prop := orderSortsRow.holds Tryd.pinned (OpenSpec.ofChange orderSortsSpec)

/-- ITS FALSE NEIGHBOUR: 'it returns false'. Refute it at one input. -/
def orderSortsWrong : ChangeSpec := { name := "orderSorts", fn := fun _ => fun
  | [d] => { results := [.lit (.bool false)], args := [d] }
  | _ => none }
def OrderSortsWrongFalsely : Prop := orderSortsRow.holds Tryd.pinned (OpenSpec.ofChange orderSortsWrong)

/-- 'quillpenlaw22.OrderCompares': WHATEVER THE INPUT: true; the input reads as it did. -/
def orderComparesSpec : ChangeSpec := { name := "orderCompares", fn := fun _ => fun
  | [d] => { results := [.lit (.bool true)], args := [d] }
  | _ => none }
def orderComparesRow : OpenClaim := { program := "ytgiemhooeoakmaadoor", sum := "a25d0cf1559ab8a39d37b44501b5d139606690e93aa49191fae1dc1c8903a679", func := "quillpen/quillpenlaw22.OrderCompares", spec := "orderCompares", inPlace := ["internal/bytealg.abigen_runtime_cmpstring"], unfollowed := true, recurses := true, named := ["quillpen/utf.table"], apart := false, laid := [("quillpen/utf.table", laid_quillpen_utf_table)] }
def OrderComparesSaid : Prop := orderComparesRow.holds Tryd.pinned (OpenSpec.ofChange orderComparesSpec)

/-- ITS FALSE NEIGHBOUR: 'it returns false'. Refute it at one input. -/
def orderComparesWrong : ChangeSpec := { name := "orderCompares", fn := fun _ => fun
  | [d] => { results := [.lit (.bool false)], args := [d] }
  | _ => none }
def OrderComparesWrongFalsely : Prop := orderComparesRow.holds Tryd.pinned (OpenSpec.ofChange orderComparesWrong)

/-- 'quillpenlaw22.OrderTops': WHATEVER THE INPUT: true; the input reads as it did. -/
def orderTopsSpec : ChangeSpec := { name := "orderTops", fn := fun _ => fun
  | [d1, d2] => { results := [.lit (.bool true)], args := [d1, d2] }
  | _ => none }
def orderTopsRow : OpenClaim := { program := "ytgiemhooeoakmaadoor", sum := "a25d0cf1559ab8a39d37b44501b5d139606690e93aa49191fae1dc1c8903a679", func := "quillpen/quillpenlaw22.OrderTops", spec := "orderTops", inPlace := ["internal/bytealg.abigen_runtime_cmpstring"], unfollowed := true, recurses := true, named := ["quillpen/utf.table"], apart := false, laid := [("quillpen/utf.table", laid_quillpen_utf_table)] }
def OrderTopsSaid : Prop := orderTopsRow.holds Tryd.pinned (OpenSpec.ofChange orderTopsSpec)

/-- ITS FALSE NEIGHBOUR: 'it returns false'. Refute it at one input. -/
def orderTopsWrong : ChangeSpec := { name := "orderTops", fn := fun _ => fun
  | [d1, d2] => { results := [.lit (.bool false)], args := [d1, d2] }
  | _ => none }
def OrderTopsWrongFalsely : Prop := orderTopsRow.holds Tryd.pinned (OpenSpec.ofChange orderTopsWrong)

/-- 'quillpenlaw22.OrderMerges': WHATEVER THE INPUT: true; the input reads as it did. -/
def orderMergesSpec : ChangeSpec := { name := "orderMerges", fn := fun _ => fun
  | [d1, d2] => { results := [.lit (.bool true)], args := [d1, d2] }
  | _ => none }
def orderMergesRow : OpenClaim := { program := "ytgiemhooeoakmaadoor", sum := "a25d0cf1559ab8a39d37b44501b5d139606690e93aa49191fae1dc1c8903a679", func := "quillpen/quillpenlaw22.OrderMerges", spec := "orderMerges", inPlace := ["internal/bytealg.abigen_runtime_cmpstring"], unfollowed := true, recurses := true, named := ["quillpen/utf.table"], apart := false, laid := [("quillpen/utf.table", laid_quillpen_utf_table)] }
def OrderMergesSaid : Prop := orderMergesRow.holds Tryd.pinned (OpenSpec.ofChange orderMergesSpec)

/-- ITS FALSE NEIGHBOUR: 'it returns false'. Refute it at one input. -/
def orderMergesWrong : ChangeSpec := { name := "orderMerges", fn := fun _ => fun
  | [d1, d2] => { results := [.lit (.bool false)], args := [d1, d2] }
  | _ => none }
def OrderMergesWrongFalsely : Prop := orderMergesRow.holds Tryd.pinned (OpenSpec.ofChange orderMergesWrong)

/- THE SECOND FORM. 'bulk': how many values and letters a reading holds, each counted each time it is reached (what is shared counts as often as it is met; a slice's spare places count too). A statement '..UptoSaid' is the law's where the arguments, and the package variables that the reading takes, are together of bulk at most 1048576: NARROWER than '..Said'. Prove '..Said' where nothing that the law and all that it calls make is longer than what came in: it says more and counts as full. Else prove '..UptoSaid'. A law counts once. -/
mutual
def uptoBulk {H : Type} : DataW H → Nat
  | .lit (.string bytes) => bytes.length + 1
  | .lit _ => 1
  | .nil => 1
  | .ptr d => uptoBulk d + 1
  | .slice elems spare => uptoBulkAll elems + uptoBulkAll spare + 1
  | .agg parts => uptoBulkAll parts + 1
  | .iface _ d => uptoBulk d + 1
  | .map entries => uptoBulkEntries entries + 1
  | .held _ => 1
def uptoBulkAll {H : Type} : List (DataW H) → Nat
  | [] => 0
  | d :: r => uptoBulk d + uptoBulkAll r
def uptoBulkEntries {H : Type} : List (Lit × DataW H) → Nat
  | [] => 0
  | x :: r => uptoBulkEntry x + uptoBulkEntries r
def uptoBulkEntry {H : Type} : Lit × DataW H → Nat
  | (.string bytes, d) => bytes.length + uptoBulk d + 1
  | (_, d) => uptoBulk d + 1
 end
def uptoSmall : (H : Type) → List (DataW H) → Bool := fun _ ds => decide (uptoBulkAll ds ≤ 1048576)
def OpenSpec.upto (s : _root_.Go.ChangeSpec) : _root_.Go.OpenSpec := { _root_.Go.OpenSpec.ofChange s with cond := some uptoSmall }

/-- 'quillpenlaw25.DiffChecks', WHERE WHAT IT READS IS OF BULK AT MOST 1048576: true; the input reads as it did. -/
def diffChecksUptoRow : OpenClaim := { program := "ytgiemhooeoakmaadoor", sum := "a25d0cf1559ab8a39d37b44501b5d139606690e93aa49191fae1dc1c8903a679", func := "quillpen/quillpenlaw25.DiffChecks", spec := "diffChecks", inPlace := ["internal/bytealg.abigen_runtime_cmpstring"], unfollowed := true, recurses := true, named := ["quillpen/utf.table"], apart := false, laid := [("quillpen/utf.table", laid_quillpen_utf_table)], narrowed := true }
def DiffChecksUptoSaid : Prop := diffChecksUptoRow.holds Tryd.pinned (OpenSpec.upto diffChecksSpec)

/-- 'quillpenlaw25.DiffTells', WHERE WHAT IT READS IS OF BULK AT MOST 1048576: true; the input reads as it did. -/
def diffTellsUptoRow : OpenClaim := { program := "ytgiemhooeoakmaadoor", sum := "a25d0cf1559ab8a39d37b44501b5d139606690e93aa49191fae1dc1c8903a679", func := "quillpen/quillpenlaw25.DiffTells", spec := "diffTells", inPlace := ["internal/bytealg.abigen_runtime_cmpstring"], unfollowed := true, recurses := true, named := ["quillpen/utf.table"], apart := false, laid := [("quillpen/utf.table", laid_quillpen_utf_table)], narrowed := true }
def DiffTellsUptoSaid : Prop := diffTellsUptoRow.holds Tryd.pinned (OpenSpec.upto diffTellsSpec)

/-- 'quillpenlaw23.JoinParts', WHERE WHAT IT READS IS OF BULK AT MOST 1048576: true; the input reads as it did. -/
def joinPartsUptoRow : OpenClaim := { program := "ytgiemhooeoakmaadoor", sum := "a25d0cf1559ab8a39d37b44501b5d139606690e93aa49191fae1dc1c8903a679", func := "quillpen/quillpenlaw23.JoinParts", spec := "joinParts", inPlace := ["internal/bytealg.abigen_runtime_cmpstring"], unfollowed := true, recurses := true, named := ["quillpen/utf.table"], apart := false, laid := [("quillpen/utf.table", laid_quillpen_utf_table)], narrowed := true }
def JoinPartsUptoSaid : Prop := joinPartsUptoRow.holds Tryd.pinned (OpenSpec.upto joinPartsSpec)

/-- 'quillpenlaw25.DiffTurns', WHERE WHAT IT READS IS OF BULK AT MOST 1048576: true; the input reads as it did. -/
def diffTurnsUptoRow : OpenClaim := { program := "ytgiemhooeoakmaadoor", sum := "a25d0cf1559ab8a39d37b44501b5d139606690e93aa49191fae1dc1c8903a679", func := "quillpen/quillpenlaw25.DiffTurns", spec := "diffTurns", inPlace := ["internal/bytealg.abigen_runtime_cmpstring"], unfollowed := true, recurses := true, named := ["quillpen/utf.table"], apart := false, laid := [("quillpen/utf.table", laid_quillpen_utf_table)], narrowed := true }
def DiffTurnsUptoSaid : Prop := diffTurnsUptoRow.holds Tryd.pinned (OpenSpec.upto diffTurnsSpec)

/-- 'quillpenlaw23.JoinChecks', WHERE WHAT IT READS IS OF BULK AT MOST 1048576: true; the input reads as it did. -/
def joinChecksUptoRow : OpenClaim := { program := "ytgiemhooeoakmaadoor", sum := "a25d0cf1559ab8a39d37b44501b5d139606690e93aa49191fae1dc1c8903a679", func := "quillpen/quillpenlaw23.JoinChecks", spec := "joinChecks", inPlace := ["internal/bytealg.abigen_runtime_cmpstring"], unfollowed := true, recurses := true, named := ["quillpen/utf.table"], apart := false, laid := [("quillpen/utf.table", laid_quillpen_utf_table)], narrowed := true }
def JoinChecksUptoSaid : Prop := joinChecksUptoRow.holds Tryd.pinned (OpenSpec.upto joinChecksSpec)

/-- 'quillpenlaw23.JoinJoins', WHERE WHAT IT READS IS OF BULK AT MOST 1048576: true; the input reads as it did. -/
def joinJoinsUptoRow : OpenClaim := { program := "ytgiemhooeoakmaadoor", sum := "a25d0cf1559ab8a39d37b44501b5d139606690e93aa49191fae1dc1c8903a679", func := "quillpen/quillpenlaw23.JoinJoins", spec := "joinJoins", inPlace := ["internal/bytealg.abigen_runtime_cmpstring"], unfollowed := true, recurses := true, named := ["quillpen/utf.table"], apart := false, laid := [("quillpen/utf.table", laid_quillpen_utf_table)], narrowed := true }
def JoinJoinsUptoSaid : Prop := joinJoinsUptoRow.holds Tryd.pinned (OpenSpec.upto joinJoinsSpec)

/-- 'quillpenlaw22.OrderChecks', WHERE WHAT IT READS IS OF BULK AT MOST 1048576: true; the input reads as it did. -/
def orderChecksUptoRow : OpenClaim := { program := "ytgiemhooeoakmaadoor", sum := "a25d0cf1559ab8a39d37b44501b5d139606690e93aa49191fae1dc1c8903a679", func := "quillpen/quillpenlaw22.OrderChecks", spec := "orderChecks", inPlace := ["internal/bytealg.abigen_runtime_cmpstring"], unfollowed := true, recurses := true, named := ["quillpen/utf.table"], apart := false, laid := [("quillpen/utf.table", laid_quillpen_utf_table)], narrowed := true }
def OrderChecksUptoSaid : Prop := orderChecksUptoRow.holds Tryd.pinned (OpenSpec.upto orderChecksSpec)

/-- 'quillpenlaw22.OrderSorts', WHERE WHAT IT READS IS OF BULK AT MOST 1048576: true; the input reads as it did. -/
def orderSortsUptoRow : OpenClaim := { program := "ytgiemhooeoakmaadoor", sum := "a25d0cf1559ab8a39d37b44501b5d139606690e93aa49191fae1dc1c8903a679", func := "quillpen/quillpenlaw22.OrderSorts", spec := "orderSorts", inPlace := ["internal/bytealg.abigen_runtime_cmpstring"], unfollowed := true, recurses := true, named := ["quillpen/utf.table"], apart := false, laid := [("quillpen/utf.table", laid_quillpen_utf_table)], narrowed := true }
def OrderSortsUptoSaid : Prop := orderSortsUptoRow.holds Tryd.pinned (OpenSpec.upto orderSortsSpec)

/-- 'quillpenlaw22.OrderCompares', WHERE WHAT IT READS IS OF BULK AT MOST 1048576: true; the input reads as it did. -/
def orderComparesUptoRow : OpenClaim := { program := "ytgiemhooeoakmaadoor", sum := "a25d0cf1559ab8a39d37b44501b5d139606690e93aa49191fae1dc1c8903a679", func := "quillpen/quillpenlaw22.OrderCompares", spec := "orderCompares", inPlace := ["internal/bytealg.abigen_runtime_cmpstring"], unfollowed := true, recurses := true, named := ["quillpen/utf.table"], apart := false, laid := [("quillpen/utf.table", laid_quillpen_utf_table)], narrowed := true }
def OrderComparesUptoSaid : Prop := orderComparesUptoRow.holds Tryd.pinned (OpenSpec.upto orderComparesSpec)

/-- 'quillpenlaw22.OrderTops', WHERE WHAT IT READS IS OF BULK AT MOST 1048576: true; the input reads as it did. -/
def orderTopsUptoRow : OpenClaim := { program := "ytgiemhooeoakmaadoor", sum := "a25d0cf1559ab8a39d37b44501b5d139606690e93aa49191fae1dc1c8903a679", func := "quillpen/quillpenlaw22.OrderTops", spec := "orderTops", inPlace := ["internal/bytealg.abigen_runtime_cmpstring"], unfollowed := true, recurses := true, named := ["quillpen/utf.table"], apart := false, laid := [("quillpen/utf.table", laid_quillpen_utf_table)], narrowed := true }
def OrderTopsUptoSaid : Prop := orderTopsUptoRow.holds Tryd.pinned (OpenSpec.upto orderTopsSpec)

/-- 'quillpenlaw22.OrderMerges', WHERE WHAT IT READS IS OF BULK AT MOST 1048576: true; the input reads as it did. -/
def orderMergesUptoRow : OpenClaim := { program := "ytgiemhooeoakmaadoor", sum := "a25d0cf1559ab8a39d37b44501b5d139606690e93aa49191fae1dc1c8903a679", func := "quillpen/quillpenlaw22.OrderMerges", spec := "orderMerges", inPlace := ["internal/bytealg.abigen_runtime_cmpstring"], unfollowed := true, recurses := true, named := ["quillpen/utf.table"], apart := false, laid := [("quillpen/utf.table", laid_quillpen_utf_table)], narrowed := true }
def OrderMergesUptoSaid : Prop := orderMergesUptoRow.holds Tryd.pinned (OpenSpec.upto orderMergesSpec)

end Rows
end Go.Proofs.YtgiemhooeoakmaaDoor
