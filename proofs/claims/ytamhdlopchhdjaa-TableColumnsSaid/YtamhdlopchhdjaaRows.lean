/-
  No cell of these rows narrows 'for every input' (looked for: loops, veiled, ifaces, maps, wideKeys, modest, calm, conditions, laid).
  DERIVED. THE GIVEN ROWS OF THIS SEAT. 5 by the template 'for every input the law returns true; each argument reads behind the call as it read before'; 0 by the template 'total and deterministic' (their statements: YtamhdlopchhdjaaTotals.lean).
  GIVEN WITH THE SEED: the statements are not yours to turn. If you find one false, say at which input.
  Laid BY PROGRAM, IN A SANDBOX (cutbox-rows.mjs): the forced cells as the released guide's own fill.sh prints them over the translation 3eb7633d79f7bbba… (all of the seat's roots in one cut). By AI agents, Wed Nov 11 2026. No macro, syntax, notation, axiom, sorry.
-/
import Derived.Test.YtamhdlopchhdjaaChecked
import GoSem.Claim
import GoSem.ClaimJoined
import GoSem.ClaimMapViews
import Derived.JoinedTies
import Derived.KernelRfl
namespace Go.Proofs.Ytamhdlopchhdjaa
/- THE CELL 'sum', in the pinned program and in every row, IS THE sha256 OF THE DUMP (.gsa) THAT YtamhdlopchhdjaaProg.lean LOADS. Nothing in Lean hashes anything: it is a label: what it is worth is what the hold of that sum in a sandbox is worth. -/
noncomputable def Try.pinned : Pinned := { name := "ytamhdlopchhdjaa", sum := "3eb7633d79f7bbbaa7420284f87969d3cd041dd22066bd8deba61206f82f463e", checked := Try.checked }
namespace Rows
def none {H : Type} : Left H := { results := [], args := [] }

/-- 'quillpenlaw13.TableWidths': WHATEVER THE INPUT: true; the input reads as it did. -/
def tableWidthsSpec : ChangeSpec := { name := "tableWidths", fn := fun _ => fun
  | [d] => { results := [.lit (.bool true)], args := [d] }
  | _ => none }
def tableWidthsRow : OpenClaim := { program := "ytamhdlopchhdjaa", sum := "3eb7633d79f7bbbaa7420284f87969d3cd041dd22066bd8deba61206f82f463e", func := "quillpen/quillpenlaw13.TableWidths", spec := "tableWidths", apart := false }
def TableWidthsSaid : Prop := tableWidthsRow.holds Try.pinned (OpenSpec.ofChange tableWidthsSpec)

/-- ITS FALSE NEIGHBOUR: 'it returns false'. Refute it at one input. -/
def tableWidthsWrong : ChangeSpec := { name := "tableWidths", fn := fun _ => fun
  | [d] => { results := [.lit (.bool false)], args := [d] }
  | _ => none }
def TableWidthsWrongFalsely : Prop := tableWidthsRow.holds Try.pinned (OpenSpec.ofChange tableWidthsWrong)

/-- 'quillpenlaw13.TableTurns': WHATEVER THE INPUT: true; the input reads as it did. -/
def tableTurnsSpec : ChangeSpec := { name := "tableTurns", fn := fun _ => fun
  | [d] => { results := [.lit (.bool true)], args := [d] }
  | _ => none }
def tableTurnsRow : OpenClaim := { program := "ytamhdlopchhdjaa", sum := "3eb7633d79f7bbbaa7420284f87969d3cd041dd22066bd8deba61206f82f463e", func := "quillpen/quillpenlaw13.TableTurns", spec := "tableTurns", apart := false }
def TableTurnsSaid : Prop := tableTurnsRow.holds Try.pinned (OpenSpec.ofChange tableTurnsSpec)

/-- ITS FALSE NEIGHBOUR: 'it returns false'. Refute it at one input. -/
def tableTurnsWrong : ChangeSpec := { name := "tableTurns", fn := fun _ => fun
  | [d] => { results := [.lit (.bool false)], args := [d] }
  | _ => none }
def TableTurnsWrongFalsely : Prop := tableTurnsRow.holds Try.pinned (OpenSpec.ofChange tableTurnsWrong)

/-- 'quillpenlaw13.TableColumns': WHATEVER THE INPUT: true; the input reads as it did. -/
def tableColumnsSpec : ChangeSpec := { name := "tableColumns", fn := fun _ => fun
  | [d1, d2, d3] => { results := [.lit (.bool true)], args := [d1, d2, d3] }
  | _ => none }
def tableColumnsRow : OpenClaim := { program := "ytamhdlopchhdjaa", sum := "3eb7633d79f7bbbaa7420284f87969d3cd041dd22066bd8deba61206f82f463e", func := "quillpen/quillpenlaw13.TableColumns", spec := "tableColumns", unfollowed := true, recurses := true, apart := false }
def TableColumnsSaid : Prop := tableColumnsRow.holds Try.pinned (OpenSpec.ofChange tableColumnsSpec)

/-- ITS FALSE NEIGHBOUR: 'it returns false'. Refute it at one input. -/
def tableColumnsWrong : ChangeSpec := { name := "tableColumns", fn := fun _ => fun
  | [d1, d2, d3] => { results := [.lit (.bool false)], args := [d1, d2, d3] }
  | _ => none }
def TableColumnsWrongFalsely : Prop := tableColumnsRow.holds Try.pinned (OpenSpec.ofChange tableColumnsWrong)

/-- 'quillpenlaw13.TableFits': WHATEVER THE INPUT: true; the input reads as it did. -/
def tableFitsSpec : ChangeSpec := { name := "tableFits", fn := fun _ => fun
  | [d1, d2] => { results := [.lit (.bool true)], args := [d1, d2] }
  | _ => none }
def tableFitsRow : OpenClaim := { program := "ytamhdlopchhdjaa", sum := "3eb7633d79f7bbbaa7420284f87969d3cd041dd22066bd8deba61206f82f463e", func := "quillpen/quillpenlaw13.TableFits", spec := "tableFits", unfollowed := true, recurses := true, apart := false }
def TableFitsSaid : Prop := tableFitsRow.holds Try.pinned (OpenSpec.ofChange tableFitsSpec)

/-- ITS FALSE NEIGHBOUR: 'it returns false'. Refute it at one input. -/
def tableFitsWrong : ChangeSpec := { name := "tableFits", fn := fun _ => fun
  | [d1, d2] => { results := [.lit (.bool false)], args := [d1, d2] }
  | _ => none }
def TableFitsWrongFalsely : Prop := tableFitsRow.holds Try.pinned (OpenSpec.ofChange tableFitsWrong)

/-- 'quillpenlaw13.TableSame': WHATEVER THE INPUT: true; the input reads as it did. -/
def tableSameSpec : ChangeSpec := { name := "tableSame", fn := fun _ => fun
  | [d1, d2] => { results := [.lit (.bool true)], args := [d1, d2] }
  | _ => none }
def tableSameRow : OpenClaim := { program := "ytamhdlopchhdjaa", sum := "3eb7633d79f7bbbaa7420284f87969d3cd041dd22066bd8deba61206f82f463e", func := "quillpen/quillpenlaw13.TableSame", spec := "tableSame", unfollowed := true, recurses := true, apart := false }
def TableSameSaid : Prop := tableSameRow.holds Try.pinned (OpenSpec.ofChange tableSameSpec)

/-- ITS FALSE NEIGHBOUR: 'it returns false'. Refute it at one input. -/
def tableSameWrong : ChangeSpec := { name := "tableSame", fn := fun _ => fun
  | [d1, d2] => { results := [.lit (.bool false)], args := [d1, d2] }
  | _ => none }
def TableSameWrongFalsely : Prop := tableSameRow.holds Try.pinned (OpenSpec.ofChange tableSameWrong)

/- THE SECOND FORM. 'bulk': how many values and letters a reading holds, each counted each time it is reached (what is shared counts as often as it is met; a slice's spare places count too). A statement '..UptoSaid' is the law's where the arguments, and the package variables that the reading takes, are together of bulk at most 1048576: NARROWER than '..Said'. Prove '..Said' where nothing that the law and all that it calls make is longer than what came in: it says more and counts as full. Else prove '..UptoSaid'. A law counts once. -/
mutual
def uptoBulk {H : Type} : DataW H → Nat
  | .lit (.string bytes) => bytes.length + 1
  | .lit _ => 1
  | .nil => 1
  | .ptr d => uptoBulk d + 1
  | .slice elems spare => uptoBulkAll elems + uptoBulkAll spare + 1
  | .agg parts => uptoBulkAll parts + 1
  | .iface _ d => uptoBulk d + 1
  | .map entries => uptoBulkEntries entries + 1
  | .held _ => 1
def uptoBulkAll {H : Type} : List (DataW H) → Nat
  | [] => 0
  | d :: r => uptoBulk d + uptoBulkAll r
def uptoBulkEntries {H : Type} : List (Lit × DataW H) → Nat
  | [] => 0
  | x :: r => uptoBulkEntry x + uptoBulkEntries r
def uptoBulkEntry {H : Type} : Lit × DataW H → Nat
  | (.string bytes, d) => bytes.length + uptoBulk d + 1
  | (_, d) => uptoBulk d + 1
 end
def uptoSmall : (H : Type) → List (DataW H) → Bool := fun _ ds => decide (uptoBulkAll ds ≤ 1048576)
def OpenSpec.upto (s : _root_.Go.ChangeSpec) : _root_.Go.OpenSpec := { _root_.Go.OpenSpec.ofChange s with cond := some uptoSmall }

/-- 'quillpenlaw13.TableWidths', WHERE WHAT IT READS IS OF BULK AT MOST 1048576: true; the input reads as it did. -/
def tableWidthsUptoRow : OpenClaim := { program := "ytamhdlopchhdjaa", sum := "3eb7633d79f7bbbaa7420284f87969d3cd041dd22066bd8deba61206f82f463e", func := "quillpen/quillpenlaw13.TableWidths", spec := "tableWidths", apart := false, narrowed := true }
def TableWidthsUptoSaid : Prop := tableWidthsUptoRow.holds Try.pinned (OpenSpec.upto tableWidthsSpec)

/-- 'quillpenlaw13.TableTurns', WHERE WHAT IT READS IS OF BULK AT MOST 1048576: true; the input reads as it did. -/
def tableTurnsUptoRow : OpenClaim := { program := "ytamhdlopchhdjaa", sum := "3eb7633d79f7bbbaa7420284f87969d3cd041dd22066bd8deba61206f82f463e", func := "quillpen/quillpenlaw13.TableTurns", spec := "tableTurns", apart := false, narrowed := true }
def TableTurnsUptoSaid : Prop := tableTurnsUptoRow.holds Try.pinned (OpenSpec.upto tableTurnsSpec)

/-- 'quillpenlaw13.TableColumns', WHERE WHAT IT READS IS OF BULK AT MOST 1048576: true; the input reads as it did. -/
def tableColumnsUptoRow : OpenClaim := { program := "ytamhdlopchhdjaa", sum := "3eb7633d79f7bbbaa7420284f87969d3cd041dd22066bd8deba61206f82f463e", func := "quillpen/quillpenlaw13.TableColumns", spec := "tableColumns", unfollowed := true, recurses := true, apart := false, narrowed := true }
def TableColumnsUptoSaid : Prop := tableColumnsUptoRow.holds Try.pinned (OpenSpec.upto tableColumnsSpec)

/-- 'quillpenlaw13.TableFits', WHERE WHAT IT READS IS OF BULK AT MOST 1048576: true; the input reads as it did. -/
def tableFitsUptoRow : OpenClaim := { program := "ytamhdlopchhdjaa", sum := "3eb7633d79f7bbbaa7420284f87969d3cd041dd22066bd8deba61206f82f463e", func := "quillpen/quillpenlaw13.TableFits", spec := "tableFits", unfollowed := true, recurses := true, apart := false, narrowed := true }
def TableFitsUptoSaid : Prop := tableFitsUptoRow.holds Try.pinned (OpenSpec.upto tableFitsSpec)

/-- 'quillpenlaw13.TableSame', WHERE WHAT IT READS IS OF BULK AT MOST 1048576: true; the input reads as it did. -/
def tableSameUptoRow : OpenClaim := { program := "ytamhdlopchhdjaa", sum := "3eb7633d79f7bbbaa7420284f87969d3cd041dd22066bd8deba61206f82f463e", func := "quillpen/quillpenlaw13.TableSame", spec := "tableSame", unfollowed := true, recurses := true, apart := false, narrowed := true }
def TableSameUptoSaid : Prop := tableSameUptoRow.holds Try.pinned (OpenSpec.upto tableSameSpec)

end Rows
end Go.Proofs.Ytamhdlopchhdjaa
