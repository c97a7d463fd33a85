/-
  NARROWER THAN 'FOR EVERY INPUT', by the rows' own cells (each row's printed sentence says how): DialectChecks: laid · DialectLimits: laid · UtfSteps: laid · UtfPieces: laid · UtfBad: laid · UtfTexts: laid.
  DERIVED. THE GIVEN ROWS OF THIS SEAT. 6 by the template 'for every input the law returns true; each argument reads behind the call as it read before'; 0 by the template 'total and deterministic' (their statements: YtlcglijkpbojgaaDoorTotals.lean).
  GIVEN WITH THE SEED: the statements are not yours to turn. If you find one false, say at which input.
  Laid BY PROGRAM, IN A SANDBOX (cutbox-rows.mjs): the forced cells as the released guide's own fill.sh prints them over the translation 56eae8a217a0740f… (all of the seat's roots in one cut). By AI agents, Wed Nov 11 2026. No macro, syntax, notation, axiom, sorry.
-/
import Derived.Test.YtlcglijkpbojgaaDoorChecked
import GoSem.Claim
import GoSem.ClaimJoined
import GoSem.ClaimMapViews
import Derived.JoinedTies
import Derived.KernelRfl
namespace Go.Proofs.YtlcglijkpbojgaaDoor
/- THE CELL 'sum', in the pinned program and in every row, IS THE sha256 OF THE DUMP (.gsa) THAT YtlcglijkpbojgaaDoorProg.lean LOADS. Nothing in Lean hashes anything: it is a label: what it is worth is what the hold of that sum in a sandbox is worth. -/
noncomputable def Tryd.pinned : Pinned := { name := "ytlcglijkpbojgaadoor", sum := "56eae8a217a0740f35609a4c1e905047c1085afab303999369487be1ada62e0f", checked := Tryd.checked }
namespace Rows
def none {H : Type} : Left H := { results := [], args := [] }

/- WHAT THE LISTED PACKAGE-LEVEL VARIABLES READ AS WHEN THE CALL BEGINS. Each datum BY PROGRAM (the guide's laid-datum.mjs) off the statement by which the dump's own 'gosem.cut.vars' lays the variable. In a bare row this is a premise. The card (YtlcglijkpbojgaaDoorCards.lean) ties it to the program's text. -/
def laid_quillpen_dialect_words {H : Type} : DataW H := .agg [.lit (.string []), .lit (.string [108, 102]), .lit (.string [99, 114, 108, 102]), .lit (.string [101, 105, 116, 104, 101, 114])]
def laid_quillpen_utf_table {H : Type} : DataW H := .agg [.slice [.agg [.lit (.int .u8 0), .lit (.int .u8 127), .lit (.int .i64 0)], .agg [.lit (.int .u8 194), .lit (.int .u8 223), .lit (.int .i64 1)], .agg [.lit (.int .u8 224), .lit (.int .u8 224), .lit (.int .i64 4)], .agg [.lit (.int .u8 225), .lit (.int .u8 236), .lit (.int .i64 2)], .agg [.lit (.int .u8 237), .lit (.int .u8 237), .lit (.int .i64 5)], .agg [.lit (.int .u8 238), .lit (.int .u8 239), .lit (.int .i64 2)], .agg [.lit (.int .u8 240), .lit (.int .u8 240), .lit (.int .i64 6)], .agg [.lit (.int .u8 241), .lit (.int .u8 243), .lit (.int .i64 3)], .agg [.lit (.int .u8 244), .lit (.int .u8 244), .lit (.int .i64 7)]] [], .slice [.agg [.lit (.int .u8 128), .lit (.int .u8 191), .lit (.int .i64 0)]] [], .slice [.agg [.lit (.int .u8 128), .lit (.int .u8 191), .lit (.int .i64 1)]] [], .slice [.agg [.lit (.int .u8 128), .lit (.int .u8 191), .lit (.int .i64 2)]] [], .slice [.agg [.lit (.int .u8 160), .lit (.int .u8 191), .lit (.int .i64 1)]] [], .slice [.agg [.lit (.int .u8 128), .lit (.int .u8 159), .lit (.int .i64 1)]] [], .slice [.agg [.lit (.int .u8 144), .lit (.int .u8 191), .lit (.int .i64 2)]] [], .slice [.agg [.lit (.int .u8 128), .lit (.int .u8 143), .lit (.int .i64 2)]] []]

/-- 'quillpenlaw01.DialectChecks': WHATEVER THE INPUT: true; the input reads as it did. -/
def dialectChecksSpec : ChangeSpec := { name := "dialectChecks", fn := fun _ => fun
  | [d] => { results := [.lit (.bool true)], args := [d] }
  | _ => none }
def dialectChecksRow : OpenClaim := { program := "ytlcglijkpbojgaadoor", sum := "56eae8a217a0740f35609a4c1e905047c1085afab303999369487be1ada62e0f", func := "quillpen/quillpenlaw01.DialectChecks", spec := "dialectChecks", named := ["quillpen/dialect.words"], apart := false, laid := [("quillpen/dialect.words", laid_quillpen_dialect_words)] }
def DialectChecksSaid : Prop := dialectChecksRow.holds Tryd.pinned (OpenSpec.ofChange dialectChecksSpec)

/-- ITS FALSE NEIGHBOUR: 'it returns false'. Refute it at one input. -/
def dialectChecksWrong : ChangeSpec := { name := "dialectChecks", fn := fun _ => fun
  | [d] => { results := [.lit (.bool false)], args := [d] }
  | _ => none }
def DialectChecksWrongFalsely : Prop := dialectChecksRow.holds Tryd.pinned (OpenSpec.ofChange dialectChecksWrong)

/-- 'quillpenlaw01.DialectLimits': WHATEVER THE INPUT: true; the input reads as it did. -/
def dialectLimitsSpec : ChangeSpec := { name := "dialectLimits", fn := fun _ => fun
  | [d] => { results := [.lit (.bool true)], args := [d] }
  | _ => none }
def dialectLimitsRow : OpenClaim := { program := "ytlcglijkpbojgaadoor", sum := "56eae8a217a0740f35609a4c1e905047c1085afab303999369487be1ada62e0f", func := "quillpen/quillpenlaw01.DialectLimits", spec := "dialectLimits", named := ["quillpen/dialect.words"], apart := false, laid := [("quillpen/dialect.words", laid_quillpen_dialect_words)] }
def DialectLimitsSaid : Prop := dialectLimitsRow.holds Tryd.pinned (OpenSpec.ofChange dialectLimitsSpec)

/-- ITS FALSE NEIGHBOUR: 'it returns false'. Refute it at one input. -/
def dialectLimitsWrong : ChangeSpec := { name := "dialectLimits", fn := fun _ => fun
  | [d] => { results := [.lit (.bool false)], args := [d] }
  | _ => none }
def DialectLimitsWrongFalsely : Prop := dialectLimitsRow.holds Tryd.pinned (OpenSpec.ofChange dialectLimitsWrong)

/-- 'quillpenlaw02.UtfSteps': WHATEVER THE INPUT: true; the input reads as it did. -/
def utfStepsSpec : ChangeSpec := { name := "utfSteps", fn := fun _ => fun
  | [d1, d2] => { results := [.lit (.bool true)], args := [d1, d2] }
  | _ => none }
def utfStepsRow : OpenClaim := { program := "ytlcglijkpbojgaadoor", sum := "56eae8a217a0740f35609a4c1e905047c1085afab303999369487be1ada62e0f", func := "quillpen/quillpenlaw02.UtfSteps", spec := "utfSteps", named := ["quillpen/utf.table"], apart := false, laid := [("quillpen/utf.table", laid_quillpen_utf_table)] }
def UtfStepsSaid : Prop := utfStepsRow.holds Tryd.pinned (OpenSpec.ofChange utfStepsSpec)

/-- ITS FALSE NEIGHBOUR: 'it returns false'. Refute it at one input. -/
def utfStepsWrong : ChangeSpec := { name := "utfSteps", fn := fun _ => fun
  | [d1, d2] => { results := [.lit (.bool false)], args := [d1, d2] }
  | _ => none }
def UtfStepsWrongFalsely : Prop := utfStepsRow.holds Tryd.pinned (OpenSpec.ofChange utfStepsWrong)

/-- 'quillpenlaw02.UtfPieces': WHATEVER THE INPUT: true; the input reads as it did. -/
def utfPiecesSpec : ChangeSpec := { name := "utfPieces", fn := fun _ => fun
  | [d1, d2] => { results := [.lit (.bool true)], args := [d1, d2] }
  | _ => none }
def utfPiecesRow : OpenClaim := { program := "ytlcglijkpbojgaadoor", sum := "56eae8a217a0740f35609a4c1e905047c1085afab303999369487be1ada62e0f", func := "quillpen/quillpenlaw02.UtfPieces", spec := "utfPieces", named := ["quillpen/utf.table"], apart := false, laid := [("quillpen/utf.table", laid_quillpen_utf_table)] }
def UtfPiecesSaid : Prop := utfPiecesRow.holds Tryd.pinned (OpenSpec.ofChange utfPiecesSpec)

/-- ITS FALSE NEIGHBOUR: 'it returns false'. Refute it at one input. -/
def utfPiecesWrong : ChangeSpec := { name := "utfPieces", fn := fun _ => fun
  | [d1, d2] => { results := [.lit (.bool false)], args := [d1, d2] }
  | _ => none }
def UtfPiecesWrongFalsely : Prop := utfPiecesRow.holds Tryd.pinned (OpenSpec.ofChange utfPiecesWrong)

/-- 'quillpenlaw02.UtfBad': WHATEVER THE INPUT: true; the input reads as it did. -/
def utfBadSpec : ChangeSpec := { name := "utfBad", fn := fun _ => fun
  | [d] => { results := [.lit (.bool true)], args := [d] }
  | _ => none }
def utfBadRow : OpenClaim := { program := "ytlcglijkpbojgaadoor", sum := "56eae8a217a0740f35609a4c1e905047c1085afab303999369487be1ada62e0f", func := "quillpen/quillpenlaw02.UtfBad", spec := "utfBad", named := ["quillpen/utf.table"], apart := false, laid := [("quillpen/utf.table", laid_quillpen_utf_table)] }
def UtfBadSaid : Prop := utfBadRow.holds Tryd.pinned (OpenSpec.ofChange utfBadSpec)

/-- ITS FALSE NEIGHBOUR: 'it returns false'. Refute it at one input. -/
def utfBadWrong : ChangeSpec := { name := "utfBad", fn := fun _ => fun
  | [d] => { results := [.lit (.bool false)], args := [d] }
  | _ => none }
def UtfBadWrongFalsely : Prop := utfBadRow.holds Tryd.pinned (OpenSpec.ofChange utfBadWrong)

/-- 'quillpenlaw02.UtfTexts': WHATEVER THE INPUT: true; the input reads as it did. -/
def utfTextsSpec : ChangeSpec := { name := "utfTexts", fn := fun _ => fun
  | [d1, d2, d3] => { results := [.lit (.bool true)], args := [d1, d2, d3] }
  | _ => none }
def utfTextsRow : OpenClaim := { program := "ytlcglijkpbojgaadoor", sum := "56eae8a217a0740f35609a4c1e905047c1085afab303999369487be1ada62e0f", func := "quillpen/quillpenlaw02.UtfTexts", spec := "utfTexts", named := ["quillpen/utf.table"], apart := false, laid := [("quillpen/utf.table", laid_quillpen_utf_table)] }
def UtfTextsSaid : Prop := utfTextsRow.holds Tryd.pinned (OpenSpec.ofChange utfTextsSpec)

/-- ITS FALSE NEIGHBOUR: 'it returns false'. Refute it at one input. -/
def utfTextsWrong : ChangeSpec := { name := "utfTexts", fn := fun _ => fun
  | [d1, d2, d3] => { results := [.lit (.bool false)], args := [d1, d2, d3] }
  | _ => none }
def UtfTextsWrongFalsely : Prop := utfTextsRow.holds Tryd.pinned (OpenSpec.ofChange utfTextsWrong)

/- THE SECOND FORM. 'bulk': how many values and letters a reading holds, each counted each time it is reached (what is shared counts as often as it is met; a slice's spare places count too). A statement '..UptoSaid' is the law's where the arguments, and the package variables that the reading takes, are together of bulk at most 1048576: NARROWER than '..Said'. Prove '..Said' where nothing that the law and all that it calls make is longer than what came in: it says more and counts as full. Else prove '..UptoSaid'. A law counts once. -/
mutual
def uptoBulk {H : Type} : DataW H → Nat
  | .lit (.string bytes) => bytes.length + 1
  | .lit _ => 1
  | .nil => 1
  | .ptr d => uptoBulk d + 1
  | .slice elems spare => uptoBulkAll elems + uptoBulkAll spare + 1
  | .agg parts => uptoBulkAll parts + 1
  | .iface _ d => uptoBulk d + 1
  | .map entries => uptoBulkEntries entries + 1
  | .held _ => 1
def uptoBulkAll {H : Type} : List (DataW H) → Nat
  | [] => 0
  | d :: r => uptoBulk d + uptoBulkAll r
def uptoBulkEntries {H : Type} : List (Lit × DataW H) → Nat
  | [] => 0
  | x :: r => uptoBulkEntry x + uptoBulkEntries r
def uptoBulkEntry {H : Type} : Lit × DataW H → Nat
  | (.string bytes, d) => bytes.length + uptoBulk d + 1
  | (_, d) => uptoBulk d + 1
 end
def uptoSmall : (H : Type) → List (DataW H) → Bool := fun _ ds => decide (uptoBulkAll ds ≤ 1048576)
def OpenSpec.upto (s : _root_.Go.ChangeSpec) : _root_.Go.OpenSpec := { _root_.Go.OpenSpec.ofChange s with cond := some uptoSmall }

/-- 'quillpenlaw01.DialectChecks', WHERE WHAT IT READS IS OF BULK AT MOST 1048576: true; the input reads as it did. -/
def dialectChecksUptoRow : OpenClaim := { program := "ytlcglijkpbojgaadoor", sum := "56eae8a217a0740f35609a4c1e905047c1085afab303999369487be1ada62e0f", func := "quillpen/quillpenlaw01.DialectChecks", spec := "dialectChecks", named := ["quillpen/dialect.words"], apart := false, laid := [("quillpen/dialect.words", laid_quillpen_dialect_words)], narrowed := true }
def DialectChecksUptoSaid : Prop := dialectChecksUptoRow.holds Tryd.pinned (OpenSpec.upto dialectChecksSpec)

/-- 'quillpenlaw01.DialectLimits', WHERE WHAT IT READS IS OF BULK AT MOST 1048576: true; the input reads as it did. -/
def dialectLimitsUptoRow : OpenClaim := { program := "ytlcglijkpbojgaadoor", sum := "56eae8a217a0740f35609a4c1e905047c1085afab303999369487be1ada62e0f", func := "quillpen/quillpenlaw01.DialectLimits", spec := "dialectLimits", named := ["quillpen/dialect.words"], apart := false, laid := [("quillpen/dialect.words", laid_quillpen_dialect_words)], narrowed := true }
def DialectLimitsUptoSaid : Prop := dialectLimitsUptoRow.holds Tryd.pinned (OpenSpec.upto dialectLimitsSpec)

/-- 'quillpenlaw02.UtfSteps', WHERE WHAT IT READS IS OF BULK AT MOST 1048576: true; the input reads as it did. -/
def utfStepsUptoRow : OpenClaim := { program := "ytlcglijkpbojgaadoor", sum := "56eae8a217a0740f35609a4c1e905047c1085afab303999369487be1ada62e0f", func := "quillpen/quillpenlaw02.UtfSteps", spec := "utfSteps", named := ["quillpen/utf.table"], apart := false, laid := [("quillpen/utf.table", laid_quillpen_utf_table)], narrowed := true }
def UtfStepsUptoSaid : Prop := utfStepsUptoRow.holds Tryd.pinned (OpenSpec.upto utfStepsSpec)

/-- 'quillpenlaw02.UtfPieces', WHERE WHAT IT READS IS OF BULK AT MOST 1048576: true; the input reads as it did. -/
def utfPiecesUptoRow : OpenClaim := { program := "ytlcglijkpbojgaadoor", sum := "56eae8a217a0740f35609a4c1e905047c1085afab303999369487be1ada62e0f", func := "quillpen/quillpenlaw02.UtfPieces", spec := "utfPieces", named := ["quillpen/utf.table"], apart := false, laid := [("quillpen/utf.table", laid_quillpen_utf_table)], narrowed := true }
def UtfPiecesUptoSaid : Prop := utfPiecesUptoRow.holds Tryd.pinned (OpenSpec.upto utfPiecesSpec)

/-- 'quillpenlaw02.UtfBad', WHERE WHAT IT READS IS OF BULK AT MOST 1048576: true; the input reads as it did. -/
def utfBadUptoRow : OpenClaim := { program := "ytlcglijkpbojgaadoor", sum := "56eae8a217a0740f35609a4c1e905047c1085afab303999369487be1ada62e0f", func := "quillpen/quillpenlaw02.UtfBad", spec := "utfBad", named := ["quillpen/utf.table"], apart := false, laid := [("quillpen/utf.table", laid_quillpen_utf_table)], narrowed := true }
def UtfBadUptoSaid : Prop := utfBadUptoRow.holds Tryd.pinned (OpenSpec.upto utfBadSpec)

/-- 'quillpenlaw02.UtfTexts', WHERE WHAT IT READS IS OF BULK AT MOST 1048576: true; the input reads as it did. -/
def utfTextsUptoRow : OpenClaim := { program := "ytlcglijkpbojgaadoor", sum := "56eae8a217a0740f35609a4c1e905047c1085afab303999369487be1ada62e0f", func := "quillpen/quillpenlaw02.UtfTexts", spec := "utfTexts", named := ["quillpen/utf.table"], apart := false, laid := [("quillpen/utf.table", laid_quillpen_utf_table)], narrowed := true }
def UtfTextsUptoSaid : Prop := utfTextsUptoRow.holds Tryd.pinned (OpenSpec.upto utfTextsSpec)

end Rows
end Go.Proofs.YtlcglijkpbojgaaDoor
