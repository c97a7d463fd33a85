/-
  NARROWER THAN 'FOR EVERY INPUT', by the rows' own cells (each row's printed sentence says how): HeadNew: laid · HeadFinds: laid · HeadGets: laid · HeadWithout: laid · BindBinds: laid · BindModes: laid · BindPicks: laid · BindSpreads: laid.
  DERIVED. THE GIVEN ROWS OF THIS SEAT. 8 by the template 'for every input the law returns true; each argument reads behind the call as it read before'; 0 by the template 'total and deterministic' (their statements: YtamhdlopchhdjaaDoorTotals.lean).
  GIVEN WITH THE SEED: the statements are not yours to turn. If you find one false, say at which input.
  Laid BY PROGRAM, IN A SANDBOX (cutbox-rows.mjs): the forced cells as the released guide's own fill.sh prints them over the translation 306f41e523186475… (all of the seat's roots in one cut). By AI agents, Wed Nov 11 2026. No macro, syntax, notation, axiom, sorry.
-/
import Derived.Test.YtamhdlopchhdjaaDoorChecked
import GoSem.Claim
import GoSem.ClaimJoined
import GoSem.ClaimMapViews
import Derived.JoinedTies
import Derived.KernelRfl
namespace Go.Proofs.YtamhdlopchhdjaaDoor
/- THE CELL 'sum', in the pinned program and in every row, IS THE sha256 OF THE DUMP (.gsa) THAT YtamhdlopchhdjaaDoorProg.lean LOADS. Nothing in Lean hashes anything: it is a label: what it is worth is what the hold of that sum in a sandbox is worth. -/
noncomputable def Tryd.pinned : Pinned := { name := "ytamhdlopchhdjaadoor", sum := "306f41e523186475c26694ef910d097742525b0d575c9e86cac344f112969def", checked := Tryd.checked }
namespace Rows
def none {H : Type} : Left H := { results := [], args := [] }

/- WHAT THE LISTED PACKAGE-LEVEL VARIABLES READ AS WHEN THE CALL BEGINS. Each datum BY PROGRAM (the guide's laid-datum.mjs) off the statement by which the dump's own 'gosem.cut.vars' lays the variable. In a bare row this is a premise. The card (YtamhdlopchhdjaaDoorCards.lean) ties it to the program's text. -/
def laid_quillpen_utf_table {H : Type} : DataW H := .agg [.slice [.agg [.lit (.int .u8 0), .lit (.int .u8 127), .lit (.int .i64 0)], .agg [.lit (.int .u8 194), .lit (.int .u8 223), .lit (.int .i64 1)], .agg [.lit (.int .u8 224), .lit (.int .u8 224), .lit (.int .i64 4)], .agg [.lit (.int .u8 225), .lit (.int .u8 236), .lit (.int .i64 2)], .agg [.lit (.int .u8 237), .lit (.int .u8 237), .lit (.int .i64 5)], .agg [.lit (.int .u8 238), .lit (.int .u8 239), .lit (.int .i64 2)], .agg [.lit (.int .u8 240), .lit (.int .u8 240), .lit (.int .i64 6)], .agg [.lit (.int .u8 241), .lit (.int .u8 243), .lit (.int .i64 3)], .agg [.lit (.int .u8 244), .lit (.int .u8 244), .lit (.int .i64 7)]] [], .slice [.agg [.lit (.int .u8 128), .lit (.int .u8 191), .lit (.int .i64 0)]] [], .slice [.agg [.lit (.int .u8 128), .lit (.int .u8 191), .lit (.int .i64 1)]] [], .slice [.agg [.lit (.int .u8 128), .lit (.int .u8 191), .lit (.int .i64 2)]] [], .slice [.agg [.lit (.int .u8 160), .lit (.int .u8 191), .lit (.int .i64 1)]] [], .slice [.agg [.lit (.int .u8 128), .lit (.int .u8 159), .lit (.int .i64 1)]] [], .slice [.agg [.lit (.int .u8 144), .lit (.int .u8 191), .lit (.int .i64 2)]] [], .slice [.agg [.lit (.int .u8 128), .lit (.int .u8 143), .lit (.int .i64 2)]] []]

/-- 'quillpenlaw15.HeadNew': WHATEVER THE INPUT: true; the input reads as it did. -/
def headNewSpec : ChangeSpec := { name := "headNew", fn := fun _ => fun
  | [d] => { results := [.lit (.bool true)], args := [d] }
  | _ => none }
def headNewRow : OpenClaim := { program := "ytamhdlopchhdjaadoor", sum := "306f41e523186475c26694ef910d097742525b0d575c9e86cac344f112969def", func := "quillpen/quillpenlaw15.HeadNew", spec := "headNew", named := ["quillpen/utf.table"], apart := false, laid := [("quillpen/utf.table", laid_quillpen_utf_table)] }
def HeadNewSaid : Prop := headNewRow.holds Tryd.pinned (OpenSpec.ofChange headNewSpec)

/-- ITS FALSE NEIGHBOUR: 'it returns false'. Refute it at one input. -/
def headNewWrong : ChangeSpec := { name := "headNew", fn := fun _ => fun
  | [d] => { results := [.lit (.bool false)], args := [d] }
  | _ => none }
def HeadNewWrongFalsely : Prop := headNewRow.holds Tryd.pinned (OpenSpec.ofChange headNewWrong)

/-- 'quillpenlaw15.HeadFinds': WHATEVER THE INPUT: true; the input reads as it did. -/
def headFindsSpec : ChangeSpec := { name := "headFinds", fn := fun _ => fun
  | [d1, d2, d3] => { results := [.lit (.bool true)], args := [d1, d2, d3] }
  | _ => none }
def headFindsRow : OpenClaim := { program := "ytamhdlopchhdjaadoor", sum := "306f41e523186475c26694ef910d097742525b0d575c9e86cac344f112969def", func := "quillpen/quillpenlaw15.HeadFinds", spec := "headFinds", named := ["quillpen/utf.table"], apart := false, laid := [("quillpen/utf.table", laid_quillpen_utf_table)] }
def HeadFindsSaid : Prop := headFindsRow.holds Tryd.pinned (OpenSpec.ofChange headFindsSpec)

/-- ITS FALSE NEIGHBOUR: 'it returns false'. Refute it at one input. -/
def headFindsWrong : ChangeSpec := { name := "headFinds", fn := fun _ => fun
  | [d1, d2, d3] => { results := [.lit (.bool false)], args := [d1, d2, d3] }
  | _ => none }
def HeadFindsWrongFalsely : Prop := headFindsRow.holds Tryd.pinned (OpenSpec.ofChange headFindsWrong)

/-- 'quillpenlaw15.HeadGets': WHATEVER THE INPUT: true; the input reads as it did. -/
def headGetsSpec : ChangeSpec := { name := "headGets", fn := fun _ => fun
  | [d1, d2, d3] => { results := [.lit (.bool true)], args := [d1, d2, d3] }
  | _ => none }
def headGetsRow : OpenClaim := { program := "ytamhdlopchhdjaadoor", sum := "306f41e523186475c26694ef910d097742525b0d575c9e86cac344f112969def", func := "quillpen/quillpenlaw15.HeadGets", spec := "headGets", named := ["quillpen/utf.table"], apart := false, laid := [("quillpen/utf.table", laid_quillpen_utf_table)] }
def HeadGetsSaid : Prop := headGetsRow.holds Tryd.pinned (OpenSpec.ofChange headGetsSpec)

/-- ITS FALSE NEIGHBOUR: 'it returns false'. Refute it at one input. -/
def headGetsWrong : ChangeSpec := { name := "headGets", fn := fun _ => fun
  | [d1, d2, d3] => { results := [.lit (.bool false)], args := [d1, d2, d3] }
  | _ => none }
def HeadGetsWrongFalsely : Prop := headGetsRow.holds Tryd.pinned (OpenSpec.ofChange headGetsWrong)

/-- 'quillpenlaw15.HeadWithout': WHATEVER THE INPUT: true; the input reads as it did. -/
def headWithoutSpec : ChangeSpec := { name := "headWithout", fn := fun _ => fun
  | [d1, d2] => { results := [.lit (.bool true)], args := [d1, d2] }
  | _ => none }
def headWithoutRow : OpenClaim := { program := "ytamhdlopchhdjaadoor", sum := "306f41e523186475c26694ef910d097742525b0d575c9e86cac344f112969def", func := "quillpen/quillpenlaw15.HeadWithout", spec := "headWithout", named := ["quillpen/utf.table"], apart := false, laid := [("quillpen/utf.table", laid_quillpen_utf_table)] }
def HeadWithoutSaid : Prop := headWithoutRow.holds Tryd.pinned (OpenSpec.ofChange headWithoutSpec)

/-- ITS FALSE NEIGHBOUR: 'it returns false'. Refute it at one input. -/
def headWithoutWrong : ChangeSpec := { name := "headWithout", fn := fun _ => fun
  | [d1, d2] => { results := [.lit (.bool false)], args := [d1, d2] }
  | _ => none }
def HeadWithoutWrongFalsely : Prop := headWithoutRow.holds Tryd.pinned (OpenSpec.ofChange headWithoutWrong)

/-- 'quillpenlaw19.BindBinds': WHATEVER THE INPUT: true; the input reads as it did. -/
def bindBindsSpec : ChangeSpec := { name := "bindBinds", fn := fun _ => fun
  | [d1, d2, d3] => { results := [.lit (.bool true)], args := [d1, d2, d3] }
  | _ => none }
def bindBindsRow : OpenClaim := { program := "ytamhdlopchhdjaadoor", sum := "306f41e523186475c26694ef910d097742525b0d575c9e86cac344f112969def", func := "quillpen/quillpenlaw19.BindBinds", spec := "bindBinds", unfollowed := true, recurses := true, named := ["quillpen/utf.table"], apart := false, laid := [("quillpen/utf.table", laid_quillpen_utf_table)] }
def BindBindsSaid : Prop := bindBindsRow.holds Tryd.pinned (OpenSpec.ofChange bindBindsSpec)

/-- ITS FALSE NEIGHBOUR: 'it returns false'. Refute it at one input. -/
def bindBindsWrong : ChangeSpec := { name := "bindBinds", fn := fun _ => fun
  | [d1, d2, d3] => { results := [.lit (.bool false)], args := [d1, d2, d3] }
  | _ => none }
def BindBindsWrongFalsely : Prop := bindBindsRow.holds Tryd.pinned (OpenSpec.ofChange bindBindsWrong)

/-- 'quillpenlaw19.BindModes': WHATEVER THE INPUT: true; the input reads as it did. -/
def bindModesSpec : ChangeSpec := { name := "bindModes", fn := fun _ => fun
  | [d1, d2] => { results := [.lit (.bool true)], args := [d1, d2] }
  | _ => none }
def bindModesRow : OpenClaim := { program := "ytamhdlopchhdjaadoor", sum := "306f41e523186475c26694ef910d097742525b0d575c9e86cac344f112969def", func := "quillpen/quillpenlaw19.BindModes", spec := "bindModes", unfollowed := true, recurses := true, named := ["quillpen/utf.table"], apart := false, laid := [("quillpen/utf.table", laid_quillpen_utf_table)] }
def BindModesSaid : Prop := bindModesRow.holds Tryd.pinned (OpenSpec.ofChange bindModesSpec)

/-- ITS FALSE NEIGHBOUR: 'it returns false'. Refute it at one input. -/
def bindModesWrong : ChangeSpec := { name := "bindModes", fn := fun _ => fun
  | [d1, d2] => { results := [.lit (.bool false)], args := [d1, d2] }
  | _ => none }
def BindModesWrongFalsely : Prop := bindModesRow.holds Tryd.pinned (OpenSpec.ofChange bindModesWrong)

/-- 'quillpenlaw19.BindPicks': WHATEVER THE INPUT: true; the input reads as it did. -/
def bindPicksSpec : ChangeSpec := { name := "bindPicks", fn := fun _ => fun
  | [d1, d2] => { results := [.lit (.bool true)], args := [d1, d2] }
  | _ => none }
def bindPicksRow : OpenClaim := { program := "ytamhdlopchhdjaadoor", sum := "306f41e523186475c26694ef910d097742525b0d575c9e86cac344f112969def", func := "quillpen/quillpenlaw19.BindPicks", spec := "bindPicks", unfollowed := true, recurses := true, named := ["quillpen/utf.table"], apart := false, laid := [("quillpen/utf.table", laid_quillpen_utf_table)] }
def BindPicksSaid : Prop := bindPicksRow.holds Tryd.pinned (OpenSpec.ofChange bindPicksSpec)

/-- ITS FALSE NEIGHBOUR: 'it returns false'. Refute it at one input. -/
def bindPicksWrong : ChangeSpec := { name := "bindPicks", fn := fun _ => fun
  | [d1, d2] => { results := [.lit (.bool false)], args := [d1, d2] }
  | _ => none }
def BindPicksWrongFalsely : Prop := bindPicksRow.holds Tryd.pinned (OpenSpec.ofChange bindPicksWrong)

/-- 'quillpenlaw19.BindSpreads': WHATEVER THE INPUT: true; the input reads as it did. -/
def bindSpreadsSpec : ChangeSpec := { name := "bindSpreads", fn := fun _ => fun
  | [d1, d2, d3] => { results := [.lit (.bool true)], args := [d1, d2, d3] }
  | _ => none }
def bindSpreadsRow : OpenClaim := { program := "ytamhdlopchhdjaadoor", sum := "306f41e523186475c26694ef910d097742525b0d575c9e86cac344f112969def", func := "quillpen/quillpenlaw19.BindSpreads", spec := "bindSpreads", unfollowed := true, recurses := true, named := ["quillpen/utf.table"], apart := false, laid := [("quillpen/utf.table", laid_quillpen_utf_table)] }
def BindSpreadsSaid : Prop := bindSpreadsRow.holds Tryd.pinned (OpenSpec.ofChange bindSpreadsSpec)

/-- ITS FALSE NEIGHBOUR: 'it returns false'. Refute it at one input. -/
def bindSpreadsWrong : ChangeSpec := { name := "bindSpreads", fn := fun _ => fun
  | [d1, d2, d3] => { results := [.lit (.bool false)], args := [d1, d2, d3] }
  | _ => none }
def BindSpreadsWrongFalsely : Prop := bindSpreadsRow.holds Tryd.pinned (OpenSpec.ofChange bindSpreadsWrong)

/- THE SECOND FORM. 'bulk': how many values and letters a reading holds, each counted each time it is reached (what is shared counts as often as it is met; a slice's spare places count too). A statement '..UptoSaid' is the law's where the arguments, and the package variables that the reading takes, are together of bulk at most 1048576: NARROWER than '..Said'. Prove '..Said' where nothing that the law and all that it calls make is longer than what came in: it says more and counts as full. Else prove '..UptoSaid'. A law counts once. -/
mutual
def uptoBulk {H : Type} : DataW H → Nat
  | .lit (.string bytes) => bytes.length + 1
  | .lit _ => 1
  | .nil => 1
  | .ptr d => uptoBulk d + 1
  | .slice elems spare => uptoBulkAll elems + uptoBulkAll spare + 1
  | .agg parts => uptoBulkAll parts + 1
  | .iface _ d => uptoBulk d + 1
  | .map entries => uptoBulkEntries entries + 1
  | .held _ => 1
def uptoBulkAll {H : Type} : List (DataW H) → Nat
  | [] => 0
  | d :: r => uptoBulk d + uptoBulkAll r
def uptoBulkEntries {H : Type} : List (Lit × DataW H) → Nat
  | [] => 0
  | x :: r => uptoBulkEntry x + uptoBulkEntries r
def uptoBulkEntry {H : Type} : Lit × DataW H → Nat
  | (.string bytes, d) => bytes.length + uptoBulk d + 1
  | (_, d) => uptoBulk d + 1
 end
def uptoSmall : (H : Type) → List (DataW H) → Bool := fun _ ds => decide (uptoBulkAll ds ≤ 1048576)
def OpenSpec.upto (s : _root_.Go.ChangeSpec) : _root_.Go.OpenSpec := { _root_.Go.OpenSpec.ofChange s with cond := some uptoSmall }

/-- 'quillpenlaw15.HeadNew', WHERE WHAT IT READS IS OF BULK AT MOST 1048576: true; the input reads as it did. -/
def headNewUptoRow : OpenClaim := { program := "ytamhdlopchhdjaadoor", sum := "306f41e523186475c26694ef910d097742525b0d575c9e86cac344f112969def", func := "quillpen/quillpenlaw15.HeadNew", spec := "headNew", named := ["quillpen/utf.table"], apart := false, laid := [("quillpen/utf.table", laid_quillpen_utf_table)], narrowed := true }
def HeadNewUptoSaid : Prop := headNewUptoRow.holds Tryd.pinned (OpenSpec.upto headNewSpec)

/-- 'quillpenlaw15.HeadFinds', WHERE WHAT IT READS IS OF BULK AT MOST 1048576: true; the input reads as it did. -/
def headFindsUptoRow : OpenClaim := { program := "ytamhdlopchhdjaadoor", sum := "306f41e523186475c26694ef910d097742525b0d575c9e86cac344f112969def", func := "quillpen/quillpenlaw15.HeadFinds", spec := "headFinds", named := ["quillpen/utf.table"], apart := false, laid := [("quillpen/utf.table", laid_quillpen_utf_table)], narrowed := true }
def HeadFindsUptoSaid : Prop := headFindsUptoRow.holds Tryd.pinned (OpenSpec.upto headFindsSpec)

/-- 'quillpenlaw15.HeadGets', WHERE WHAT IT READS IS OF BULK AT MOST 1048576: true; the input reads as it did. -/
def headGetsUptoRow : OpenClaim := { program := "ytamhdlopchhdjaadoor", sum := "306f41e523186475c26694ef910d097742525b0d575c9e86cac344f112969def", func := "quillpen/quillpenlaw15.HeadGets", spec := "headGets", named := ["quillpen/utf.table"], apart := false, laid := [("quillpen/utf.table", laid_quillpen_utf_table)], narrowed := true }
def HeadGetsUptoSaid : Prop := headGetsUptoRow.holds Tryd.pinned (OpenSpec.upto headGetsSpec)

/-- 'quillpenlaw15.HeadWithout', WHERE WHAT IT READS IS OF BULK AT MOST 1048576: true; the input reads as it did. -/
def headWithoutUptoRow : OpenClaim := { program := "ytamhdlopchhdjaadoor", sum := "306f41e523186475c26694ef910d097742525b0d575c9e86cac344f112969def", func := "quillpen/quillpenlaw15.HeadWithout", spec := "headWithout", named := ["quillpen/utf.table"], apart := false, laid := [("quillpen/utf.table", laid_quillpen_utf_table)], narrowed := true }
def HeadWithoutUptoSaid : Prop := headWithoutUptoRow.holds Tryd.pinned (OpenSpec.upto headWithoutSpec)

/-- 'quillpenlaw19.BindBinds', WHERE WHAT IT READS IS OF BULK AT MOST 1048576: true; the input reads as it did. -/
def bindBindsUptoRow : OpenClaim := { program := "ytamhdlopchhdjaadoor", sum := "306f41e523186475c26694ef910d097742525b0d575c9e86cac344f112969def", func := "quillpen/quillpenlaw19.BindBinds", spec := "bindBinds", unfollowed := true, recurses := true, named := ["quillpen/utf.table"], apart := false, laid := [("quillpen/utf.table", laid_quillpen_utf_table)], narrowed := true }
def BindBindsUptoSaid : Prop := bindBindsUptoRow.holds Tryd.pinned (OpenSpec.upto bindBindsSpec)

/-- 'quillpenlaw19.BindModes', WHERE WHAT IT READS IS OF BULK AT MOST 1048576: true; the input reads as it did. -/
def bindModesUptoRow : OpenClaim := { program := "ytamhdlopchhdjaadoor", sum := "306f41e523186475c26694ef910d097742525b0d575c9e86cac344f112969def", func := "quillpen/quillpenlaw19.BindModes", spec := "bindModes", unfollowed := true, recurses := true, named := ["quillpen/utf.table"], apart := false, laid := [("quillpen/utf.table", laid_quillpen_utf_table)], narrowed := true }
def BindModesUptoSaid : Prop := bindModesUptoRow.holds Tryd.pinned (OpenSpec.upto bindModesSpec)

/-- 'quillpenlaw19.BindPicks', WHERE WHAT IT READS IS OF BULK AT MOST 1048576: true; the input reads as it did. -/
def bindPicksUptoRow : OpenClaim := { program := "ytamhdlopchhdjaadoor", sum := "306f41e523186475c26694ef910d097742525b0d575c9e86cac344f112969def", func := "quillpen/quillpenlaw19.BindPicks", spec := "bindPicks", unfollowed := true, recurses := true, named := ["quillpen/utf.table"], apart := false, laid := [("quillpen/utf.table", laid_quillpen_utf_table)], narrowed := true }
def BindPicksUptoSaid : Prop := bindPicksUptoRow.holds Tryd.pinned (OpenSpec.upto bindPicksSpec)

/-- 'quillpenlaw19.BindSpreads', WHERE WHAT IT READS IS OF BULK AT MOST 1048576: true; the input reads as it did. -/
def bindSpreadsUptoRow : OpenClaim := { program := "ytamhdlopchhdjaadoor", sum := "306f41e523186475c26694ef910d097742525b0d575c9e86cac344f112969def", func := "quillpen/quillpenlaw19.BindSpreads", spec := "bindSpreads", unfollowed := true, recurses := true, named := ["quillpen/utf.table"], apart := false, laid := [("quillpen/utf.table", laid_quillpen_utf_table)], narrowed := true }
def BindSpreadsUptoSaid : Prop := bindSpreadsUptoRow.holds Tryd.pinned (OpenSpec.upto bindSpreadsSpec)

end Rows
end Go.Proofs.YtamhdlopchhdjaaDoor
