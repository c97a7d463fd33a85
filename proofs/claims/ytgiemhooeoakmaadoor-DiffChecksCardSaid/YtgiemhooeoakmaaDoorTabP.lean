/- Rows of strings behind other calls; two rows. -/
import Derived.Test.YtgiemhooeoakmaaDoorTabO
import Derived.Lib.QuietBelow
import Derived.Lib.Strings
namespace Go.Proofs.YtgiemhooeoakmaaDoor
open Go.RowKit Go.ChangeShapes Go.WideShapes
set_option linter.unusedVariables false
set_option linter.unusedSimpArgs false

theorem RdS.next {w w' : World} {v : Value} {l : Row} (h : RdS w w.heap.size v l) (hb : Below w.heap.size w w') : RdS w' w'.heap.size v l := (h.below hb).more hb.size
theorem RdT.next {w w' : World} {v : Value} {t : Tbl} (h : RdT w w.heap.size v t) (hb : Below w.heap.size w w') : RdT w' w'.heap.size v t := (h.below hb).more hb.size
theorem str_eq (a b : ByteArray) : (a.toList == b.toList) = decide (a = b) := by
  rw [Bool.eq_iff_iff, beq_iff_eq, decide_eq_true_iff, ByteArray.toList_eq, ByteArray.toList_eq]
  constructor
  · intro h; exact ByteArray.ext (Array.toList_inj.1 h)
  · rintro rfl; rfl
def sameS (a b : Row) : Bool := decide (a = b)
def sameT (a b : Tbl) : Bool := decide (a = b)
end Go.Proofs.YtgiemhooeoakmaaDoor
