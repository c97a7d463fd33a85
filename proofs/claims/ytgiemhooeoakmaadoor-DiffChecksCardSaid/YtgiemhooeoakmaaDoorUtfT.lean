/- The table of layer 2, from the rows' list; a world that holds it. -/
import Derived.Test.YtgiemhooeoakmaaDoorUtfA
import Derived.Test.YtgiemhooeoakmaaDoorLaid
import Derived.Test.YtgiemhooeoakmaaDoorRows
import Derived.ProofKit
import Derived.MakeChecks
namespace Go.Proofs.YtgiemhooeoakmaaDoor
open Go.RowKit Go.ChangeShapes Go.WideShapes
set_option linter.unusedVariables false
set_option linter.unusedSimpArgs false

def spanD (x : Nat × Nat × Nat) : DataW Unit := .agg [.lit (.int .u8 x.1), .lit (.int .u8 x.2.1), .lit (.int .i64 x.2.2)]
set_option maxRecDepth 100000 in
theorem span_cells {w : World} {f : Nat} {cs : List Value} {y : DataW Unit × List MemPlace} {x : Nat × Nat × Nat} (h : DataW.trod (fun _ => ()) Tryd.prog w 0 (fun _ => true) false f 214 cs = some y) (hy : y.1 = spanD x) : cs = spanV x := by
  obtain ⟨y0, y1, y2, n, rfl, hl, h0, h1, h2⟩ := Go.Deep.trod_struct3 Tryd.underlying214 h
  have hl3 : cs.length = 3 := by rw [hl]; kernel_rfl
  match cs, hl3 with
  | [a, b, c], _ =>
    have c1 : Tryd.prog.cellsOf 5 = 1 := by kernel_rfl
    have c2 : Tryd.prog.cellsOf 3 = 1 := by kernel_rfl
    simp only [c1, c2] at h0 h1 h2
    obtain ⟨z0, g0, e0, _⟩ := DataW.trod_int Tryd.underlying5 h0
    obtain ⟨z1, g1, e1, _⟩ := DataW.trod_int Tryd.underlying5 h1
    obtain ⟨z2, g2, e2, _⟩ := DataW.trod_int Tryd.underlying3 h2
    subst e0 e1 e2
    simp [spanD] at hy
    simp at g0 g1 g2
    simp [spanV, g0, g1, g2, hy]

def tabD : DataW Unit := .agg ((List.range 8).map fun st => .slice ((spans st).map spanD) [])
set_option maxRecDepth 100000 in
theorem tab_row {W : World} (h : laidMetH Tryd.prog [("quillpen/utf.table", Rows.laid_quillpen_utf_table)] W) : Tab W := by
  have hm : laidMet Tryd.prog [("quillpen/utf.table", tabD)] W := by
    rw [MakeChecks.laidMetH_plain _ _ _ (by kernel_rfl)] at h
    exact h
  have e : Tryd.prog.cellsOf 211 = 1 := by kernel_rfl
  obtain ⟨f, parts, hp, hi⟩ := laid_array (n := 8) (by kernel_rfl : Tryd.prog.globalNamed "quillpen/utf.table" = some 1) (by kernel_rfl) Tryd.underlying212 e (by kernel_rfl) hm
  injection hp with hp
  intro st hst
  obtain ⟨u, y, hc, hy, ht⟩ := hi st hst
  rw [← hp, List.getElem?_map, List.getElem?_range hst] at hy
  injection hy with hy
  have hz : Sized Tryd.prog 211 y.1 := by
    rw [← hy]
    obtain rfl | rfl | rfl | rfl | rfl | rfl | rfl | rfl : st = 0 ∨ st = 1 ∨ st = 2 ∨ st = 3 ∨ st = 4 ∨ st = 5 ∨ st = 6 ∨ st = 7 := by omega
    all_goals
      intro x hx
      refine of_decide_eq_true (List.all_eq_true.1 (?_ : List.all _ (fun x => decide (x ≤ 140737488351232)) = true) x hx)
      kernel_rfl
  obtain ⟨A, n, c, xs, D, rfl, hs, hx, hxt⟩ := open_sl_at (size := 3) Tryd.underlying211 (by kernel_rfl) (by omega) (of_decide_eq_true (by kernel_rfl)) ht hz
  obtain ⟨h1, _⟩ | ⟨sp, h1⟩ := hx
  · rw [h1] at hy; cases hy
  · rw [h1] at hy
    injection hy with hy hy2
    have hn : n = (spans st).length := by
      have := congrArg List.length hy
      simpa using this.symm
    subst hn
    refine ⟨A, c, hc, ?_⟩
    have hxs : xs = (spans st).flatMap spanV := eq_flat (size := 3) (fun _ => rfl) _ _ hs.len (fun i a ha => by
      have hil := (List.getElem?_eq_some_iff.1 ha).1
      obtain ⟨f, y, h2, h3, _⟩ := hxt i hil
      refine span_cells h2 ?_
      have := congrArg (·[i]?) hy
      simp [ha, hil] at this
      rw [h3, ← this]
      rw [List.getElem?_eq_getElem hil] at ha
      injection ha with ha
      rw [ha])
    rw [← hxs]
    exact hs

/-- The settled world with the table's eight rows behind it. -/
noncomputable def laidWorld (os : Os) : World :=
  let N := (World.settled Tryd.prog os).heap.size
  let w0 := World.holding Tryd.prog os ⟨((List.range 8).map fun st => Obj.cells ((spans st).flatMap spanV).toArray 214 (0, 0)).toArray, #[], []⟩
  { w0 with heap := w0.heap.modify 1 fun
      | .cells _ t frozen => .cells ((List.range 8).map fun st => Value.slice (some ⟨N + st, 0, none⟩) (spans st).length (spans st).length).toArray t frozen
      | o => o }
set_option maxRecDepth 100000 in
theorem laid_met (os : Os) (args : Array Value) : laidMet Tryd.prog [("quillpen/utf.table", Rows.laid_quillpen_utf_table)] ((laidWorld os).forCall (fun _ _ => 0) ⟨#[], args, []⟩).memory :=
  laidMet_of_run' 8 (by kernel_rfl) (by kernel_rfl)
end Go.Proofs.YtgiemhooeoakmaaDoor
