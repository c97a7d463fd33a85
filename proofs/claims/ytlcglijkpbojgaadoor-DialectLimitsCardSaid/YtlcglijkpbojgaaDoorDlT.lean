/- Layer 1: the words from the rows' list; the document's example; how a dialect is opened. -/
import Derived.Test.YtlcglijkpbojgaaDoorDlB
import Derived.Test.YtlcglijkpbojgaaDoorLaid
import Derived.Test.YtlcglijkpbojgaaDoorRows
import Derived.ProofKit
import Derived.MakeChecks
import Derived.Lib.SmallJoins
namespace Go.Proofs.YtlcglijkpbojgaaDoor
open Go.RowKit Go.ChangeShapes Go.WideShapes Go.Joins
set_option linter.unusedVariables false
set_option linter.unusedSimpArgs false

def wordsD : DataW Unit := .agg ((List.range 4).map fun i => .lit (.string (wordB i).data.toList))
theorem words_row {W : World} (h : laidMetH Tryd.prog [("quillpen/dialect.words", Rows.laid_quillpen_dialect_words)] W) : Words W := by
  have hm : laidMet Tryd.prog [("quillpen/dialect.words", wordsD)] W := by
    rw [MakeChecks.laidMetH_plain _ _ _ (by kernel_rfl)] at h
    exact h
  have e : Tryd.prog.cellsOf 9 = 1 := by kernel_rfl
  obtain ⟨f, parts, hp, hi⟩ := laid_array (n := 4) (by kernel_rfl : Tryd.prog.globalNamed "quillpen/dialect.words" = some 0) (by kernel_rfl) Tryd.underlying60 e (by kernel_rfl) hm
  injection hp with hp
  intro i hi4
  obtain ⟨u, y, hc, hy, ht⟩ := hi i hi4
  rw [← hp, List.getElem?_map, List.getElem?_range hi4] at hy
  injection hy with hy
  rw [hc]
  obtain ⟨s, hs, rfl, _⟩ := DataW.trod_string Tryd.underlying9 ht
  injection hs with hs
  subst hs
  injection hy with hy
  injection hy with hy
  rw [ByteArray.ext (Array.toList_inj.1 hy)]

noncomputable def wordsWorld (os : Os) : World :=
  let w0 := World.holding Tryd.prog os ⟨#[], #[], []⟩
  { w0 with heap := w0.heap.modify 0 fun
      | .cells _ t frozen => .cells ((List.range 4).map fun i => Value.string (wordB i)).toArray t frozen
      | o => o }
theorem words_met (os : Os) (args : Array Value) : laidMet Tryd.prog [("quillpen/dialect.words", Rows.laid_quillpen_dialect_words)] ((wordsWorld os).forCall (fun _ _ => 0) ⟨#[], args, []⟩).memory :=
  laidMet_of_run' 8 (by kernel_rfl) (by kernel_rfl)

theorem dlAwake_any (w : World) (hT : Words w) : Calls Tryd.prog 14 #[] w fun e w' => e = .returned (.bool true) ∧ Below w.heap.size w w' := by
  refine cps fun R HR => ?_
  have e1 : textD 44 34 2 = ⟨#[50, 99, 32, 50, 50, 32, 99, 114, 108, 102]⟩ := by decide +kernel
  have e2 : checkD 44 34 2 = 0 := by decide +kernel
  have E1 := Lib.hid e1; have E2 := Lib.hid e2
  clear e1 e2
  go_enter Tryd.func14, Tryd.ntmps14
  go_wp2_with fail
  refine (text_any 44 34 2 _ (by omega) (by omega) hT).mono ?_
  rintro e w1 ⟨rfl, b1⟩
  rw [E1.out, E2.out]
  go_wp2
  exact HR.out _ _ ⟨rfl, b1⟩

section
variable {H : Type} {enc : TypeId × Value → H} {w : World}
theorem open_dialect {v : Value} {d : DataW H} {p : List MemPlace} {r : Reach} {b0 base : Nat} {spare : Nat → Bool} {held : Bool} (hv : Value.okWide Tryd.prog w r b0 23 v)
    (h : DataW.Trod enc Tryd.prog w base spare held 23 v d p) (hsz : Sized Tryd.prog 23 d) :
    ∃ (d q : Nat) (e : Int), v = .agg #[.int .u8 d, .int .u8 q, .int .i64 e] ∧ d < 256 ∧ q < 256 := by
  obtain ⟨v0, v1, v2, y0, y1, y2, n, rfl, -, -, h0, h1, h2⟩ := open_agg3 Tryd.underlying23 (by kernel_rfl) (by kernel_rfl) hv h
  obtain ⟨z0, g0, _, f0⟩ := DataW.trod_int Tryd.underlying5 h0
  obtain ⟨z1, g1, _, f1⟩ := DataW.trod_int Tryd.underlying5 h1
  obtain ⟨z2, g2, _, f2⟩ := DataW.trod_int Tryd.underlying3 h2
  simp at g0 g1 g2
  subst g0 g1 g2
  simp [Lit.wf, IntKind.min, IntKind.max, IntKind.signed, IntKind.bits] at f0 f1
  refine ⟨z0.toNat, z1.toNat, z2, ?_, by omega, by omega⟩
  rw [Int.toNat_of_nonneg f0.1, Int.toNat_of_nonneg f1.1]
end
end Go.Proofs.YtlcglijkpbojgaaDoor
