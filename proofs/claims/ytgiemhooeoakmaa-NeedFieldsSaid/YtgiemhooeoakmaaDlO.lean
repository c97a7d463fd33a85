/- Layer 1: how a dialect is opened. -/
import Derived.Test.YtgiemhooeoakmaaOpen
import Derived.ProofKit
import Derived.SizedLaws
import Derived.Lib.SmallJoins
namespace Go.Proofs.Ytgiemhooeoakmaa
open Go.RowKit Go.ChangeShapes Go.WideShapes Go.Joins
set_option linter.unusedVariables false
set_option linter.unusedSimpArgs false

section
variable {H : Type} {enc : TypeId × Value → H} {w : World}
theorem open_dialect {v : Value} {d : DataW H} {p : List MemPlace} {r : Reach} {b0 base : Nat} {spare : Nat → Bool} {held : Bool} (hv : Value.okWide Try.prog w r b0 23 v)
    (h : DataW.Trod enc Try.prog w base spare held 23 v d p) (hsz : Sized Try.prog 23 d) :
    ∃ (d q : Nat) (e : Int), v = .agg #[.int .u8 d, .int .u8 q, .int .i64 e] ∧ d < 256 ∧ q < 256 := by
  obtain ⟨v0, v1, v2, y0, y1, y2, n, rfl, -, -, h0, h1, h2⟩ := open_agg3 Try.underlying23 (by kernel_rfl) (by kernel_rfl) hv h
  obtain ⟨z0, g0, _, f0⟩ := DataW.trod_int Try.underlying5 h0
  obtain ⟨z1, g1, _, f1⟩ := DataW.trod_int Try.underlying5 h1
  obtain ⟨z2, g2, _, f2⟩ := DataW.trod_int Try.underlying3 h2
  simp at g0 g1 g2
  subst g0 g1 g2
  simp [Lit.wf, IntKind.min, IntKind.max, IntKind.signed, IntKind.bits] at f0 f1
  refine ⟨z0.toNat, z1.toNat, z2, ?_, by omega, by omega⟩
  rw [Int.toNat_of_nonneg f0.1, Int.toNat_of_nonneg f1.1]
end
end Go.Proofs.Ytgiemhooeoakmaa
