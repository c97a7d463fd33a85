/- Layer 1: when a dialect is right, plainly. -/
import Derived.Test.YtgiemhooeoakmaaMem
import Derived.Lib.Strings
import Derived.Lib.QuietBelow
namespace Go.Proofs.Ytgiemhooeoakmaa
open Go.RowKit
set_option linter.unusedVariables false
set_option linter.unusedSimpArgs false

def plainD (b : Nat) : Bool := decide (b < 128 ∧ b ≠ 13 ∧ b ≠ 10)
def rightD (d q : Nat) (e : Int) : Bool := plainD d && plainD q && decide (d ≠ q) && decide (1 ≤ e) && decide (e ≤ 3)
theorem plain_is (b : Nat) : plainD b = (!decide ((127 : Int) < b) && !((b : Int) == 10) && !((b : Int) == 13)) := by
  unfold plainD
  rw [Bool.eq_iff_iff]
  simp
  omega
theorem plain_yes {b : Nat} (h : plainD b = true) : decide ((127 : Int) < b) = false ∧ ((b : Int) == 10) = false ∧ ((b : Int) == 13) = false := by
  rw [plain_is] at h
  simpa [and_assoc] using h
theorem plain_no {b : Nat} (h : plainD b = false) : decide ((127 : Int) < b) = true ∨ (decide ((127 : Int) < b) = false ∧ ((b : Int) == 10) = true) ∨ (decide ((127 : Int) < b) = false ∧ ((b : Int) == 10) = false ∧ ((b : Int) == 13) = true) := by
  rw [plain_is] at h
  cases h1 : decide ((127 : Int) < b)
  · cases h2 : ((b : Int) == 10)
    · rw [h1, h2] at h
      exact .inr (.inr ⟨rfl, rfl, by simpa using h⟩)
    · exact .inr (.inl ⟨rfl, rfl⟩)
  · exact .inl rfl
end Go.Proofs.Ytgiemhooeoakmaa
