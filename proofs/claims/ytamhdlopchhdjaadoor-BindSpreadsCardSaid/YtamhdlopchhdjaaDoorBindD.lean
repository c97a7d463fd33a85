/- Layer 19: the document's example. -/
import Derived.Test.YtamhdlopchhdjaaDoorBindC
namespace Go.Proofs.YtamhdlopchhdjaaDoor
open Go.RowKit Go.ChangeShapes Go.WideShapes
set_option linter.unusedVariables false
set_option linter.unusedSimpArgs false

def exBA : Row := [⟨#[98]⟩, ⟨#[97]⟩]
def exCols : List Col := [⟨⟨#[97]⟩, 2, false⟩, ⟨⟨#[98]⟩, 1, false⟩]
theorem RdF.new6 (w : World) (a b : ByteArray) (i j : Int) (p q : Bool) (e : TypeId) : RdC (w.alloc (.cells #[.string a, .int .i64 i, .bool p, .string b, .int .i64 j, .bool q] e)) (w.alloc (.cells #[.string a, .int .i64 i, .bool p, .string b, .int .i64 j, .bool q] e)).heap.size (.slice (some ⟨w.heap.size, 0, none⟩) 2 2) [⟨a, i, p⟩, ⟨b, j, q⟩] :=
  RdF.new (f := colV) (s := 3) w [⟨a, i, p⟩, ⟨b, j, q⟩] e 2 _ rfl colV_len rfl (by omega)
set_option maxHeartbeats 1000000 in
theorem awake19_any (w : World) (hT : Tab w) : Calls Tryd.prog 27 #[] w fun e w' => e = .returned (.bool true) ∧ Below w.heap.size w w' := by
  refine cps fun R HR => ?_
  have E1 := Lib.hid (show bindF exBA exCols 2 = ([1, 0], 2, 0) by decide +kernel)
  have E3 := Lib.hid (show sameI [1, 0] [1, 0] = true by decide +kernel)
  have b0 := (Below.refl w.heap.size w).alloc (Nat.le_refl _) (.cells #[.string ⟨#[98]⟩, .string ⟨#[97]⟩] 9)
  have h0 := RdS.new w exBA 9 2 rfl (by omega)
  obtain ⟨w1, hw1⟩ : ∃ w1, w1 = w.alloc (.cells #[.string ⟨#[98]⟩, .string ⟨#[97]⟩] 9) := ⟨_, rfl⟩
  have h0' : RdS w1 w1.heap.size (.slice (some ⟨w.heap.size, 0, none⟩) 2 2) exBA := by rw [hw1]; exact h0
  rw [← hw1] at b0
  have h1 := RdF.new6 w1 ⟨#[97]⟩ ⟨#[98]⟩ 2 1 false false 74
  have b1 := (Below.refl w1.heap.size w1).alloc (Nat.le_refl _) (.cells #[.string ⟨#[97]⟩, .int .i64 2, .bool false, .string ⟨#[98]⟩, .int .i64 1, .bool false] 74)
  have h2 := h0'.next b1
  have bw1 := b0.trans (b1.mono b0.size)
  have T0 := Lib.hid (hT.below bw1)
  have hsz : w1.heap.size = w.heap.size + 1 := by rw [hw1]; simp
  rw [hsz] at h1
  rw [hw1] at h1 h2 bw1 T0
  clear hT h0 h0' b1 hsz b0 hw1 w1
  go_enter Tryd.func27, Tryd.ntmps27
  go_wp2_with fail
  refine (bind_any _ _ exBA exCols 2 _ h2 h1 (by decide) (by decide) (by decide) (by decide) T0.out).mono ?_
  rintro e w3 ⟨o, rfl, ho, b3⟩
  rw [E1.out] at ho ⊢
  have bw3 := bw1.trans (b3.mono bw1.size)
  have h4 := RdI.new w3 [1, 0] 3 2 rfl (by omega)
  have b4 := (Below.refl w3.heap.size w3).alloc (Nat.le_refl _) (.cells #[.int .i64 1, .int .i64 0] 3)
  have ho4 := (RdI.of_own ho).next b4
  have bw4 := bw3.trans (b4.mono bw3.size)
  clear h1 h2
  go_wp2_with fail
  refine (sameI_any _ _ [1, 0] [1, 0] _ ho4 h4).mono ?_
  rintro e w5 ⟨rfl, b5⟩
  rw [E3.out]
  go_wp2
  exact HR.out _ _ ⟨rfl, bw4.trans (b5.mono bw4.size)⟩
end Go.Proofs.YtamhdlopchhdjaaDoor
