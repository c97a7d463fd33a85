/- Layer 3: the fixed example. -/
import Derived.Test.YtlcglijkpbojgaaBomB
namespace Go.Proofs.Ytlcglijkpbojgaa
open Go.RowKit
set_option linter.unusedVariables false
set_option linter.unusedSimpArgs false

theorem below_of_grown {w w1 w2 : World} {g : Nat} (hb : Below w.heap.size w w1) (hg : w1.grownBy w2 (some g)) (h : w.heap.size ≤ g) : Below w.heap.size w w2 :=
  hb.grown hg hb.size (fun k hk => by injection hk with hk; omega)

set_option maxHeartbeats 1000000 in
theorem awake_any (w : World) : Calls Try.prog 7 #[] w fun e w' => e = .returned (.bool true) ∧ Below w.heap.size w w' := by
  refine cps fun R HR => ?_
  go_enter Try.func7, Try.ntmps7
  go_wp2_with fail
  refine (new_any _).mono ?_
  rintro e w0 ⟨rfl, hw0⟩
  have hB0 : Below w.heap.size w w0 := by rw [hw0]; exact (Below.refl _ _).alloc (Nat.le_refl _) _
  have hS0 : Box w0 w.heap.size 40 ((⟨0, false, false⟩ : BS).cells false) := by rw [hw0]; exact Box.new _ _ _
  clear hw0
  go_wp2_with fail
  refine (feed_open _ _ _ _ _ [239] _ (hS0.alloc _) (Sl.newrow w0 #[.int .u8 239] 5 (by decide)) (by simp) (by simp)).mono ?_
  rintro e w1 ⟨v1, rfl, hO1, hg1, hS1⟩
  rw [show feedL ⟨0, false, false⟩ [239] = ([], ⟨1, false, false⟩) from rfl] at hO1 hS1
  have hB1 := below_of_grown (hB0.alloc hB0.size _) hg1 (Nat.le_refl _)
  clear hg1
  go_wp2_with fail
  refine (feed_open _ _ _ _ _ [187] _ (hS1.alloc _) (Sl.newrow w1 #[.int .u8 187] 5 (by decide)) (by simp) (by simp)).mono ?_
  rintro e w2 ⟨v2, rfl, hO2, hg2, hS2⟩
  rw [show feedL ⟨1, false, false⟩ [187] = ([], ⟨2, false, false⟩) from rfl] at hO2 hS2
  have hB2 := below_of_grown (hB1.alloc hB1.size _) hg2 (Nat.le_refl _)
  clear hg2
  go_wp2_with fail
  refine (feed_open _ _ _ _ _ [65] _ (hS2.alloc _) (Sl.newrow w2 #[.int .u8 65] 5 (by decide)) (by simp) (by simp)).mono ?_
  rintro e w3 ⟨v3, rfl, hO3, hg3, hS3⟩
  rw [show feedL ⟨2, false, false⟩ [65] = ([239, 187, 65], ⟨0, true, false⟩) from rfl] at hO3 hS3
  have hB3 := below_of_grown (hB2.alloc hB2.size _) hg3 (Nat.le_refl _)
  clear hg3
  obtain ⟨A1, c1, rfl, _⟩ := hO1.form
  obtain ⟨A2, c2, rfl, _⟩ := hO2.form
  obtain ⟨A3, c3, rfl, hR3⟩ := hO3.form
  have hcv := conv_bs (P := Try.prog) w3 22 9 5 Try.underlying22 Try.underlying5 Try.underlying9 _ A3 _ c3 [239, 187, 65] hR3
  simp at hcv
  clear hS0 hS1 hS2 hS3 hO1 hO2 hO3 hR3
  go_wp2
  exact HR.out _ _ ⟨rfl, hB3⟩
end Go.Proofs.Ytlcglijkpbojgaa
