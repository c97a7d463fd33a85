/- Layer 2: the document's examples; how a text in pieces is told. -/
import Derived.Test.YtlcglijkpbojgaaDoorUtfT
import Derived.Lib.Strings
namespace Go.Proofs.YtlcglijkpbojgaaDoor
open Go.RowKit
set_option linter.unusedVariables false
set_option linter.unusedSimpArgs false

theorem awake_any (w : World) (hT : Tab w) : Calls Tryd.prog 24 #[] w fun e w' => e = .returned (.bool true) ∧ Below w.heap.size w w' := by
  refine cps fun R HR => ?_
  have e1 : stepV 0 226 = .tuple #[.int .i64 2, .bool true] := by kernel_rfl
  have e2 : stepV 2 130 = .tuple #[.int .i64 1, .bool true] := by kernel_rfl
  have e3 : stepV 1 172 = .tuple #[.int .i64 0, .bool true] := by kernel_rfl
  have e4 : badF (ByteArray.mk #[226, 40]).data.toList = (3, 1) := by decide
  have E1 := Lib.hid e1; have E2 := Lib.hid e2; have E3 := Lib.hid e3; have E4 := Lib.hid e4
  clear e1 e2 e3 e4
  go_enter Tryd.func24, Tryd.ntmps24
  go_wp2_with fail
  refine (step_any 0 226 _ (by omega) (by omega) hT).mono ?_
  rintro e w1 ⟨rfl, b1⟩
  rw [E1.out]
  go_wp2_with fail
  refine (step_any 2 130 _ (by omega) (by omega) (hT.below b1)).mono ?_
  rintro e w2 ⟨rfl, b2⟩
  rw [E2.out]
  go_wp2_with fail
  refine (step_any 1 172 _ (by omega) (by omega) ((hT.below b1).below b2)).mono ?_
  rintro e w3 ⟨rfl, b3⟩
  rw [E3.out]
  go_wp2_with fail
  have b12 := b1.trans (b2.mono b1.size)
  have b13 := b12.trans (b3.mono b12.size)
  refine (bad_any _ _ (by decide) (hT.below b13)).mono ?_
  rintro e w4 ⟨rfl, b4⟩
  rw [E4.out]
  go_wp2
  exact HR.out _ _ ⟨rfl, b13.trans (b4.mono b13.size)⟩

theorem ext_list (s : ByteArray) (a b : Nat) : (s.extract a b).data.toList = (s.data.toList.drop a).take (b - a) := by rw [← ByteArray.toList_eq, Lib.extract_toList]
theorem run_short : ∀ (a b : List UInt8) (st : Nat), (runF st a).2 < a.length → runF st (a ++ b) = runF st a
  | [], b, st, h => by simp [runF] at h
  | x :: a, b, st, h => by
    rw [List.cons_append]
    unfold runF at h ⊢
    cases hs : stepF st x.toNat with
    | none => rfl
    | some t =>
      rw [hs] at h
      have := run_short a b t (by simpa using h)
      simp only [this]
theorem run_full : ∀ (a b : List UInt8) (st : Nat), (runF st a).2 = a.length → runF st (a ++ b) = ((runF (runF st a).1 b).1, (runF (runF st a).1 b).2 + a.length)
  | [], b, st, h => by simp [runF]
  | x :: a, b, st, h => by
    rw [List.cons_append]
    cases hs : stepF st x.toNat with
    | none =>
      unfold runF at h
      rw [hs] at h
      simp at h
    | some t =>
      have h' : (runF t a).2 = a.length := by
        unfold runF at h
        rw [hs] at h
        simpa using h
      have := run_full a b t h'
      rw [show runF st (x :: (a ++ b)) = ((runF t (a ++ b)).1, (runF t (a ++ b)).2 + 1) by rw [runF, hs]]
      rw [show runF st (x :: a) = ((runF t a).1, (runF t a).2 + 1) by rw [runF, hs]]
      rw [this]
      simp [Nat.add_assoc]
end Go.Proofs.YtlcglijkpbojgaaDoor
