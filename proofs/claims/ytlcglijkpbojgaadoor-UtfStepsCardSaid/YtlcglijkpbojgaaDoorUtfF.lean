/- Layer 2, the reference: State. -/
import Derived.Test.YtlcglijkpbojgaaDoorUtfE
namespace Go.Proofs.YtlcglijkpbojgaaDoor
open Go.RowKit
set_option linter.unusedVariables false
set_option linter.unusedSimpArgs false

/-- The state of the beginning of a sequence: n its first byte, c how many bytes it has. -/
def stateN (n c : Nat) : Int :=
  if c = 1 ∧ n = 224 then 4 else if c = 1 ∧ n = 237 then 5 else if c = 1 ∧ n = 240 then 6 else if c = 1 ∧ n = 244 then 7
  else (if 240 ≤ n then 3 else if 224 ≤ n then 2 else 1) - c + 1
set_option maxHeartbeats 2000000 in
set_option maxRecDepth 100000 in
theorem state_any (s : ByteArray) (w : World) (h0 : 0 < s.size) (hs : s.size ≤ 4) :
    Calls Tryd.prog 25 #[.string s] w fun e w' => e = .returned (.int .i64 (if sizeR s.data.toList = s.size then 0 else stateN s[0].toNat s.size)) ∧ Below w.heap.size w w' := by
  refine cps fun R HR => ?_
  have hz : s.size = s.data.toList.length := by rw [Array.length_toList]; rfl
  obtain ⟨a, r, hs0⟩ : ∃ a r, s.toList = a :: r := by
    rw [ByteArray.toList_eq]
    cases hl : s.data.toList with
    | nil => rw [hl] at hz; exact absurd h0 (by rw [hz]; simp)
    | cons a r => exact ⟨a, r, rfl⟩
  have hs' : s.size ≤ maxLen := by unfold maxLen; omega
  have HZ := Lib.hid hz; have HS := Lib.hid hs'
  clear hz hs'
  go_enter Tryd.func25, Tryd.ntmps25
  go_wp2_with fail
  refine (size_any s _ HS.out).mono ?_
  rintro e w1 ⟨rfl, b1⟩
  obtain ⟨z, hzz⟩ : ∃ z, z = sizeR s.data.toList := ⟨_, rfl⟩
  rw [← hzz] at HR ⊢
  clear hzz
  by_cases hq : z = s.size
  · have d : ((z : Int) == (s.size : Int)) = true := by rw [beq_iff_eq]; omega
    rw [if_pos hq] at HR
    subst hq
    go_wp2
    exact HR.out _ _ ⟨rfl, b1⟩
  · have d : ((z : Int) == (s.size : Int)) = false := by rw [beq_eq_false_iff_ne]; omega
    rw [if_neg hq] at HR
    have hb := s[0].toNat_lt
    have hb' : (s[0].toNat : Int) < 256 := by omega
    clear hb hq
    go_wp2
    all_goals
      refine HR.out _ _ ⟨?_, b1⟩
      simp only [beq_iff_eq, beq_eq_false_iff_ne, ne_eq] at *
      refine congrArg (fun v => Ending.returned (Value.int .i64 v)) ?_
      unfold stateN
      omega
end Go.Proofs.YtlcglijkpbojgaaDoor
