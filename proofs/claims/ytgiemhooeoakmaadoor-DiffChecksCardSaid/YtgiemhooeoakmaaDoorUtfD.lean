/- Layer 2, the reference: Whole, goes, Goes, Bad, Begin, State. -/
import Derived.Test.YtgiemhooeoakmaaDoorUtfC
import Derived.Test.YtgiemhooeoakmaaDoorUtfX
namespace Go.Proofs.YtgiemhooeoakmaaDoor
open Go.RowKit
set_option linter.unusedVariables false
set_option linter.unusedSimpArgs false

theorem size_le (l : List UInt8) : sizeR l ≤ 4 := by
  unfold sizeR
  split
  · omega
  · split
    · omega
    · split
      · omega
      · split <;> omega
theorem isSeq_len {k : Nat} {l : List UInt8} (h : isSeq k l = true) : k ≤ l.length := by
  apply Decidable.byContradiction
  intro hn
  rw [isSeq_short (by omega)] at h
  cases h
theorem size_len (l : List UInt8) : sizeR l ≤ l.length := by
  unfold sizeR
  split
  · rename_i h; exact isSeq_len h
  · split
    · rename_i h; exact isSeq_len h
    · split
      · rename_i h; exact isSeq_len h
      · split
        · rename_i h; exact isSeq_len h
        · omega

/-- How many bytes the longest beginning has that is well formed. -/
def wholeR (l : List UInt8) : Nat :=
  if h : 0 < sizeR l then sizeR l + wholeR (l.drop (sizeR l)) else 0
termination_by l.length
decreasing_by
  rw [List.length_drop]
  have := size_len l
  omega
theorem whole_len (l : List UInt8) : wholeR l ≤ l.length := by
  induction hn : l.length using Nat.strongRecOn generalizing l with
  | ind n ih =>
    subst hn
    rw [wholeR]
    split
    · rename_i h
      have hl := size_len l
      have := ih (l.drop (sizeR l)).length (by rw [List.length_drop]; omega) (l.drop (sizeR l)) rfl
      rw [List.length_drop] at this
      omega
    · omega
theorem ext_rest (s : ByteArray) (k : Nat) : (s.extract k s.size).data.toList = s.data.toList.drop k := by
  rw [ext_list, List.take_of_length_le]
  rw [List.length_drop, Array.length_toList]
  exact Nat.le_refl _
theorem whole_any (s : ByteArray) (w : World) (hs : s.size ≤ maxLen) :
    Calls Tryd.prog 103 #[.string s] w fun e w' => e = .returned (.int .i64 (wholeR s.data.toList)) ∧ Below w.heap.size w w' := by
  refine cps fun R HR => ?_
  have hz : s.size = s.data.toList.length := by rw [Array.length_toList]; rfl
  have HZ := Lib.hid hz; clear hz
  unfold maxLen at hs
  go_enter Tryd.func103, Tryd.ntmps103
  go_wp2
  go_loopw [3] (fun i wr => ∃ k : Nat, k ≤ s.size ∧ i = .int .i64 k ∧ wholeR s.data.toList = k + wholeR (s.data.toList.drop k) ∧ Below w.heap.size w wr) (fun i _ => s.size - (intOf i).toNat)
  case atStart => exact ⟨0, by omega, rfl, by simp, Below.refl _ _⟩
  case round =>
    obtain ⟨k, hk, rfl, hW, hB⟩ := hrel
    have HW := Lib.hid hW; clear hW
    by_cases hlt : k < s.size
    · have hss : (s.extract k s.size).size ≤ maxLen := by rw [ByteArray.size_extract]; unfold maxLen; omega
      obtain ⟨w3, rfl⟩ : ∃ w3 : World, w3 = wr := ⟨_, rfl⟩
      obtain ⟨z, hz⟩ : ∃ z, z = sizeR (s.data.toList.drop k) := ⟨_, rfl⟩
      have hzl : z ≤ s.size - k := by rw [hz, HZ.out, ← List.length_drop]; exact size_len _
      have hc : ∀ v : World, Calls Tryd.prog 125 #[.string (s.extract k s.size)] v fun e w' => e = .returned (.int .i64 z) ∧ Below v.heap.size v w' := fun v => by
        rw [hz, ← ext_rest]
        exact size_any _ v hss
      have HS := Lib.hid hss; have HZZ := Lib.hid hz; have HC := Lib.hid hc
      clear hss hz hc
      go_wp2_with fail
      refine (HC.out _).mono ?_
      rintro e w4 ⟨rfl, b4⟩
      have b04 := hB.trans (b4.mono hB.size)
      by_cases h0 : 0 < z
      · have d0 : decide ((0 : Int) < z) = true := decide_eq_true (by omega)
        go_wp2_with fail
        refine (HC.out _).mono ?_
        rintro e w5 ⟨rfl, b5⟩
        have b05 := b04.trans (b5.mono b04.size)
        have hn : wholeR s.data.toList = (k + z) + wholeR (s.data.toList.drop (k + z)) := by
          rw [HW.out, wholeR, dif_pos (by rw [← HZZ.out]; exact h0), ← HZZ.out, List.drop_drop]
          omega
        have HN := Lib.hid hn; clear hn
        go_wp2
        exact ⟨⟨k + z, by omega, by go_num, HN.out, b05⟩, by simp [intOf]; omega⟩
      · obtain rfl : z = 0 := by omega
        have hn : wholeR s.data.toList = k := by
          rw [HW.out, wholeR, dif_neg (by rw [← HZZ.out]; omega)]
          rfl
        have HN := Lib.hid hn; clear hn
        go_wp2
        exact HR.out _ _ ⟨by rw [HN.out]; rfl, b04⟩
    · have hd : s.data.toList.drop k = [] := List.drop_of_length_le (by rw [← HZ.out]; omega)
      have hn : wholeR s.data.toList = k := by
        rw [HW.out, hd, wholeR, dif_neg (by decide)]
        rfl
      have HN := Lib.hid hn; clear hn hd
      go_wp2
      exact HR.out _ _ ⟨by rw [HN.out]; rfl, hB⟩

end Go.Proofs.YtgiemhooeoakmaaDoor
