/- Layer 2, the reference: Whole, goes, Goes, Bad, Begin, State. -/
import Derived.Test.YtlcglijkpbojgaaDoorUtfC
import Derived.Test.YtlcglijkpbojgaaDoorUtfW
namespace Go.Proofs.YtlcglijkpbojgaaDoor
open Go.RowKit
set_option linter.unusedVariables false
set_option linter.unusedSimpArgs false

theorem size_le (l : List UInt8) : sizeR l ≤ 4 := by
  unfold sizeR
  split
  · omega
  · split
    · omega
    · split
      · omega
      · split <;> omega
theorem isSeq_len {k : Nat} {l : List UInt8} (h : isSeq k l = true) : k ≤ l.length := by
  apply Decidable.byContradiction
  intro hn
  rw [isSeq_short (by omega)] at h
  cases h
theorem size_len (l : List UInt8) : sizeR l ≤ l.length := by
  unfold sizeR
  split
  · rename_i h; exact isSeq_len h
  · split
    · rename_i h; exact isSeq_len h
    · split
      · rename_i h; exact isSeq_len h
      · split
        · rename_i h; exact isSeq_len h
        · omega

/-- How many bytes the longest beginning has that is well formed. -/
def wholeR (l : List UInt8) : Nat :=
  if h : 0 < sizeR l then sizeR l + wholeR (l.drop (sizeR l)) else 0
termination_by l.length
decreasing_by
  rw [List.length_drop]
  have := size_len l
  omega
theorem ext_rest (s : ByteArray) (k : Nat) : (s.extract k s.size).data.toList = s.data.toList.drop k := by
  rw [ext_list, List.take_of_length_le]
  rw [List.length_drop, Array.length_toList]
  exact Nat.le_refl _
theorem whole_any (s : ByteArray) (w : World) (hs : s.size ≤ maxLen) :
    Calls Tryd.prog 28 #[.string s] w fun e w' => e = .returned (.int .i64 (wholeR s.data.toList)) ∧ Below w.heap.size w w' := by
  refine cps fun R HR => ?_
  have hz : s.size = s.data.toList.length := by rw [Array.length_toList]; rfl
  have HZ := Lib.hid hz; clear hz
  unfold maxLen at hs
  go_enter Tryd.func28, Tryd.ntmps28
  go_wp2
  go_loopw [3] (fun i wr => ∃ k : Nat, k ≤ s.size ∧ i = .int .i64 k ∧ wholeR s.data.toList = k + wholeR (s.data.toList.drop k) ∧ Below w.heap.size w wr) (fun i _ => s.size - (intOf i).toNat)
  case atStart => exact ⟨0, by omega, rfl, by simp, Below.refl _ _⟩
  case round =>
    obtain ⟨k, hk, rfl, hW, hB⟩ := hrel
    have HW := Lib.hid hW; clear hW
    by_cases hlt : k < s.size
    · have hss : (s.extract k s.size).size ≤ maxLen := by rw [ByteArray.size_extract]; unfold maxLen; omega
      obtain ⟨w3, rfl⟩ : ∃ w3 : World, w3 = wr := ⟨_, rfl⟩
      obtain ⟨z, hz⟩ : ∃ z, z = sizeR (s.data.toList.drop k) := ⟨_, rfl⟩
      have hzl : z ≤ s.size - k := by rw [hz, HZ.out, ← List.length_drop]; exact size_len _
      have hc : ∀ v : World, Calls Tryd.prog 35 #[.string (s.extract k s.size)] v fun e w' => e = .returned (.int .i64 z) ∧ Below v.heap.size v w' := fun v => by
        rw [hz, ← ext_rest]
        exact size_any _ v hss
      have HS := Lib.hid hss; have HZZ := Lib.hid hz; have HC := Lib.hid hc
      clear hss hz hc
      go_wp2_with fail
      refine (HC.out _).mono ?_
      rintro e w4 ⟨rfl, b4⟩
      have b04 := hB.trans (b4.mono hB.size)
      by_cases h0 : 0 < z
      · have d0 : decide ((0 : Int) < z) = true := decide_eq_true (by omega)
        go_wp2_with fail
        refine (HC.out _).mono ?_
        rintro e w5 ⟨rfl, b5⟩
        have b05 := b04.trans (b5.mono b04.size)
        have hn : wholeR s.data.toList = (k + z) + wholeR (s.data.toList.drop (k + z)) := by
          rw [HW.out, wholeR, dif_pos (by rw [← HZZ.out]; exact h0), ← HZZ.out, List.drop_drop]
          omega
        have HN := Lib.hid hn; clear hn
        go_wp2
        exact ⟨⟨k + z, by omega, by go_num, HN.out, b05⟩, by simp [intOf]; omega⟩
      · obtain rfl : z = 0 := by omega
        have hn : wholeR s.data.toList = k := by
          rw [HW.out, wholeR, dif_neg (by rw [← HZZ.out]; omega)]
          rfl
        have HN := Lib.hid hn; clear hn
        go_wp2
        exact HR.out _ _ ⟨by rw [HN.out]; rfl, b04⟩
    · have hd : s.data.toList.drop k = [] := List.drop_of_length_le (by rw [← HZ.out]; omega)
      have hn : wholeR s.data.toList = k := by
        rw [HW.out, hd, wholeR, dif_neg (by decide)]
        rfl
      have HN := Lib.hid hn; clear hn hd
      go_wp2
      exact HR.out _ _ ⟨by rw [HN.out]; rfl, hB⟩

/-- Does this ending make one sequence of a text? -/
def goesT (l : List UInt8) (a b : Nat) : Bool :=
  decide (l.length ≤ sizeR (l ++ [UInt8.ofNat (128 + a), UInt8.ofNat (128 + b), 128]) ∧ 0 < sizeR (l ++ [UInt8.ofNat (128 + a), UInt8.ofNat (128 + b), 128]))
def GoesP (l : List UInt8) : Prop := ∃ a, a < 64 ∧ ∃ b, b < 64 ∧ (l.length ≤ 1 ∨ b = 0) ∧ goesT l a b = true
open Classical in
noncomputable def goesB (l : List UInt8) : Bool := decide (GoesP l)
theorem goesB_iff (l : List UInt8) : goesB l = true ↔ GoesP l := by
  simp [goesB]
theorem goesB_yes {l : List UInt8} {a b : Nat} (ha : a < 64) (hb : b < 64) (h : l.length ≤ 1 ∨ b = 0) (ht : goesT l a b = true) : goesB l = true :=
  (goesB_iff l).2 ⟨a, ha, b, hb, h, ht⟩
theorem goesB_no {l : List UInt8} (h : ∀ a, a < 64 → ∀ b, b < 64 → (l.length ≤ 1 ∨ b = 0) → goesT l a b = false) : goesB l = false := by
  rw [Bool.eq_false_iff]
  intro hg
  obtain ⟨a, ha, b, hb, hl, ht⟩ := (goesB_iff l).1 hg
  rw [h a ha b hb hl] at ht
  cases ht
set_option maxHeartbeats 2000000 in
theorem goesLow_any (s : ByteArray) (w : World) (hs : s.size ≤ 4) :
    Calls Tryd.prog 36 #[.string s] w fun e w' => e = .returned (.bool (goesB s.data.toList)) ∧ Below w.heap.size w w' := by
  refine cps fun R HR => ?_
  have hz : s.size = s.data.toList.length := by rw [Array.length_toList]; rfl
  have HZ := Lib.hid hz; clear hz
  have hq : s.size + 3 ≤ maxLen := by unfold maxLen; omega
  go_enter Tryd.func36, Tryd.ntmps36
  go_wp2
  go_loopw [3] (fun i wr => ∃ k : Nat, k ≤ 64 ∧ i = .int .i64 k ∧ (∀ a, a < k → ∀ b, b < 64 → (s.data.toList.length ≤ 1 ∨ b = 0) → goesT s.data.toList a b = false) ∧ Below w.heap.size w wr) (fun i _ => 64 - (intOf i).toNat)
  case atStart => exact ⟨0, by omega, rfl, fun a h => by omega, Below.refl _ _⟩
  case round =>
    obtain ⟨k, hk, rfl, hN, hB⟩ := hrel
    have HN := Lib.hid hN; clear hN
    by_cases hlt : k < 64
    · obtain ⟨w3, rfl⟩ : ∃ w3 : World, w3 = wr := ⟨_, rfl⟩
      have dk : decide ((k : Int) < 64) = true := decide_eq_true (by omega)
      go_wp2
      go_loopw [4] (fun j wr => ∃ m : Nat, m ≤ 64 ∧ (s.size ≤ 1 ∨ m = 0) ∧ j = .int .i64 m ∧ (∀ b, b < m → goesT s.data.toList k b = false) ∧ Below w.heap.size w wr) (fun j _ => 64 - (intOf j).toNat)
      case atStart => exact ⟨0, by omega, .inr rfl, rfl, fun a h => by omega, hB⟩
      case round =>
        obtain ⟨m, hm, hs1, rfl, hN2, hB2⟩ := hrel
        have HN2 := Lib.hid hN2; clear hN2
        by_cases hlt2 : m < 64
        · obtain ⟨w5, rfl⟩ : ∃ w5 : World, w5 = wr := ⟨_, rfl⟩
          have hcv := conv_ints (P := Tryd.prog) w5 49 9 5 Tryd.underlying49 Tryd.underlying5 Tryd.underlying9 [128 + (k : Int), 128 + (m : Int), 128] (by intro z hz; simp at hz; omega) (by simp)
          simp only [List.map, List.length] at hcv
          have e1 : (128 + (k : Int)).toNat = 128 + k := by omega
          have e2 : (128 + (m : Int)).toNat = 128 + m := by omega
          have e3 : Int.toNat 128 = 128 := rfl
          rw [e1, e2, e3] at hcv
          obtain ⟨T, hT⟩ : ∃ T : ByteArray, T = ⟨[UInt8.ofNat (128 + k), UInt8.ofNat (128 + m), UInt8.ofNat 128].toArray⟩ := ⟨_, rfl⟩
          rw [← hT] at hcv
          have hT3 : T.size = 3 := by rw [hT]; rfl
          have hq2 : s.size + T.size ≤ maxLen := by rw [hT3]; exact hq
          obtain ⟨z, hzz⟩ : ∃ z, z = sizeR (s ++ T).data.toList := ⟨_, rfl⟩
          have hst : (s ++ T).size ≤ maxLen := by rw [ByteArray.size_append]; exact hq2
          have hc : ∀ v : World, Calls Tryd.prog 35 #[.string (s ++ T)] v fun e w' => e = .returned (.int .i64 z) ∧ Below v.heap.size v w' := fun v => by
            rw [hzz]; exact size_any _ v hst
          have hg : goesT s.data.toList k m = decide (s.size ≤ z ∧ 0 < z) := by
            rw [HZ.out, hzz, ByteArray.data_append, Array.toList_append, hT]
            rfl
          have HG := Lib.hid hg; have HC := Lib.hid hc
          have n1 : ¬ 9223372036854775807 < s.size + T.size := by omega
          clear hT hT3 hzz hst hg hc e1 e2 e3
          go_wp2_with fail
          refine (HC.out _).mono ?_
          rintro e w6 ⟨rfl, b6⟩
          have b5 := hB2.alloc hB2.size (Obj.cells #[Value.int IntKind.u8 (128 + ↑k), Value.int IntKind.u8 (128 + ↑m), Value.int IntKind.u8 128] 5)
          have b06 := b5.trans (b6.mono b5.size)
          clear b5 b6 hcv
          by_cases hy : s.size ≤ z ∧ 0 < z
          · have HY := Lib.hid (goesB_yes (l := s.data.toList) hlt hlt2 (by rw [← HZ.out]; exact hs1) (by rw [HG.out]; exact decide_eq_true hy))
            obtain ⟨hy1, hy2⟩ := hy
            go_wp2
            exact HR.out _ _ ⟨by rw [HY.out]; rfl, b06⟩
          · have hno : goesT s.data.toList k m = false := by rw [HG.out]; exact decide_eq_false hy
            have HNO := Lib.hid hno
            have dd : ¬ s.size ≤ z ∨ s.size ≤ z ∧ ¬ 0 < z := by
              by_cases h1 : s.size ≤ z
              · exact .inr ⟨h1, fun h2 => hy ⟨h1, h2⟩⟩
              · exact .inl h1
            clear hno hy
            by_cases h1 : s.size ≤ 1
            · have d1 : ¬ 1 < s.size := by omega
              have hnn : ∀ b, b < m + 1 → goesT s.data.toList k b = false := fun b hb => by
                by_cases hbm : b < m
                · exact HN2.out b hbm
                · obtain rfl : b = m := by omega
                  exact HNO.out
              have HNN := Lib.hid hnn
              clear hnn
              rcases dd with d0 | ⟨d0, d3⟩
              all_goals
                go_wp2
                exact ⟨⟨m + 1, by omega, .inl h1, by go_num, HNN.out, b06⟩, by simp [intOf]; omega⟩
            · have d1 : 1 < s.size := by omega
              obtain rfl : m = 0 := by omega
              have hnn : ∀ a, a < k + 1 → ∀ b, b < 64 → (s.data.toList.length ≤ 1 ∨ b = 0) → goesT s.data.toList a b = false := fun a ha b hb hl => by
                by_cases hbm : a < k
                · exact HN.out a hbm b hb hl
                · obtain rfl : a = k := by omega
                  obtain rfl : b = 0 := by rw [← HZ.out] at hl; omega
                  exact HNO.out
              have HNN := Lib.hid hnn
              clear hnn
              have d0 : ¬ s.size ≤ z := by omega
              · go_wp2
                exact ⟨⟨k + 1, by omega, by go_num, HNN.out, b06⟩, by simp [intOf]; omega⟩
        · obtain rfl : m = 64 := by omega
          have hnn : ∀ a, a < k + 1 → ∀ b, b < 64 → (s.data.toList.length ≤ 1 ∨ b = 0) → goesT s.data.toList a b = false := fun a ha b hb hl => by
            by_cases hbm : a < k
            · exact HN.out a hbm b hb hl
            · obtain rfl : a = k := by omega
              exact HN2.out b hb
          have HNN := Lib.hid hnn
          clear hnn
          go_wp2
          exact ⟨⟨k + 1, by omega, by go_num, HNN.out, hB2⟩, by simp [intOf]; omega⟩
    · have HY := Lib.hid (goesB_no (l := s.data.toList) fun a ha b hb hl => HN.out a (by omega) b hb hl)
      go_wp2
      exact HR.out _ _ ⟨by rw [HY.out]; rfl, hB⟩
end Go.Proofs.YtlcglijkpbojgaaDoor
