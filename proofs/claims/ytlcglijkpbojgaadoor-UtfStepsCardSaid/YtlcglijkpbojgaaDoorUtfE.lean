/- Layer 2, the reference: Goes, Bad, Begin, State. -/
import Derived.Test.YtlcglijkpbojgaaDoorUtfD
namespace Go.Proofs.YtlcglijkpbojgaaDoor
open Go.RowKit
set_option linter.unusedVariables false
set_option linter.unusedSimpArgs false

noncomputable def goesR (l : List UInt8) : Bool := decide (l.length ≤ 4) && (l.isEmpty || decide (sizeR l = l.length) || goesB l)
theorem nil_of_size {s : ByteArray} (h : s.size = 0) : s.data.toList = [] := by
  rw [← List.length_eq_zero_iff, Array.length_toList]
  exact h
theorem goes_any (s : ByteArray) (w : World) (hs : s.size ≤ maxLen) :
    Calls Tryd.prog 23 #[.string s] w fun e w' => e = .returned (.bool (goesR s.data.toList)) ∧ Below w.heap.size w w' := by
  refine cps fun R HR => ?_
  have hz : s.size = s.data.toList.length := by rw [Array.length_toList]; rfl
  go_enter Tryd.func23, Tryd.ntmps23
  by_cases h4 : s.size ≤ 4
  · have h4' : decide ((s.size : Int) ≤ 4) = true := decide_eq_true (by omega)
    by_cases h0 : s.size = 0
    · obtain rfl : s = ⟨#[]⟩ := by
        apply ByteArray.ext
        rw [← Array.toList_inj]
        exact nil_of_size h0
      go_wp2
      exact HR.out _ _ ⟨by unfold goesR; rfl, Below.refl _ _⟩
    · have hne : (s.data.toList).isEmpty = false := by
        rw [List.isEmpty_eq_false_iff]
        intro h; rw [h] at hz; exact h0 hz
      obtain ⟨a, r, hs0⟩ : ∃ a r, s.toList = a :: r := by
        rw [ByteArray.toList_eq]
        cases hl : s.data.toList with
        | nil => rw [hl] at hz; exact absurd hz h0
        | cons a r => exact ⟨a, r, rfl⟩
      have hgs : goesR s.data.toList = (decide (sizeR s.data.toList = s.data.toList.length) || goesB s.data.toList) := by
        unfold goesR
        rw [hne, decide_eq_true (by omega)]
        rfl
      have HG := Lib.hid hgs; have HZ := Lib.hid hz; have HS := Lib.hid hs
      clear hgs hz hne hs
      go_wp2_with fail
      refine (size_any s _ HS.out).mono ?_
      rintro e w1 ⟨rfl, b1⟩
      obtain ⟨z, hzz⟩ : ∃ z, z = sizeR s.data.toList := ⟨_, rfl⟩
      rw [← hzz]
      have HZZ := Lib.hid hzz; clear hzz
      by_cases hq : z = s.size
      · have d : ((z : Int) == (s.size : Int)) = true := by rw [beq_iff_eq]; omega
        have HY := Lib.hid (show goesR s.data.toList = true by rw [HG.out, ← HZZ.out, ← HZ.out, decide_eq_true hq]; rfl)
        subst hq
        go_wp2
        exact HR.out _ _ ⟨by rw [HY.out]; rfl, b1⟩
      · have d : ((z : Int) == (s.size : Int)) = false := by rw [beq_eq_false_iff_ne]; omega
        have HY := Lib.hid (show goesR s.data.toList = goesB s.data.toList by rw [HG.out, ← HZZ.out, ← HZ.out, decide_eq_false hq]; rfl)
        clear hq
        go_wp2_with fail
        refine (goesLow_any s _ h4).mono ?_
        rintro e w2 ⟨rfl, b2⟩
        go_wp2
        exact HR.out _ _ ⟨by rw [HY.out]; rfl, b1.trans (b2.mono b1.size)⟩
  · have hg : goesR s.data.toList = false := by unfold goesR; rw [decide_eq_false (by omega)]; rfl
    have HG := Lib.hid hg; clear hg hz
    have h4' : decide ((s.size : Int) ≤ 4) = false := decide_eq_false (by omega)
    clear h4
    go_wp2
    exact HR.out _ _ ⟨by rw [HG.out]; rfl, Below.refl _ _⟩

/-- The place of the first byte that doesn't go on. -/
def BadIs (l : List UInt8) (v : Int) : Prop :=
  (∃ n, 1 ≤ n ∧ wholeR l + n ≤ l.length ∧ goesR ((l.drop (wholeR l)).take n) = false ∧ (∀ m, 1 ≤ m → m < n → goesR ((l.drop (wholeR l)).take m) = true) ∧ v = wholeR l + n - 1) ∨
  (∀ n, 1 ≤ n → wholeR l + n ≤ l.length → goesR ((l.drop (wholeR l)).take n) = true) ∧ v = -1
theorem whole_len (l : List UInt8) : wholeR l ≤ l.length := by
  induction hn : l.length using Nat.strongRecOn generalizing l with
  | ind n ih =>
    subst hn
    rw [wholeR]
    split
    · rename_i h
      have hl := size_len l
      have := ih (l.drop (sizeR l)).length (by rw [List.length_drop]; omega) (l.drop (sizeR l)) rfl
      rw [List.length_drop] at this
      omega
    · omega
theorem refBad_any (s : ByteArray) (w : World) (hs : s.size ≤ 200) :
    Calls Tryd.prog 29 #[.string s] w fun e w' => ∃ v : Int, BadIs s.data.toList v ∧ e = .returned (.int .i64 v) ∧ Below w.heap.size w w' := by
  refine cps fun R HR => ?_
  have hz : s.size = s.data.toList.length := by rw [Array.length_toList]; rfl
  have hwl := whole_len s.data.toList
  obtain ⟨q, hq⟩ : ∃ q, q = wholeR s.data.toList := ⟨_, rfl⟩
  have hqs : q ≤ s.size := by rw [hq, hz]; exact hwl
  have hs' : s.size ≤ maxLen := by unfold maxLen; omega
  have HZ := Lib.hid hz; have HQ := Lib.hid hq; have HS := Lib.hid hs'
  clear hz hq hwl hs'
  go_enter Tryd.func29, Tryd.ntmps29
  go_wp2_with fail
  refine (whole_any s _ HS.out).mono ?_
  rintro e w1 ⟨rfl, b1⟩
  rw [← HQ.out]
  go_wp2
  go_loopw [4] (fun i wr => ∃ n : Nat, 1 ≤ n ∧ q + n ≤ s.size + 1 ∧ i = .int .i64 n ∧ (∀ m, 1 ≤ m → m < n → goesR ((s.data.toList.drop q).take m) = true) ∧ Below w.heap.size w wr) (fun i _ => s.size + 1 - (intOf i).toNat)
  case atStart => exact ⟨1, by omega, by omega, rfl, fun m h1 h2 => by omega, b1⟩
  case round =>
    obtain ⟨n, hn1, hnl, rfl, hN, hB⟩ := hrel
    have HN := Lib.hid hN; clear hN
    by_cases hlt : q + n ≤ s.size
    · have hss : (s.extract q (q + n)).size ≤ maxLen := by have := HS.out; rw [ByteArray.size_extract]; omega
      have hse : (s.extract q (q + n)).data.toList = (s.data.toList.drop q).take n := by rw [ext_list]; congr 1; omega
      obtain ⟨w3, rfl⟩ : ∃ w3 : World, w3 = wr := ⟨_, rfl⟩
      have HSS := Lib.hid hss; have HSE := Lib.hid hse
      clear hss hse
      go_wp2_with fail
      refine (goes_any _ _ HSS.out).mono ?_
      rintro e w4 ⟨rfl, b4⟩
      have b04 := hB.trans (b4.mono hB.size)
      cases hg : goesR (s.extract q (q + n)).data.toList
      · rw [HSE.out] at hg
        have HG := Lib.hid hg; clear hg
        go_wp2
        exact HR.out _ _ ⟨q + n - 1, .inl ⟨n, hn1, by rw [← HQ.out, ← HZ.out]; exact hlt, by rw [← HQ.out]; exact HG.out, by rw [← HQ.out]; exact HN.out, by rw [← HQ.out]⟩, rfl, b04⟩
      · rw [HSE.out] at hg
        have hnn : ∀ m, 1 ≤ m → m < n + 1 → goesR ((s.data.toList.drop q).take m) = true := fun m h1 h2 => by
          by_cases hmn : m < n
          · exact HN.out m h1 hmn
          · obtain rfl : m = n := by omega
            exact hg
        have HNN := Lib.hid hnn
        clear hnn hg
        go_wp2
        exact ⟨⟨n + 1, by omega, by omega, by go_num, HNN.out, b04⟩, by simp [intOf]; omega⟩
    · have hall : ∀ n, 1 ≤ n → wholeR s.data.toList + n ≤ s.data.toList.length → goesR ((s.data.toList.drop (wholeR s.data.toList)).take n) = true := fun m h1 h2 => by
        rw [← HQ.out] at h2 ⊢
        rw [← HZ.out] at h2
        exact HN.out m h1 (by omega)
      have HA := Lib.hid hall; clear hall
      go_wp2
      exact HR.out _ _ ⟨-1, .inr ⟨HA.out, rfl⟩, rfl, hB⟩

def beginB : Nat → ByteArray
  | 1 => ⟨#[194]⟩
  | 2 => ⟨#[225]⟩
  | 3 => ⟨#[241]⟩
  | 4 => ⟨#[224]⟩
  | 5 => ⟨#[237]⟩
  | 6 => ⟨#[240]⟩
  | 7 => ⟨#[244]⟩
  | _ => ⟨#[]⟩
theorem begin_any (n : Nat) (w : World) (hn : n < 8) :
    Calls Tryd.prog 22 #[.int .i64 n] w fun e w' => e = .returned (.string (beginB n)) ∧ w' = w := by
  refine cps fun R HR => ?_
  have hix : ∀ w : World, (Instr.index 68 (.agg #[.string ⟨#[]⟩, .string ⟨#[194]⟩, .string ⟨#[225]⟩, .string ⟨#[241]⟩, .string ⟨#[224]⟩, .string ⟨#[237]⟩, .string ⟨#[240]⟩, .string ⟨#[244]⟩]) (.int .i64 n)).run Tryd.prog w = .ok (.string (beginB n)) w := fun w => by
    obtain rfl | rfl | rfl | rfl | rfl | rfl | rfl | rfl : n = 0 ∨ n = 1 ∨ n = 2 ∨ n = 3 ∨ n = 4 ∨ n = 5 ∨ n = 6 ∨ n = 7 := by omega
    all_goals kernel_rfl
  go_enter Tryd.func22, Tryd.ntmps22
  go_wp2
  exact HR.out _ _ ⟨rfl, rfl⟩

end Go.Proofs.YtlcglijkpbojgaaDoor
