/- Layer 2, the reference: put and Size. -/
import Derived.Test.YtgiemhooeoakmaaDoorUtfA
import Derived.Lib.Strings
import Derived.Lib.QuietBelow
import Derived.Deep.CutRange
import Derived.Deep.CutBlock
import Derived.Deep.DeepCutAuto
namespace Go.Proofs.YtgiemhooeoakmaaDoor
open Go.RowKit
set_option linter.unusedVariables false
set_option linter.unusedSimpArgs false

/-- The bytes of a code point. -/
def putL (c : Nat) : List UInt8 :=
  if c < 128 then [UInt8.ofNat c]
  else if c < 2048 then [UInt8.ofNat (192 + c / 64), UInt8.ofNat (128 + c % 64)]
  else if c < 65536 then [UInt8.ofNat (224 + c / 4096), UInt8.ofNat (128 + c / 64 % 64), UInt8.ofNat (128 + c % 64)]
  else [UInt8.ofNat (240 + c / 262144), UInt8.ofNat (128 + c / 4096 % 64), UInt8.ofNat (128 + c / 64 % 64), UInt8.ofNat (128 + c % 64)]

set_option maxRecDepth 100000 in
theorem put_any (c : Nat) (w : World) (hc : c ≤ 1114111) :
    Calls Tryd.prog 137 #[.int .i64 c] w fun e w' => e = .returned (.string ⟨(putL c).toArray⟩) ∧ Below w.heap.size w w' := by
  refine cps fun R HR => ?_
  by_cases h1 : c < 128
  · have hp : putL c = [(c : Int)].map fun z => UInt8.ofNat z.toNat := by rw [putL, if_pos h1]; simp
    have hcv := conv_ints (P := Tryd.prog) w 208 9 5 Tryd.underlying208 Tryd.underlying5 Tryd.underlying9 [(c : Int)] (by intro z hz; simp at hz; omega) (by simp)
    rw [← hp] at hcv
    clear hp
    simp only [List.map, List.length] at hcv
    go_enter Tryd.func137, Tryd.ntmps137
    go_wp2
    exact HR.out _ _ ⟨rfl, (Below.refl _ _).alloc (Nat.le_refl _) _⟩
  · by_cases h2 : c < 2048
    · have hp : putL c = [192 + (c : Int) / 64, 128 + (c : Int) % 64].map fun z => UInt8.ofNat z.toNat := by
        have e0 : (192 + (c : Int) / 64).toNat = 192 + c / 64 := by omega
        have e1 : (128 + (c : Int) % 64).toNat = 128 + c % 64 := by omega
        rw [putL, if_neg h1, if_pos h2]
        simp only [List.map, e0, e1]
      have hcv := conv_ints (P := Tryd.prog) w 208 9 5 Tryd.underlying208 Tryd.underlying5 Tryd.underlying9 [192 + (c : Int) / 64, 128 + (c : Int) % 64] (by intro z hz; simp at hz; omega) (by simp)
      rw [← hp] at hcv
      clear hp
      simp only [List.map, List.length] at hcv
      go_enter Tryd.func137, Tryd.ntmps137
      go_wp2
      exact HR.out _ _ ⟨by simp, (Below.refl _ _).alloc (Nat.le_refl _) _⟩
    · by_cases h3 : c < 65536
      · have hp : putL c = [224 + (c : Int) / 4096, 128 + (c : Int) / 64 % 64, 128 + (c : Int) % 64].map fun z => UInt8.ofNat z.toNat := by
          have e0 : (224 + (c : Int) / 4096).toNat = 224 + c / 4096 := by omega
          have e1 : (128 + (c : Int) / 64 % 64).toNat = 128 + c / 64 % 64 := by omega
          have e2 : (128 + (c : Int) % 64).toNat = 128 + c % 64 := by omega
          rw [putL, if_neg h1, if_neg h2, if_pos h3]
          simp only [List.map, e0, e1, e2]
        have hcv := conv_ints (P := Tryd.prog) w 208 9 5 Tryd.underlying208 Tryd.underlying5 Tryd.underlying9 [224 + (c : Int) / 4096, 128 + (c : Int) / 64 % 64, 128 + (c : Int) % 64] (by intro z hz; simp at hz; omega) (by simp)
        rw [← hp] at hcv
        clear hp
        simp only [List.map, List.length] at hcv
        have d1 : decide ((c : Int) < 128) = false := by simp; omega
        have d2 : decide ((c : Int) < 2048) = false := by simp; omega
        have d3 : decide ((c : Int) < 65536) = true := decide_eq_true (by omega)
        have q1 : (c : Int) / 4096 ≤ 15 := by omega
        have q2 : 0 ≤ (c : Int) / 4096 := by omega
        clear h1 h2 h3 hc
        go_enter Tryd.func137, Tryd.ntmps137
        go_wp2
        exact HR.out _ _ ⟨by simp, (Below.refl _ _).alloc (Nat.le_refl _) _⟩
      · have hp : putL c = [240 + (c : Int) / 262144, 128 + (c : Int) / 4096 % 64, 128 + (c : Int) / 64 % 64, 128 + (c : Int) % 64].map fun z => UInt8.ofNat z.toNat := by
          have e0 : (240 + (c : Int) / 262144).toNat = 240 + c / 262144 := by omega
          have e1 : (128 + (c : Int) / 4096 % 64).toNat = 128 + c / 4096 % 64 := by omega
          have e2 : (128 + (c : Int) / 64 % 64).toNat = 128 + c / 64 % 64 := by omega
          have e3 : (128 + (c : Int) % 64).toNat = 128 + c % 64 := by omega
          rw [putL, if_neg h1, if_neg h2, if_neg h3]
          simp only [List.map, e0, e1, e2, e3]
        have hcv := conv_ints (P := Tryd.prog) w 208 9 5 Tryd.underlying208 Tryd.underlying5 Tryd.underlying9 [240 + (c : Int) / 262144, 128 + (c : Int) / 4096 % 64, 128 + (c : Int) / 64 % 64, 128 + (c : Int) % 64] (by intro z hz; simp at hz; omega) (by simp)
        rw [← hp] at hcv
        clear hp
        simp only [List.map, List.length] at hcv
        have d1 : decide ((c : Int) < 128) = false := by simp; omega
        have d2 : decide ((c : Int) < 2048) = false := by simp; omega
        have d3 : decide ((c : Int) < 65536) = false := decide_eq_false (by omega)
        have q1 : (c : Int) / 262144 ≤ 4 := by omega
        have q2 : 0 ≤ (c : Int) / 262144 := by omega
        clear h1 h2 h3 hc
        go_enter Tryd.func137, Tryd.ntmps137
        go_wp2
        exact HR.out _ _ ⟨by simp, (Below.refl _ _).alloc (Nat.le_refl _) _⟩

/-- Is the head of a text a sequence of so many bytes? -/
def isSeq (n : Nat) (s : List UInt8) : Bool :=
  match n, s.map (·.toNat) with
  | 1, a :: _ => decide (a < 128)
  | 2, a :: b :: _ => decide (194 ≤ a ∧ a ≤ 223 ∧ 128 ≤ b ∧ b ≤ 191)
  | 3, a :: b :: c :: _ => decide ((a = 224 ∧ 160 ≤ b ∧ b ≤ 191 ∨ (225 ≤ a ∧ a ≤ 236 ∨ 238 ≤ a ∧ a ≤ 239) ∧ 128 ≤ b ∧ b ≤ 191 ∨ a = 237 ∧ 128 ≤ b ∧ b ≤ 159) ∧ 128 ≤ c ∧ c ≤ 191)
  | 4, a :: b :: c :: d :: _ => decide ((a = 240 ∧ 144 ≤ b ∧ b ≤ 191 ∨ 241 ≤ a ∧ a ≤ 243 ∧ 128 ≤ b ∧ b ≤ 191 ∨ a = 244 ∧ 128 ≤ b ∧ b ≤ 143) ∧ 128 ≤ c ∧ c ≤ 191 ∧ 128 ≤ d ∧ d ≤ 191)
  | _, _ => false
/-- How many bytes the sequence has that a text begins with; 0: it begins with none. -/
def sizeR (s : List UInt8) : Nat := if isSeq 1 s then 1 else if isSeq 2 s then 2 else if isSeq 3 s then 3 else if isSeq 4 s then 4 else 0

theorem ofNat_eq (n : Nat) (a : UInt8) : UInt8.ofNat n = a ↔ n % 256 = a.toNat := by
  constructor
  · intro h; rw [← h, UInt8.toNat_ofNat']
  · intro h; apply UInt8.toNat_inj.1; rw [UInt8.toNat_ofNat']; exact h

theorem seq1 (a : UInt8) (r : List UInt8) : isSeq 1 (a :: r) = true ↔ putL a.toNat = (a :: r).take 1 := by
  have := a.toNat_lt
  simp only [isSeq, List.map_cons, decide_eq_true_eq, List.take_succ_cons, List.take_zero, putL]
  split
  · simp only [List.cons.injEq, ofNat_eq, and_true]; omega
  · split
    · simp; omega
    · split <;> simp <;> omega
theorem seq2 (a b : UInt8) (r : List UInt8) (C : Int) (hC : C = (a.toNat - 192) * 64 + b.toNat - 128) :
    isSeq 2 (a :: b :: r) = true ↔ 0 ≤ C ∧ C ≤ 1114111 ∧ (C < 55296 ∨ 57343 < C) ∧ putL C.toNat = (a :: b :: r).take 2 := by
  have := a.toNat_lt
  have := b.toNat_lt
  simp only [isSeq, List.map_cons, decide_eq_true_eq, List.take_succ_cons, List.take_zero, putL]
  split
  · simp; omega
  · split
    · simp only [List.cons.injEq, ofNat_eq, and_true]; omega
    · split <;> simp <;> omega
theorem seq3 (a b c : UInt8) (r : List UInt8) (C : Int) (hC : C = (a.toNat - 224) * 4096 + (b.toNat - 128) * 64 + c.toNat - 128) :
    isSeq 3 (a :: b :: c :: r) = true ↔ 0 ≤ C ∧ C ≤ 1114111 ∧ (C < 55296 ∨ 57343 < C) ∧ putL C.toNat = (a :: b :: c :: r).take 3 := by
  have := a.toNat_lt
  have := b.toNat_lt
  have := c.toNat_lt
  simp only [isSeq, List.map_cons, decide_eq_true_eq, List.take_succ_cons, List.take_zero, putL]
  split
  · simp; omega
  · split
    · simp; omega
    · split
      · simp only [List.cons.injEq, ofNat_eq, and_true]; omega
      · simp; omega
theorem seq4 (a b c d : UInt8) (r : List UInt8) (C : Int) (hC : C = (a.toNat - 240) * 262144 + (b.toNat - 128) * 4096 + (c.toNat - 128) * 64 + d.toNat - 128) :
    isSeq 4 (a :: b :: c :: d :: r) = true ↔ 0 ≤ C ∧ C ≤ 1114111 ∧ (C < 55296 ∨ 57343 < C) ∧ putL C.toNat = (a :: b :: c :: d :: r).take 4 := by
  have := a.toNat_lt
  have := b.toNat_lt
  have := c.toNat_lt
  have := d.toNat_lt
  simp only [isSeq, List.map_cons, decide_eq_true_eq, List.take_succ_cons, List.take_zero, putL]
  split
  · simp; omega
  · split
    · simp; omega
    · split
      · simp; omega
      · simp only [List.cons.injEq, ofNat_eq, and_true]; omega

theorem seqS1 (s : ByteArray) (k : Nat) (hk : k < s.size) : s.data.toList.drop k = s[k] :: s.data.toList.drop (k + 1) := by
  rw [List.drop_eq_getElem_cons (by rw [Array.length_toList]; exact hk), Array.getElem_toList]; rfl

theorem step_bad {l : List UInt8} {k : Nat} (hN : ∀ j, 1 ≤ j → j < k → isSeq j l = false) (h : isSeq k l = false) : ∀ j, 1 ≤ j → j < k + 1 → isSeq j l = false := fun j h1 h2 => by
  by_cases hj : j < k
  · exact hN j h1 hj
  · obtain rfl : j = k := by omega
    exact h
theorem size_at {l : List UInt8} {k : Nat} (hk : 1 ≤ k) (h4 : k ≤ 4) (hN : ∀ j, 1 ≤ j → j < k → isSeq j l = false) (h : isSeq k l = true) : sizeR l = k := by
  unfold sizeR
  obtain rfl | rfl | rfl | rfl : k = 1 ∨ k = 2 ∨ k = 3 ∨ k = 4 := by omega
  · rw [if_pos h]
  · rw [hN 1 (by omega) (by omega), if_neg (by simp), if_pos h]
  · rw [hN 1 (by omega) (by omega), hN 2 (by omega) (by omega), if_neg (by simp), if_neg (by simp), if_pos h]
  · rw [hN 1 (by omega) (by omega), hN 2 (by omega) (by omega), hN 3 (by omega) (by omega), if_neg (by simp), if_neg (by simp), if_neg (by simp), if_pos h]
theorem isSeq_short {l : List UInt8} {k : Nat} (h : l.length < k) : isSeq k l = false := by
  match k, l with
  | 0, _ => omega
  | 1, [] => rfl
  | 1, _ :: _ => simp at h
  | 2, [] => rfl
  | 2, [_] => rfl
  | 2, _ :: _ :: _ => simp at h; omega
  | 3, [] => rfl
  | 3, [_] => rfl
  | 3, [_, _] => rfl
  | 3, _ :: _ :: _ :: _ => simp at h; omega
  | 4, [] => rfl
  | 4, [_] => rfl
  | 4, [_, _] => rfl
  | 4, [_, _, _] => rfl
  | 4, _ :: _ :: _ :: _ :: _ => simp at h; omega
  | k + 5, _ => simp [isSeq]
theorem size_none {l : List UInt8} {k : Nat} (hk : 1 ≤ k) (hN : ∀ j, 1 ≤ j → j < k → isSeq j l = false) (h : 4 < k ∨ l.length < k) : sizeR l = 0 := by
  have hA : ∀ j, 1 ≤ j → j ≤ 4 → isSeq j l = false := fun j h1 h2 => by
    by_cases hj : j < k
    · exact hN j h1 hj
    · exact isSeq_short (by omega)
  unfold sizeR
  rw [hA 1 (by omega) (by omega), hA 2 (by omega) (by omega), hA 3 (by omega) (by omega), hA 4 (by omega) (by omega)]
  rfl

end Go.Proofs.YtgiemhooeoakmaaDoor
