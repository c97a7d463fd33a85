/- HasPrefix; the reference's Has. -/
import Derived.Test.YtgiemhooeoakmaaMem
import Derived.Lib.Strings
namespace Go.Proofs.Ytgiemhooeoakmaa
open Go.RowKit
set_option linter.unusedVariables false
set_option linter.unusedSimpArgs false

def hasPre (s p : ByteArray) : Bool := decide (p.size ≤ s.size) && ((s.extract 0 p.size).toList == p.toList)

theorem hasPrefix_any (s p : ByteArray) (w : World) (hs : s.size ≤ maxLen) (hp : p.size ≤ maxLen) :
    Calls Try.prog 21 #[.string s, .string p] w fun e w' => e = .returned (.bool (hasPre s p)) ∧ w = w' := by
  unfold maxLen at hs hp
  by_cases h : p.size ≤ s.size
  · go_enter Try.func21, Try.ntmps21
    go_wp2
    go_ret
    exact ⟨by simp [hasPre, h], rfl⟩
  · go_enter Try.func21, Try.ntmps21
    go_wp2
    go_ret
    exact ⟨by simp [hasPre, h], rfl⟩

theorem hasPre_size {s p : ByteArray} (h : hasPre s p = true) : p.size ≤ s.size := by
  simp [hasPre] at h; exact h.1

/-- The mark. -/
def markB : ByteArray := { data := #[239, 187, 191] }

/-- The mark's bytes by their numbers. -/
def markAt (k : Nat) : Int := if k = 0 then 239 else if k = 1 then 187 else 191
/-- The reference's Has: s begins with the first n bytes of the mark (n up to 3). -/
def hasTo (s : ByteArray) (k : Nat) : Prop := ∀ j (h : j < s.size), j < k → (s[j].toNat : Int) = markAt j
def hasN (s : ByteArray) (n : Nat) : Prop := n ≤ s.size ∧ hasTo s n
noncomputable def hasB (s : ByteArray) (n : Nat) : Bool := @decide (hasN s n) (Classical.propDecidable _)
theorem hasB_true {s : ByteArray} {n : Nat} : hasB s n = true ↔ hasN s n := by simp [hasB]
theorem hasB_false {s : ByteArray} {n : Nat} : hasB s n = false ↔ ¬ hasN s n := by simp [hasB]

theorem has_any (s : ByteArray) (n : Nat) (w : World) (hs : s.size ≤ maxLen) (hn : n ≤ 3) :
    Calls Try.prog 15 #[.string s, .int .i64 n] w fun e w' => e = .returned (.bool (hasB s n)) ∧ Below w.heap.size w w' := by
  unfold maxLen at hs
  by_cases h : n ≤ s.size
  · have hidx : ∀ k, k < 3 → ∀ w, (Instr.index 43 (.agg #[.int .u8 239, .int .u8 187, .int .u8 191]) (.int .i64 (k : Nat))).run Try.prog w = .ok (.int .u8 (markAt k)) w := by
      intro k hk w
      obtain rfl | rfl | rfl : k = 0 ∨ k = 1 ∨ k = 2 := by omega
      · kernel_rfl
      · kernel_rfl
      · kernel_rfl
    go_enter Try.func15, Try.ntmps15
    go_wp2
    go_loopw [5] (fun i wr => ∃ k : Nat, k ≤ n ∧ i = .int .i64 k ∧ hasTo s k ∧ Below w.heap.size w wr) (fun i _ => n - (intOf i).toNat)
    case atStart => exact ⟨0, Nat.zero_le _, rfl, fun _ _ h => by omega, Below.refl _ _⟩
    case round =>
      obtain ⟨k, hk, rfl, hto, hb⟩ := hrel
      by_cases hlt : k < n
      · have hix := hidx k (by omega)
        have hks : k < s.size := by omega
        go_wp2
        go_quiet (fail)
        go_wp2
        · go_ret
          refine ⟨congrArg (fun b => Ending.returned (.bool b)) (hasB_false.2 (fun ⟨_, h2⟩ => ?_)).symm, below_drewN hb _⟩
          have hx := h2 k hks hlt
          simp_all
        · go_roundw
          case rel => 
            refine ⟨k + 1, by omega, by go_num, fun j h1 h2 => ?_, below_drewN hb _⟩
            by_cases hj : j < k
            · exact hto j h1 hj
            · obtain rfl : j = k := by omega
              have hx : ((s[j].toNat : Int) != markAt j) = false := by assumption
              simpa using hx
          case measure => simp [intOf]; omega
      · go_wp2
        go_ret
        exact ⟨congrArg (fun b => Ending.returned (.bool b)) (hasB_true.2 ⟨h, fun j h1 h2 => hto j h1 (by omega)⟩).symm, hb⟩
  · go_enter Try.func15, Try.ntmps15
    go_wp2
    all_goals
      go_ret
      exact ⟨congrArg (fun b => Ending.returned (.bool b)) (hasB_false.2 (fun ⟨h1, _⟩ => h h1)).symm, Below.refl _ _⟩

theorem pre_has (s : ByteArray) : hasPre s markB = hasB s 3 := by
  have e1 : (s.extract 0 markB.size).toList = s.data.toList.take 3 := by rw [Lib.extract_toList]; rfl
  have e2 : markB.toList = [239, 187, 191] := by rw [ByteArray.toList_eq]; rfl
  have hz : s.size = s.data.toList.length := by rw [Array.length_toList]; rfl
  have hg : ∀ j (h : j < s.size), s.data.toList[j]? = some s[j] := fun j h => by
    rw [List.getElem?_eq_getElem (by omega), Array.getElem_toList]; rfl
  rw [Bool.eq_iff_iff, hasB_true]
  unfold hasPre hasN hasTo
  rw [e1, e2, Bool.and_eq_true, decide_eq_true_eq, beq_iff_eq, show markB.size = 3 from rfl]
  clear e1 e2
  generalize s.data.toList = l at *
  constructor
  · rintro ⟨h3, h⟩
    refine ⟨h3, fun j hj hj3 => ?_⟩
    have h2 : (l.take 3)[j]? = ([239, 187, 191] : List UInt8)[j]? := by rw [h]
    rw [List.getElem?_take_of_lt hj3, hg j hj] at h2
    obtain rfl | rfl | rfl : j = 0 ∨ j = 1 ∨ j = 2 := by omega
    all_goals (simp at h2; rw [h2]; rfl)
  · rintro ⟨h3, h⟩
    refine ⟨h3, ?_⟩
    have g : ∀ j (hj : j < s.size) (m : UInt8), j < 3 → (m.toNat : Int) = markAt j → l[j]? = some m := fun j hj m h3 hm => by
      rw [hg j hj]
      have := h j hj h3
      rw [← hm] at this
      exact congrArg some (UInt8.toNat_inj.1 (Int.ofNat.inj this))
    have g0 := g 0 (by omega) 239 (by omega) rfl
    have g1 := g 1 (by omega) 187 (by omega) rfl
    have g2 := g 2 (by omega) 191 (by omega) rfl
    match l with
    | [] => simp at g0
    | [_] => simp at g1
    | [_, _] => simp at g2
    | a :: b :: c :: r => simp at g0 g1 g2; simp [g0, g1, g2]


end Go.Proofs.Ytgiemhooeoakmaa
