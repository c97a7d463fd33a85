/- The functions of layer 3 that only compute with strings: HasPrefix, CutPrefix, bom.Strip, and the reference's Has, Strip, Held, Told. -/
import Derived.Test.YtlcglijkpbojgaaMem
namespace Go.Proofs.Ytlcglijkpbojgaa
open Go.RowKit
set_option linter.unusedVariables false
set_option linter.unusedSimpArgs false

def hasPre (s p : ByteArray) : Bool := decide (p.size ≤ s.size) && ((s.extract 0 p.size).toList == p.toList)

theorem hasPrefix_any (s p : ByteArray) (w : World) (hs : s.size ≤ maxLen) (hp : p.size ≤ maxLen) :
    Calls Try.prog 20 #[.string s, .string p] w fun e w' => e = .returned (.bool (hasPre s p)) ∧ w = w' := by
  unfold maxLen at hs hp
  by_cases h : p.size ≤ s.size
  · go_enter Try.func20, Try.ntmps20
    go_wp2
    go_ret
    exact ⟨by simp [hasPre, h], rfl⟩
  · go_enter Try.func20, Try.ntmps20
    go_wp2
    go_ret
    exact ⟨by simp [hasPre, h], rfl⟩

theorem hasPre_size {s p : ByteArray} (h : hasPre s p = true) : p.size ≤ s.size := by
  simp [hasPre] at h; exact h.1

theorem cutPrefixL_any (s p : ByteArray) (w : World) (hs : s.size ≤ maxLen) (hp : p.size ≤ maxLen) :
    Calls Try.prog 19 #[.string s, .string p] w fun e w' =>
      e = .returned (.tuple #[.string (if hasPre s p then s.extract p.size s.size else s), .bool (hasPre s p)]) ∧ w = w' := by
  have hs' := hs
  have hp' := hp
  unfold maxLen at hs hp
  by_cases h : hasPre s p = true
  · have hsz := hasPre_size h
    go_enter Try.func19, Try.ntmps19
    go_wp2_with (go_at_call 20; refine (hasPrefix_any s p _ hs' hp').mono ?_; rintro e w' ⟨rfl, rfl⟩)
    go_ret2
    exact ⟨by simp [h], rfl⟩
  · go_enter Try.func19, Try.ntmps19
    go_wp2_with (go_at_call 20; refine (hasPrefix_any s p _ hs' hp').mono ?_; rintro e w' ⟨rfl, rfl⟩)
    go_ret2
    exact ⟨by simp [h], rfl⟩

theorem cutPrefix_any (s p : ByteArray) (w : World) (hs : s.size ≤ maxLen) (hp : p.size ≤ maxLen) :
    Calls Try.prog 18 #[.string s, .string p] w fun e w' =>
      e = .returned (.tuple #[.string (if hasPre s p then s.extract p.size s.size else s), .bool (hasPre s p)]) ∧ w = w' := by
  generalize hx : (if hasPre s p then s.extract p.size s.size else s) = x
  have H := Lib.hid hx; clear hx
  go_enter Try.func18, Try.ntmps18
  go_wp2_with (go_at_call 19; refine (cutPrefixL_any s p _ hs hp).mono ?_; rintro e w' ⟨rfl, rfl⟩; rw [H.out])
  go_ret2
  exact ⟨rfl, rfl⟩

/-- The mark. -/
def markB : ByteArray := { data := #[239, 187, 191] }

theorem bomStrip_any (s : ByteArray) (w : World) (hs : s.size ≤ maxLen) :
    Calls Try.prog 15 #[.string s] w fun e w' =>
      e = .returned (.tuple #[.string (if hasPre s markB then s.extract 3 s.size else s), .bool (hasPre s markB)]) ∧ w = w' := by
  generalize hx : (if hasPre s markB then s.extract 3 s.size else s) = x
  generalize hy : hasPre s markB = y at hx
  have H := Lib.hid hx; clear hx
  have Hy := Lib.hid hy; clear hy
  go_enter Try.func15, Try.ntmps15
  go_wp2_with (go_at_call 18; refine (cutPrefix_any s markB _ hs (by decide)).mono ?_; rintro e w' ⟨rfl, rfl⟩; rw [Hy.out, show markB.size = 3 from rfl, H.out])
  go_ret2
  exact ⟨rfl, rfl⟩

/-- The mark's bytes by their numbers. -/
def markAt (k : Nat) : Int := if k = 0 then 239 else if k = 1 then 187 else 191
/-- The reference's Has: s begins with the first n bytes of the mark (n up to 3). -/
def hasTo (s : ByteArray) (k : Nat) : Prop := ∀ j (h : j < s.size), j < k → (s[j].toNat : Int) = markAt j
def hasN (s : ByteArray) (n : Nat) : Prop := n ≤ s.size ∧ hasTo s n
noncomputable def hasB (s : ByteArray) (n : Nat) : Bool := @decide (hasN s n) (Classical.propDecidable _)
theorem hasB_true {s : ByteArray} {n : Nat} : hasB s n = true ↔ hasN s n := by simp [hasB]
theorem hasB_false {s : ByteArray} {n : Nat} : hasB s n = false ↔ ¬ hasN s n := by simp [hasB]

theorem has_any (s : ByteArray) (n : Nat) (w : World) (hs : s.size ≤ maxLen) (hn : n ≤ 3) :
    Calls Try.prog 17 #[.string s, .int .i64 n] w fun e w' => e = .returned (.bool (hasB s n)) ∧ Below w.heap.size w w' := by
  unfold maxLen at hs
  by_cases h : n ≤ s.size
  · have hidx : ∀ k, k < 3 → ∀ w, (Instr.index 43 (.agg #[.int .u8 239, .int .u8 187, .int .u8 191]) (.int .i64 (k : Nat))).run Try.prog w = .ok (.int .u8 (markAt k)) w := by
      intro k hk w
      obtain rfl | rfl | rfl : k = 0 ∨ k = 1 ∨ k = 2 := by omega
      · kernel_rfl
      · kernel_rfl
      · kernel_rfl
    go_enter Try.func17, Try.ntmps17
    go_wp2
    go_loopw [5] (fun i wr => ∃ k : Nat, k ≤ n ∧ i = .int .i64 k ∧ hasTo s k ∧ Below w.heap.size w wr) (fun i _ => n - (intOf i).toNat)
    case atStart => exact ⟨0, Nat.zero_le _, rfl, fun _ _ h => by omega, Below.refl _ _⟩
    case round =>
      obtain ⟨k, hk, rfl, hto, hb⟩ := hrel
      by_cases hlt : k < n
      · have hix := hidx k (by omega)
        have hks : k < s.size := by omega
        go_wp2
        go_quiet (fail)
        go_wp2
        · go_ret
          refine ⟨congrArg (fun b => Ending.returned (.bool b)) (hasB_false.2 (fun ⟨_, h2⟩ => ?_)).symm, below_drewN hb _⟩
          have hx := h2 k hks hlt
          simp_all
        · go_roundw
          case rel => 
            refine ⟨k + 1, by omega, by go_num, fun j h1 h2 => ?_, below_drewN hb _⟩
            by_cases hj : j < k
            · exact hto j h1 hj
            · obtain rfl : j = k := by omega
              have hx : ((s[j].toNat : Int) != markAt j) = false := by assumption
              simpa using hx
          case measure => simp [intOf]; omega
      · go_wp2
        go_ret
        exact ⟨congrArg (fun b => Ending.returned (.bool b)) (hasB_true.2 ⟨h, fun j h1 h2 => hto j h1 (by omega)⟩).symm, hb⟩
  · go_enter Try.func17, Try.ntmps17
    go_wp2
    all_goals
      go_ret
      exact ⟨congrArg (fun b => Ending.returned (.bool b)) (hasB_false.2 (fun ⟨h1, _⟩ => h h1)).symm, Below.refl _ _⟩

/-- The reference's Strip, Held, Told. -/
noncomputable def stripB (s : ByteArray) : ByteArray := if hasB s 3 = true then s.extract 3 s.size else s
noncomputable def wasB (s : ByteArray) : Int := if hasB s 3 = true then 1 else 0
noncomputable def heldB (s : ByteArray) : Int := if s.size ≤ 2 ∧ hasB s s.size = true then s.size else 0
noncomputable def toldB (s : ByteArray) : ByteArray := if 0 < heldB s then { data := #[] } else stripB s

theorem refStrip_any (s : ByteArray) (w : World) (hs : s.size ≤ maxLen) :
    Calls Try.prog 10 #[.string s] w fun e w' => e = .returned (.tuple #[.string (stripB s), .int .i64 (wasB s)]) ∧ Below w.heap.size w w' := by
  have hs' := hs
  unfold maxLen at hs
  refine cps fun R HR => ?_
  cases h : hasB s 3
  · have H := Lib.hid h
    go_enter Try.func10, Try.ntmps10
    go_wp2_with (go_at_call 17; refine (has_any s 3 _ hs' (by omega)).mono ?_; rintro e w1 ⟨rfl, hb⟩; rw [H.out])
    exact HR.out _ _ ⟨by simp [stripB, wasB, H.out], hb⟩
  · have H := Lib.hid h
    have h3 : 3 ≤ s.size := (hasB_true.1 h).1
    clear h
    go_enter Try.func10, Try.ntmps10
    go_wp2_with (go_at_call 17; refine (has_any s 3 _ hs' (by omega)).mono ?_; rintro e w1 ⟨rfl, hb⟩; rw [H.out])
    exact HR.out _ _ ⟨by simp [stripB, wasB, H.out], hb⟩

theorem refHeld_any (s : ByteArray) (w : World) (hs : s.size ≤ maxLen) :
    Calls Try.prog 13 #[.string s] w fun e w' => e = .returned (.int .i64 (heldB s)) ∧ Below w.heap.size w w' := by
  have hs' := hs
  unfold maxLen at hs
  refine cps fun R HR => ?_
  by_cases h2 : s.size ≤ 2
  · cases h : hasB s s.size
    all_goals
      have H := Lib.hid h; clear h
      go_enter Try.func13, Try.ntmps13
      go_wp2_with (go_at_call 17; refine (has_any s s.size _ hs' (by omega)).mono ?_; rintro e w1 ⟨rfl, hb⟩; rw [H.out])
      exact HR.out _ _ ⟨by simp [heldB, H.out, h2], hb⟩
  · go_enter Try.func13, Try.ntmps13
    go_wp2
    exact HR.out _ _ ⟨by simp [heldB, h2], Below.refl _ _⟩

theorem refTold_any (s : ByteArray) (w : World) (hs : s.size ≤ maxLen) :
    Calls Try.prog 11 #[.string s] w fun e w' => e = .returned (.string (toldB s)) ∧ Below w.heap.size w w' := by
  refine cps fun R HR => ?_
  by_cases h : 0 < heldB s
  · have hx : toldB s = { data := #[] } := by simp [toldB, h]
    have HX := Lib.hid hx; clear hx
    go_enter Try.func11, Try.ntmps11
    go_wp2_with (go_at_call 13; refine (refHeld_any s _ hs).mono ?_; rintro e w1 ⟨rfl, hb⟩)
    exact HR.out _ _ ⟨by rw [HX.out]; rfl, hb⟩
  · have hx : toldB s = stripB s := by simp [toldB, h]
    have HX := Lib.hid hx; clear hx
    go_enter Try.func11, Try.ntmps11
    go_wp2_with fail
    refine (refHeld_any s _ hs).mono ?_
    rintro e w1 ⟨rfl, hb⟩
    go_wp2_with fail
    refine (refStrip_any s _ hs).mono ?_
    rintro e w2 ⟨rfl, hb2⟩
    go_wp2
    exact HR.out _ _ ⟨by rw [HX.out]; rfl, hb.trans (hb2.mono hb.size)⟩

end Go.Proofs.Ytlcglijkpbojgaa
