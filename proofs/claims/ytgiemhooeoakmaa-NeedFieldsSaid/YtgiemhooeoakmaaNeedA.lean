/- Layer 8: need.Why, Need. -/
import Derived.Test.YtgiemhooeoakmaaIdxB
import Derived.Test.YtgiemhooeoakmaaBomH
import Derived.Test.YtgiemhooeoakmaaDlR
namespace Go.Proofs.Ytgiemhooeoakmaa
open Go.RowKit
set_option linter.unusedVariables false
set_option linter.unusedSimpArgs false

def hasC (s : ByteArray) (b : Nat) : Bool := s.data.toList.contains b.toUInt8
def whyB (a b c d e : Bool) : Nat := if a then 1 else if b then 2 else if c then 3 else if d then 4 else if e then 5 else 0
/-- Why a field must be quoted. -/
def whyN (d q : Nat) (f : ByteArray) (al fi : Bool) : Nat := whyB (hasC f d) (hasC f q) (hasC f 13 || hasC f 10) (decide (f.size = 0) && al) (fi && hasPre f markB)
theorem hasC_idx (s : ByteArray) (d : Nat) : hasC s d = decide (0 ≤ Lib.indexByte s.data.toList ((d : Int)).toNat.toUInt8) := by
  unfold hasC
  rw [Lib.contains_iff_indexByte, Int.toNat_natCast]
theorem any_crlf : ∀ l : List UInt8, Lib.containsAny l [13, 10] = (l.contains 13 || l.contains 10)
  | [] => rfl
  | b :: r => by
    have ih := any_crlf r
    have hge := Lib.indexAny_ge [13, 10] r
    unfold Lib.containsAny at ih ⊢
    have c13 : (b :: r).contains 13 = ((13 == b) || r.contains 13) := List.contains_cons
    have c10 : (b :: r).contains 10 = ((10 == b) || r.contains 10) := List.contains_cons
    rw [Lib.indexAny, c13, c10]
    by_cases h13 : b = 13
    · subst h13; simp
    · by_cases h10 : b = 10
      · subst h10; simp
      · have hc : ([13, 10] : List UInt8).contains b = false := by simp [h13, h10]
        have e13 : ((13 : UInt8) == b) = false := by rw [beq_eq_false_iff_ne]; exact fun e => h13 e.symm
        have e10 : ((10 : UInt8) == b) = false := by rw [beq_eq_false_iff_ne]; exact fun e => h10 e.symm
        rw [hc, e13, e10, Bool.false_or, Bool.false_or, ← ih, if_neg (by simp)]
        by_cases h1 : Lib.indexAny r [13, 10] = -1
        · rw [if_pos (by rw [h1]; rfl), h1]
        · rw [if_neg (by simpa using h1)]
          congr 1
          apply propext
          constructor <;> intro <;> omega
theorem size_toList (s : ByteArray) : s.toList.isEmpty = decide (s.size = 0) := by
  rw [Lib.toList_data, Lib.size_eq, Bool.eq_iff_iff, List.isEmpty_iff, decide_eq_true_iff, List.length_eq_zero_iff]
theorem pref_any (s p : ByteArray) (w : World) (hs : s.size ≤ maxLen) (hp : p.size ≤ maxLen) :
    Calls Try.prog 18 #[.string s, .string p] w fun e w' => e = .returned (.bool (hasPre s p)) ∧ w' = w := by
  refine cps fun R HR => ?_
  go_enter Try.func18, Try.ntmps18
  go_wp2_with fail
  refine (hasPrefix_any s p _ hs hp).mono ?_
  rintro e w1 ⟨rfl, rfl⟩
  go_wp2
  exact HR.out _ _ ⟨rfl, rfl⟩
set_option maxHeartbeats 2000000 in
theorem why_any (d q : Nat) (e : Int) (f : ByteArray) (al fi : Bool) (w : World) (hf : f.size ≤ 100000) :
    Calls Try.prog 10 #[.agg #[.int .u8 d, .int .u8 q, .int .i64 e], .string f, .bool al, .bool fi] w fun e w' => e = .returned (.int .i64 (whyN d q f al fi)) ∧ Below w.heap.size w w' := by
  refine cps fun R HR => ?_
  unfold whyN at HR
  have b0 : Below w.heap.size w (w.alloc (.cells #[.int .u8 d, .int .u8 q, .int .i64 e] 23)) := (Below.refl _ _).alloc (Nat.le_refl _) _
  have h1 := hasC_idx f d
  have h2 := hasC_idx f q
  have h3 := any_crlf f.data.toList
  have h4 := size_toList f
  rw [show (hasC f 13 || hasC f 10) = Lib.containsAny f.data.toList [13, 10] from h3.symm] at HR
  obtain ⟨a, ha⟩ : ∃ a, a = hasC f d := ⟨_, rfl⟩
  obtain ⟨b, hb⟩ : ∃ b, b = hasC f q := ⟨_, rfl⟩
  obtain ⟨c, hc⟩ : ∃ c, c = Lib.containsAny f.data.toList [13, 10] := ⟨_, rfl⟩
  obtain ⟨z, hz⟩ : ∃ z, z = decide (f.size = 0) := ⟨_, rfl⟩
  obtain ⟨p, hp⟩ : ∃ p, p = hasPre f markB := ⟨_, rfl⟩
  rw [← ha, ← hb, ← hc, ← hz, ← hp] at HR
  rw [← ha] at h1
  rw [← hb] at h2
  rw [← hz] at h4
  obtain ⟨i1, hi1⟩ : ∃ i1, i1 = Lib.indexByte f.data.toList ((d : Int)).toNat.toUInt8 := ⟨_, rfl⟩
  obtain ⟨i2, hi2⟩ : ∃ i2, i2 = Lib.indexByte f.data.toList ((q : Int)).toNat.toUInt8 := ⟨_, rfl⟩
  rw [← hi1] at h1
  rw [← hi2] at h2
  have HI1 := Lib.hid hi1; have HI2 := Lib.hid hi2; have HC := Lib.hid hc; have HP := Lib.hid hp; have HB0 := Lib.hid b0; have H2 := Lib.hid h2; have H4 := Lib.hid h4
  clear ha hb hc hz hp hi1 hi2 b0 h2 h3 h4
  cases a
  · have p1 : ¬ 0 ≤ i1 := of_decide_eq_false h1.symm
    have p1' : i1 < 0 := by omega
    clear h1
    go_enter Try.func10, Try.ntmps10
    go_wp2_with fail
    refine (Try.strings_IndexByte _ _ _).mono ?_
    rintro e w1 ⟨rfl, rfl⟩
    rw [← HI1.out]
    cases b
    · have p2 : ¬ 0 ≤ i2 := of_decide_eq_false H2.out.symm
      go_wp2_with fail
      refine (Try.strings_IndexByte _ _ _).mono ?_
      rintro e w1 ⟨rfl, rfl⟩
      rw [← HI2.out]
      go_wp2_with fail
      refine (contAny_crlf _ _ hf).mono ?_
      rintro e w3 ⟨rfl, b3⟩
      rw [← HC.out]
      have hB := HB0.out.trans (b3.mono HB0.out.size)
      have hemp := H4.out
      clear b3
      cases c
      · cases z
        · cases fi
          · go_wp2
            exact HR.out _ _ ⟨rfl, hB⟩
          · go_wp2_with fail
            refine (pref_any f markB _ (by unfold maxLen; omega) (by decide)).mono ?_
            rintro e w4 ⟨rfl, rfl⟩
            rw [← HP.out]
            cases p
            · go_wp2
              exact HR.out _ _ ⟨rfl, hB⟩
            · go_wp2
              exact HR.out _ _ ⟨rfl, hB⟩
        · cases al
          · cases fi
            · go_wp2
              exact HR.out _ _ ⟨rfl, hB⟩
            · go_wp2_with fail
              refine (pref_any f markB _ (by unfold maxLen; omega) (by decide)).mono ?_
              rintro e w4 ⟨rfl, rfl⟩
              rw [← HP.out]
              cases p
              · go_wp2
                exact HR.out _ _ ⟨rfl, hB⟩
              · go_wp2
                exact HR.out _ _ ⟨rfl, hB⟩
          · go_wp2
            exact HR.out _ _ ⟨rfl, hB⟩
      · go_wp2
        exact HR.out _ _ ⟨rfl, hB⟩
    · have p2 : 0 ≤ i2 := of_decide_eq_true H2.out.symm
      go_wp2_with fail
      refine (Try.strings_IndexByte _ _ _).mono ?_
      rintro e w1 ⟨rfl, rfl⟩
      rw [← HI2.out]
      go_wp2
      exact HR.out _ _ ⟨rfl, HB0.out⟩
  · have p1 : 0 ≤ i1 := of_decide_eq_true h1.symm
    clear h1
    go_enter Try.func10, Try.ntmps10
    go_wp2_with fail
    refine (Try.strings_IndexByte _ _ _).mono ?_
    rintro e w1 ⟨rfl, rfl⟩
    rw [← HI1.out]
    go_wp2
    exact HR.out _ _ ⟨rfl, HB0.out⟩
theorem need_any (d q : Nat) (e : Int) (f : ByteArray) (al fi : Bool) (w : World) (hf : f.size ≤ 100000) :
    Calls Try.prog 11 #[.agg #[.int .u8 d, .int .u8 q, .int .i64 e], .string f, .bool al, .bool fi] w fun e w' => e = .returned (.bool (decide (whyN d q f al fi ≠ 0))) ∧ Below w.heap.size w w' := by
  refine cps fun R HR => ?_
  obtain ⟨y, hy⟩ : ∃ y, y = whyN d q f al fi := ⟨_, rfl⟩
  rw [← hy] at HR
  have b0 : Below w.heap.size w (w.alloc (.cells #[.int .u8 d, .int .u8 q, .int .i64 e] 23)) := (Below.refl _ _).alloc (Nat.le_refl _) _
  obtain ⟨t, ht⟩ : ∃ t, t = decide (y ≠ 0) := ⟨_, rfl⟩
  have d1 : ((y : Int) != 0) = t := by rw [ht, Bool.eq_iff_iff, bne_iff_ne, decide_eq_true_iff]; omega
  rw [← ht] at HR
  have HY := Lib.hid hy; have HB := Lib.hid b0
  clear hy b0 ht
  go_enter Try.func11, Try.ntmps11
  go_wp2_with fail
  refine (why_any d q e f al fi _ hf).mono ?_
  rintro e w1 ⟨rfl, b1⟩
  rw [← HY.out]
  go_wp2
  exact HR.out _ _ ⟨rfl, HB.out.trans (b1.mono HB.out.size)⟩
end Go.Proofs.Ytgiemhooeoakmaa
