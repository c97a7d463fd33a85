/- Layer 8: the reference's Has, Why; one; few. -/
import Derived.Test.YtgiemhooeoakmaaNeedA
import Derived.Test.YtgiemhooeoakmaaTabG
import Derived.Test.YtgiemhooeoakmaaBools
namespace Go.Proofs.Ytgiemhooeoakmaa
open Go.RowKit Go.ChangeShapes Go.WideShapes
set_option linter.unusedVariables false
set_option linter.unusedSimpArgs false

theorem refHasC_any (s : ByteArray) (d : Nat) (w : World) (hs : s.size ≤ 100000) (hd : d < 256) :
    Calls Try.prog 14 #[.string s, .int .i64 d] w fun e w' => e = .returned (.bool (hasC s d)) ∧ w' = w := by
  refine cps fun R HR => ?_
  unfold hasC at HR
  obtain ⟨T, hT⟩ : ∃ T, T = s.data.toList.contains d.toUInt8 := ⟨_, rfl⟩
  rw [← hT] at HR
  have HT := Lib.hid hT
  clear hT
  go_enter Try.func14, Try.ntmps14
  go_wp2
  go_loopw [5] (fun i wr => ∃ k : Nat, k ≤ s.size ∧ i = .int .i64 k ∧ (s.data.toList.drop k).contains d.toUInt8 = T ∧ wr = w) (fun i _ => s.size - (intOf i).toNat)
  case atStart => exact ⟨0, Nat.zero_le _, rfl, HT.out.symm, rfl⟩
  case round =>
    obtain ⟨k, hk, rfl, hN, rfl⟩ := hrel
    have HN := Lib.hid hN
    clear hN
    by_cases hlt : k < s.size
    · obtain ⟨x, hx⟩ : ∃ x, x = s[k]'hlt := ⟨_, rfl⟩
      have hxl : s.data.toList[k]? = some x := by rw [hx]; exact Lib.data_getElem? s k hlt
      have hdr : s.data.toList.drop k = x :: s.data.toList.drop (k + 1) := by
        have hk2 := (List.getElem?_eq_some_iff.1 hxl).1
        rw [List.drop_eq_getElem_cons hk2]
        have := (List.getElem?_eq_some_iff.1 hxl).2
        rw [this]
      obtain ⟨t, ht⟩ : ∃ t, t = (d.toUInt8 == x) := ⟨_, rfl⟩
      have hx256 := x.toNat_lt
      have dq : (wrap64 (x.toNat : Int) == (d : Int)) = t := by
        rw [show wrap64 (x.toNat : Int) = (x.toNat : Int) by unfold wrap64; omega, ht, Bool.eq_iff_iff, beq_iff_eq, beq_iff_eq]
        constructor
        · intro h
          have : x.toNat = d := by omega
          rw [← this]; simp
        · intro h
          rw [← h]
          simp; omega
      have hn := HN.out
      rw [hdr, List.contains_cons, ← ht] at hn
      rw [hx] at dq
      have HN2 := Lib.hid hn
      clear hn hdr hxl ht hx
      cases t
      · go_wp2
        exact ⟨⟨k + 1, by omega, by go_num, by have := HN2.out; rwa [Bool.false_or] at this, trivial⟩, by simp [intOf]; omega⟩
      · have hy : T = true := by have := HN2.out; rw [Bool.true_or] at this; exact this.symm
        subst hy
        go_wp2
        exact HR.out _ _ ⟨rfl, rfl⟩
    · obtain rfl : k = s.size := by omega
      have hy : T = false := by
        have := HN.out
        rw [List.drop_of_length_le (by rw [Lib.size_eq]; exact Nat.le_refl _)] at this
        exact this.symm
      subst hy
      go_wp2
      exact HR.out _ _ ⟨rfl, rfl⟩
def oneI (b : Bool) : Int := if b then 1 else 0
theorem one_any (b : Bool) (w : World) : Calls Try.prog 9 #[.bool b] w fun e w' => e = .returned (.int .i64 (oneI b)) ∧ w' = w := by
  refine cps fun R HR => ?_
  cases b
  · go_enter Try.func9, Try.ntmps9
    go_wp2
    exact HR.out _ _ ⟨rfl, rfl⟩
  · go_enter Try.func9, Try.ntmps9
    go_wp2
    exact HR.out _ _ ⟨rfl, rfl⟩
set_option maxHeartbeats 2000000 in
theorem refWhy_any (d q : Nat) (e : Int) (f : ByteArray) (al fi : Bool) (w : World) (hf : f.size ≤ 100000) (hd : d < 256) (hq : q < 256) :
    Calls Try.prog 8 #[.agg #[.int .i64 d, .int .i64 q, .int .i64 e], .string f, .int .i64 (oneI al), .int .i64 (oneI fi)] w fun e w' => e = .returned (.int .i64 (whyN d q f al fi)) ∧ Below w.heap.size w w' := by
  refine cps fun R HR => ?_
  unfold whyN at HR
  have b0 : Below w.heap.size w (w.alloc (.cells #[.int .i64 d, .int .i64 q, .int .i64 e] 26)) := (Below.refl _ _).alloc (Nat.le_refl _) _
  obtain ⟨a, ha⟩ : ∃ a, a = hasC f d := ⟨_, rfl⟩
  obtain ⟨b, hb⟩ : ∃ b, b = hasC f q := ⟨_, rfl⟩
  obtain ⟨c, hc⟩ : ∃ c, c = hasC f 13 := ⟨_, rfl⟩
  obtain ⟨c2, hc2⟩ : ∃ c2, c2 = hasC f 10 := ⟨_, rfl⟩
  obtain ⟨z, hz⟩ : ∃ z, z = decide (f.size = 0) := ⟨_, rfl⟩
  obtain ⟨p, hp⟩ : ∃ p, p = hasPre f markB := ⟨_, rfl⟩
  rw [← ha, ← hb, ← hc, ← hc2, ← hz, ← hp] at HR
  have dz : ((f.size : Int) == 0) = z := by rw [hz, Bool.eq_iff_iff, beq_iff_eq, decide_eq_true_iff]; omega
  rw [pre_has] at hp
  have dal : (oneI al == 1) = al := by cases al <;> rfl
  have dfi : (oneI fi == 1) = fi := by cases fi <;> rfl
  have HA := Lib.hid ha; have HBq := Lib.hid hb; have HC := Lib.hid hc; have HC2 := Lib.hid hc2; have HP := Lib.hid hp; have HB0 := Lib.hid b0; have HDZ := Lib.hid dz; have HAL := Lib.hid dal; have HFI := Lib.hid dfi
  clear ha hb hc hc2 hz hp b0 dz dal dfi
  go_enter Try.func8, Try.ntmps8
  go_wp2_with fail
  refine (refHasC_any _ _ _ hf hd).mono ?_
  rintro e w1 ⟨rfl, rfl⟩
  rw [← HA.out]
  cases a
  · go_wp2_with fail
    refine (refHasC_any _ _ _ hf hq).mono ?_
    rintro e w1 ⟨rfl, rfl⟩
    rw [← HBq.out]
    cases b
    · go_wp2_with fail
      refine (refHasC_any _ 13 _ hf (by omega)).mono ?_
      rintro e w1 ⟨rfl, rfl⟩
      rw [← HC.out]
      cases c
      · go_wp2_with fail
        refine (refHasC_any _ 10 _ hf (by omega)).mono ?_
        rintro e w1 ⟨rfl, rfl⟩
        rw [← HC2.out]
        cases c2
        · have dz := HDZ.out
          have dal := HAL.out
          have dfi := HFI.out
          cases z
          · cases fi
            · go_wp2
              exact HR.out _ _ ⟨rfl, HB0.out⟩
            · go_wp2_with fail
              refine (has_any f 3 _ (by unfold maxLen; omega) (by omega)).mono ?_
              rintro e w4 ⟨rfl, b4⟩
              rw [← HP.out]
              have hB := HB0.out.trans (b4.mono HB0.out.size)
              clear b4
              cases p
              · go_wp2
                exact HR.out _ _ ⟨rfl, hB⟩
              · go_wp2
                exact HR.out _ _ ⟨rfl, hB⟩
          · cases al
            · cases fi
              · go_wp2
                exact HR.out _ _ ⟨rfl, HB0.out⟩
              · go_wp2_with fail
                refine (has_any f 3 _ (by unfold maxLen; omega) (by omega)).mono ?_
                rintro e w4 ⟨rfl, b4⟩
                rw [← HP.out]
                have hB := HB0.out.trans (b4.mono HB0.out.size)
                clear b4
                cases p
                · go_wp2
                  exact HR.out _ _ ⟨rfl, hB⟩
                · go_wp2
                  exact HR.out _ _ ⟨rfl, hB⟩
            · go_wp2
              exact HR.out _ _ ⟨rfl, HB0.out⟩
        · go_wp2
          exact HR.out _ _ ⟨rfl, HB0.out⟩
      · go_wp2
        exact HR.out _ _ ⟨rfl, HB0.out⟩
    · go_wp2
      exact HR.out _ _ ⟨rfl, HB0.out⟩
  · go_wp2
    exact HR.out _ _ ⟨rfl, HB0.out⟩
end Go.Proofs.Ytgiemhooeoakmaa
