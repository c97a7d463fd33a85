/- Of any state any byte goes on, or does not. -/
import Derived.Test.YtlcglijkpbojgaaDoorUtfN
import Derived.Test.YtlcglijkpbojgaaDoorCards
import Derived.Test.YtlcglijkpbojgaaDoorTie
import Derived.SizedLaws
import Derived.ProofKit
import Derived.OpenShut
import Derived.ShutString
import Derived.ChangeOld
import Derived.Below
import Derived.Deep.DeepHandedRow
import Derived.Deep.DeepWitnessRowRef
namespace Go.Proofs.YtlcglijkpbojgaaDoor.utfSteps
open Go.ChangeShapes Go.WideShapes Go.ChangeAt Go.RowKit
open Go.ChangeMaps (open_string shut_string)
set_option linter.unusedVariables false
set_option linter.unusedSimpArgs false

theorem law_four (x : UInt8) (st v k : Nat) (lo hi : Nat) (hx : 128 ≤ x.toNat) (hp2 : ¬ P2 x.toNat) (hP : ∀ y : Nat, P3 x.toNat y ∨ P4 x.toNat y ↔ lo ≤ y ∧ y ≤ hi)
    (hstep : ∀ b n, stepF st b = some n ↔ lo ≤ b ∧ b ≤ hi ∧ n = v) (hs : stateN x.toNat 2 = v) (b : Nat) (hb : b < 256) :
    (goesR [x, UInt8.ofNat b] = true ↔ ∃ n, stepF st b = some n) ∧ ∀ n, stepF st b = some n → (n : Int) = (if sizeR [x, UInt8.ofNat b] = 2 then 0 else stateN x.toNat 2) := by
  have hbn : (UInt8.ofNat b).toNat = b := by rw [UInt8.toNat_ofNat']; omega
  have h0 : sizeR [x, UInt8.ofNat b] = 0 := by
    rw [none_iff]
    refine ⟨?_, ?_, rfl, rfl⟩
    · rw [Bool.eq_false_iff, Ne, seq1_iff]; omega
    · rw [Bool.eq_false_iff, Ne, seq2_iff]; exact fun h => hp2 h.1
  refine ⟨?_, ?_⟩
  · rw [goes_iff h0 (by simp)]
    simp only [to2 _ _ _ _ hx, to_nil, hstep, hbn]
    constructor
    · rintro ⟨u, ⟨h, _⟩ | ⟨h, _⟩ | ⟨h, _⟩⟩
      · exact absurd h hp2
      · have := (hP b).1 (.inl h); exact ⟨v, this.1, this.2, rfl⟩
      · have := (hP b).1 (.inr h); exact ⟨v, this.1, this.2, rfl⟩
    · rintro ⟨n, h1, h2, _⟩
      rcases (hP b).2 ⟨h1, h2⟩ with h | h
      · exact ⟨1, .inr (.inl ⟨h, rfl⟩)⟩
      · exact ⟨2, .inr (.inr ⟨h, rfl⟩)⟩
  · intro n hn
    rw [h0, if_neg (by omega), hs, ((hstep b n).1 hn).2.2]
theorem law_zero (b : Nat) (hb : b < 256) :
    (goesR [UInt8.ofNat b] = true ↔ ∃ n, stepF 0 b = some n) ∧ ∀ n, stepF 0 b = some n → (n : Int) = (if sizeR [UInt8.ofNat b] = 1 then 0 else stateN (UInt8.ofNat b).toNat 1) := by
  have hbn : (UInt8.ofNat b).toNat = b := by rw [UInt8.toNat_ofNat']; omega
  rw [hbn]
  by_cases h : b < 128
  · have h1 : sizeR [UInt8.ofNat b] = 1 := size_at (by omega) (by omega) (fun j h1 h2 => by omega) (by rw [seq1_iff, hbn]; exact h)
    refine ⟨⟨fun _ => ⟨0, (step0 _ _).2 (by omega)⟩, fun _ => by unfold goesR; rw [h1]; simp⟩, fun n hn => ?_⟩
    rw [if_pos h1]
    rw [step0] at hn
    omega
  · have h0 : sizeR [UInt8.ofNat b] = 0 := by
      rw [none_iff]
      refine ⟨?_, rfl, rfl, rfl⟩
      rw [Bool.eq_false_iff, Ne, seq1_iff]; omega
    refine ⟨?_, fun n hn => ?_⟩
    · rw [goes_iff h0 (by simp)]
      simp only [to1, hbn]
    · rw [if_neg (by omega)]
      rw [step0] at hn
      unfold stateN
      omega
theorem key_any (st b : Nat) (hst : st < 8) (hb : b < 256) (h : ¬ (1 ≤ st ∧ st ≤ 3)) (M : ByteArray) (h0 : 0 < M.size) (hM : M.data.toList = (beginB st).data.toList ++ [UInt8.ofNat b]) :
    (goesR M.data.toList = true ↔ ∃ n, stepF st b = some n) ∧ ∀ n, stepF st b = some n → (n : Int) = (if sizeR M.data.toList = M.size then 0 else stateN (M[0]).toNat M.size) := by
  obtain rfl : M = ⟨((beginB st).data.toList ++ [UInt8.ofNat b]).toArray⟩ := by
    apply ByteArray.ext
    rw [← Array.toList_inj]
    simpa using hM
  obtain rfl | rfl | rfl | rfl | rfl : st = 0 ∨ st = 4 ∨ st = 5 ∨ st = 6 ∨ st = 7 := by omega
  · exact law_zero b hb
  · exact law_four 224 4 1 0 160 191 (by decide) (by unfold P2; decide) (fun y => by show P3 224 y ∨ P4 224 y ↔ _; unfold P3 P4; omega) step4 rfl b hb
  · exact law_four 237 5 1 0 128 159 (by decide) (by unfold P2; decide) (fun y => by show P3 237 y ∨ P4 237 y ↔ _; unfold P3 P4; omega) step5 rfl b hb
  · exact law_four 240 6 2 0 144 191 (by decide) (by unfold P2; decide) (fun y => by show P3 240 y ∨ P4 240 y ↔ _; unfold P3 P4; omega) step6 rfl b hb
  · exact law_four 244 7 2 0 128 143 (by decide) (by unfold P2; decide) (fun y => by show P3 244 y ∨ P4 244 y ↔ _; unfold P3 P4; omega) step7 rfl b hb
set_option maxHeartbeats 1000000 in
theorem walk (c : Int) (hc : (Lit.int .u8 c).wf = true) (b : Int) (hb : (Lit.int .u8 b).wf = true) (w : World) (hT : Tab w) :
    Calls Tryd.prog 5 #[.int .u8 c, .int .u8 b] w fun e w' => e = .returned (.bool true) ∧ Below w.heap.size w w' := by
  refine cps fun R HR => ?_
  simp [Lit.wf, IntKind.min, IntKind.max, IntKind.signed, IntKind.bits] at hc hb
  obtain ⟨c, rfl⟩ := Int.eq_ofNat_of_zero_le hc.1
  obtain ⟨b, rfl⟩ := Int.eq_ofNat_of_zero_le hb.1
  obtain ⟨st, hst⟩ : ∃ st, st = c % 8 := ⟨_, rfl⟩
  have hs8 : st < 8 := by omega
  have hsI : ((c : Int) % 8) = (st : Int) := by omega
  have hb' : b < 256 := by omega
  have HST := Lib.hid hst; clear hst
  go_enter Tryd.func5, Tryd.ntmps5
  go_wp2_with fail
  refine (step_any st b _ hs8 hb' hT).mono ?_
  rintro e w1 ⟨rfl, b1⟩
  obtain ⟨nx, ok, hv, hno, hyes⟩ : ∃ (nx : Nat) (ok : Bool), stepV st b = .tuple #[.int .i64 nx, .bool ok] ∧ (ok = false → nx = 0 ∧ stepF st b = none) ∧ (ok = true → stepF st b = some nx) := by
    unfold stepV
    cases h : stepF st b with
    | none => exact ⟨0, false, rfl, fun _ => ⟨rfl, rfl⟩, fun h => by cases h⟩
    | some n => exact ⟨n, true, rfl, (fun h => by cases h), fun _ => rfl⟩
  rw [hv]
  have HNO := Lib.hid hno; have HYES := Lib.hid hyes
  clear hv hno hyes
  go_wp2_with fail
  refine (begin_any st _ hs8).mono ?_
  rintro e w2 ⟨rfl, rfl⟩
  obtain ⟨B, hB⟩ : ∃ B, B = beginB st := ⟨_, rfl⟩
  rw [← hB]
  have hB1 : B.size ≤ 1 := by
    rw [hB]
    obtain rfl | rfl | rfl | rfl | rfl | rfl | rfl | rfl : st = 0 ∨ st = 1 ∨ st = 2 ∨ st = 3 ∨ st = 4 ∨ st = 5 ∨ st = 6 ∨ st = 7 := by omega
    all_goals decide
  have HB := Lib.hid hB; clear hB
  have hcv := conv_ints (P := Tryd.prog) w2 49 9 5 Tryd.underlying49 Tryd.underlying5 Tryd.underlying9 [(b : Int)] (by intro z hz; simp at hz; omega) (by simp)
  simp only [List.map, List.length, Int.toNat_natCast] at hcv
  obtain ⟨cs, hcs⟩ : ∃ cs : ByteArray, cs = ⟨[UInt8.ofNat b].toArray⟩ := ⟨_, rfl⟩
  rw [← hcs] at hcv
  have hc1 : cs.size = 1 := by rw [hcs]; rfl
  have HCS := Lib.hid hcs; clear hcs
  have n1 : ¬ 9223372036854775807 < B.size + cs.size := by omega
  have hq1 : B.size + cs.size ≤ maxLen := by rw [hc1]; unfold maxLen; omega
  have hsc : (B ++ cs).size ≤ maxLen := by rw [ByteArray.size_append]; exact hq1
  have HSC := Lib.hid hsc; clear hsc
  go_wp2_with fail
  refine (goes_any (B ++ cs) _ HSC.out).mono ?_
  rintro e w3 ⟨rfl, b3⟩
  have b2 := b1.alloc b1.size (Obj.cells #[Value.int IntKind.u8 ↑b] 5)
  have b13 := b2.trans (b3.mono b2.size)
  have hL : (B ++ cs).data.toList = (beginB st).data.toList ++ [UInt8.ofNat b] := by rw [ByteArray.data_append, Array.toList_append, HCS.out, HB.out]
  have hsz : (B ++ cs).size = B.size + 1 := by rw [ByteArray.size_append, hc1]
  have hcv3 := conv_ints (P := Tryd.prog) w3 49 9 5 Tryd.underlying49 Tryd.underlying5 Tryd.underlying9 [(b : Int)] (by intro z hz; simp at hz; omega) (by simp)
  simp only [List.map, List.length, Int.toNat_natCast] at hcv3
  rw [show (ByteArray.mk [UInt8.ofNat b].toArray) = cs from HCS.out.symm] at hcv3
  have b3a := b13.alloc b13.size (Obj.cells #[Value.int IntKind.u8 ↑b] 5)
  have SZ := Lib.hid hsz
  clear hsz hcv
  by_cases hin : 1 ≤ st ∧ st ≤ 3
  · obtain ⟨i1, i2⟩ := hin
    have d1 : decide ((1 : Int) ≤ (st : Int)) = true := decide_eq_true (by omega)
    have d2 : decide ((st : Int) ≤ 3) = true := decide_eq_true (by omega)
    have hst3 : ∀ n, stepF st b = some n ↔ 128 ≤ b ∧ b ≤ 191 ∧ n = st - 1 := fun n => by
      obtain rfl | rfl | rfl : st = 1 ∨ st = 2 ∨ st = 3 := by omega
      · exact step1 b n
      · exact step2 b n
      · exact step3 b n
    by_cases hr : 128 ≤ b ∧ b ≤ 191
    · obtain rfl : ok = true := by
        cases ok with
        | true => rfl
        | false =>
          have := (HNO.out rfl).2
          rw [(hst3 (st - 1)).2 ⟨hr.1, hr.2, rfl⟩] at this
          cases this
      obtain rfl : nx = st - 1 := ((hst3 nx).1 (HYES.out rfl)).2.2
      have e1 : ((st - 1 : Nat) : Int) = (st : Int) - 1 := by omega
      rw [e1]
      have d3 : decide ((128 : Int) ≤ (b : Int)) = true := decide_eq_true (by omega)
      have d4 : decide ((b : Int) ≤ 191) = true := decide_eq_true (by omega)
      clear hr hst3 hL e1
      go_wp2_with fail
      have hst9 : ∀ v : World, Calls Tryd.prog 25 #[.string (B ++ cs)] v fun e w' => (∃ sv : Int, e = .returned (.int .i64 sv)) ∧ Below v.heap.size v w' := fun v =>
        (state_any (B ++ cs) v (by have := SZ.out; omega) (by have := SZ.out; omega)).mono fun _ _ h => ⟨⟨_, h.1⟩, h.2⟩
      refine (hst9 _).mono ?_
      rintro e w4 ⟨⟨sv, rfl⟩, b4⟩
      have b14 := b3a.trans (b4.mono b3a.size)
      go_wp2_with fail
      refine (awake_any _ (hT.below b14)).mono ?_
      rintro e w5 ⟨rfl, b5⟩
      go_wp2
      exact HR.out _ _ ⟨rfl, b14.trans (b5.mono b14.size)⟩
    · obtain rfl : ok = false := by
        cases ok with
        | false => rfl
        | true =>
          have := (hst3 nx).1 (HYES.out rfl)
          exact absurd ⟨this.1, this.2.1⟩ hr
      obtain rfl : nx = 0 := (HNO.out rfl).1
      have dd : decide ((128 : Int) ≤ (b : Int)) = false ∨ decide ((128 : Int) ≤ (b : Int)) = true ∧ decide ((b : Int) ≤ 191) = false := by
        by_cases h1 : 128 ≤ b
        · exact .inr ⟨decide_eq_true (by omega), decide_eq_false (by omega)⟩
        · exact .inl (decide_eq_false (by omega))
      clear hr hst3 hL
      rcases dd with d3 | ⟨d3, d4⟩
      all_goals
        go_wp2_with fail
        refine (awake_any _ (hT.below b13)).mono ?_
        rintro e w5 ⟨rfl, b5⟩
        go_wp2
        exact HR.out _ _ ⟨rfl, b13.trans (b5.mono b13.size)⟩
  · have dd : decide ((1 : Int) ≤ (st : Int)) = false ∨ decide ((1 : Int) ≤ (st : Int)) = true ∧ decide ((st : Int) ≤ 3) = false := by
      by_cases h1 : 1 ≤ st
      · exact .inr ⟨decide_eq_true (by omega), decide_eq_false (by omega)⟩
      · exact .inl (decide_eq_false (by omega))
    obtain ⟨key1, key2⟩ := key_any st b hs8 hb' hin (B ++ cs) (by have := SZ.out; omega) hL
    have K2 := Lib.hid key2
    clear key2 hL hin
    have hgo : goesR (B ++ cs).data.toList = ok := by
      cases ok with
      | false =>
        rw [Bool.eq_false_iff, Ne, key1]
        rintro ⟨n, hn⟩
        rw [(HNO.out rfl).2] at hn
        cases hn
      | true => exact key1.2 ⟨nx, HYES.out rfl⟩
    rw [hgo]
    clear hgo key1
    cases ok with
    | false =>
      obtain rfl : nx = 0 := (HNO.out rfl).1
      rcases dd with d1 | ⟨d1, d2⟩
      all_goals
        go_wp2_with fail
        refine (awake_any _ (hT.below b13)).mono ?_
        rintro e w5 ⟨rfl, b5⟩
        go_wp2
        exact HR.out _ _ ⟨rfl, b13.trans (b5.mono b13.size)⟩
    | true =>
      have hk := K2.out nx (HYES.out rfl)
      have HK := Lib.hid hk; clear hk K2
      rcases dd with d1 | ⟨d1, d2⟩
      all_goals
        go_wp2_with fail
        refine (state_any (B ++ cs) _ (by have := SZ.out; omega) (by have := SZ.out; omega)).mono ?_
        rintro e w4 ⟨rfl, b4⟩
        rw [← HK.out]
        have b14 := b3a.trans (b4.mono b3a.size)
        go_wp2_with fail
        refine (awake_any _ (hT.below b14)).mono ?_
        rintro e w5 ⟨rfl, b5⟩
        go_wp2
        exact HR.out _ _ ⟨rfl, b14.trans (b5.mono b14.size)⟩

theorem own : ownKnob Tryd.prog.godebug = none := by kernel_rfl
theorem laidOut : laidOutB Tryd.prog = true := by kernel_rfl
theorem reads (os : Os) {H : Type} (enc : TypeId × Value → H) : ∃ places, DataW.whole enc Tryd.prog ((laidWorld os).forCall (fun _ _ => 0) ⟨#[], #[.int .u8 0, .int .u8 0], []⟩).memory Tryd.f5.params.toList Rows.utfStepsSpec.vars false #[.int .u8 0, .int .u8 0].toList 8 = some ([.lit (.int .u8 0), .lit (.int .u8 0)], [], places) :=
  ⟨[], by kernel_rfl⟩

theorem contract (H : Type) (enc : TypeId × Value → H) (W : World) (base : Nat) (args : Array Value) (ds gs : List (DataW H)) (before : List MemPlace)
    (hval0 : ∀ (j : Nat) t v, Tryd.f5.params[j]? = some t → args[j]? = some v → Value.okWide Tryd.prog W .any base t v)
    (hW : DataW.Whole enc Tryd.prog Tryd.f5.params.toList Rows.utfStepsSpec.vars false W args.toList ds gs before)
    (hsz0 : (DataW.weightsEach Tryd.prog (Tryd.f5.params.toList ++ Rows.utfStepsSpec.plain.varTypes Tryd.prog) (ds ++ gs)).all (· ≤ reachBytes) = true)
    (hL : laidMetH Tryd.prog Rows.utfStepsRow.laid W) :
    Calls Tryd.prog 5 args W fun e W' => ∃ v, e = .returned v ∧ Rows.utfStepsSpec.post enc Tryd.prog Tryd.f5 false true false false W args v W' := by
  have hval : ∀ (j : Nat) t v, Tryd.f5.params[j]? = some t → args[j]? = some v → Value.okWide Tryd.prog W .any base t v := hval0
  have hW' := hW
  obtain ⟨p, q, hA0, hV, rfl, hfz, hnd⟩ := hW
  have hA : DataW.TrodAll enc Tryd.prog W 0 (fun _ => true) true Tryd.f5.params.toList args.toList ds p := hA0
  have hsz : (DataW.weightsEach Tryd.prog (Tryd.f5.params.toList ++ Rows.utfStepsSpec.plain.varTypes Tryd.prog) (ds ++ gs)).all (· ≤ reachBytes) = true := hsz0
  rw [Tryd.params5] at hA hval hsz
  obtain ⟨v0, vs0, d0, ds0, p0, q0, hargs, rfl, rfl, h0, r0⟩ := trodAll_cons hA
  obtain ⟨v1, vs1, d1, ds1, p1, q1, rfl, rfl, rfl, h1, r1⟩ := trodAll_cons r0
  obtain ⟨rfl, rfl, rfl⟩ := trodAll_nil r1
  obtain rfl : args = #[v0, v1] := by cases args; simp_all
  obtain ⟨rfl, rfl⟩ := trodVars_none hV
  have k0 := h0
  have lt0 : ∀ x ∈ p0, x.block < W.heap.size := by obtain ⟨m, hm⟩ := k0; exact DataW.trod_lt m _ _ _ hm
  obtain ⟨a0, rfl, _, _, w0⟩ := open_int Tryd.underlying5 (hval 0 5 v0 rfl rfl) h0
  have k1 := h1
  have lt1 : ∀ x ∈ p1, x.block < W.heap.size := by obtain ⟨m, hm⟩ := k1; exact DataW.trod_lt m _ _ _ hm
  obtain ⟨a1, rfl, _, _, w1⟩ := open_int Tryd.underlying5 (hval 1 5 v1 rfl rfl) h1
  clear hA0 hval0
  refine (walk a0 w0 a1 w1 W (tab_row hL)).mono fun e W' ⟨he, bel⟩ => ?_
  subst he
  exact ⟨_, rfl, _, _, _, [], _, [], hW', trodAll_mk1 (shut_bool Tryd.underlying4 _), (trodAll_cons_mk (Below.trod laidOut (by kernel_rfl) (of_decide_eq_true (by kernel_rfl)) k0 bel lt0) (trodAll_cons_mk (Below.trod laidOut (by kernel_rfl) (of_decide_eq_true (by kernel_rfl)) k1 bel lt1) trodAll_mk0)), rfl, bel.frame _, fun h => by cases h⟩

set_option maxRecDepth 100000 in
theorem lifted (os : Os) (started : os.Started) (H : Type) (enc : TypeId × Value → H) (F : Stop.Interp) :
    ReturnsInHanded {} Tryd.checked os 5 .any ((OpenSpec.ofChange Rows.utfStepsSpec).preRow enc Tryd.prog Tryd.f5 Rows.utfStepsRow.domain false Rows.utfStepsRow.laid) (((OpenSpec.ofChange Rows.utfStepsSpec).at F).post enc Tryd.prog Tryd.f5 false true false false) := by
  obtain ⟨places, hx⟩ := reads os enc
  refine returnsInHanded_of_row (C := Tryd.checked) (s := OpenSpec.ofChange Rows.utfStepsSpec) own started (by kernel_rfl) Tryd.func5
    (witness_row_atRef (enc := enc) (C := Tryd.checked) false (laidWorld os) #[.int .u8 0, .int .u8 0] rfl (by kernel_rfl) (by kernel_rfl) (by kernel_rfl)
      (OpenSpec.preRow_of_cond 8 hx (by kernel_rfl) (fun k hk => by cases hk) (by kernel_rfl) (laid_met os _))) ?_
  intro W base args ds gs before hval hW _ _ hsz hL _ _
  exact contract H enc W base args ds gs before hval hW hsz hL

theorem said : Rows.UtfStepsSaid :=
  OpenClaim.holds_of_cond 5 Tryd.f5 rfl rfl rfl rfl rfl rfl rfl ⟨rfl, rfl, rfl, rfl, rfl⟩ rfl rfl rfl rfl rfl (by kernel_rfl) Tryd.func5 (by kernel_rfl)
    (of_decide_eq_true (by kernel_rfl)) (by unfold Func.isWrapper; first | (rw [if_pos (by decide +kernel)]; kernel_rfl) | (rw [if_neg (by decide +kernel)]; exact ⟨rfl, rfl⟩))
    (fun os started H enc _ F => by rw [OpenClaim.pre_eq_preRow]; exact lifted os started H enc F)

theorem plain (f : FuncId) (fn : Func) (hf : Tryd.pinned.checked.prog.funcNamed "quillpen/quillpenlaw02.UtfSteps" = some f) (hfn : Tryd.pinned.checked.prog.funcs[f]? = some fn) :
    false = Tryd.pinned.checked.prog.looks [] ∧ ∀ (j : Nat) t, fn.params[j]? = some t → Tryd.pinned.checked.prog.wantsStandIn t = false := by
  obtain rfl : f = 5 := Option.some.inj ((show Tryd.prog.funcNamed "quillpen/quillpenlaw02.UtfSteps" = some 5 by kernel_rfl).symm.trans hf) |>.symm
  obtain rfl : fn = Tryd.f5 := (Option.some.inj (Tryd.func5.symm.trans hfn)).symm
  refine ⟨by kernel_rfl, fun j t ht => ?_⟩
  rw [Tryd.params5] at ht
  have hm := Array.mem_of_getElem? ht
  have hall : (#[5, 5] : Array TypeId).toList.all (fun t => Tryd.prog.wantsStandIn t == false) = true := by kernel_rfl
  exact eq_of_beq (List.all_eq_true.1 hall t (by simpa using hm))

theorem proved : Rows.UtfStepsCardSaid :=
  Claim7.holds_tied_plain_at .later [] _ _ _ _ said (fun _ h => by cases h) (by kernel_rfl) (fun _ h => by cases h) utfSteps_row_tie rfl ⟨rfl, rfl⟩ (by kernel_rfl) rfl plain (by kernel_rfl)
end Go.Proofs.YtlcglijkpbojgaaDoor.utfSteps
