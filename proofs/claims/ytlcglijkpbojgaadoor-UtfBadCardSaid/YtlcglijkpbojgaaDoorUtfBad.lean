/- What is wrong with any text, and how long its longest good beginning is. -/
import Derived.Test.YtlcglijkpbojgaaDoorUtfN
import Derived.Test.YtlcglijkpbojgaaDoorCards
import Derived.Test.YtlcglijkpbojgaaDoorTie
import Derived.SizedLaws
import Derived.ProofKit
import Derived.OpenShut
import Derived.ShutString
import Derived.ChangeOld
import Derived.Below
import Derived.Deep.DeepHandedRow
import Derived.Deep.DeepWitnessRowRef
namespace Go.Proofs.YtlcglijkpbojgaaDoor.utfBad
open Go.ChangeShapes Go.WideShapes Go.ChangeAt Go.RowKit
open Go.ChangeMaps (open_string shut_string)
set_option linter.unusedVariables false
set_option linter.unusedSimpArgs false

set_option maxHeartbeats 1000000 in
theorem walk (s : ByteArray) (hs : s.size ≤ 140737488351232) (w : World) (hT : Tab w) :
    Calls Tryd.prog 7 #[.string s] w fun e w' => e = .returned (.bool true) ∧ Below w.heap.size w w' := by
  refine cps fun R HR => ?_
  have hs' : s.size ≤ maxLen := by unfold maxLen; omega
  have hz : s.size = s.data.toList.length := by rw [Array.length_toList]; rfl
  obtain ⟨l1, l2, l3⟩ := text_law s.data.toList
  have HS := Lib.hid hs'; have HZ := Lib.hid hz; have L1 := Lib.hid l1; have L2 := Lib.hid l2; have L3 := Lib.hid l3
  clear hs' hs hz l1 l2 l3
  go_enter Tryd.func7, Tryd.ntmps7
  by_cases h2 : 200 < s.size
  · go_wp2_with fail
    refine (awake_any _ hT).mono ?_
    rintro e w1 ⟨rfl, b1⟩
    go_wp2
    exact HR.out _ _ ⟨rfl, b1⟩
  · go_wp2_with fail
    refine (bad_any s _ HS.out hT).mono ?_
    rintro e w1 ⟨rfl, b1⟩
    obtain ⟨F, hF⟩ : ∃ F, F = badF s.data.toList := ⟨_, rfl⟩
    rw [← hF]
    have HF := Lib.hid hF; clear hF
    obtain ⟨fa, fb⟩ := F
    simp only
    have X := Box.new w1 56 #[.int .i64 fa, .int .i64 fb]
    have b1a := b1.alloc b1.size (Obj.cells #[.int .i64 fa, .int .i64 fb] 56)
    obtain ⟨q, hq⟩ : ∃ q, q = wholeR s.data.toList := ⟨_, rfl⟩
    have hqs : q ≤ s.size := by rw [hq, HZ.out]; exact whole_len _
    have HQ := Lib.hid hq; clear hq
    go_wp2_with fail
    refine (whole_any s _ HS.out).mono ?_
    rintro e w2 ⟨rfl, b2⟩
    rw [← HQ.out]
    have X2 := X.below b2 X.lt
    have b12 := b1a.trans (b2.mono b1a.size)
    go_wp2_with fail
    refine (refBad_any s _ (by omega)).mono ?_
    rintro e w3 ⟨v, hv, rfl, b3⟩
    have X3 := X2.below b3 X2.lt
    have b13 := b12.trans (b3.mono b12.size)
    have hl := L3.out v hv
    rw [← HF.out, ← HQ.out] at hl
    clear hv
    have HL := Lib.hid hl; clear hl
    have hlt1 : w1.heap.size < w3.heap.size := X3.lt
    clear X X2 b1 b1a b2 b3 b12
    by_cases h0 : 0 ≤ v
    · obtain ⟨n, rfl⟩ := Int.eq_ofNat_of_zero_le h0
      have hl := HL.out
      rw [if_pos h0] at hl
      injection hl with e1 e2
      simp only [Int.toNat_natCast] at e2
      subst e1
      subst e2
      clear h0
      have d0 : decide ((0 : Int) ≤ (fb : Int)) = true := decide_eq_true (by omega)
      have Y := Box.new w3 56 #[.int .i64 3, .int .i64 fb]
      have X4 := X3.alloc (Obj.cells #[.int .i64 3, .int .i64 fb] 56)
      have b14 := b13.alloc b13.size (Obj.cells #[.int .i64 3, .int .i64 fb] 56)
      have c0 : w3.cell? ⟨w1.heap.size, 0, none⟩ = some (.int .i64 3) := X3.cell 0
      have c1 : w3.cell? ⟨w1.heap.size, 1, none⟩ = some (.int .i64 fb) := X3.cell 1
      go_wp2_with fail
      refine (valid_any s _ HS.out (hT.below b14)).mono ?_
      rintro e w5 ⟨rfl, b5⟩
      have b15 := b14.trans (b5.mono b14.size)
      have hv5 : validF s.data.toList = ((q : Int) == (s.size : Int)) := by
        rw [L2.out, ← HQ.out, ← HZ.out, Bool.eq_iff_iff, decide_eq_true_iff, beq_iff_eq]
        omega
      rw [hv5]
      clear hv5
      have hval : (((q : Int) == (s.size : Int)) == ((q : Int) == (s.size : Int))) = true := by simp
      go_wp2_with fail
      refine (longest_any s _ HS.out (hT.below b15)).mono ?_
      rintro e w6 ⟨rfl, b6⟩
      have b16 := b15.trans (b6.mono b15.size)
      rw [L1.out, ← HQ.out]
      go_wp2_with fail
      refine (awake_any _ (hT.below b16)).mono ?_
      rintro e w7 ⟨rfl, b7⟩
      go_wp2
      exact HR.out _ _ ⟨rfl, b16.trans (b7.mono b16.size)⟩
    · have hl := HL.out
      rw [if_neg h0] at hl
      have d0 : decide ((0 : Int) ≤ v) = false := decide_eq_false h0
      clear h0
      by_cases hlt : q < s.size
      · rw [if_pos (by rw [← HZ.out]; exact hlt), ← HZ.out] at hl
        injection hl with e1 e2
        subst e1
        subst e2
        have d1 : decide ((q : Int) < (s.size : Int)) = true := decide_eq_true (by omega)
        have Y := Box.new w3 56 #[.int .i64 12, .int .i64 s.size]
        have X4 := X3.alloc (Obj.cells #[.int .i64 12, .int .i64 s.size] 56)
        have b14 := b13.alloc b13.size (Obj.cells #[.int .i64 12, .int .i64 s.size] 56)
        have c0 : w3.cell? ⟨w1.heap.size, 0, none⟩ = some (.int .i64 12) := X3.cell 0
        have c1 : w3.cell? ⟨w1.heap.size, 1, none⟩ = some (.int .i64 s.size) := X3.cell 1
        go_wp2_with fail
        refine (valid_any s _ HS.out (hT.below b14)).mono ?_
        rintro e w5 ⟨rfl, b5⟩
        have b15 := b14.trans (b5.mono b14.size)
        have hv5 : validF s.data.toList = ((q : Int) == (s.size : Int)) := by
          rw [L2.out, ← HQ.out, ← HZ.out, Bool.eq_iff_iff, decide_eq_true_iff, beq_iff_eq]
          omega
        rw [hv5]
        clear hv5
        have hval : (((q : Int) == (s.size : Int)) == ((q : Int) == (s.size : Int))) = true := by simp
        go_wp2_with fail
        refine (longest_any s _ HS.out (hT.below b15)).mono ?_
        rintro e w6 ⟨rfl, b6⟩
        have b16 := b15.trans (b6.mono b15.size)
        rw [L1.out, ← HQ.out]
        go_wp2_with fail
        refine (awake_any _ (hT.below b16)).mono ?_
        rintro e w7 ⟨rfl, b7⟩
        go_wp2
        exact HR.out _ _ ⟨rfl, b16.trans (b7.mono b16.size)⟩
      · rw [if_neg (by rw [← HZ.out]; exact hlt)] at hl
        injection hl with e1 e2
        subst e1
        subst e2
        have d1 : decide ((q : Int) < (s.size : Int)) = false := decide_eq_false (by omega)
        have Y := Box.new w3 56 #[.int .i64 0, .int .i64 0]
        have X4 := X3.alloc (Obj.cells #[.int .i64 0, .int .i64 0] 56)
        have b14 := b13.alloc b13.size (Obj.cells #[.int .i64 0, .int .i64 0] 56)
        have c0 : w3.cell? ⟨w1.heap.size, 0, none⟩ = some (.int .i64 0) := X3.cell 0
        have c1 : w3.cell? ⟨w1.heap.size, 1, none⟩ = some (.int .i64 0) := X3.cell 1
        go_wp2_with fail
        refine (valid_any s _ HS.out (hT.below b14)).mono ?_
        rintro e w5 ⟨rfl, b5⟩
        have b15 := b14.trans (b5.mono b14.size)
        have hv5 : validF s.data.toList = ((q : Int) == (s.size : Int)) := by
          rw [L2.out, ← HQ.out, ← HZ.out, Bool.eq_iff_iff, decide_eq_true_iff, beq_iff_eq]
          omega
        rw [hv5]
        clear hv5
        have hval : (((q : Int) == (s.size : Int)) == ((q : Int) == (s.size : Int))) = true := by simp
        go_wp2_with fail
        refine (longest_any s _ HS.out (hT.below b15)).mono ?_
        rintro e w6 ⟨rfl, b6⟩
        have b16 := b15.trans (b6.mono b15.size)
        rw [L1.out, ← HQ.out]
        go_wp2_with fail
        refine (awake_any _ (hT.below b16)).mono ?_
        rintro e w7 ⟨rfl, b7⟩
        go_wp2
        exact HR.out _ _ ⟨rfl, b16.trans (b7.mono b16.size)⟩

theorem own : ownKnob Tryd.prog.godebug = none := by kernel_rfl
theorem laidOut : laidOutB Tryd.prog = true := by kernel_rfl
theorem reads (os : Os) {H : Type} (enc : TypeId × Value → H) : ∃ places, DataW.whole enc Tryd.prog ((laidWorld os).forCall (fun _ _ => 0) ⟨#[], #[.string ByteArray.empty], []⟩).memory Tryd.f7.params.toList Rows.utfBadSpec.vars false #[.string ByteArray.empty].toList 8 = some ([.lit (.string [])], [], places) :=
  ⟨[], by kernel_rfl⟩

theorem contract (H : Type) (enc : TypeId × Value → H) (W : World) (base : Nat) (args : Array Value) (ds gs : List (DataW H)) (before : List MemPlace)
    (hval0 : ∀ (j : Nat) t v, Tryd.f7.params[j]? = some t → args[j]? = some v → Value.okWide Tryd.prog W .any base t v)
    (hW : DataW.Whole enc Tryd.prog Tryd.f7.params.toList Rows.utfBadSpec.vars false W args.toList ds gs before)
    (hsz0 : (DataW.weightsEach Tryd.prog (Tryd.f7.params.toList ++ Rows.utfBadSpec.plain.varTypes Tryd.prog) (ds ++ gs)).all (· ≤ reachBytes) = true)
    (hL : laidMetH Tryd.prog Rows.utfBadRow.laid W) :
    Calls Tryd.prog 7 args W fun e W' => ∃ v, e = .returned v ∧ Rows.utfBadSpec.post enc Tryd.prog Tryd.f7 false true false false W args v W' := by
  have hval : ∀ (j : Nat) t v, Tryd.f7.params[j]? = some t → args[j]? = some v → Value.okWide Tryd.prog W .any base t v := hval0
  have hW' := hW
  obtain ⟨p, q, hA0, hV, rfl, hfz, hnd⟩ := hW
  have hA : DataW.TrodAll enc Tryd.prog W 0 (fun _ => true) true Tryd.f7.params.toList args.toList ds p := hA0
  have hsz : (DataW.weightsEach Tryd.prog (Tryd.f7.params.toList ++ Rows.utfBadSpec.plain.varTypes Tryd.prog) (ds ++ gs)).all (· ≤ reachBytes) = true := hsz0
  rw [Tryd.params7] at hA hval hsz
  obtain ⟨v0, vs0, d0, ds0, p0, q0, hargs, rfl, rfl, h0, r0⟩ := trodAll_cons hA
  obtain ⟨rfl, rfl, rfl⟩ := trodAll_nil r0
  obtain rfl : args = #[v0] := by cases args; simp_all
  obtain ⟨rfl, rfl⟩ := trodVars_none hV
  have k0 := h0
  have lt0 : ∀ x ∈ p0, x.block < W.heap.size := by obtain ⟨m, hm⟩ := k0; exact DataW.trod_lt m _ _ _ hm
  obtain ⟨a0, rfl, rfl, _, _⟩ := open_string Tryd.underlying9 (hval 0 9 v0 rfl rfl) h0
  have w0 : a0.size ≤ 140737488351232 := (Sized.arg (j := 0) hsz rfl rfl).str
  clear hA0 hval0
  refine (walk a0 w0 W (tab_row hL)).mono fun e W' ⟨he, bel⟩ => ?_
  subst he
  exact ⟨_, rfl, _, _, _, [], _, [], hW', trodAll_mk1 (shut_bool Tryd.underlying4 _), (trodAll_cons_mk (Below.trod laidOut (by kernel_rfl) (of_decide_eq_true (by kernel_rfl)) k0 bel lt0) trodAll_mk0), rfl, bel.frame _, fun h => by cases h⟩

set_option maxRecDepth 100000 in
theorem lifted (os : Os) (started : os.Started) (H : Type) (enc : TypeId × Value → H) (F : Stop.Interp) :
    ReturnsInHanded {} Tryd.checked os 7 .any ((OpenSpec.ofChange Rows.utfBadSpec).preRow enc Tryd.prog Tryd.f7 Rows.utfBadRow.domain false Rows.utfBadRow.laid) (((OpenSpec.ofChange Rows.utfBadSpec).at F).post enc Tryd.prog Tryd.f7 false true false false) := by
  obtain ⟨places, hx⟩ := reads os enc
  refine returnsInHanded_of_row (C := Tryd.checked) (s := OpenSpec.ofChange Rows.utfBadSpec) own started (by kernel_rfl) Tryd.func7
    (witness_row_atRef (enc := enc) (C := Tryd.checked) false (laidWorld os) #[.string ByteArray.empty] rfl (by kernel_rfl) (by kernel_rfl) (by kernel_rfl)
      (OpenSpec.preRow_of_cond 8 hx (by kernel_rfl) (fun k hk => by cases hk) (by kernel_rfl) (laid_met os _))) ?_
  intro W base args ds gs before hval hW _ _ hsz hL _ _
  exact contract H enc W base args ds gs before hval hW hsz hL

theorem said : Rows.UtfBadSaid :=
  OpenClaim.holds_of_cond 7 Tryd.f7 rfl rfl rfl rfl rfl rfl rfl ⟨rfl, rfl, rfl, rfl, rfl⟩ rfl rfl rfl rfl rfl (by kernel_rfl) Tryd.func7 (by kernel_rfl)
    (of_decide_eq_true (by kernel_rfl)) (by unfold Func.isWrapper; first | (rw [if_pos (by decide +kernel)]; kernel_rfl) | (rw [if_neg (by decide +kernel)]; exact ⟨rfl, rfl⟩))
    (fun os started H enc _ F => by rw [OpenClaim.pre_eq_preRow]; exact lifted os started H enc F)

theorem plain (f : FuncId) (fn : Func) (hf : Tryd.pinned.checked.prog.funcNamed "quillpen/quillpenlaw02.UtfBad" = some f) (hfn : Tryd.pinned.checked.prog.funcs[f]? = some fn) :
    false = Tryd.pinned.checked.prog.looks [] ∧ ∀ (j : Nat) t, fn.params[j]? = some t → Tryd.pinned.checked.prog.wantsStandIn t = false := by
  obtain rfl : f = 7 := Option.some.inj ((show Tryd.prog.funcNamed "quillpen/quillpenlaw02.UtfBad" = some 7 by kernel_rfl).symm.trans hf) |>.symm
  obtain rfl : fn = Tryd.f7 := (Option.some.inj (Tryd.func7.symm.trans hfn)).symm
  refine ⟨by kernel_rfl, fun j t ht => ?_⟩
  rw [Tryd.params7] at ht
  have hm := Array.mem_of_getElem? ht
  have hall : (#[9] : Array TypeId).toList.all (fun t => Tryd.prog.wantsStandIn t == false) = true := by kernel_rfl
  exact eq_of_beq (List.all_eq_true.1 hall t (by simpa using hm))

theorem proved : Rows.UtfBadCardSaid :=
  Claim7.holds_tied_plain_at .later [] _ _ _ _ said (fun _ h => by cases h) (by kernel_rfl) (fun _ h => by cases h) utfBad_row_tie rfl ⟨rfl, rfl⟩ (by kernel_rfl) rfl plain (by kernel_rfl)
end Go.Proofs.YtlcglijkpbojgaaDoor.utfBad
