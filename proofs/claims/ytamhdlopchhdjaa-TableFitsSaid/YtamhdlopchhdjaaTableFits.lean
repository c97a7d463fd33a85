/- What of any table does not fit any limits. -/
import Derived.Test.YtamhdlopchhdjaaTabY
import Derived.SizedLaws
import Derived.ProofKit
import Derived.OpenShut
import Derived.ShutString
import Derived.ChangeOld
import Derived.Below
namespace Go.Proofs.Ytamhdlopchhdjaa.tableFits
open Go.ChangeShapes Go.WideShapes Go.ChangeAt Go.RowKit
open Go.ChangeMaps (open_string shut_string)
set_option linter.unusedVariables false
set_option linter.unusedSimpArgs false

set_option maxHeartbeats 2000000 in
theorem walk (v1 v2 : Value) (w : World) (h1 : ∃ (a b c : Int) (u : Bool), v1 = .agg #[.int .i64 a, .int .i64 b, .int .i64 c, .bool u]) (h2 : ∃ t, RdT w w.heap.size v2 t) :
    Calls Try.prog 6 #[v1, v2] w fun e w' => e = .returned (.bool true) ∧ Below w.heap.size w w' := by
  refine cps fun R HR => ?_
  obtain ⟨L, F, Rc, U, rfl⟩ := h1
  obtain ⟨t, h2⟩ := h2
  have X := Box.new w 45 #[.int .i64 L, .int .i64 F, .int .i64 Rc, .bool U]
  have bel := below_alloc1 w (.cells #[.int .i64 L, .int .i64 F, .int .i64 Rc, .bool U] 45)
  have h3 := h2.next bel
  go_enter Try.func6, Try.ntmps6
  go_wp2_with fail
  refine (greatLaw_any v2 t _ h3).mono ?_
  rintro e w1 ⟨⟨g, rfl, hg⟩, rfl⟩
  clear hg
  cases g
  · go_wp2_with fail
    refine (tabFits_any L F Rc U v2 t _ h3).mono ?_
    rintro e w2 ⟨rfl, b2⟩
    have X2 := X.below b2 X.lt
    have b02 := bel.trans (b2.mono bel.size)
    have c0 : w2.cell? ⟨w.heap.size, 0, none⟩ = some (.int .i64 L) := X2.cell 0
    have c1 : w2.cell? ⟨w.heap.size, 1, none⟩ = some (.int .i64 F) := X2.cell 1
    have c2 : w2.cell? ⟨w.heap.size, 2, none⟩ = some (.int .i64 Rc) := X2.cell 2
    have c3 : w2.cell? ⟨w.heap.size, 3, none⟩ = some (.bool U) := X2.cell 3
    obtain ⟨Y, hY⟩ : ∃ Y, Y = fitA L F Rc U t := ⟨_, rfl⟩
    rw [← hY]
    unfold fitA at hY
    have HY0 := Lib.hid hY
    clear hY
    go_wp2_with fail
    refine (refLimits_any L F Rc U _).mono ?_
    rintro e w3 ⟨rfl, b3⟩
    have b03 := b02.trans (b3.mono b02.size)
    have X3 := X2.below b3 X2.lt
    go_wp2_with fail
    refine (fits_any L F Rc _ _).mono ?_
    rintro e w4 ⟨rfl, b4⟩
    have b04 := b03.trans (b4.mono b03.size)
    have X4 := X3.below b4 X3.lt
    clear c0 c1 c2 c3
    have c0 : w4.cell? ⟨w.heap.size, 0, none⟩ = some (.int .i64 L) := X4.cell 0
    have c1 : w4.cell? ⟨w.heap.size, 1, none⟩ = some (.int .i64 F) := X4.cell 1
    have c2 : w4.cell? ⟨w.heap.size, 2, none⟩ = some (.int .i64 Rc) := X4.cell 2
    have c3 : w4.cell? ⟨w.heap.size, 3, none⟩ = some (.bool U) := X4.cell 3
    have hY := HY0.out
    clear HY0
    cases hf : fitsL L F Rc
    · rw [hf, if_neg (by simp)] at hY
      subst hY
      clear hf
      go_wp2_with fail
      refine (tabAwake_any _).mono ?_
      rintro e w5 ⟨rfl, b5⟩
      go_wp2
      exact HR.out _ _ ⟨rfl, b04.trans (b5.mono b04.size)⟩
    · rw [hf, if_pos rfl] at hY
      have HY := Lib.hid hY
      clear hf hY
      go_wp2_with fail
      refine (refLimits_any L F Rc U _).mono ?_
      rintro e w5 ⟨rfl, b5⟩
      have b05 := b04.trans (b5.mono b04.size)
      go_wp2_with fail
      refine (refFits_any L F Rc U v2 t _ (h2.next b05)).mono ?_
      rintro e w6 ⟨rfl, b6⟩
      have b06 := b05.trans (b6.mono b05.size)
      rw [← HY.out]
      go_wp2_with fail
      refine (tabAwake_any _).mono ?_
      rintro e w7 ⟨rfl, b7⟩
      go_wp2
      exact HR.out _ _ ⟨rfl, b06.trans (b7.mono b06.size)⟩
  · go_wp2_with fail
    refine (tabAwake_any _).mono ?_
    rintro e w6 ⟨rfl, b6⟩
    go_wp2
    exact HR.out _ _ ⟨rfl, bel.trans (b6.mono bel.size)⟩

theorem own : ownKnob Try.prog.godebug = none := by kernel_rfl
theorem laidOut : laidOutB Try.prog = true := by kernel_rfl

set_option maxRecDepth 100000 in
theorem lifted (os : Os) (started : os.Started) (H : Type) (enc : TypeId × Value → H) :
    ReturnsInHanded {} Try.checked os 6 .any (Rows.tableFitsSpec.pre6 enc Try.prog Try.f6 Rows.tableFitsRow.domain false) (Rows.tableFitsSpec.post enc Try.prog Try.f6 false true false false) := by
  refine returnsInHanded_of_change_sized (C := Try.checked) own started (by kernel_rfl) Try.func6
    (ChangeSpec.witness6 (enc := enc) (C := Try.checked) false ⟨#[], #[.agg #[.int .i64 0, .int .i64 0, .int .i64 0, .bool false], .slice none 0 0], []⟩ 8 (by kernel_rfl) (by kernel_rfl) (by kernel_rfl) (by kernel_rfl)) ?_
  intro W base args ds gs before hval0 hW hcnd hsz0 _
  have hval : ∀ (j : Nat) t v, Try.f6.params[j]? = some t → args[j]? = some v → Value.okWide Try.prog W .any base t v := hval0
  have hW' := hW
  obtain ⟨p, q, hA0, hV, rfl, hfz, hnd⟩ := hW
  have hA : DataW.TrodAll enc Try.prog W 0 (fun _ => true) true Try.f6.params.toList args.toList ds p := hA0
  have hsz : (DataW.weightsEach Try.prog (Try.f6.params.toList ++ Rows.tableFitsSpec.plain.varTypes Try.prog) (ds ++ gs)).all (· ≤ reachBytes) = true := hsz0
  rw [Try.params6] at hA hval hsz
  obtain ⟨v0, vs0, d0, ds0, p0, q0, hargs, rfl, rfl, h0, r0⟩ := trodAll_cons hA
  obtain ⟨v1, vs1, d1, ds1, p1, q1, rfl, rfl, rfl, h1, r1⟩ := trodAll_cons r0
  obtain ⟨rfl, rfl, rfl⟩ := trodAll_nil r1
  obtain rfl : args = #[v0, v1] := by cases args; simp_all
  obtain ⟨rfl, rfl⟩ := trodVars_none hV
  have k0 := h0
  have lt0 : ∀ x ∈ p0, x.block < W.heap.size := by obtain ⟨m, hm⟩ := k0; exact DataW.trod_lt m _ _ _ hm
  have w0 := open_limits (hval 0 45 v0 rfl rfl) h0 (Sized.arg (j := 0) hsz rfl rfl)
  have k1 := h1
  have lt1 : ∀ x ∈ p1, x.block < W.heap.size := by obtain ⟨m, hm⟩ := k1; exact DataW.trod_lt m _ _ _ hm
  have w1 := open_table (hval 1 22 v1 rfl rfl) h1 (Sized.arg (j := 1) hsz rfl rfl)
  clear hA0 hval0
  refine (walk v0 v1 W w0 w1).mono fun e W' ⟨he, bel⟩ => ?_
  subst he
  exact ⟨_, rfl, _, _, _, [], _, [], hW', trodAll_mk1 (shut_bool Try.underlying4 _), (trodAll_cons_mk (Below.trod laidOut (by kernel_rfl) (of_decide_eq_true (by kernel_rfl)) k0 bel lt0) (trodAll_cons_mk (Below.trod laidOut (by kernel_rfl) (of_decide_eq_true (by kernel_rfl)) k1 bel lt1) trodAll_mk0)), rfl, bel.frame _, fun h => by cases h⟩

theorem over : Rows.tableFitsRow.holds Try.pinned (OpenSpec.ofChange Rows.tableFitsSpec) :=
  OpenClaim.holds_of_wide 6 Try.f6 rfl rfl rfl rfl rfl rfl rfl ⟨rfl, rfl, rfl, rfl, rfl⟩ rfl rfl rfl rfl rfl (by kernel_rfl) Try.func6 (by kernel_rfl)
    (of_decide_eq_true (by kernel_rfl)) (by unfold Func.isWrapper; first | (rw [if_pos (by decide +kernel)]; kernel_rfl) | (rw [if_neg (by decide +kernel)]; exact ⟨rfl, rfl⟩))
    (fun os started H enc _ => lifted os started H enc)

theorem proved : Rows.TableFitsSaid := over
end Go.Proofs.Ytamhdlopchhdjaa.tableFits
