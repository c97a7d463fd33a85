/- Any even table turned, and turned again. -/
import Derived.Test.YtamhdlopchhdjaaTabH
import Derived.SizedLaws
import Derived.ProofKit
import Derived.OpenShut
import Derived.ShutString
import Derived.ChangeOld
import Derived.Below
namespace Go.Proofs.Ytamhdlopchhdjaa.tableTurns
open Go.ChangeShapes Go.WideShapes Go.ChangeAt Go.RowKit
open Go.ChangeMaps (open_string shut_string)
set_option linter.unusedVariables false
set_option linter.unusedSimpArgs false

set_option maxHeartbeats 1000000 in
theorem walk (v : Value) (w : World) (h : ∃ t, RdT w w.heap.size v t) :
    Calls Try.prog 4 #[v] w fun e w' => e = .returned (.bool true) ∧ Below w.heap.size w w' := by
  refine cps fun R HR => ?_
  obtain ⟨t, h⟩ := h
  go_enter Try.func4, Try.ntmps4
  go_wp2_with fail
  refine (greatLaw_any v t _ h).mono ?_
  rintro e w1 ⟨⟨g, rfl, hg⟩, rfl⟩
  cases g
  · obtain ⟨hg1, hg2, hg3⟩ := hg rfl
    clear hg
    have hmt := most_le_tot t
    have hM : mostF t ≤ 100000 := by omega
    have hT : t.length ≤ 100000 := by omega
    have HM := Lib.hid hM; have HT := Lib.hid hT
    clear hg1 hg2 hg3 hmt hM hT
    go_wp2_with fail
    refine (turn_any v t _ h HT.out HM.out).mono ?_
    rintro e w2 ⟨u, rfl, ho, b2⟩
    go_wp2_with fail
    refine (refEven_any v t _ (h.next b2)).mono ?_
    rintro e w3 ⟨rfl, rfl⟩
    have hu := ho.rd
    cases he : evenF t
    · have H1 := Lib.hid (show turnE t = 10 by unfold turnE; rw [he]; rfl)
      have h2 : turnT t = [] := by unfold turnT; rw [he]; rfl
      rw [h2] at hu
      obtain ⟨A, c, vs, rfl, -, -⟩ := hu.is
      rw [H1.out]
      clear ho he h2
      go_wp2_with fail
      refine (tabAwake_any _).mono ?_
      rintro e w4 ⟨rfl, b4⟩
      go_wp2
      exact HR.out _ _ ⟨rfl, b2.trans (b4.mono b2.size)⟩
    · have H1 := Lib.hid (show turnE t = 0 by unfold turnE; rw [he]; rfl)
      rw [H1.out]
      have HE := Lib.hid he; clear he
      go_wp2_with fail
      refine (refTurn_any v t _ (h.next b2) HE.out HT.out HM.out).mono ?_
      rintro e w4 ⟨u', rfl, ho', b4⟩
      have b24 := b2.trans (b4.mono b2.size)
      have S := Lib.hid (show sameT (turnT t) (turnT t) = true by unfold sameT; exact decide_eq_true rfl)
      go_wp2_with fail
      refine (sameTable_any u u' _ _ _ (hu.next b4) ho'.rd).mono ?_
      rintro e w5 ⟨rfl, b5⟩
      rw [S.out]
      have b25 := b24.trans (b5.mono b24.size)
      have hu5 := (hu.next b4).next b5
      have hlen : (turnT t).length = mostF t := by unfold turnT; rw [HE.out, if_pos rfl]; simp [colsF]
      by_cases hz : mostF t = 0
      · have hu6 := hu5
        obtain ⟨A, c, vs, rfl, -, -⟩ := hu5.is
        have hl0 : (turnT t).length = 0 := by omega
        rw [hl0]
        go_wp2_with fail
        refine (tabAwake_any _).mono ?_
        rintro e w6 ⟨rfl, b6⟩
        go_wp2
        exact HR.out _ _ ⟨rfl, b25.trans (b6.mono b25.size)⟩
      · obtain ⟨he2, hm2, htt⟩ := turn_twice HE.out (by omega)
        have hu6 := hu5
        obtain ⟨A, c, vs, rfl, -, -⟩ := hu5.is
        have hl0 : (((turnT t).length : Int) == 0) = false := by rw [beq_eq_false_iff_ne]; omega
        have q1 : (turnT t).length ≤ 100000 := by have := HM.out; omega
        have q2 : mostF (turnT t) ≤ 100000 := by have := HT.out; omega
        have Q1 := Lib.hid q1; have Q2 := Lib.hid q2
        have E2 := Lib.hid (show turnE (turnT t) = 0 by unfold turnE; rw [he2]; rfl)
        have TT := Lib.hid htt
        have S2 := Lib.hid (show sameT t t = true by unfold sameT; exact decide_eq_true rfl)
        clear q1 q2 he2 hm2 htt hz hlen
        go_wp2_with fail
        refine (turn_any _ (turnT t) _ hu6 Q1.out Q2.out).mono ?_
        rintro e w6 ⟨u2, rfl, ho2, b6⟩
        rw [E2.out]
        rw [TT.out] at ho2
        have b26 := b25.trans (b6.mono b25.size)
        go_wp2_with fail
        refine (sameTable_any u2 v t t _ ho2.rd (h.next b26)).mono ?_
        rintro e w7 ⟨rfl, b7⟩
        rw [S2.out]
        have b27 := b26.trans (b7.mono b26.size)
        go_wp2_with fail
        refine (tabAwake_any _).mono ?_
        rintro e w8 ⟨rfl, b8⟩
        go_wp2
        exact HR.out _ _ ⟨rfl, b27.trans (b8.mono b27.size)⟩
  · clear hg
    go_wp2_with fail
    refine (tabAwake_any _).mono ?_
    rintro e w6 ⟨rfl, b6⟩
    go_wp2
    exact HR.out _ _ ⟨rfl, b6⟩

theorem own : ownKnob Try.prog.godebug = none := by kernel_rfl
theorem laidOut : laidOutB Try.prog = true := by kernel_rfl

set_option maxRecDepth 100000 in
theorem lifted (os : Os) (started : os.Started) (H : Type) (enc : TypeId × Value → H) :
    ReturnsInHanded {} Try.checked os 4 .any (Rows.tableTurnsSpec.pre6 enc Try.prog Try.f4 Rows.tableTurnsRow.domain false) (Rows.tableTurnsSpec.post enc Try.prog Try.f4 false true false false) := by
  refine returnsInHanded_of_change_sized (C := Try.checked) own started (by kernel_rfl) Try.func4
    (ChangeSpec.witness6 (enc := enc) (C := Try.checked) false ⟨#[], #[.slice none 0 0], []⟩ 8 (by kernel_rfl) (by kernel_rfl) (by kernel_rfl) (by kernel_rfl)) ?_
  intro W base args ds gs before hval0 hW hcnd hsz0 _
  have hval : ∀ (j : Nat) t v, Try.f4.params[j]? = some t → args[j]? = some v → Value.okWide Try.prog W .any base t v := hval0
  have hW' := hW
  obtain ⟨p, q, hA0, hV, rfl, hfz, hnd⟩ := hW
  have hA : DataW.TrodAll enc Try.prog W 0 (fun _ => true) true Try.f4.params.toList args.toList ds p := hA0
  have hsz : (DataW.weightsEach Try.prog (Try.f4.params.toList ++ Rows.tableTurnsSpec.plain.varTypes Try.prog) (ds ++ gs)).all (· ≤ reachBytes) = true := hsz0
  rw [Try.params4] at hA hval hsz
  obtain ⟨v0, vs0, d0, ds0, p0, q0, hargs, rfl, rfl, h0, r0⟩ := trodAll_cons hA
  obtain ⟨rfl, rfl, rfl⟩ := trodAll_nil r0
  obtain rfl : args = #[v0] := by cases args; simp_all
  obtain ⟨rfl, rfl⟩ := trodVars_none hV
  have k0 := h0
  have lt0 : ∀ x ∈ p0, x.block < W.heap.size := by obtain ⟨m, hm⟩ := k0; exact DataW.trod_lt m _ _ _ hm
  have w0 := open_table (hval 0 22 v0 rfl rfl) h0 (Sized.arg (j := 0) hsz rfl rfl)
  clear hA0 hval0
  refine (walk v0 W w0).mono fun e W' ⟨he, bel⟩ => ?_
  subst he
  exact ⟨_, rfl, _, _, _, [], _, [], hW', trodAll_mk1 (shut_bool Try.underlying4 _), (trodAll_cons_mk (Below.trod laidOut (by kernel_rfl) (of_decide_eq_true (by kernel_rfl)) k0 bel lt0) trodAll_mk0), rfl, bel.frame _, fun h => by cases h⟩

theorem over : Rows.tableTurnsRow.holds Try.pinned (OpenSpec.ofChange Rows.tableTurnsSpec) :=
  OpenClaim.holds_of_wide 4 Try.f4 rfl rfl rfl rfl rfl rfl rfl ⟨rfl, rfl, rfl, rfl, rfl⟩ rfl rfl rfl rfl rfl (by kernel_rfl) Try.func4 (by kernel_rfl)
    (of_decide_eq_true (by kernel_rfl)) (by unfold Func.isWrapper; first | (rw [if_pos (by decide +kernel)]; kernel_rfl) | (rw [if_neg (by decide +kernel)]; exact ⟨rfl, rfl⟩))
    (fun os started H enc _ => lifted os started H enc)

theorem proved : Rows.TableTurnsSaid := over
end Go.Proofs.Ytamhdlopchhdjaa.tableTurns
