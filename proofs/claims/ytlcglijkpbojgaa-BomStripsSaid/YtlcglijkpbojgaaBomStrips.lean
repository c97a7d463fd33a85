/- Any text without its mark is what the document says (no condition). -/
import Derived.Test.YtlcglijkpbojgaaBomC
import Derived.ProofKit
import Derived.OpenShut
import Derived.ShutString
import Derived.ChangeOld
import Derived.Below
import Derived.Lib.Strings
namespace Go.Proofs.Ytlcglijkpbojgaa.bomStrips
open Go.ChangeShapes Go.WideShapes Go.ChangeAt Go.RowKit
open Go.ChangeMaps (open_string shut_string)
set_option linter.unusedVariables false
set_option linter.unusedSimpArgs false

theorem pre_has (s : ByteArray) : hasPre s markB = hasB s 3 := by
  have e1 : (s.extract 0 markB.size).toList = s.data.toList.take 3 := by rw [Lib.extract_toList]; rfl
  have e2 : markB.toList = [239, 187, 191] := by rw [ByteArray.toList_eq]; rfl
  have hz : s.size = s.data.toList.length := by rw [Array.length_toList]; rfl
  have hg : ∀ j (h : j < s.size), s.data.toList[j]? = some s[j] := fun j h => by
    rw [List.getElem?_eq_getElem (by omega), Array.getElem_toList]; rfl
  rw [Bool.eq_iff_iff, hasB_true]
  unfold hasPre hasN hasTo
  rw [e1, e2, Bool.and_eq_true, decide_eq_true_eq, beq_iff_eq, show markB.size = 3 from rfl]
  clear e1 e2
  generalize s.data.toList = l at *
  constructor
  · rintro ⟨h3, h⟩
    refine ⟨h3, fun j hj hj3 => ?_⟩
    have h2 : (l.take 3)[j]? = ([239, 187, 191] : List UInt8)[j]? := by rw [h]
    rw [List.getElem?_take_of_lt hj3, hg j hj] at h2
    obtain rfl | rfl | rfl : j = 0 ∨ j = 1 ∨ j = 2 := by omega
    all_goals (simp at h2; rw [h2]; rfl)
  · rintro ⟨h3, h⟩
    refine ⟨h3, ?_⟩
    have g : ∀ j (hj : j < s.size) (m : UInt8), j < 3 → (m.toNat : Int) = markAt j → l[j]? = some m := fun j hj m h3 hm => by
      rw [hg j hj]
      have := h j hj h3
      rw [← hm] at this
      exact congrArg some (UInt8.toNat_inj.1 (Int.ofNat.inj this))
    have g0 := g 0 (by omega) 239 (by omega) rfl
    have g1 := g 1 (by omega) 187 (by omega) rfl
    have g2 := g 2 (by omega) 191 (by omega) rfl
    match l with
    | [] => simp at g0
    | [_] => simp at g1
    | [_, _] => simp at g2
    | a :: b :: c :: r => simp at g0 g1 g2; simp [g0, g1, g2]

theorem walk (a0 : ByteArray) (w0 : a0.size ≤ maxLen) (w : World) :
    Calls Try.prog 5 #[.string a0] w fun e w' => e = .returned (.bool true) ∧ Below w.heap.size w w' := by
  refine cps fun R HR => ?_
  cases h : hasB a0 3
  · have H := Lib.hid h; clear h
    go_enter Try.func5, Try.ntmps5
    go_wp2_with fail
    refine (bomStrip_any a0 _ w0).mono ?_
    rintro e w1 ⟨rfl, rfl⟩
    rw [pre_has, H.out]
    go_wp2_with fail
    refine (refStrip_any a0 _ w0).mono ?_
    rintro e w1 ⟨⟨h, rfl⟩ | ⟨h, rfl⟩, hb⟩
    · rw [H.out] at h; cases h
    · clear h
      go_wp2_with fail
      refine (awake_any _).mono ?_
      rintro e w2 ⟨rfl, hb2⟩
      go_wp2
      exact HR.out _ _ ⟨rfl, hb.trans (hb2.mono hb.size)⟩
  · have H := Lib.hid h; clear h
    go_enter Try.func5, Try.ntmps5
    go_wp2_with fail
    refine (bomStrip_any a0 _ w0).mono ?_
    rintro e w1 ⟨rfl, rfl⟩
    rw [pre_has, H.out]
    go_wp2_with fail
    refine (refStrip_any a0 _ w0).mono ?_
    rintro e w1 ⟨⟨h, rfl⟩ | ⟨h, rfl⟩, hb⟩
    · clear h
      go_wp2_with fail
      refine (awake_any _).mono ?_
      rintro e w2 ⟨rfl, hb2⟩
      go_wp2
      exact HR.out _ _ ⟨rfl, hb.trans (hb2.mono hb.size)⟩
    · rw [H.out] at h; cases h

theorem own : ownKnob Try.prog.godebug = none := by kernel_rfl
theorem laidOut : laidOutB Try.prog = true := by kernel_rfl

set_option maxRecDepth 100000 in
theorem lifted (os : Os) (started : os.Started) (H : Type) (enc : TypeId × Value → H) :
    ReturnsInHanded {} Try.checked os 5 .any (Rows.bomStripsSpec.pre6 enc Try.prog Try.f5 Rows.bomStripsRow.domain false) (Rows.bomStripsSpec.post enc Try.prog Try.f5 false true false false) := by
  refine returnsInHanded_of_change (C := Try.checked) own started (by kernel_rfl) Try.func5
    (ChangeSpec.witness6 (enc := enc) (C := Try.checked) false ⟨#[], #[.string ByteArray.empty], []⟩ 8 (by kernel_rfl) (by kernel_rfl) (by kernel_rfl) (by kernel_rfl)) ?_
  intro W base args ds gs before hval0 hW hcnd _
  have hval : ∀ (j : Nat) t v, Try.f5.params[j]? = some t → args[j]? = some v → Value.okWide Try.prog W .any base t v := hval0
  have hW' := hW
  obtain ⟨p, q, hA0, hV, rfl, hfz, hnd⟩ := hW
  have hA : DataW.TrodAll enc Try.prog W 0 (fun _ => true) true Try.f5.params.toList args.toList ds p := hA0
  rw [Try.params5] at hA hval
  obtain ⟨v0, vs0, d0, ds0, p0, q0, hargs, rfl, rfl, h0, r0⟩ := trodAll_cons hA
  obtain ⟨rfl, rfl, rfl⟩ := trodAll_nil r0
  obtain rfl : args = #[v0] := by cases args; simp_all
  obtain ⟨rfl, rfl⟩ := trodVars_none hV
  have k0 := h0
  have lt0 : ∀ x ∈ p0, x.block < W.heap.size := by obtain ⟨m, hm⟩ := k0; exact DataW.trod_lt m _ _ _ hm
  obtain ⟨a0, rfl, _, _, w0⟩ := open_string Try.underlying9 (hval 0 9 v0 rfl rfl) h0
  clear hA0 hval0
  refine (walk a0 w0 W).mono fun e W' ⟨he, bel⟩ => ?_
  subst he
  exact ⟨_, rfl, _, _, _, [], _, [], hW', trodAll_mk1 (shut_bool Try.underlying4 _), (trodAll_cons_mk (Below.trod laidOut (by kernel_rfl) (of_decide_eq_true (by kernel_rfl)) k0 bel lt0) trodAll_mk0), rfl, bel.frame _, fun h => by cases h⟩

theorem over : Rows.bomStripsRow.holds Try.pinned (OpenSpec.ofChange Rows.bomStripsSpec) :=
  OpenClaim.holds_of_wide 5 Try.f5 rfl rfl rfl rfl rfl rfl rfl ⟨rfl, rfl, rfl, rfl, rfl⟩ rfl rfl rfl rfl rfl (by kernel_rfl) Try.func5 (by kernel_rfl)
    (of_decide_eq_true (by kernel_rfl)) (by unfold Func.isWrapper; first | (rw [if_pos (by decide +kernel)]; kernel_rfl) | (rw [if_neg (by decide +kernel)]; exact ⟨rfl, rfl⟩))
    (fun os started H enc _ => lifted os started H enc)

theorem proved : Rows.BomStripsSaid := over
#print axioms proved
end Go.Proofs.Ytlcglijkpbojgaa.bomStrips
