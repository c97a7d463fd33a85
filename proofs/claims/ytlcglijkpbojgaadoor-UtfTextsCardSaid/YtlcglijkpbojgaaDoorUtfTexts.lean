/- What is well formed is so with whatever is well formed behind it. -/
import Derived.Test.YtlcglijkpbojgaaDoorUtfW
import Derived.Test.YtlcglijkpbojgaaDoorCards
import Derived.Test.YtlcglijkpbojgaaDoorTie
import Derived.SizedLaws
import Derived.ProofKit
import Derived.OpenShut
import Derived.ShutString
import Derived.ChangeOld
import Derived.Below
import Derived.Deep.DeepHandedRow
import Derived.Deep.DeepWitnessRowRef
namespace Go.Proofs.YtlcglijkpbojgaaDoor.utfTexts
open Go.ChangeShapes Go.WideShapes Go.ChangeAt Go.RowKit
open Go.ChangeMaps (open_string shut_string)
set_option linter.unusedVariables false
set_option linter.unusedSimpArgs false

theorem walk (a : ByteArray) (ha : a.size ≤ 140737488351232) (b : ByteArray) (hb : b.size ≤ 140737488351232) (c : Int) (hc : (Lit.int .u8 c).wf = true) (w : World) (hT : Tab w) :
    Calls Tryd.prog 8 #[.string a, .string b, .int .u8 c] w fun e w' => e = .returned (.bool true) ∧ Below w.heap.size w w' := by
  refine cps fun R HR => ?_
  have ha' : a.size ≤ maxLen := by unfold maxLen; omega
  have hb' : b.size ≤ maxLen := by unfold maxLen; omega
  simp [Lit.wf, IntKind.min, IntKind.max, IntKind.signed, IntKind.bits] at hc
  obtain ⟨c, rfl⟩ := Int.eq_ofNat_of_zero_le hc.1
  have hza : a.size = a.data.toList.length := by rw [Array.length_toList]; rfl
  have hzb : b.size = b.data.toList.length := by rw [Array.length_toList]; rfl
  go_enter Tryd.func8, Tryd.ntmps8
  have HA := Lib.hid ha'; have HB := Lib.hid hb'; have ZA := Lib.hid hza; have ZB := Lib.hid hzb
  clear ha' hb' ha hb hza hzb
  by_cases h1 : 100 < a.size
  · go_wp2_with fail
    refine (awake_any _ hT).mono ?_
    rintro e w1 ⟨rfl, b1⟩
    go_wp2
    exact HR.out _ _ ⟨rfl, b1⟩
  by_cases h2 : 100 < b.size
  · go_wp2_with fail
    refine (awake_any _ hT).mono ?_
    rintro e w1 ⟨rfl, b1⟩
    go_wp2
    exact HR.out _ _ ⟨rfl, b1⟩
  go_wp2_with fail
  refine (valid_any a _ HA.out hT).mono ?_
  rintro e w1 ⟨rfl, b1⟩
  cases hv : validF a.data.toList
  · go_wp2_with fail
    refine (awake_any _ (hT.below b1)).mono ?_
    rintro e w2 ⟨rfl, b2⟩
    go_wp2
    exact HR.out _ _ ⟨rfl, b1.trans (b2.mono b1.size)⟩
  · obtain ⟨ab, hab⟩ : ∃ ab, ab = a ++ b := ⟨_, rfl⟩
    have hsz : a.size + b.size ≤ maxLen := by unfold maxLen; omega
    have hl : ab.data.toList = a.data.toList ++ b.data.toList := by rw [hab]; simp
    have hs9 : ab.size ≤ maxLen := by rw [hab, ByteArray.size_append]; exact hsz
    have hV : validF ab.data.toList = validF b.data.toList := by rw [hl, valid_append _ hv]
    have hL : longF 0 0 0 ab.data.toList = a.size + longF 0 0 0 b.data.toList := by rw [hl, long_append _ hv, ZA.out]
    have hLb : longF 0 0 0 b.data.toList ≤ 100 := by have := long_le b.data.toList 0 0 0 (by omega); have := ZB.out; omega
    have V := Lib.hid hv; have L := Lib.hid hL; have VV := Lib.hid hV; have S9 := Lib.hid hs9
    have HAB := Lib.hid hab
    clear hv hL hV hs9 hl hab
    go_wp2_with fail
    refine (valid_any b _ HB.out (hT.below b1)).mono ?_
    rintro e w2 ⟨rfl, b2⟩
    have b12 := b1.trans (b2.mono b1.size)
    go_wp2_with fail
    rw [← HAB.out]
    refine (valid_any ab _ S9.out (hT.below b12)).mono ?_
    rintro e w3 ⟨rfl, b3⟩
    have b13 := b12.trans (b3.mono b12.size)
    rw [VV.out]
    go_wp2_with fail
    rw [← HAB.out]
    refine (longest_any ab _ S9.out (hT.below b13)).mono ?_
    rintro e w4 ⟨rfl, b4⟩
    have b14 := b13.trans (b4.mono b13.size)
    go_wp2_with fail
    refine (longest_any b _ HB.out (hT.below b14)).mono ?_
    rintro e w5 ⟨rfl, b5⟩
    have b15 := b14.trans (b5.mono b14.size)
    rw [L.out]
    obtain ⟨z, hz⟩ : ∃ z, z = longF 0 0 0 b.data.toList := ⟨_, rfl⟩
    rw [← hz] at hLb ⊢
    clear hz
    have hq : a.size + 1 ≤ maxLen := by unfold maxLen; omega
    obtain ⟨cs, hcs⟩ : ∃ cs : ByteArray, cs = ⟨#[UInt8.ofNat c]⟩ := ⟨_, rfl⟩
    have hc1 : cs.size = 1 := by rw [hcs]; rfl
    have hcv := conv_ints (P := Tryd.prog) w5 49 9 5 Tryd.underlying49 Tryd.underlying5 Tryd.underlying9 [(c : Int)] (by intro z hz; simp at hz; omega) (by simp)
    simp only [List.map, List.length, Int.toNat_natCast] at hcv
    rw [show (ByteArray.mk [UInt8.ofNat c].toArray) = cs by rw [hcs]] at hcv
    have hq1 : a.size + cs.size ≤ maxLen := by rw [hc1]; exact hq
    have hvc : validF (a ++ cs).data.toList = decide (c < 128) := by
      rw [ByteArray.data_append, Array.toList_append, valid_append _ V.out, hcs]
      have := valid_one (UInt8.ofNat c)
      rw [show (UInt8.ofNat c).toNat = c by simp; omega] at this
      exact this
    have HVC := Lib.hid hvc; clear hvc
    have HCS := Lib.hid hcs; clear hcs
    go_wp2_with fail
    have hsc : (a ++ cs).size ≤ maxLen := by rw [ByteArray.size_append]; exact hq1
    refine (valid_any (a ++ cs) _ hsc (hT.below (b15.alloc b15.size _))).mono ?_
    rintro e w6 ⟨rfl, b6⟩
    rw [HVC.out]
    have b16 : Below w.heap.size w w6 := by
      have := b15.alloc b15.size (Obj.cells #[Value.int IntKind.u8 ↑c] 5)
      exact this.trans (b6.mono this.size)
    go_wp2_with fail
    refine (awake_any _ (hT.below b16)).mono ?_
    rintro e w7 ⟨rfl, b7⟩
    go_wp2
    exact HR.out _ _ ⟨rfl, b16.trans (b7.mono b16.size)⟩

theorem own : ownKnob Tryd.prog.godebug = none := by kernel_rfl
theorem laidOut : laidOutB Tryd.prog = true := by kernel_rfl
theorem reads (os : Os) {H : Type} (enc : TypeId × Value → H) : ∃ places, DataW.whole enc Tryd.prog ((laidWorld os).forCall (fun _ _ => 0) ⟨#[], #[.string ByteArray.empty, .string ByteArray.empty, .int .u8 0], []⟩).memory Tryd.f8.params.toList Rows.utfTextsSpec.vars false #[.string ByteArray.empty, .string ByteArray.empty, .int .u8 0].toList 8 = some ([.lit (.string []), .lit (.string []), .lit (.int .u8 0)], [], places) :=
  ⟨[], by kernel_rfl⟩

theorem contract (H : Type) (enc : TypeId × Value → H) (W : World) (base : Nat) (args : Array Value) (ds gs : List (DataW H)) (before : List MemPlace)
    (hval0 : ∀ (j : Nat) t v, Tryd.f8.params[j]? = some t → args[j]? = some v → Value.okWide Tryd.prog W .any base t v)
    (hW : DataW.Whole enc Tryd.prog Tryd.f8.params.toList Rows.utfTextsSpec.vars false W args.toList ds gs before)
    (hsz0 : (DataW.weightsEach Tryd.prog (Tryd.f8.params.toList ++ Rows.utfTextsSpec.plain.varTypes Tryd.prog) (ds ++ gs)).all (· ≤ reachBytes) = true)
    (hL : laidMetH Tryd.prog Rows.utfTextsRow.laid W) :
    Calls Tryd.prog 8 args W fun e W' => ∃ v, e = .returned v ∧ Rows.utfTextsSpec.post enc Tryd.prog Tryd.f8 false true false false W args v W' := by
  have hval : ∀ (j : Nat) t v, Tryd.f8.params[j]? = some t → args[j]? = some v → Value.okWide Tryd.prog W .any base t v := hval0
  have hW' := hW
  obtain ⟨p, q, hA0, hV, rfl, hfz, hnd⟩ := hW
  have hA : DataW.TrodAll enc Tryd.prog W 0 (fun _ => true) true Tryd.f8.params.toList args.toList ds p := hA0
  have hsz : (DataW.weightsEach Tryd.prog (Tryd.f8.params.toList ++ Rows.utfTextsSpec.plain.varTypes Tryd.prog) (ds ++ gs)).all (· ≤ reachBytes) = true := hsz0
  rw [Tryd.params8] at hA hval hsz
  obtain ⟨v0, vs0, d0, ds0, p0, q0, hargs, rfl, rfl, h0, r0⟩ := trodAll_cons hA
  obtain ⟨v1, vs1, d1, ds1, p1, q1, rfl, rfl, rfl, h1, r1⟩ := trodAll_cons r0
  obtain ⟨v2, vs2, d2, ds2, p2, q2, rfl, rfl, rfl, h2, r2⟩ := trodAll_cons r1
  obtain ⟨rfl, rfl, rfl⟩ := trodAll_nil r2
  obtain rfl : args = #[v0, v1, v2] := by cases args; simp_all
  obtain ⟨rfl, rfl⟩ := trodVars_none hV
  have k0 := h0
  have lt0 : ∀ x ∈ p0, x.block < W.heap.size := by obtain ⟨m, hm⟩ := k0; exact DataW.trod_lt m _ _ _ hm
  obtain ⟨a0, rfl, rfl, _, _⟩ := open_string Tryd.underlying9 (hval 0 9 v0 rfl rfl) h0
  have w0 : a0.size ≤ 140737488351232 := (Sized.arg (j := 0) hsz rfl rfl).str
  have k1 := h1
  have lt1 : ∀ x ∈ p1, x.block < W.heap.size := by obtain ⟨m, hm⟩ := k1; exact DataW.trod_lt m _ _ _ hm
  obtain ⟨a1, rfl, rfl, _, _⟩ := open_string Tryd.underlying9 (hval 1 9 v1 rfl rfl) h1
  have w1 : a1.size ≤ 140737488351232 := (Sized.arg (j := 1) hsz rfl rfl).str
  have k2 := h2
  have lt2 : ∀ x ∈ p2, x.block < W.heap.size := by obtain ⟨m, hm⟩ := k2; exact DataW.trod_lt m _ _ _ hm
  obtain ⟨a2, rfl, _, _, w2⟩ := open_int Tryd.underlying5 (hval 2 5 v2 rfl rfl) h2
  clear hA0 hval0
  refine (walk a0 w0 a1 w1 a2 w2 W (tab_row hL)).mono fun e W' ⟨he, bel⟩ => ?_
  subst he
  exact ⟨_, rfl, _, _, _, [], _, [], hW', trodAll_mk1 (shut_bool Tryd.underlying4 _), (trodAll_cons_mk (Below.trod laidOut (by kernel_rfl) (of_decide_eq_true (by kernel_rfl)) k0 bel lt0) (trodAll_cons_mk (Below.trod laidOut (by kernel_rfl) (of_decide_eq_true (by kernel_rfl)) k1 bel lt1) (trodAll_cons_mk (Below.trod laidOut (by kernel_rfl) (of_decide_eq_true (by kernel_rfl)) k2 bel lt2) trodAll_mk0))), rfl, bel.frame _, fun h => by cases h⟩

set_option maxRecDepth 100000 in
theorem lifted (os : Os) (started : os.Started) (H : Type) (enc : TypeId × Value → H) (F : Stop.Interp) :
    ReturnsInHanded {} Tryd.checked os 8 .any ((OpenSpec.ofChange Rows.utfTextsSpec).preRow enc Tryd.prog Tryd.f8 Rows.utfTextsRow.domain false Rows.utfTextsRow.laid) (((OpenSpec.ofChange Rows.utfTextsSpec).at F).post enc Tryd.prog Tryd.f8 false true false false) := by
  obtain ⟨places, hx⟩ := reads os enc
  refine returnsInHanded_of_row (C := Tryd.checked) (s := OpenSpec.ofChange Rows.utfTextsSpec) own started (by kernel_rfl) Tryd.func8
    (witness_row_atRef (enc := enc) (C := Tryd.checked) false (laidWorld os) #[.string ByteArray.empty, .string ByteArray.empty, .int .u8 0] rfl (by kernel_rfl) (by kernel_rfl) (by kernel_rfl)
      (OpenSpec.preRow_of_cond 8 hx (by kernel_rfl) (fun k hk => by cases hk) (by kernel_rfl) (laid_met os _))) ?_
  intro W base args ds gs before hval hW _ _ hsz hL _ _
  exact contract H enc W base args ds gs before hval hW hsz hL

theorem said : Rows.UtfTextsSaid :=
  OpenClaim.holds_of_cond 8 Tryd.f8 rfl rfl rfl rfl rfl rfl rfl ⟨rfl, rfl, rfl, rfl, rfl⟩ rfl rfl rfl rfl rfl (by kernel_rfl) Tryd.func8 (by kernel_rfl)
    (of_decide_eq_true (by kernel_rfl)) (by unfold Func.isWrapper; first | (rw [if_pos (by decide +kernel)]; kernel_rfl) | (rw [if_neg (by decide +kernel)]; exact ⟨rfl, rfl⟩))
    (fun os started H enc _ F => by rw [OpenClaim.pre_eq_preRow]; exact lifted os started H enc F)

theorem plain (f : FuncId) (fn : Func) (hf : Tryd.pinned.checked.prog.funcNamed "quillpen/quillpenlaw02.UtfTexts" = some f) (hfn : Tryd.pinned.checked.prog.funcs[f]? = some fn) :
    false = Tryd.pinned.checked.prog.looks [] ∧ ∀ (j : Nat) t, fn.params[j]? = some t → Tryd.pinned.checked.prog.wantsStandIn t = false := by
  obtain rfl : f = 8 := Option.some.inj ((show Tryd.prog.funcNamed "quillpen/quillpenlaw02.UtfTexts" = some 8 by kernel_rfl).symm.trans hf) |>.symm
  obtain rfl : fn = Tryd.f8 := (Option.some.inj (Tryd.func8.symm.trans hfn)).symm
  refine ⟨by kernel_rfl, fun j t ht => ?_⟩
  rw [Tryd.params8] at ht
  have hm := Array.mem_of_getElem? ht
  have hall : (#[9, 9, 5] : Array TypeId).toList.all (fun t => Tryd.prog.wantsStandIn t == false) = true := by kernel_rfl
  exact eq_of_beq (List.all_eq_true.1 hall t (by simpa using hm))

theorem proved : Rows.UtfTextsCardSaid :=
  Claim7.holds_tied_plain_at .later [] _ _ _ _ said (fun _ h => by cases h) (by kernel_rfl) (fun _ h => by cases h) utfTexts_row_tie rfl ⟨rfl, rfl⟩ (by kernel_rfl) rfl plain (by kernel_rfl)
end Go.Proofs.YtlcglijkpbojgaaDoor.utfTexts
