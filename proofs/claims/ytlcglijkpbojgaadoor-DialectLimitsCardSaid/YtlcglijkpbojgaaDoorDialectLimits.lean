/- Whether any limits are right; the widest ones are. -/
import Derived.Test.YtlcglijkpbojgaaDoorDlC
import Derived.Test.YtlcglijkpbojgaaDoorCards
import Derived.Test.YtlcglijkpbojgaaDoorTie
import Derived.SizedLaws
import Derived.ProofKit
import Derived.OpenShut
import Derived.ShutString
import Derived.ChangeOld
import Derived.Below
import Derived.Deep.DeepHandedRow
import Derived.Deep.DeepWitnessRowRef
namespace Go.Proofs.YtlcglijkpbojgaaDoor.dialectLimits
open Go.ChangeShapes Go.WideShapes Go.ChangeAt Go.RowKit
open Go.ChangeMaps (open_string shut_string)
set_option linter.unusedVariables false
set_option linter.unusedSimpArgs false

set_option maxHeartbeats 4000000 in
set_option maxRecDepth 100000 in
theorem walk1 (a b c : Int) (u : Bool) (w : World) (hT : Words w) :
    Calls Tryd.prog 4 #[.agg #[.int .i64 a, .int .i64 b, .int .i64 c, .bool u]] w fun r w' => r = .returned (.bool true) ∧ Below w.heap.size w w' := by
  refine cps fun R HR => ?_
  have hx := Box.new w 37 #[.int .i64 a, .int .i64 b, .int .i64 c, .bool u]
  have b0 : Below w.heap.size w (w.alloc (Obj.cells #[.int .i64 a, .int .i64 b, .int .i64 c, .bool u] 37)) := (Below.refl w.heap.size w).alloc (Nat.le_refl _) _
  have LW := Lib.hid (show limL 2147483648 2147483648 2147483648 = 0 by decide +kernel)
  go_enter Tryd.func4, Tryd.ntmps4
  go_wp2_with fail
  refine (refLimits_any a b c u _).mono ?_
  rintro r w1 ⟨rfl, b1⟩
  have hx1 := hx.below b1 (by simp)
  have b01 := b0.trans (b1.mono b0.size)
  go_wp2_with fail
  refine (fits_any a b c _ _).mono ?_
  rintro r w2 ⟨rfl, b2⟩
  have hx2 := hx1.below b2 hx1.lt
  have b02 := b01.trans (b2.mono b01.size)
  clear hx hx1
  cases hf : fitsL a b c
  · have hk : limL a b c = 2 := by simp [limL, hf]
    have HK := Lib.hid hk
    clear hk hf
    go_wp2_with fail
    refine (wide_any _).mono ?_
    rintro r w3 ⟨rfl, b3⟩
    have hx3 := hx2.below b3 hx2.lt
    have b03 := b02.trans (b3.mono b02.size)
    have X := Box.new w3 37 #[.int .i64 2147483648, .int .i64 2147483648, .int .i64 2147483648, .bool false]
    have b04 := b03.alloc b03.size (Obj.cells #[.int .i64 2147483648, .int .i64 2147483648, .int .i64 2147483648, .bool false] 37)
    have hx4 := hx3.alloc (Obj.cells #[.int .i64 2147483648, .int .i64 2147483648, .int .i64 2147483648, .bool false] 37)
    have hw : w.heap.size < w3.heap.size := hx3.lt
    have c0 : w3.cell? ⟨w.heap.size, 0, none⟩ = some (.int .i64 a) := hx3.cell 0
    have c1 : w3.cell? ⟨w.heap.size, 1, none⟩ = some (.int .i64 b) := hx3.cell 1
    have c2 : w3.cell? ⟨w.heap.size, 2, none⟩ = some (.int .i64 c) := hx3.cell 2
    have c3 : w3.cell? ⟨w.heap.size, 3, none⟩ = some (.bool u) := hx3.cell 3
    go_wp2_with fail
    refine (limits_any a b c u _).mono ?_
    rintro r w5 ⟨rfl, b5⟩
    rw [HK.out]
    have b05 := b04.trans (b5.mono b04.size)
    have X5 := X.below b5 X.lt
    have c0 : w5.cell? ⟨w3.heap.size, 0, none⟩ = some (.int .i64 2147483648) := X5.cell 0
    have c1 : w5.cell? ⟨w3.heap.size, 1, none⟩ = some (.int .i64 2147483648) := X5.cell 1
    have c2 : w5.cell? ⟨w3.heap.size, 2, none⟩ = some (.int .i64 2147483648) := X5.cell 2
    have c3 : w5.cell? ⟨w3.heap.size, 3, none⟩ = some (.bool false) := X5.cell 3
    clear hx4 X
    go_wp2_with fail
    refine (limits_any _ _ _ false _).mono ?_
    rintro r w6 ⟨rfl, b6⟩
    rw [LW.out]
    have b06 := b05.trans (b6.mono b05.size)
    go_wp2_with fail
    refine (dlAwake_any _ (hT.below b06)).mono ?_
    rintro r w7 ⟨rfl, b7⟩
    go_wp2
    exact HR.out _ _ ⟨rfl, b06.trans (b7.mono b06.size)⟩
  · have hk : limL a b c = 0 := by simp [limL, hf]
    have HK := Lib.hid hk
    clear hk hf
    go_wp2_with fail
    refine (wide_any _).mono ?_
    rintro r w3 ⟨rfl, b3⟩
    have hx3 := hx2.below b3 hx2.lt
    have b03 := b02.trans (b3.mono b02.size)
    have X := Box.new w3 37 #[.int .i64 2147483648, .int .i64 2147483648, .int .i64 2147483648, .bool false]
    have b04 := b03.alloc b03.size (Obj.cells #[.int .i64 2147483648, .int .i64 2147483648, .int .i64 2147483648, .bool false] 37)
    have hx4 := hx3.alloc (Obj.cells #[.int .i64 2147483648, .int .i64 2147483648, .int .i64 2147483648, .bool false] 37)
    have hw : w.heap.size < w3.heap.size := hx3.lt
    have c0 : w3.cell? ⟨w.heap.size, 0, none⟩ = some (.int .i64 a) := hx3.cell 0
    have c1 : w3.cell? ⟨w.heap.size, 1, none⟩ = some (.int .i64 b) := hx3.cell 1
    have c2 : w3.cell? ⟨w.heap.size, 2, none⟩ = some (.int .i64 c) := hx3.cell 2
    have c3 : w3.cell? ⟨w.heap.size, 3, none⟩ = some (.bool u) := hx3.cell 3
    go_wp2_with fail
    refine (limits_any a b c u _).mono ?_
    rintro r w5 ⟨rfl, b5⟩
    rw [HK.out]
    have b05 := b04.trans (b5.mono b04.size)
    have X5 := X.below b5 X.lt
    have c0 : w5.cell? ⟨w3.heap.size, 0, none⟩ = some (.int .i64 2147483648) := X5.cell 0
    have c1 : w5.cell? ⟨w3.heap.size, 1, none⟩ = some (.int .i64 2147483648) := X5.cell 1
    have c2 : w5.cell? ⟨w3.heap.size, 2, none⟩ = some (.int .i64 2147483648) := X5.cell 2
    have c3 : w5.cell? ⟨w3.heap.size, 3, none⟩ = some (.bool false) := X5.cell 3
    clear hx4 X
    go_wp2_with fail
    refine (limits_any _ _ _ false _).mono ?_
    rintro r w6 ⟨rfl, b6⟩
    rw [LW.out]
    have b06 := b05.trans (b6.mono b05.size)
    go_wp2_with fail
    refine (dlAwake_any _ (hT.below b06)).mono ?_
    rintro r w7 ⟨rfl, b7⟩
    go_wp2
    exact HR.out _ _ ⟨rfl, b06.trans (b7.mono b06.size)⟩
theorem walk (v : Value) (w : World) (hT : Words w) (hv : ∃ (a b c : Int) (u : Bool), v = .agg #[.int .i64 a, .int .i64 b, .int .i64 c, .bool u]) :
    Calls Tryd.prog 4 #[v] w fun r w' => r = .returned (.bool true) ∧ Below w.heap.size w w' := by
  obtain ⟨a, b, c, u, rfl⟩ := hv
  exact walk1 a b c u w hT

theorem own : ownKnob Tryd.prog.godebug = none := by kernel_rfl
theorem laidOut : laidOutB Tryd.prog = true := by kernel_rfl
theorem reads (os : Os) {H : Type} (enc : TypeId × Value → H) : ∃ places, DataW.whole enc Tryd.prog ((wordsWorld os).forCall (fun _ _ => 0) ⟨#[], #[.agg #[.int .i64 0, .int .i64 0, .int .i64 0, .bool false]], []⟩).memory Tryd.f4.params.toList Rows.dialectLimitsSpec.vars false #[.agg #[.int .i64 0, .int .i64 0, .int .i64 0, .bool false]].toList 8 = some ([.agg [.lit (.int .i64 0), .lit (.int .i64 0), .lit (.int .i64 0), .lit (.bool false)]], [], places) :=
  ⟨[], by kernel_rfl⟩

theorem contract (H : Type) (enc : TypeId × Value → H) (W : World) (base : Nat) (args : Array Value) (ds gs : List (DataW H)) (before : List MemPlace)
    (hval0 : ∀ (j : Nat) t v, Tryd.f4.params[j]? = some t → args[j]? = some v → Value.okWide Tryd.prog W .any base t v)
    (hW : DataW.Whole enc Tryd.prog Tryd.f4.params.toList Rows.dialectLimitsSpec.vars false W args.toList ds gs before)
    (hsz0 : (DataW.weightsEach Tryd.prog (Tryd.f4.params.toList ++ Rows.dialectLimitsSpec.plain.varTypes Tryd.prog) (ds ++ gs)).all (· ≤ reachBytes) = true)
    (hL : laidMetH Tryd.prog Rows.dialectLimitsRow.laid W) :
    Calls Tryd.prog 4 args W fun e W' => ∃ v, e = .returned v ∧ Rows.dialectLimitsSpec.post enc Tryd.prog Tryd.f4 false true false false W args v W' := by
  have hval : ∀ (j : Nat) t v, Tryd.f4.params[j]? = some t → args[j]? = some v → Value.okWide Tryd.prog W .any base t v := hval0
  have hW' := hW
  obtain ⟨p, q, hA0, hV, rfl, hfz, hnd⟩ := hW
  have hA : DataW.TrodAll enc Tryd.prog W 0 (fun _ => true) true Tryd.f4.params.toList args.toList ds p := hA0
  have hsz : (DataW.weightsEach Tryd.prog (Tryd.f4.params.toList ++ Rows.dialectLimitsSpec.plain.varTypes Tryd.prog) (ds ++ gs)).all (· ≤ reachBytes) = true := hsz0
  rw [Tryd.params4] at hA hval hsz
  obtain ⟨v0, vs0, d0, ds0, p0, q0, hargs, rfl, rfl, h0, r0⟩ := trodAll_cons hA
  obtain ⟨rfl, rfl, rfl⟩ := trodAll_nil r0
  obtain rfl : args = #[v0] := by cases args; simp_all
  obtain ⟨rfl, rfl⟩ := trodVars_none hV
  have k0 := h0
  have lt0 : ∀ x ∈ p0, x.block < W.heap.size := by obtain ⟨m, hm⟩ := k0; exact DataW.trod_lt m _ _ _ hm
  have w0 := open_limits (hval 0 37 v0 rfl rfl) h0 (Sized.arg (j := 0) hsz rfl rfl)
  clear hA0 hval0
  refine (walk v0 W (words_row hL) w0).mono fun e W' ⟨he, bel⟩ => ?_
  subst he
  exact ⟨_, rfl, _, _, _, [], _, [], hW', trodAll_mk1 (shut_bool Tryd.underlying4 _), (trodAll_cons_mk (Below.trod laidOut (by kernel_rfl) (of_decide_eq_true (by kernel_rfl)) k0 bel lt0) trodAll_mk0), rfl, bel.frame _, fun h => by cases h⟩

set_option maxRecDepth 100000 in
theorem lifted (os : Os) (started : os.Started) (H : Type) (enc : TypeId × Value → H) (F : Stop.Interp) :
    ReturnsInHanded {} Tryd.checked os 4 .any ((OpenSpec.ofChange Rows.dialectLimitsSpec).preRow enc Tryd.prog Tryd.f4 Rows.dialectLimitsRow.domain false Rows.dialectLimitsRow.laid) (((OpenSpec.ofChange Rows.dialectLimitsSpec).at F).post enc Tryd.prog Tryd.f4 false true false false) := by
  obtain ⟨places, hx⟩ := reads os enc
  refine returnsInHanded_of_row (C := Tryd.checked) (s := OpenSpec.ofChange Rows.dialectLimitsSpec) own started (by kernel_rfl) Tryd.func4
    (witness_row_atRef (enc := enc) (C := Tryd.checked) false (wordsWorld os) #[.agg #[.int .i64 0, .int .i64 0, .int .i64 0, .bool false]] rfl (by kernel_rfl) (by kernel_rfl) (by kernel_rfl)
      (OpenSpec.preRow_of_cond 8 hx (by kernel_rfl) (fun k hk => by cases hk) (by kernel_rfl) (words_met os _))) ?_
  intro W base args ds gs before hval hW _ _ hsz hL _ _
  exact contract H enc W base args ds gs before hval hW hsz hL

theorem said : Rows.DialectLimitsSaid :=
  OpenClaim.holds_of_cond 4 Tryd.f4 rfl rfl rfl rfl rfl rfl rfl ⟨rfl, rfl, rfl, rfl, rfl⟩ rfl rfl rfl rfl rfl (by kernel_rfl) Tryd.func4 (by kernel_rfl)
    (of_decide_eq_true (by kernel_rfl)) (by unfold Func.isWrapper; first | (rw [if_pos (by decide +kernel)]; kernel_rfl) | (rw [if_neg (by decide +kernel)]; exact ⟨rfl, rfl⟩))
    (fun os started H enc _ F => by rw [OpenClaim.pre_eq_preRow]; exact lifted os started H enc F)

theorem plain (f : FuncId) (fn : Func) (hf : Tryd.pinned.checked.prog.funcNamed "quillpen/quillpenlaw01.DialectLimits" = some f) (hfn : Tryd.pinned.checked.prog.funcs[f]? = some fn) :
    false = Tryd.pinned.checked.prog.looks [] ∧ ∀ (j : Nat) t, fn.params[j]? = some t → Tryd.pinned.checked.prog.wantsStandIn t = false := by
  obtain rfl : f = 4 := Option.some.inj ((show Tryd.prog.funcNamed "quillpen/quillpenlaw01.DialectLimits" = some 4 by kernel_rfl).symm.trans hf) |>.symm
  obtain rfl : fn = Tryd.f4 := (Option.some.inj (Tryd.func4.symm.trans hfn)).symm
  refine ⟨by kernel_rfl, fun j t ht => ?_⟩
  rw [Tryd.params4] at ht
  have hm := Array.mem_of_getElem? ht
  have hall : (#[37] : Array TypeId).toList.all (fun t => Tryd.prog.wantsStandIn t == false) = true := by kernel_rfl
  exact eq_of_beq (List.all_eq_true.1 hall t (by simpa using hm))

theorem proved : Rows.DialectLimitsCardSaid :=
  Claim7.holds_tied_plain_at .later [] _ _ _ _ said (fun _ h => by cases h) (by kernel_rfl) (fun _ h => by cases h) dialectLimits_row_tie rfl ⟨rfl, rfl⟩ (by kernel_rfl) rfl plain (by kernel_rfl)
end Go.Proofs.YtlcglijkpbojgaaDoor.dialectLimits
