/- Whether any dialect is right, what its end of line is, and its text. -/
import Derived.Test.YtlcglijkpbojgaaDoorDlT
import Derived.Test.YtlcglijkpbojgaaDoorCards
import Derived.Test.YtlcglijkpbojgaaDoorTie
import Derived.SizedLaws
import Derived.ProofKit
import Derived.OpenShut
import Derived.ShutString
import Derived.ChangeOld
import Derived.Below
import Derived.Deep.DeepHandedRow
import Derived.Deep.DeepWitnessRowRef
namespace Go.Proofs.YtlcglijkpbojgaaDoor.dialectChecks
open Go.ChangeShapes Go.WideShapes Go.ChangeAt Go.RowKit
open Go.ChangeMaps (open_string shut_string)
set_option linter.unusedVariables false
set_option linter.unusedSimpArgs false

set_option maxHeartbeats 4000000 in
set_option maxRecDepth 100000 in
theorem walk1 (d q : Nat) (e : Int) (w : World) (hd : d < 256) (hq : q < 256) (hT : Words w) :
    Calls Tryd.prog 3 #[.agg #[.int .u8 d, .int .u8 q, .int .i64 e]] w fun r w' => r = .returned (.bool true) ∧ Below w.heap.size w w' := by
  refine cps fun R HR => ?_
  have hx := Box.new w 23 #[.int .u8 d, .int .u8 q, .int .i64 e]
  have b0 : Below w.heap.size w (w.alloc (Obj.cells #[.int .u8 d, .int .u8 q, .int .i64 e] 23)) := (Below.refl w.heap.size w).alloc (Nat.le_refl _) _
  go_enter Tryd.func3, Tryd.ntmps3
  go_wp2_with fail
  refine (text_any d q e _ hd hq (hT.below b0)).mono ?_
  rintro r w1 ⟨rfl, b1⟩
  have hx1 := hx.below b1 (by simp)
  have b01 := b0.trans (b1.mono b0.size)
  have c0 : w1.cell? ⟨w.heap.size, 0, none⟩ = some (.int .u8 d) := hx1.cell 0
  have c1 : w1.cell? ⟨w.heap.size, 1, none⟩ = some (.int .u8 q) := hx1.cell 1
  have c2 : w1.cell? ⟨w.heap.size, 2, none⟩ = some (.int .i64 e) := hx1.cell 2
  obtain ⟨tx, htx⟩ : ∃ tx, tx = textD d q e := ⟨_, rfl⟩
  obtain ⟨ck, hck⟩ : ∃ ck, ck = checkD d q e := ⟨_, rfl⟩
  rw [← htx, ← hck]
  have HTX := Lib.hid htx; have HCK := Lib.hid hck
  clear htx hck
  go_wp2_with fail
  refine (ref_any d q e _ hd hq).mono ?_
  rintro r w2 ⟨rfl, b2⟩
  have b02 := b01.trans (b2.mono b01.size)
  have hx2 := hx1.below b2 (hx1.lt)
  clear c0 c1 c2
  have c0 : w2.cell? ⟨w.heap.size, 0, none⟩ = some (.int .u8 d) := hx2.cell 0
  have c1 : w2.cell? ⟨w.heap.size, 1, none⟩ = some (.int .u8 q) := hx2.cell 1
  have c2 : w2.cell? ⟨w.heap.size, 2, none⟩ = some (.int .i64 e) := hx2.cell 2
  go_wp2_with fail
  refine (right_any d q e _ hd hq).mono ?_
  rintro r w3 ⟨rfl, b3⟩
  have b03 := b02.trans (b3.mono b02.size)
  have hx3 := hx2.below b3 (hx2.lt)
  clear c0 c1 c2
  have c0 : w3.cell? ⟨w.heap.size, 0, none⟩ = some (.int .u8 d) := hx3.cell 0
  have c1 : w3.cell? ⟨w.heap.size, 1, none⟩ = some (.int .u8 q) := hx3.cell 1
  have c2 : w3.cell? ⟨w.heap.size, 2, none⟩ = some (.int .i64 e) := hx3.cell 2
  clear hx hx1 hx2 b0 b1 b2 b3 b01 b02
  cases hr : rightD d q e
  · have ht : tx = ⟨#[]⟩ := by rw [HTX.out]; simp [textD, hr, emptyB]
    have hk : ck = 1 := by rw [HCK.out]; simp [checkD, hr]
    have K1 := Lib.hid (show checkD d q e = 1 by simp [checkD, hr])
    have K2 := Lib.hid (show endD d q e = ⟨#[]⟩ by simp [endD, hr, emptyB])
    clear hr HTX HCK
    subst ht
    subst hk
    go_wp2_with fail
    refine (check_any d q e _).mono ?_
    rintro r w4 ⟨rfl, b4⟩
    have b04 := b03.trans (b4.mono b03.size)
    have hx4 := hx3.below b4 (hx3.lt)
    clear c0 c1 c2
    have c0 : w4.cell? ⟨w.heap.size, 0, none⟩ = some (.int .u8 d) := hx4.cell 0
    have c1 : w4.cell? ⟨w.heap.size, 1, none⟩ = some (.int .u8 q) := hx4.cell 1
    have c2 : w4.cell? ⟨w.heap.size, 2, none⟩ = some (.int .i64 e) := hx4.cell 2
    rw [K1.out]
    go_wp2_with fail
    refine (end_any d q e _).mono ?_
    rintro r w5 ⟨rfl, b5⟩
    have b05 := b04.trans (b5.mono b04.size)
    rw [K2.out]
    go_wp2_with fail
    refine (dlAwake_any _ (hT.below b05)).mono ?_
    rintro r w6 ⟨rfl, b6⟩
    go_wp2
    exact HR.out _ _ ⟨rfl, b05.trans (b6.mono b05.size)⟩
  · have he : 1 ≤ e ∧ e ≤ 3 := by simp [rightD] at hr; omega
    obtain ⟨n, rfl⟩ := Int.eq_ofNat_of_zero_le (a := e) (by omega)
    have hn : 1 ≤ n ∧ n ≤ 3 := by omega
    have ht : pairB d ++ spB ++ pairB q ++ spB ++ wordB n = tx := by rw [HTX.out]; simp [textD, hr]
    have hk : ck = 0 := by rw [HCK.out]; simp [checkD, hr]
    have K1 : checkD d q n = 0 := by simp [checkD, hr]
    have K2 : endD d q n = if (n : Int) = 2 then crlfB else lfB := by simp [endD, hr]
    obtain ⟨E, hE⟩ : ∃ E, E = endD d q n := ⟨_, rfl⟩
    rw [← hE] at K2
    subst hk
    have gC : ∀ dn os, Calls Tryd.prog 12 #[.agg #[.int .u8 d, .int .u8 q, .int .i64 n]] (Go.Sort.grow (redrawn w3 dn) os) fun e w'' => e = .returned (.int .i64 0) ∧ ∃ p : Regrown, w'' = Go.Sort.grow (redrawn w3 p.d) p.os := fun dn os => Calls.regrown_of (by have := check_any d q n (Go.Sort.grow (redrawn w3 dn) os); rw [K1] at this; exact this)
    have gE : ∀ dn os, Calls Tryd.prog 13 #[.agg #[.int .u8 d, .int .u8 q, .int .i64 n]] (Go.Sort.grow (redrawn w3 dn) os) fun e w'' => e = .returned (.string E) ∧ ∃ p : Regrown, w'' = Go.Sort.grow (redrawn w3 p.d) p.os := fun dn os => Calls.regrown_of (by rw [hE]; exact end_any d q n _)
    have gR : ∀ dn os, Calls Tryd.prog 11 #[.agg #[.int .u8 d, .int .u8 q, .int .i64 n]] (Go.Sort.grow (redrawn w3 dn) os) fun e w'' => e = .returned (.agg #[.int .i64 d, .int .i64 q, .int .i64 n]) ∧ ∃ p : Regrown, w'' = Go.Sort.grow (redrawn w3 p.d) p.os := fun dn os => Calls.regrown_of (ref_any d q n _ hd hq)
    have gF : ∀ dn os, Calls Tryd.prog 15 #[.agg #[.int .i64 d, .int .i64 q, .int .i64 n]] (Go.Sort.grow (redrawn w3 dn) os) fun e w'' => e = .returned (.string E) ∧ ∃ p : Regrown, w'' = Go.Sort.grow (redrawn w3 p.d) p.os := fun dn os => Calls.regrown_of (by rw [K2]; exact refEnd_any d q n _)
    have gX : ∀ dn os, Calls Tryd.prog 16 #[.agg #[.int .i64 d, .int .i64 q, .int .i64 n]] (Go.Sort.grow (redrawn w3 dn) os) fun e w'' => e = .returned (.string tx) ∧ ∃ p : Regrown, w'' = Go.Sort.grow (redrawn w3 p.d) p.os := fun dn os => Calls.regrown_of (by rw [← ht]; exact refText_any d q n _ hd hq hn)
    have gA : ∀ dn os, Calls Tryd.prog 14 #[] (Go.Sort.grow (redrawn w3 dn) os) fun e w'' => e = .returned (.bool true) ∧ ∃ p : Regrown, w'' = Go.Sort.grow (redrawn w3 p.d) p.os := fun dn os => Calls.regrown_of (dlAwake_any _ ((hT.below b03).below (below_regrown w3 dn os)))
    have k0 := cell_regrown c0
    have k1 := cell_regrown c1
    have k2 := cell_regrown c2
    clear hr ht K1 K2 HTX HCK hE he
    go_wp2
    refine wp_region_quiet_below (by kernel_rfl) (by kernel_rfl) ?_
    repeat (go_big_quiet_step (first
      | (go_at_call 12; with_reducible exact gC _ _)
      | (go_at_call 13; with_reducible exact gE _ _)
      | (go_at_call 11; with_reducible exact gR _ _)
      | (go_at_call 15; with_reducible exact gF _ _)
      | (go_at_call 16; with_reducible exact gX _ _)
      | (go_at_call 14; with_reducible exact gA _ _)))
    refine wpQuiet_nil ?_
    intro w9 hw9
    obtain ⟨p, rfl⟩ := hw9
    have bel2 : Below w.heap.size w (Go.Sort.grow (redrawn w3 p.d) p.os) := b03.trans ((below_regrown w3 p.d p.os).mono b03.size)
    obtain ⟨w4, hw4⟩ : ∃ w4, w4 = Go.Sort.grow (redrawn w3 p.d) p.os := ⟨_, rfl⟩
    rw [← hw4] at bel2 ⊢
    clear hw4
    go_wp2
    exact HR.out _ _ ⟨rfl, bel2⟩
theorem walk (v : Value) (w : World) (hT : Words w) (hv : ∃ (d q : Nat) (e : Int), v = .agg #[.int .u8 d, .int .u8 q, .int .i64 e] ∧ d < 256 ∧ q < 256) :
    Calls Tryd.prog 3 #[v] w fun r w' => r = .returned (.bool true) ∧ Below w.heap.size w w' := by
  obtain ⟨d, q, e, rfl, hd, hq⟩ := hv
  exact walk1 d q e w hd hq hT

theorem own : ownKnob Tryd.prog.godebug = none := by kernel_rfl
theorem laidOut : laidOutB Tryd.prog = true := by kernel_rfl
theorem reads (os : Os) {H : Type} (enc : TypeId × Value → H) : ∃ places, DataW.whole enc Tryd.prog ((wordsWorld os).forCall (fun _ _ => 0) ⟨#[], #[.agg #[.int .u8 0, .int .u8 0, .int .i64 0]], []⟩).memory Tryd.f3.params.toList Rows.dialectChecksSpec.vars false #[.agg #[.int .u8 0, .int .u8 0, .int .i64 0]].toList 8 = some ([.agg [.lit (.int .u8 0), .lit (.int .u8 0), .lit (.int .i64 0)]], [], places) :=
  ⟨[], by kernel_rfl⟩

theorem contract (H : Type) (enc : TypeId × Value → H) (W : World) (base : Nat) (args : Array Value) (ds gs : List (DataW H)) (before : List MemPlace)
    (hval0 : ∀ (j : Nat) t v, Tryd.f3.params[j]? = some t → args[j]? = some v → Value.okWide Tryd.prog W .any base t v)
    (hW : DataW.Whole enc Tryd.prog Tryd.f3.params.toList Rows.dialectChecksSpec.vars false W args.toList ds gs before)
    (hsz0 : (DataW.weightsEach Tryd.prog (Tryd.f3.params.toList ++ Rows.dialectChecksSpec.plain.varTypes Tryd.prog) (ds ++ gs)).all (· ≤ reachBytes) = true)
    (hL : laidMetH Tryd.prog Rows.dialectChecksRow.laid W) :
    Calls Tryd.prog 3 args W fun e W' => ∃ v, e = .returned v ∧ Rows.dialectChecksSpec.post enc Tryd.prog Tryd.f3 false true false false W args v W' := by
  have hval : ∀ (j : Nat) t v, Tryd.f3.params[j]? = some t → args[j]? = some v → Value.okWide Tryd.prog W .any base t v := hval0
  have hW' := hW
  obtain ⟨p, q, hA0, hV, rfl, hfz, hnd⟩ := hW
  have hA : DataW.TrodAll enc Tryd.prog W 0 (fun _ => true) true Tryd.f3.params.toList args.toList ds p := hA0
  have hsz : (DataW.weightsEach Tryd.prog (Tryd.f3.params.toList ++ Rows.dialectChecksSpec.plain.varTypes Tryd.prog) (ds ++ gs)).all (· ≤ reachBytes) = true := hsz0
  rw [Tryd.params3] at hA hval hsz
  obtain ⟨v0, vs0, d0, ds0, p0, q0, hargs, rfl, rfl, h0, r0⟩ := trodAll_cons hA
  obtain ⟨rfl, rfl, rfl⟩ := trodAll_nil r0
  obtain rfl : args = #[v0] := by cases args; simp_all
  obtain ⟨rfl, rfl⟩ := trodVars_none hV
  have k0 := h0
  have lt0 : ∀ x ∈ p0, x.block < W.heap.size := by obtain ⟨m, hm⟩ := k0; exact DataW.trod_lt m _ _ _ hm
  have w0 := open_dialect (hval 0 23 v0 rfl rfl) h0 (Sized.arg (j := 0) hsz rfl rfl)
  clear hA0 hval0
  refine (walk v0 W (words_row hL) w0).mono fun e W' ⟨he, bel⟩ => ?_
  subst he
  exact ⟨_, rfl, _, _, _, [], _, [], hW', trodAll_mk1 (shut_bool Tryd.underlying4 _), (trodAll_cons_mk (Below.trod laidOut (by kernel_rfl) (of_decide_eq_true (by kernel_rfl)) k0 bel lt0) trodAll_mk0), rfl, bel.frame _, fun h => by cases h⟩

set_option maxRecDepth 100000 in
theorem lifted (os : Os) (started : os.Started) (H : Type) (enc : TypeId × Value → H) (F : Stop.Interp) :
    ReturnsInHanded {} Tryd.checked os 3 .any ((OpenSpec.ofChange Rows.dialectChecksSpec).preRow enc Tryd.prog Tryd.f3 Rows.dialectChecksRow.domain false Rows.dialectChecksRow.laid) (((OpenSpec.ofChange Rows.dialectChecksSpec).at F).post enc Tryd.prog Tryd.f3 false true false false) := by
  obtain ⟨places, hx⟩ := reads os enc
  refine returnsInHanded_of_row (C := Tryd.checked) (s := OpenSpec.ofChange Rows.dialectChecksSpec) own started (by kernel_rfl) Tryd.func3
    (witness_row_atRef (enc := enc) (C := Tryd.checked) false (wordsWorld os) #[.agg #[.int .u8 0, .int .u8 0, .int .i64 0]] rfl (by kernel_rfl) (by kernel_rfl) (by kernel_rfl)
      (OpenSpec.preRow_of_cond 8 hx (by kernel_rfl) (fun k hk => by cases hk) (by kernel_rfl) (words_met os _))) ?_
  intro W base args ds gs before hval hW _ _ hsz hL _ _
  exact contract H enc W base args ds gs before hval hW hsz hL

theorem said : Rows.DialectChecksSaid :=
  OpenClaim.holds_of_cond 3 Tryd.f3 rfl rfl rfl rfl rfl rfl rfl ⟨rfl, rfl, rfl, rfl, rfl⟩ rfl rfl rfl rfl rfl (by kernel_rfl) Tryd.func3 (by kernel_rfl)
    (of_decide_eq_true (by kernel_rfl)) (by unfold Func.isWrapper; first | (rw [if_pos (by decide +kernel)]; kernel_rfl) | (rw [if_neg (by decide +kernel)]; exact ⟨rfl, rfl⟩))
    (fun os started H enc _ F => by rw [OpenClaim.pre_eq_preRow]; exact lifted os started H enc F)

theorem plain (f : FuncId) (fn : Func) (hf : Tryd.pinned.checked.prog.funcNamed "quillpen/quillpenlaw01.DialectChecks" = some f) (hfn : Tryd.pinned.checked.prog.funcs[f]? = some fn) :
    false = Tryd.pinned.checked.prog.looks [] ∧ ∀ (j : Nat) t, fn.params[j]? = some t → Tryd.pinned.checked.prog.wantsStandIn t = false := by
  obtain rfl : f = 3 := Option.some.inj ((show Tryd.prog.funcNamed "quillpen/quillpenlaw01.DialectChecks" = some 3 by kernel_rfl).symm.trans hf) |>.symm
  obtain rfl : fn = Tryd.f3 := (Option.some.inj (Tryd.func3.symm.trans hfn)).symm
  refine ⟨by kernel_rfl, fun j t ht => ?_⟩
  rw [Tryd.params3] at ht
  have hm := Array.mem_of_getElem? ht
  have hall : (#[23] : Array TypeId).toList.all (fun t => Tryd.prog.wantsStandIn t == false) = true := by kernel_rfl
  exact eq_of_beq (List.all_eq_true.1 hall t (by simpa using hm))

theorem proved : Rows.DialectChecksCardSaid :=
  Claim7.holds_tied_plain_at .later [] _ _ _ _ said (fun _ h => by cases h) (by kernel_rfl) (fun _ h => by cases h) dialectChecks_row_tie rfl ⟨rfl, rfl⟩ (by kernel_rfl) rfl plain (by kernel_rfl)
end Go.Proofs.YtlcglijkpbojgaaDoor.dialectChecks
