/- Why any field must be quoted. -/
import Derived.Test.YtgiemhooeoakmaaNeedD
import Derived.Test.YtgiemhooeoakmaaDlO
import Derived.SizedLaws
import Derived.ProofKit
import Derived.OpenShut
import Derived.ShutString
import Derived.ChangeOld
import Derived.Below
namespace Go.Proofs.Ytgiemhooeoakmaa.needTells
open Go.ChangeShapes Go.WideShapes Go.ChangeAt Go.RowKit
open Go.ChangeMaps (open_string shut_string)
set_option linter.unusedVariables false
set_option linter.unusedSimpArgs false

theorem and1 (k : Nat) (hk : k < 256) : True := trivial
set_option maxHeartbeats 2000000 in
theorem walk (v : Value) (f : ByteArray) (hf : f.size ≤ 140737488351232) (z : Int) (hz : (Lit.int .u8 z).wf = true) (W : World) (h0 : ∃ (d q : Nat) (e : Int), v = .agg #[.int .u8 d, .int .u8 q, .int .i64 e] ∧ d < 256 ∧ q < 256) :
    Calls Try.prog 3 #[v, .string f, .int .u8 z] W fun e w' => e = .returned (.bool true) ∧ Below W.heap.size W w' := by
  refine cps fun R HR => ?_
  obtain ⟨d, q, e, rfl, hd, hq⟩ := h0
  obtain ⟨w0, hw0⟩ : ∃ w0, w0 = W.alloc (.cells #[.int .u8 d, .int .u8 q, .int .i64 e] 23) := ⟨_, rfl⟩
  have bw0 : Below W.heap.size W w0 := by rw [hw0]; exact (Below.refl _ _).alloc (Nat.le_refl _) _
  have X := Box.new W 23 #[.int .u8 d, .int .u8 q, .int .i64 e]
  rw [← hw0] at X
  have HX := Lib.hid X; have HW0 := Lib.hid hw0; have HB0 := Lib.hid bw0; have HD := Lib.hid hd; have HQ := Lib.hid hq; have HZ := Lib.hid hz
  have cells : ∀ w' : World, Below w0.heap.size w0 w' → w'.cell? ⟨W.heap.size, 0, none⟩ = some (.int .u8 d) ∧ w'.cell? ⟨W.heap.size, 1, none⟩ = some (.int .u8 q) ∧ w'.cell? ⟨W.heap.size, 2, none⟩ = some (.int .i64 e) := fun w' hb => by
    have X2 := X.below hb X.lt
    exact ⟨X2.cell 0, X2.cell 1, X2.cell 2⟩
  have CELLS := Lib.hid cells
  clear X hw0 bw0 hd hq hz cells
  obtain ⟨c0, c1, c2⟩ := CELLS.out w0 (Below.refl _ _)
  go_enter Try.func3, Try.ntmps3
  by_cases h200 : f.size ≤ 200
  · have d2 : decide ((200 : Int) < f.size) = false := decide_eq_false (by omega)
    go_wp2_with fail
    rw [← HW0.out]
    refine (ref_any d q e _ HD.out HQ.out).mono ?_
    rintro e' w1 ⟨rfl, b1⟩
    obtain ⟨c3, c4, c5⟩ := CELLS.out w1 b1
    go_wp2_with fail
    refine (right_any d q e _ HD.out HQ.out).mono ?_
    rintro e' w2 ⟨rfl, b2⟩
    have b02 := b1.trans (b2.mono b1.size)
    have bw2 := HB0.out.trans (b02.mono HB0.out.size)
    obtain ⟨c6, c7, c8⟩ := CELLS.out w2 b02
    clear b1 b2 c0 c1 c2 c3 c4 c5
    obtain ⟨rr, hrr⟩ : ∃ rr, rr = rightD d q e := ⟨_, rfl⟩
    rw [← hrr]
    clear hrr
    cases rr
    · go_wp2_with fail
      refine (awake08_any _).mono ?_
      rintro e w9 ⟨rfl, b9⟩
      go_wp2
      exact HR.out _ _ ⟨rfl, bw2.trans (b9.mono bw2.size)⟩
    · obtain ⟨al, hal⟩ : ∃ al, al = (bits BinOp.and IntKind.u8 z 1 == 1) := ⟨_, rfl⟩
      obtain ⟨fi, hfi⟩ : ∃ fi, fi = (bits BinOp.and IntKind.u8 z 2 == 2) := ⟨_, rfl⟩
      go_wp2_with fail
      rw [← hal, ← hfi]
      clear hal hfi
      refine (ref_any d q e _ HD.out HQ.out).mono ?_
      rintro e' w3 ⟨rfl, b3⟩
      have b03 := b02.trans (b3.mono b02.size)
      clear c6 c7 c8
      go_wp2_with fail
      refine (one_any al _).mono ?_
      rintro e' w4 ⟨rfl, rfl⟩
      go_wp2_with fail
      refine (one_any fi _).mono ?_
      rintro e' w4 ⟨rfl, rfl⟩
      go_wp2_with fail
      refine (refWhy_any d q e f al fi _ (by omega) HD.out HQ.out).mono ?_
      rintro e' w5 ⟨rfl, b5⟩
      have b05 := b03.trans (b5.mono b03.size)
      obtain ⟨c6, c7, c8⟩ := CELLS.out w5 b05
      clear b3 b5 b02 b03
      obtain ⟨y, hy⟩ : ∃ y, y = whyN d q f al fi := ⟨_, rfl⟩
      rw [← hy]
      have HY := Lib.hid hy
      clear hy
      have dyy : ((y : Int) == y) = true := beq_self_eq_true _
      go_wp2_with fail
      refine (why_any d q e f al fi _ (by omega)).mono ?_
      rintro e' w6 ⟨rfl, b6⟩
      rw [← HY.out]
      have b06 := b05.trans (b6.mono b05.size)
      clear c6 c7 c8
      obtain ⟨c6, c7, c8⟩ := CELLS.out w6 b06
      go_wp2_with fail
      refine (need_any d q e f al fi _ (by omega)).mono ?_
      rintro e' w7 ⟨rfl, b7⟩
      rw [← HY.out]
      have b07 := b06.trans (b7.mono b06.size)
      have bw7 := HB0.out.trans (b07.mono HB0.out.size)
      clear c6 c7 c8 b6 b7 b06
      obtain ⟨t, ht⟩ : ∃ t, t = decide (y ≠ 0) := ⟨_, rfl⟩
      have dny : ((y : Int) != 0) = t := by rw [ht, Bool.eq_iff_iff, bne_iff_ne, decide_eq_true_iff]; omega
      rw [← ht]
      clear ht
      have dtt : (t == t) = true := beq_self_eq_true _
      go_wp2_with fail
      refine (awake08_any _).mono ?_
      rintro e w9 ⟨rfl, b9⟩
      go_wp2
      exact HR.out _ _ ⟨rfl, bw7.trans (b9.mono bw7.size)⟩
  · have d2 : decide ((200 : Int) < f.size) = true := decide_eq_true (by omega)
    go_wp2_with fail
    rw [← HW0.out]
    refine (awake08_any _).mono ?_
    rintro e w9 ⟨rfl, b9⟩
    go_wp2
    exact HR.out _ _ ⟨rfl, HB0.out.trans (b9.mono HB0.out.size)⟩

theorem own : ownKnob Try.prog.godebug = none := by kernel_rfl
theorem laidOut : laidOutB Try.prog = true := by kernel_rfl

set_option maxRecDepth 100000 in
theorem lifted (os : Os) (started : os.Started) (H : Type) (enc : TypeId × Value → H) :
    ReturnsInHanded {} Try.checked os 3 .any (Rows.needTellsSpec.pre6 enc Try.prog Try.f3 Rows.needTellsRow.domain false) (Rows.needTellsSpec.post enc Try.prog Try.f3 false true false false) := by
  refine returnsInHanded_of_change_sized (C := Try.checked) own started (by kernel_rfl) Try.func3
    (ChangeSpec.witness6 (enc := enc) (C := Try.checked) false ⟨#[], #[.agg #[.int .u8 0, .int .u8 0, .int .i64 0], .string ByteArray.empty, .int .u8 0], []⟩ 8 (by kernel_rfl) (by kernel_rfl) (by kernel_rfl) (by kernel_rfl)) ?_
  intro W base args ds gs before hval0 hW hcnd hsz0 _
  have hval : ∀ (j : Nat) t v, Try.f3.params[j]? = some t → args[j]? = some v → Value.okWide Try.prog W .any base t v := hval0
  have hW' := hW
  obtain ⟨p, q, hA0, hV, rfl, hfz, hnd⟩ := hW
  have hA : DataW.TrodAll enc Try.prog W 0 (fun _ => true) true Try.f3.params.toList args.toList ds p := hA0
  have hsz : (DataW.weightsEach Try.prog (Try.f3.params.toList ++ Rows.needTellsSpec.plain.varTypes Try.prog) (ds ++ gs)).all (· ≤ reachBytes) = true := hsz0
  rw [Try.params3] at hA hval hsz
  obtain ⟨v0, vs0, d0, ds0, p0, q0, hargs, rfl, rfl, h0, r0⟩ := trodAll_cons hA
  obtain ⟨v1, vs1, d1, ds1, p1, q1, rfl, rfl, rfl, h1, r1⟩ := trodAll_cons r0
  obtain ⟨v2, vs2, d2, ds2, p2, q2, rfl, rfl, rfl, h2, r2⟩ := trodAll_cons r1
  obtain ⟨rfl, rfl, rfl⟩ := trodAll_nil r2
  obtain rfl : args = #[v0, v1, v2] := by cases args; simp_all
  obtain ⟨rfl, rfl⟩ := trodVars_none hV
  have k0 := h0
  have lt0 : ∀ x ∈ p0, x.block < W.heap.size := by obtain ⟨m, hm⟩ := k0; exact DataW.trod_lt m _ _ _ hm
  have w0 := open_dialect (hval 0 23 v0 rfl rfl) h0 (Sized.arg (j := 0) hsz rfl rfl)
  have k1 := h1
  have lt1 : ∀ x ∈ p1, x.block < W.heap.size := by obtain ⟨m, hm⟩ := k1; exact DataW.trod_lt m _ _ _ hm
  obtain ⟨a1, rfl, rfl, _, _⟩ := open_string Try.underlying9 (hval 1 9 v1 rfl rfl) h1
  have w1 : a1.size ≤ 140737488351232 := (Sized.arg (j := 1) hsz rfl rfl).str
  have k2 := h2
  have lt2 : ∀ x ∈ p2, x.block < W.heap.size := by obtain ⟨m, hm⟩ := k2; exact DataW.trod_lt m _ _ _ hm
  obtain ⟨a2, rfl, _, _, w2⟩ := open_int Try.underlying5 (hval 2 5 v2 rfl rfl) h2
  clear hA0 hval0
  refine (walk v0 a1 w1 a2 w2 W w0).mono fun e W' ⟨he, bel⟩ => ?_
  subst he
  exact ⟨_, rfl, _, _, _, [], _, [], hW', trodAll_mk1 (shut_bool Try.underlying4 _), (trodAll_cons_mk (Below.trod laidOut (by kernel_rfl) (of_decide_eq_true (by kernel_rfl)) k0 bel lt0) (trodAll_cons_mk (Below.trod laidOut (by kernel_rfl) (of_decide_eq_true (by kernel_rfl)) k1 bel lt1) (trodAll_cons_mk (Below.trod laidOut (by kernel_rfl) (of_decide_eq_true (by kernel_rfl)) k2 bel lt2) trodAll_mk0))), rfl, bel.frame _, fun h => by cases h⟩

theorem over : Rows.needTellsRow.holds Try.pinned (OpenSpec.ofChange Rows.needTellsSpec) :=
  OpenClaim.holds_of_wide 3 Try.f3 rfl rfl rfl rfl rfl rfl rfl ⟨rfl, rfl, rfl, rfl, rfl⟩ rfl rfl rfl rfl rfl (by kernel_rfl) Try.func3 (by kernel_rfl)
    (of_decide_eq_true (by kernel_rfl)) (by unfold Func.isWrapper; first | (rw [if_pos (by decide +kernel)]; kernel_rfl) | (rw [if_neg (by decide +kernel)]; exact ⟨rfl, rfl⟩))
    (fun os started H enc _ => lifted os started H enc)

theorem proved : Rows.NeedTellsSaid := over
end Go.Proofs.Ytgiemhooeoakmaa.needTells
