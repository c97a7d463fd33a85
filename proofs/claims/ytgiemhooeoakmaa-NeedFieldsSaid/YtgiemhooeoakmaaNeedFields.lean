/- Which fields of a record must be quoted. -/
import Derived.Test.YtgiemhooeoakmaaNeedD
import Derived.Test.YtgiemhooeoakmaaDlO
import Derived.SizedLaws
import Derived.ProofKit
import Derived.OpenShut
import Derived.ShutString
import Derived.ChangeOld
import Derived.Below
namespace Go.Proofs.Ytgiemhooeoakmaa.needFields
open Go.ChangeShapes Go.WideShapes Go.ChangeAt Go.RowKit
open Go.ChangeMaps (open_string shut_string)
set_option linter.unusedVariables false
set_option linter.unusedSimpArgs false

set_option maxRecDepth 100000 in
set_option maxHeartbeats 4000000 in
theorem walk (v u : Value) (fi : Bool) (W : World) (h0 : ∃ (d q : Nat) (e : Int), v = .agg #[.int .u8 d, .int .u8 q, .int .i64 e] ∧ d < 256 ∧ q < 256) (h1 : ∃ l, RdS W W.heap.size u l ∧ ∀ s ∈ l, s.size ≤ 140737488351232) :
    Calls Try.prog 4 #[v, u, .bool fi] W fun e w' => e = .returned (.bool true) ∧ Below W.heap.size W w' := by
  refine cps fun R HR => ?_
  obtain ⟨d, q, e, rfl, hd, hq⟩ := h0
  obtain ⟨l, hr, hbig⟩ := h1
  have hr0 := hr
  obtain ⟨A, c, rfl, -⟩ := hr.is
  have hf := hr0.few
  clear hr
  obtain ⟨w0, hw0⟩ : ∃ w0, w0 = W.alloc (.cells #[.int .u8 d, .int .u8 q, .int .i64 e] 23) := ⟨_, rfl⟩
  have bw0 : Below W.heap.size W w0 := by rw [hw0]; exact (Below.refl _ _).alloc (Nat.le_refl _) _
  have X := Box.new W 23 #[.int .u8 d, .int .u8 q, .int .i64 e]
  rw [← hw0] at X
  have HX := Lib.hid X; have HW0 := Lib.hid hw0; have HB0 := Lib.hid bw0; have HD := Lib.hid hd; have HQ := Lib.hid hq; have HBIG := Lib.hid hbig
  have cells : ∀ w' : World, Below w0.heap.size w0 w' → w'.cell? ⟨W.heap.size, 0, none⟩ = some (.int .u8 d) ∧ w'.cell? ⟨W.heap.size, 1, none⟩ = some (.int .u8 q) ∧ w'.cell? ⟨W.heap.size, 2, none⟩ = some (.int .i64 e) := fun w' hb => by
    have X2 := X.below hb X.lt
    exact ⟨X2.cell 0, X2.cell 1, X2.cell 2⟩
  have CELLS := Lib.hid cells
  clear X hw0 bw0 hd hq cells hbig
  obtain ⟨c0, c1, c2⟩ := CELLS.out w0 (Below.refl _ _)
  go_enter Try.func4, Try.ntmps4
  go_wp2_with fail
  rw [← HW0.out]
  refine (few8_any _ l _ (hr0.next HB0.out) HBIG.out).mono ?_
  rintro e' w1 ⟨⟨g, rfl, hg⟩, rfl⟩
  cases g
  · go_wp2_with fail
    refine (awake08_any _).mono ?_
    rintro e w9 ⟨rfl, b9⟩
    go_wp2
    exact HR.out _ _ ⟨rfl, HB0.out.trans (b9.mono HB0.out.size)⟩
  · obtain ⟨h20, h400⟩ := hg rfl
    clear hg
    have hall : ∀ s ∈ l, s.size ≤ 100000 := fun s hs => by
      have : s.size ≤ bytesR l := le_sum (List.mem_map_of_mem hs)
      omega
    have HALL := Lib.hid hall
    clear hall
    go_wp2_with fail
    refine (ref_any d q e _ HD.out HQ.out).mono ?_
    rintro e' w1 ⟨rfl, b1⟩
    go_wp2_with fail
    refine (right_any d q e _ HD.out HQ.out).mono ?_
    rintro e' w2 ⟨rfl, b2⟩
    have b02 := b1.trans (b2.mono b1.size)
    have bw2 := HB0.out.trans (b02.mono HB0.out.size)
    clear b1 b2 c0 c1 c2
    obtain ⟨c0, c1, c2⟩ := CELLS.out w2 b02
    obtain ⟨rr, hrr⟩ : ∃ rr, rr = rightD d q e := ⟨_, rfl⟩
    rw [← hrr]
    clear hrr
    cases rr
    · go_wp2_with fail
      refine (awake08_any _).mono ?_
      rintro e w9 ⟨rfl, b9⟩
      go_wp2
      exact HR.out _ _ ⟨rfl, bw2.trans (b9.mono bw2.size)⟩
    · go_wp2_with fail
      refine (fields_any d q e _ l fi _ (hr0.next bw2) (by omega) HALL.out).mono ?_
      rintro e' w3 ⟨o, rfl, ho, b3⟩
      have b03 := b02.trans (b3.mono b02.size)
      have bw3 := HB0.out.trans (b03.mono HB0.out.size)
      have hro := RdBl.of_own ho
      have hfl := fldN_len d q fi l l.length
      obtain ⟨oA, oc, ho1, ho2⟩ := hro.is
      rw [hfl] at ho1
      subst ho1
      have HRO := Lib.hid hro; have HFL := Lib.hid hfl
      clear hro hfl ho2 ho b02 bw2 b3 c0 c1 c2
      have dll : ((l.length : Int) != l.length) = false := by simp
      obtain ⟨al, hal⟩ : ∃ al, al = decide (l.length = 1) := ⟨_, rfl⟩
      have dal : ((l.length : Int) == 1) = al := by rw [hal, Bool.eq_iff_iff, beq_iff_eq, decide_eq_true_iff]; omega
      have HAL := Lib.hid hal
      clear hal
      go_wp2
      go_loopw [31] (fun i wr => ∃ k : Nat, k ≤ l.length ∧ i = .int .i64 k ∧ Below w3.heap.size w3 wr) (fun i _ => l.length - (intOf i).toNat)
      case atStart => exact ⟨0, Nat.zero_le _, rfl, Below.refl _ _⟩
      case round =>
        obtain ⟨k, hk, rfl, hBr⟩ := hrel
        have b0r := b03.trans (hBr.mono b03.size)
        have bwr := HB0.out.trans (b0r.mono HB0.out.size)
        by_cases hlt : k < l.length
        · obtain ⟨p, c4, hv, hc⟩ := (hr0.below bwr).at hlt
          injection hv with hA _ hcc
          subst hA
          subst hcc
          obtain ⟨p2, c5, hv2, hc2⟩ := (HRO.out.next hBr).at (k := k) (by rw [HFL.out]; exact hlt)
          injection hv2 with hA2 hl2 hcc2
          clear hl2
          subst hA2
          subst hcc2
          have hfa : (fldN d q fi l l.length)[k]'(by rw [HFL.out]; exact hlt) = fldA d q fi l k := by unfold fldN; simp
          rw [hfa] at hc2
          unfold fldA at hc2
          rw [List.getD_eq_getElem?_getD, List.getElem?_eq_getElem hlt, Option.getD_some, ← HAL.out] at hc2
          have hxs := HALL.out _ (List.getElem_mem hlt)
          obtain ⟨x, hx⟩ : ∃ x, x = l[k] := ⟨_, rfl⟩
          rw [← hx] at hc hc2 hxs
          clear hx hfa
          have dk : decide ((k : Int) < l.length) = true := decide_eq_true (by omega)
          obtain ⟨tk, htk⟩ : ∃ tk, tk = decide (k = 0) := ⟨_, rfl⟩
          have dtk : ((k : Int) == 0) = tk := by rw [htk, Bool.eq_iff_iff, beq_iff_eq, decide_eq_true_iff]; omega
          rw [← htk] at hc2
          obtain ⟨ft, hft⟩ : ∃ ft, ft = (fi && tk) := ⟨_, rfl⟩
          rw [← hft] at hc2
          have HFT := Lib.hid hft
          clear htk hft
          obtain ⟨y, hy⟩ : ∃ y, y = whyN d q x al ft := ⟨_, rfl⟩
          rw [← hy] at hc2
          obtain ⟨t, ht⟩ : ∃ t, t = decide (y ≠ 0) := ⟨_, rfl⟩
          have dny : ((y : Int) != 0) = t := by rw [ht, Bool.eq_iff_iff, bne_iff_ne, decide_eq_true_iff]; omega
          rw [← ht] at hc2
          have dtt : (t != t) = false := by simp
          obtain ⟨c0, c1, c2⟩ := CELLS.out wr b0r
          have k0 := cell_regrown c0
          have k1 := cell_regrown c1
          have k2 := cell_regrown c2
          have k3 := cell_regrown hc2
          have gR : ∀ dn os, Calls Try.prog 6 #[.agg #[.int .u8 d, .int .u8 q, .int .i64 e]] (Go.Sort.grow (redrawn wr dn) os) fun e' w'' => e' = .returned (.agg #[.int .i64 d, .int .i64 q, .int .i64 e]) ∧ ∃ p : Regrown, w'' = Go.Sort.grow (redrawn wr p.d) p.os := fun dn os => Calls.regrown_of (ref_any d q e _ HD.out HQ.out)
          have gO : ∀ b dn os, Calls Try.prog 9 #[.bool b] (Go.Sort.grow (redrawn wr dn) os) fun e' w'' => e' = .returned (.int .i64 (oneI b)) ∧ ∃ p : Regrown, w'' = Go.Sort.grow (redrawn wr p.d) p.os := fun b dn os => Calls.regrown_of ((one_any b _).mono fun e' w' ⟨h1, h2⟩ => ⟨h1, by rw [h2]; exact Below.refl _ _⟩)
          have gW : ∀ dn os, Calls Try.prog 8 #[.agg #[.int .i64 d, .int .i64 q, .int .i64 e], .string x, .int .i64 (oneI al), .int .i64 (oneI ft)] (Go.Sort.grow (redrawn wr dn) os) fun e' w'' => e' = .returned (.int .i64 y) ∧ ∃ p : Regrown, w'' = Go.Sort.grow (redrawn wr p.d) p.os := fun dn os => Calls.regrown_of (by rw [hy]; exact refWhy_any d q e x al ft _ hxs HD.out HQ.out)
          clear hy ht c0 c1 c2
          cases fi
          · have hf0 : ft = false := HFT.out
            subst hf0
            go_wp2
            refine wp_region_quiet_below (by kernel_rfl) (by kernel_rfl) ?_
            repeat (go_big_quiet_step (first | (go_at_call 6; with_reducible exact gR _ _) | (go_at_call 9; with_reducible exact gO _ _ _) | (go_at_call 8; with_reducible exact gW _ _)))
            refine wpQuiet_nil ?_
            intro w9 hw9
            have bel : Below wr.heap.size wr w9 := by obtain ⟨p, rfl⟩ := hw9; exact below_regrown _ p.d p.os
            clear hw9 gR gO gW k0 k1 k2 k3
            go_wp2
            exact ⟨⟨k + 1, by omega, by go_num, hBr.trans (bel.mono hBr.size)⟩, by simp [intOf]; omega⟩
          · have hf0 : ft = tk := by have := HFT.out; rwa [Bool.true_and] at this
            subst hf0
            go_wp2
            refine wp_region_quiet_below (by kernel_rfl) (by kernel_rfl) ?_
            repeat (go_big_quiet_step (first | (go_at_call 6; with_reducible exact gR _ _) | (go_at_call 9; with_reducible exact gO _ _ _) | (go_at_call 8; with_reducible exact gW _ _)))
            refine wpQuiet_nil ?_
            intro w9 hw9
            have bel : Below wr.heap.size wr w9 := by obtain ⟨p, rfl⟩ := hw9; exact below_regrown _ p.d p.os
            clear hw9 gR gO gW k0 k1 k2 k3
            go_wp2
            exact ⟨⟨k + 1, by omega, by go_num, hBr.trans (bel.mono hBr.size)⟩, by simp [intOf]; omega⟩
        · go_wp2_with fail
          refine (awake08_any _).mono ?_
          rintro e w9 ⟨rfl, b9⟩
          go_wp2
          exact HR.out _ _ ⟨rfl, bwr.trans (b9.mono bwr.size)⟩


theorem own : ownKnob Try.prog.godebug = none := by kernel_rfl
theorem laidOut : laidOutB Try.prog = true := by kernel_rfl

set_option maxRecDepth 100000 in
theorem lifted (os : Os) (started : os.Started) (H : Type) (enc : TypeId × Value → H) :
    ReturnsInHanded {} Try.checked os 4 .any (Rows.needFieldsSpec.pre6 enc Try.prog Try.f4 Rows.needFieldsRow.domain false) (Rows.needFieldsSpec.post enc Try.prog Try.f4 false true false false) := by
  refine returnsInHanded_of_change_sized (C := Try.checked) own started (by kernel_rfl) Try.func4
    (ChangeSpec.witness6 (enc := enc) (C := Try.checked) false ⟨#[], #[.agg #[.int .u8 0, .int .u8 0, .int .i64 0], .slice none 0 0, .bool false], []⟩ 8 (by kernel_rfl) (by kernel_rfl) (by kernel_rfl) (by kernel_rfl)) ?_
  intro W base args ds gs before hval0 hW hcnd hsz0 _
  have hval : ∀ (j : Nat) t v, Try.f4.params[j]? = some t → args[j]? = some v → Value.okWide Try.prog W .any base t v := hval0
  have hW' := hW
  obtain ⟨p, q, hA0, hV, rfl, hfz, hnd⟩ := hW
  have hA : DataW.TrodAll enc Try.prog W 0 (fun _ => true) true Try.f4.params.toList args.toList ds p := hA0
  have hsz : (DataW.weightsEach Try.prog (Try.f4.params.toList ++ Rows.needFieldsSpec.plain.varTypes Try.prog) (ds ++ gs)).all (· ≤ reachBytes) = true := hsz0
  rw [Try.params4] at hA hval hsz
  obtain ⟨v0, vs0, d0, ds0, p0, q0, hargs, rfl, rfl, h0, r0⟩ := trodAll_cons hA
  obtain ⟨v1, vs1, d1, ds1, p1, q1, rfl, rfl, rfl, h1, r1⟩ := trodAll_cons r0
  obtain ⟨v2, vs2, d2, ds2, p2, q2, rfl, rfl, rfl, h2, r2⟩ := trodAll_cons r1
  obtain ⟨rfl, rfl, rfl⟩ := trodAll_nil r2
  obtain rfl : args = #[v0, v1, v2] := by cases args; simp_all
  obtain ⟨rfl, rfl⟩ := trodVars_none hV
  have k0 := h0
  have lt0 : ∀ x ∈ p0, x.block < W.heap.size := by obtain ⟨m, hm⟩ := k0; exact DataW.trod_lt m _ _ _ hm
  have w0 := open_dialect (hval 0 23 v0 rfl rfl) h0 (Sized.arg (j := 0) hsz rfl rfl)
  have k1 := h1
  have lt1 : ∀ x ∈ p1, x.block < W.heap.size := by obtain ⟨m, hm⟩ := k1; exact DataW.trod_lt m _ _ _ hm
  have w1 := open_strsB (hval 1 34 v1 rfl rfl) h1 (Sized.arg (j := 1) hsz rfl rfl)
  have k2 := h2
  have lt2 : ∀ x ∈ p2, x.block < W.heap.size := by obtain ⟨m, hm⟩ := k2; exact DataW.trod_lt m _ _ _ hm
  obtain ⟨a2, rfl, _, _⟩ := open_bool Try.underlying4 (hval 2 4 v2 rfl rfl) h2
  clear hA0 hval0
  refine (walk v0 v1 a2 W w0 w1).mono fun e W' ⟨he, bel⟩ => ?_
  subst he
  exact ⟨_, rfl, _, _, _, [], _, [], hW', trodAll_mk1 (shut_bool Try.underlying4 _), (trodAll_cons_mk (Below.trod laidOut (by kernel_rfl) (of_decide_eq_true (by kernel_rfl)) k0 bel lt0) (trodAll_cons_mk (Below.trod laidOut (by kernel_rfl) (of_decide_eq_true (by kernel_rfl)) k1 bel lt1) (trodAll_cons_mk (Below.trod laidOut (by kernel_rfl) (of_decide_eq_true (by kernel_rfl)) k2 bel lt2) trodAll_mk0))), rfl, bel.frame _, fun h => by cases h⟩

theorem over : Rows.needFieldsRow.holds Try.pinned (OpenSpec.ofChange Rows.needFieldsSpec) :=
  OpenClaim.holds_of_wide 4 Try.f4 rfl rfl rfl rfl rfl rfl rfl ⟨rfl, rfl, rfl, rfl, rfl⟩ rfl rfl rfl rfl rfl (by kernel_rfl) Try.func4 (by kernel_rfl)
    (of_decide_eq_true (by kernel_rfl)) (by unfold Func.isWrapper; first | (rw [if_pos (by decide +kernel)]; kernel_rfl) | (rw [if_neg (by decide +kernel)]; exact ⟨rfl, rfl⟩))
    (fun os started H enc _ => lifted os started H enc)

theorem proved : Rows.NeedFieldsSaid := over
end Go.Proofs.Ytgiemhooeoakmaa.needFields
