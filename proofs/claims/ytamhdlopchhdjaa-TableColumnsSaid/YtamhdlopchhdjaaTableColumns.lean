/- Any column of any table, and any fields picked. -/
import Derived.Test.YtamhdlopchhdjaaTabK
import Derived.SizedLaws
import Derived.ProofKit
import Derived.OpenShut
import Derived.ShutString
import Derived.ChangeOld
import Derived.Below
namespace Go.Proofs.Ytamhdlopchhdjaa.tableColumns
open Go.ChangeShapes Go.WideShapes Go.ChangeAt Go.RowKit
open Go.ChangeMaps (open_string shut_string)
set_option linter.unusedVariables false
set_option linter.unusedSimpArgs false

section
variable {H : Type} {enc : TypeId × Value → H} {w : World} {base : Nat} {spare : Nat → Bool} {held : Bool}
theorem each_ints : ∀ (vs : List Value) (l : List Int), Each (fun u s => u = Value.int .i64 s) vs l → vs = intV l := by
  intro vs l h
  unfold intV
  apply List.ext_getElem?
  intro i
  rw [List.getElem?_map]
  cases hl : l[i]? with
  | none =>
    have : l.length ≤ i := by simpa using hl
    rw [List.getElem?_eq_none (by have := h.len; omega)]
    rfl
  | some s =>
    obtain ⟨u, hu, hr⟩ := h.got hl
    rw [hu, hr]
    rfl
theorem open_places {v : Value} {d : DataW H} {p : List MemPlace} {r : Reach} {b0 : Nat} (hv : Value.okWide Try.prog w r b0 32 v) (h : DataW.Trod enc Try.prog w base spare held 32 v d p) (hsz : Sized Try.prog 32 d) :
    ∃ l, RdI w w.heap.size v l := by
  obtain ⟨A0, n0, c0, rfl⟩ := okWide_slice Try.underlying32 hv
  obtain ⟨fuel, hf⟩ := h
  obtain ⟨A, n, c, vs, l, hv, hs, hl⟩ := open_ones (R := fun u s => u = Value.int .i64 s) Try.underlying32 (by kernel_rfl) (of_decide_eq_true (by kernel_rfl)) hf hsz (fun u f y hy hz => by
    obtain ⟨z, g0, -, -⟩ := DataW.trod_int Try.underlying3 hy
    injection g0 with g0
    exact ⟨z, g0⟩)
  have hvs := each_ints vs l hl
  subst hvs
  have hn : n = l.length := by have := hs.len; unfold intV at this; simp at this; omega
  subst hn
  exact ⟨l, A, c, hv, hs⟩
end
set_option maxHeartbeats 2000000 in
theorem walk (v1 : Value) (n : Int) (hn : (Lit.int .i64 n).wf = true) (v2 : Value) (w : World) (h1 : ∃ t, RdT w w.heap.size v1 t) (h2 : ∃ l, RdI w w.heap.size v2 l) :
    Calls Try.prog 5 #[v1, .int .i64 n, v2] w fun e w' => e = .returned (.bool true) ∧ Below w.heap.size w w' := by
  refine cps fun R HR => ?_
  obtain ⟨t, h1⟩ := h1
  obtain ⟨ps, h2⟩ := h2
  have hpf := h2.few
  have h20 := h2
  obtain ⟨A, c, rfl, -⟩ := h2.is
  clear h2
  go_enter Try.func5, Try.ntmps5
  go_wp2_with fail
  refine (greatLaw_any v1 t _ h1).mono ?_
  rintro e w1 ⟨⟨g, rfl, hg⟩, rfl⟩
  cases g
  · have hgg := Lib.hid (hg rfl)
    clear hg
    by_cases hl : 20 < ps.length
    · have d : decide ((20 : Int) < ps.length) = true := decide_eq_true (by omega)
      go_wp2_with fail
      refine (tabAwake_any _).mono ?_
      rintro e w6 ⟨rfl, b6⟩
      go_wp2
      exact HR.out _ _ ⟨rfl, b6⟩
    · have d : decide ((20 : Int) < ps.length) = false := decide_eq_false (by omega)
      have q1 : t.length ≤ 100000 := by have := hgg.out.1; omega
      have q2 : ps.length ≤ 100000 := by omega
      go_wp2_with fail
      refine (column_any v1 t n _ h1 hn q1).mono ?_
      rintro e w2 ⟨u, rfl, ho, b2⟩
      by_cases hneg : n < 0
      · have hc : colC t n = (22, []) := by unfold colC; rw [if_pos hneg]
        rw [hc] at ho ⊢
        obtain ⟨uA, uc, rfl, -⟩ := ho.form
        have dn : decide (n < 0) = true := decide_eq_true hneg
        clear ho hc hneg
        go_wp2_with fail
        refine (pick_any v1 _ t ps _ (h1.next b2) (h20.next b2) q1 q2).mono ?_
        rintro e x1 ⟨o1, rfl, ho1, c1⟩
        have e1 := b2.trans (c1.mono b2.size)
        obtain ⟨Y, hY⟩ : ∃ Y, Y = pickC ps t := ⟨_, rfl⟩
        rw [← hY] at ho1 ⊢
        go_wp2_with fail
        refine (refPick_any v1 _ t ps _ (h1.next e1) (h20.next e1) q1 q2).mono ?_
        rintro e x2 ⟨o2, rfl, ho2, c2⟩
        have e2 := e1.trans (c2.mono e1.size)
        rw [← hY] at ho2 ⊢
        have S := Lib.hid (show sameT Y.1 Y.1 = true by unfold sameT; exact decide_eq_true rfl)
        clear hY
        go_wp2_with fail
        refine (sameTable_any o1 o2 _ _ _ (ho1.rd.next c2) ho2.rd).mono ?_
        rintro e x3 ⟨rfl, c3⟩
        rw [S.out]
        have e3 := e2.trans (c3.mono e2.size)
        go_wp2_with fail
        refine (tabAwake_any _).mono ?_
        rintro e x4 ⟨rfl, c4⟩
        go_wp2
        exact HR.out _ _ ⟨rfl, e3.trans (c4.mono e3.size)⟩
      · have hcc : colC t n = if hasF t n.toNat then (0, colF t n.toNat) else (10, []) := by unfold colC; rw [if_neg hneg]
        obtain ⟨m, rfl⟩ := Int.eq_ofNat_of_zero_le (a := n) (by omega)
        rw [Int.toNat_natCast] at hcc
        have dn : decide ((m : Int) < 0) = false := decide_eq_false (by omega)
        clear hneg
        cases hh : hasF t m
        · rw [hh, if_neg (by simp)] at hcc
          rw [hcc] at ho ⊢
          obtain ⟨uA, uc, rfl, -⟩ := ho.form
          clear ho hcc
          go_wp2_with fail
          refine (refHas_any v1 t m _ (h1.next b2)).mono ?_
          rintro e w3 ⟨rfl, rfl⟩
          rw [hh]
          go_wp2_with fail
          refine (pick_any v1 _ t ps _ (h1.next b2) (h20.next b2) q1 q2).mono ?_
          rintro e x1 ⟨o1, rfl, ho1, c1⟩
          have e1 := b2.trans (c1.mono b2.size)
          obtain ⟨Y, hY⟩ : ∃ Y, Y = pickC ps t := ⟨_, rfl⟩
          rw [← hY] at ho1 ⊢
          go_wp2_with fail
          refine (refPick_any v1 _ t ps _ (h1.next e1) (h20.next e1) q1 q2).mono ?_
          rintro e x2 ⟨o2, rfl, ho2, c2⟩
          have e2 := e1.trans (c2.mono e1.size)
          rw [← hY] at ho2 ⊢
          have S := Lib.hid (show sameT Y.1 Y.1 = true by unfold sameT; exact decide_eq_true rfl)
          clear hY
          go_wp2_with fail
          refine (sameTable_any o1 o2 _ _ _ (ho1.rd.next c2) ho2.rd).mono ?_
          rintro e x3 ⟨rfl, c3⟩
          rw [S.out]
          have e3 := e2.trans (c3.mono e2.size)
          go_wp2_with fail
          refine (tabAwake_any _).mono ?_
          rintro e x4 ⟨rfl, c4⟩
          go_wp2
          exact HR.out _ _ ⟨rfl, e3.trans (c4.mono e3.size)⟩
        · rw [hh, if_pos rfl] at hcc
          rw [hcc] at ho ⊢
          clear hcc
          go_wp2_with fail
          refine (refHas_any v1 t m _ (h1.next b2)).mono ?_
          rintro e w3 ⟨rfl, rfl⟩
          rw [hh]
          go_wp2_with fail
          refine (refColumn_any v1 t m _ (h1.next b2) hh q1).mono ?_
          rintro e w4 ⟨u4, rfl, ho4, b4⟩
          have b24 := b2.trans (b4.mono b2.size)
          have r1 : RdS w3 w3.heap.size u (colF t m) := (RdA.of_own (row := none) ho (fun g hg => by cases hg)).rd
          have r2 : RdS w4 w4.heap.size u4 (colF t m) := (RdA.of_own (row := none) ho4 (fun g hg => by cases hg)).rd
          have S1 := Lib.hid (show sameS (colF t m) (colF t m) = true by unfold sameS; exact decide_eq_true rfl)
          go_wp2_with fail
          refine (same_any u u4 _ _ _ (r1.next b4) r2).mono ?_
          rintro e w5 ⟨rfl, b5⟩
          rw [S1.out]
          have b25 := b24.trans (b5.mono b24.size)
          go_wp2_with fail
          refine (pick_any v1 _ t ps _ (h1.next b25) (h20.next b25) q1 q2).mono ?_
          rintro e x1 ⟨o1, rfl, ho1, c1⟩
          have e1 := b25.trans (c1.mono b25.size)
          obtain ⟨Y, hY⟩ : ∃ Y, Y = pickC ps t := ⟨_, rfl⟩
          rw [← hY] at ho1 ⊢
          go_wp2_with fail
          refine (refPick_any v1 _ t ps _ (h1.next e1) (h20.next e1) q1 q2).mono ?_
          rintro e x2 ⟨o2, rfl, ho2, c2⟩
          have e2 := e1.trans (c2.mono e1.size)
          rw [← hY] at ho2 ⊢
          have S := Lib.hid (show sameT Y.1 Y.1 = true by unfold sameT; exact decide_eq_true rfl)
          clear hY
          go_wp2_with fail
          refine (sameTable_any o1 o2 _ _ _ (ho1.rd.next c2) ho2.rd).mono ?_
          rintro e x3 ⟨rfl, c3⟩
          rw [S.out]
          have e3 := e2.trans (c3.mono e2.size)
          go_wp2_with fail
          refine (tabAwake_any _).mono ?_
          rintro e x4 ⟨rfl, c4⟩
          go_wp2
          exact HR.out _ _ ⟨rfl, e3.trans (c4.mono e3.size)⟩
  · clear hg
    go_wp2_with fail
    refine (tabAwake_any _).mono ?_
    rintro e w6 ⟨rfl, b6⟩
    go_wp2
    exact HR.out _ _ ⟨rfl, b6⟩

theorem own : ownKnob Try.prog.godebug = none := by kernel_rfl
theorem laidOut : laidOutB Try.prog = true := by kernel_rfl

set_option maxRecDepth 100000 in
theorem lifted (os : Os) (started : os.Started) (H : Type) (enc : TypeId × Value → H) :
    ReturnsInHanded {} Try.checked os 5 .any (Rows.tableColumnsSpec.pre6 enc Try.prog Try.f5 Rows.tableColumnsRow.domain false) (Rows.tableColumnsSpec.post enc Try.prog Try.f5 false true false false) := by
  refine returnsInHanded_of_change_sized (C := Try.checked) own started (by kernel_rfl) Try.func5
    (ChangeSpec.witness6 (enc := enc) (C := Try.checked) false ⟨#[], #[.slice none 0 0, .int .i64 0, .slice none 0 0], []⟩ 8 (by kernel_rfl) (by kernel_rfl) (by kernel_rfl) (by kernel_rfl)) ?_
  intro W base args ds gs before hval0 hW hcnd hsz0 _
  have hval : ∀ (j : Nat) t v, Try.f5.params[j]? = some t → args[j]? = some v → Value.okWide Try.prog W .any base t v := hval0
  have hW' := hW
  obtain ⟨p, q, hA0, hV, rfl, hfz, hnd⟩ := hW
  have hA : DataW.TrodAll enc Try.prog W 0 (fun _ => true) true Try.f5.params.toList args.toList ds p := hA0
  have hsz : (DataW.weightsEach Try.prog (Try.f5.params.toList ++ Rows.tableColumnsSpec.plain.varTypes Try.prog) (ds ++ gs)).all (· ≤ reachBytes) = true := hsz0
  rw [Try.params5] at hA hval hsz
  obtain ⟨v0, vs0, d0, ds0, p0, q0, hargs, rfl, rfl, h0, r0⟩ := trodAll_cons hA
  obtain ⟨v1, vs1, d1, ds1, p1, q1, rfl, rfl, rfl, h1, r1⟩ := trodAll_cons r0
  obtain ⟨v2, vs2, d2, ds2, p2, q2, rfl, rfl, rfl, h2, r2⟩ := trodAll_cons r1
  obtain ⟨rfl, rfl, rfl⟩ := trodAll_nil r2
  obtain rfl : args = #[v0, v1, v2] := by cases args; simp_all
  obtain ⟨rfl, rfl⟩ := trodVars_none hV
  have k0 := h0
  have lt0 : ∀ x ∈ p0, x.block < W.heap.size := by obtain ⟨m, hm⟩ := k0; exact DataW.trod_lt m _ _ _ hm
  have w0 := open_table (hval 0 22 v0 rfl rfl) h0 (Sized.arg (j := 0) hsz rfl rfl)
  have k1 := h1
  have lt1 : ∀ x ∈ p1, x.block < W.heap.size := by obtain ⟨m, hm⟩ := k1; exact DataW.trod_lt m _ _ _ hm
  obtain ⟨a1, rfl, _, _, w1⟩ := open_int Try.underlying3 (hval 1 3 v1 rfl rfl) h1
  have k2 := h2
  have lt2 : ∀ x ∈ p2, x.block < W.heap.size := by obtain ⟨m, hm⟩ := k2; exact DataW.trod_lt m _ _ _ hm
  have w2 := open_places (hval 2 32 v2 rfl rfl) h2 (Sized.arg (j := 2) hsz rfl rfl)
  clear hA0 hval0
  refine (walk v0 a1 w1 v2 W w0 w2).mono fun e W' ⟨he, bel⟩ => ?_
  subst he
  exact ⟨_, rfl, _, _, _, [], _, [], hW', trodAll_mk1 (shut_bool Try.underlying4 _), (trodAll_cons_mk (Below.trod laidOut (by kernel_rfl) (of_decide_eq_true (by kernel_rfl)) k0 bel lt0) (trodAll_cons_mk (Below.trod laidOut (by kernel_rfl) (of_decide_eq_true (by kernel_rfl)) k1 bel lt1) (trodAll_cons_mk (Below.trod laidOut (by kernel_rfl) (of_decide_eq_true (by kernel_rfl)) k2 bel lt2) trodAll_mk0))), rfl, bel.frame _, fun h => by cases h⟩

theorem over : Rows.tableColumnsRow.holds Try.pinned (OpenSpec.ofChange Rows.tableColumnsSpec) :=
  OpenClaim.holds_of_wide 5 Try.f5 rfl rfl rfl rfl rfl rfl rfl ⟨rfl, rfl, rfl, rfl, rfl⟩ rfl rfl rfl rfl rfl (by kernel_rfl) Try.func5 (by kernel_rfl)
    (of_decide_eq_true (by kernel_rfl)) (by unfold Func.isWrapper; first | (rw [if_pos (by decide +kernel)]; kernel_rfl) | (rw [if_neg (by decide +kernel)]; exact ⟨rfl, rfl⟩))
    (fun os started H enc _ => lifted os started H enc)

theorem proved : Rows.TableColumnsSaid := over
end Go.Proofs.Ytamhdlopchhdjaa.tableColumns
