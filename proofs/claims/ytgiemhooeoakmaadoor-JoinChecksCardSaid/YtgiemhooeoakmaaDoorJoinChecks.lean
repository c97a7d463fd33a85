/- Whether any tables may be joined, or what may not be, and which columns come out, is what the document says. The table of UTF-8 is laid as the text lays it; the card ties it. -/
import Derived.Test.YtgiemhooeoakmaaDoorCards
import Derived.Test.YtgiemhooeoakmaaDoorTie
import Derived.SizedLaws
import Derived.ProofKit
import Derived.OpenShut
import Derived.ShutString
import Derived.ChangeOld
import Derived.Below
import Derived.Deep.DeepHandedRow
import Derived.Deep.DeepWitnessRowRef
import Derived.Test.YtgiemhooeoakmaaDoorKL
import Derived.Test.YtgiemhooeoakmaaDoorKM
import Derived.Test.YtgiemhooeoakmaaDoorKH
namespace Go.Proofs.YtgiemhooeoakmaaDoor.joinChecks
open Go.ChangeShapes Go.WideShapes Go.ChangeAt Go.RowKit
open Go.ChangeMaps (open_string shut_string)
set_option linter.unusedVariables false
set_option linter.unusedSimpArgs false

set_option maxHeartbeats 8000000 in
set_option maxRecDepth 100000 in
theorem walk (v : Value) (W : World) (hT : Tab W) (h0 : ∃ v1 u1 v2 u2 z la ta lb tb on, ∃ kind : Int, v = .agg #[v1, u1, v2, u2, z, .int .i64 kind] ∧ RdC W W.heap.size v1 la ∧ RdVT W W.heap.size u1 ta ∧ RdC W W.heap.size v2 lb ∧ RdVT W W.heap.size u2 tb ∧ RdOn W W.heap.size z on) :
    Calls Tryd.prog 7 #[v] W fun e w' => e = .returned (.bool true) ∧ Below W.heap.size W w' := by
  refine cps fun R HR => ?_
  obtain ⟨v1, u1, v2, u2, z, la, ta, lb, tb, on, kind, rfl, h1, h2, h3, h4, hu⟩ := h0
  have g1 := h1; have g2 := h2; have g3 := h3; have g4 := h4; have hu0 := hu
  obtain ⟨A1, c1, rfl, -⟩ := h1.is
  obtain ⟨A2, c2, vs, rfl, -, -⟩ := h2.is
  obtain ⟨A3, c3, rfl, -⟩ := h3.is
  obtain ⟨A4, c4, vs', rfl, -, -⟩ := h4.is
  obtain ⟨A5, c5, rfl, -⟩ := hu.is
  clear h1 h2 h3 h4 hu
  obtain ⟨w0, hw0⟩ : ∃ w0, w0 = W.alloc (.cells #[.slice A1 la.length c1, .slice A2 ta.length c2, .slice A3 lb.length c3, .slice A4 tb.length c4, .slice A5 on.length c5, .int .i64 kind] 52) := ⟨_, rfl⟩
  have bw0 : Below W.heap.size W w0 := by rw [hw0]; exact (Below.refl _ _).alloc (Nat.le_refl _) _
  have X := Box.new W 52 #[.slice A1 la.length c1, .slice A2 ta.length c2, .slice A3 lb.length c3, .slice A4 tb.length c4, .slice A5 on.length c5, .int .i64 kind]
  rw [← hw0] at X
  obtain ⟨g, hg⟩ : ∃ g, g = W.heap.size := ⟨_, rfl⟩
  rw [← hg] at X
  have cells : ∀ w' : World, Below w0.heap.size w0 w' → w'.cell? ⟨g, 0, none⟩ = some (.slice A1 la.length c1) ∧ w'.cell? ⟨g, 1, none⟩ = some (.slice A2 ta.length c2) ∧ w'.cell? ⟨g, 2, none⟩ = some (.slice A3 lb.length c3) ∧ w'.cell? ⟨g, 3, none⟩ = some (.slice A4 tb.length c4) ∧ w'.cell? ⟨g, 4, none⟩ = some (.slice A5 on.length c5) ∧ w'.cell? ⟨g, 5, none⟩ = some (.int .i64 kind) := fun w' hb => by
    have X2 := X.below hb X.lt
    exact ⟨X2.cell 0, X2.cell 1, X2.cell 2, X2.cell 3, X2.cell 4, X2.cell 5⟩
  obtain ⟨x0, x1, x2, x3, x4, x5⟩ := cells w0 (Below.refl _ _)
  have CELLS := Lib.hid cells; have HW0 := Lib.hid hw0; have HB0 := Lib.hid bw0; have HG := Lib.hid hg
  have HT := Lib.hid hT
  clear X hw0 bw0 cells hT
  go_enter Tryd.func7, Tryd.ntmps7
  go_wp2_with fail
  rw [← HW0.out, ← hg]
  clear hg
  refine (fits23_any _ _ _ _ _ kind la lb ta tb on _ (RdF.next g1 HB0.out) (RdE.next (RdF.stays valV 4) g2 HB0.out) (RdF.next g3 HB0.out) (RdE.next (RdF.stays valV 4) g4 HB0.out) (RdF.next hu0 HB0.out)).mono ?_
  rintro e w1 ⟨⟨t, rfl, ht⟩, b1⟩
  have bw1 := HB0.out.trans (b1.mono HB0.out.size)
  clear x0 x1 x2 x3 x4 x5
  cases t
  · clear ht
    go_wp2_with fail
    refine (awake23_any _ (HT.out.below bw1)).mono ?_
    rintro e w99 ⟨rfl, b99⟩
    go_wp2
    exact HR.out _ _ ⟨rfl, bw1.trans (b99.mono bw1.size)⟩
  · obtain ⟨⟨⟨hla, hca⟩, hta, hra⟩, ⟨⟨hlb, hcb⟩, htb, hrb⟩, hk⟩ := ht rfl
    have hca2 : ∀ c ∈ la, c.name.size ≤ 100000 := fun c hc => Nat.le_trans (hca c hc) (by omega)
    have hcb2 : ∀ c ∈ lb, c.name.size ≤ 100000 := fun c hc => Nat.le_trans (hcb c hc) (by omega)
    have hra2 : ∀ r ∈ ta, r.length ≤ 100000 := fun r hr => Nat.le_trans (hra r hr).1 (by omega)
    have hrb2 : ∀ r ∈ tb, r.length ≤ 100000 := fun r hr => Nat.le_trans (hrb r hr).1 (by omega)
    have HCA := Lib.hid hca2; have HCB := Lib.hid hcb2; have HRA := Lib.hid hra2; have HRB := Lib.hid hrb2
    clear ht hca hcb hra hrb hca2 hcb2 hra2 hrb2
    obtain ⟨x0, x1, x2, x3, x4, x5⟩ := CELLS.out w1 b1
    obtain ⟨Y, hY⟩ : ∃ Y, Y = jchk la lb on kind := ⟨_, rfl⟩
    have HY := Lib.hid hY
    clear hY
    go_wp2_with fail
    refine (jcheck_any _ _ _ la lb on kind _ (RdF.next g1 bw1) (RdF.next g3 bw1) (RdF.next hu0 bw1) (by omega) (by omega) (by omega) HCA.out HCB.out (HT.out.below bw1)).mono ?_
    rintro e w2 ⟨rfl, b2⟩
    rw [← HY.out]
    have b02 := b1.trans (b2.mono b1.size)
    have bw2 := HB0.out.trans (b02.mono HB0.out.size)
    have mk : ∀ w', Below w2.heap.size w2 w' → w'.cell? ⟨g, 0, none⟩ = some (.slice A1 la.length c1) ∧ w'.cell? ⟨g, 1, none⟩ = some (.slice A2 ta.length c2) ∧ w'.cell? ⟨g, 2, none⟩ = some (.slice A3 lb.length c3) ∧ w'.cell? ⟨g, 3, none⟩ = some (.slice A4 tb.length c4) ∧ w'.cell? ⟨g, 4, none⟩ = some (.slice A5 on.length c5) ∧ w'.cell? ⟨g, 5, none⟩ = some (.int .i64 kind) ∧ Below w2.heap.size w2 w' := fun w' hb => by
      obtain ⟨y0, y1, y2, y3, y4, y5⟩ := CELLS.out w' (b02.trans (hb.mono b02.size))
      exact ⟨y0, y1, y2, y3, y4, y5, hb⟩
    have MK := Lib.hid mk
    clear mk x0 x1 x2 x3 x4 x5
    go_wp2
    go_region_held3 (fun w' => w'.cell? ⟨g, 0, none⟩ = some (.slice A1 la.length c1) ∧ w'.cell? ⟨g, 1, none⟩ = some (.slice A2 ta.length c2) ∧ w'.cell? ⟨g, 2, none⟩ = some (.slice A3 lb.length c3) ∧ w'.cell? ⟨g, 3, none⟩ = some (.slice A4 tb.length c4) ∧ w'.cell? ⟨g, 4, none⟩ = some (.slice A5 on.length c5) ∧ w'.cell? ⟨g, 5, none⟩ = some (.int .i64 kind) ∧ Below w2.heap.size w2 w') (first | (exact MK.out _ (Below.drew (Below.refl _ _))) | (go_split_ands; exact MK.out _ (by assumption)) | (go_split_ands; exact MK.out _ (keepB (by assumption) (by assumption))) | (go_split_ands; exact MK.out _ (Below.alloc (by assumption) (Below.size (by assumption)) _)) | go_keep) (first | (have second10 := firstMark10; go_at_call 21; go_split_ands; refine (refCols_any _ lb _ (RdF.next g3 (bw2.trans (Below.mono (by assumption) bw2.size))) (by omega)).mono ?_; rintro e w11 ⟨q11, rfl, hq11, b11⟩) | (go_at_call 21; go_split_ands; refine (refCols_any _ la _ (RdF.next g1 (bw2.trans (Below.mono (by assumption) bw2.size))) (by omega)).mono ?_; rintro e w10 ⟨q10, rfl, hq10, b10⟩; have firstMark10 : True := trivial) | (go_at_call 37; go_split_ands; refine (lawOn_any _ on _ (RdF.next hu0 (bw2.trans (Below.mono (by assumption) bw2.size))) (by omega)).mono ?_; rintro e w12 ⟨q12, rfl, hq12, b12⟩) | (go_at_call 36; go_split_ands; refine (rjcheck_any _ _ _ la lb on kind _ (RdF.next (RdF.next (RdF.of_own rcolV_len (by omega) hq10) b11) b12) (RdF.next (RdF.of_own rcolV_len (by omega) hq11) b12) (RdF.of_own onV_len (by omega) hq12) (by omega) (by omega) (by omega) HCA.out HCB.out).mono ?_; rintro e w13 ⟨rfl, b13⟩; have cb13 := keepB b13 (by assumption)))
    rw [← HY.out]
    have bw3 := bw2.trans (cb13.mono bw2.size)
    have b03 := b02.trans (cb13.mono b02.size)
    obtain ⟨x0, x1, x2, x3, x4, x5⟩ := CELLS.out w13 b03
    go_wp2_with fail
    refine (jColumns_any _ _ _ la lb on kind _ (RdF.next g1 bw3) (RdF.next g3 bw3) (RdF.next hu0 bw3) (by omega) (by omega) (by omega) HCA.out HCB.out (HT.out.below bw3)).mono ?_
    rintro e w4 ⟨⟨o, rfl, ho⟩, b4⟩
    rw [← HY.out] at ho
    rw [← HY.out]
    have bw4 := bw3.trans (b4.mono bw3.size)
    have b04 := b03.trans (b4.mono b03.size)
    have HO := Lib.hid ho
    clear ho
    obtain ⟨Y1, Y2⟩ := Y
    by_cases hz : Y2 = 0
    · subst hz
      have hk1 := (jchk_pos (a := la) (b := lb) (on := on) (k := kind) (by rw [← HY.out])).1
      have ho := HO.out
      rw [if_pos rfl] at ho
      obtain ⟨D, hD⟩ : ∃ D, D = colsJ la lb on kind := ⟨_, rfl⟩
      rw [← hD] at ho
      have hDl : D.length ≤ 24 := by rw [hD]; have := colsJ_len la lb on kind; omega
      have HD := Lib.hid hD; have HSC := Lib.hid (sameC_self D)
      have ho0 := ho
      obtain ⟨oA, oc, rfl, -⟩ := ho.is
      clear hD ho HO x0 x1 x2 x3 x4 x5
      have mk : ∀ w', Below w4.heap.size w4 w' → w'.cell? ⟨g, 0, none⟩ = some (.slice A1 la.length c1) ∧ w'.cell? ⟨g, 1, none⟩ = some (.slice A2 ta.length c2) ∧ w'.cell? ⟨g, 2, none⟩ = some (.slice A3 lb.length c3) ∧ w'.cell? ⟨g, 3, none⟩ = some (.slice A4 tb.length c4) ∧ w'.cell? ⟨g, 4, none⟩ = some (.slice A5 on.length c5) ∧ w'.cell? ⟨g, 5, none⟩ = some (.int .i64 kind) ∧ Below w4.heap.size w4 w' := fun w' hb => by
        obtain ⟨y0, y1, y2, y3, y4, y5⟩ := CELLS.out w' (b04.trans (hb.mono b04.size))
        exact ⟨y0, y1, y2, y3, y4, y5, hb⟩
      have MK := Lib.hid mk
      clear mk
      go_wp2
      go_region_held3 (fun w' => w'.cell? ⟨g, 0, none⟩ = some (.slice A1 la.length c1) ∧ w'.cell? ⟨g, 1, none⟩ = some (.slice A2 ta.length c2) ∧ w'.cell? ⟨g, 2, none⟩ = some (.slice A3 lb.length c3) ∧ w'.cell? ⟨g, 3, none⟩ = some (.slice A4 tb.length c4) ∧ w'.cell? ⟨g, 4, none⟩ = some (.slice A5 on.length c5) ∧ w'.cell? ⟨g, 5, none⟩ = some (.int .i64 kind) ∧ Below w4.heap.size w4 w') (first | (exact MK.out _ (Below.drew (Below.refl _ _))) | (go_split_ands; exact MK.out _ (by assumption)) | (go_split_ands; exact MK.out _ (keepB (by assumption) (by assumption))) | (go_split_ands; exact MK.out _ (Below.alloc (by assumption) (Below.size (by assumption)) _)) | go_keep) (first | (have second21 := firstMark21; go_at_call 21; go_split_ands; refine (refCols_any _ lb _ (RdF.next g3 (bw4.trans (Below.mono (by assumption) bw4.size))) (by omega)).mono ?_; rintro e w22 ⟨q22, rfl, hq22, b22⟩) | (have zero := zeroMark; go_at_call 21; go_split_ands; refine (refCols_any _ la _ (RdF.next g1 (bw4.trans (Below.mono (by assumption) bw4.size))) (by omega)).mono ?_; rintro e w21 ⟨q21, rfl, hq21, b21⟩; have firstMark21 : True := trivial) | (go_at_call 37; go_split_ands; refine (lawOn_any _ on _ (RdF.next hu0 (bw4.trans (Below.mono (by assumption) bw4.size))) (by omega)).mono ?_; rintro e w23 ⟨q23, rfl, hq23, b23⟩) | (go_at_call 21; go_split_ands; refine (refCols_any _ D _ (RdF.next ho0 (by assumption)) (by omega)).mono ?_; rintro e w20 ⟨q20, rfl, hq20, b20⟩; have zeroMark : True := trivial) | (go_at_call 39; go_split_ands; refine (rjcolumns_any _ _ _ la lb on kind _ (RdF.next (RdF.next (RdF.of_own rcolV_len (by omega) hq21) b22) b23) (RdF.next (RdF.of_own rcolV_len (by omega) hq22) b23) (RdF.of_own onV_len (by omega) hq23) (by omega) (by omega) hk1).mono ?_; rintro e w24 ⟨q24, rfl, hq24, b24⟩; rw [← HD.out] at hq24) | (go_at_call 20; go_split_ands; refine (refSameC_any _ _ D D _ (RdF.next (RdF.next (RdF.next (RdF.next (RdF.of_own rcolV_len (by omega) hq20) b21) b22) b23) b24) (RdF.of_own rcolV_len (by omega) hq24)).mono ?_; rintro e w25 ⟨rfl, b25⟩; rw [HSC.out]) | (go_at_call 26; go_split_ands; refine (awake23_any _ (HT.out.below (bw4.trans (Below.mono (by assumption) bw4.size)))).mono ?_; rintro e w26 ⟨rfl, b26⟩; have cb26 := keepB b26 (by assumption)))
      have bw30 := bw4.trans (cb26.mono bw4.size)
      go_wp2
      exact HR.out _ _ ⟨rfl, bw30⟩
    · have ho := HO.out
      rw [if_neg hz] at ho
      obtain ⟨oA, oc, rfl, -⟩ := ho.is
      have dne : ((Y2 : Int) != 0) = true := by rw [bne_iff_ne]; omega
      clear ho HO
      simp only [List.length_nil]
      go_wp2_with fail
      refine (awake23_any _ (HT.out.below bw4)).mono ?_
      rintro e w99 ⟨rfl, b99⟩
      go_wp2
      exact HR.out _ _ ⟨rfl, bw4.trans (b99.mono bw4.size)⟩

theorem own : ownKnob Tryd.prog.godebug = none := by kernel_rfl
theorem laidOut : laidOutB Tryd.prog = true := by kernel_rfl
theorem reads (os : Os) {H : Type} (enc : TypeId × Value → H) : ∃ places, DataW.whole enc Tryd.prog ((laidWorld os).forCall (fun _ _ => 0) ⟨#[], #[.agg #[.slice none 0 0, .slice none 0 0, .slice none 0 0, .slice none 0 0, .slice none 0 0, .int .i64 0]], []⟩).memory Tryd.f7.params.toList Rows.joinChecksSpec.vars false #[.agg #[.slice none 0 0, .slice none 0 0, .slice none 0 0, .slice none 0 0, .slice none 0 0, .int .i64 0]].toList 8 = some ([.agg [.agg [.nil, .nil], .agg [.nil, .nil], .nil, .lit (.int .i64 0)]], [], places) :=
  ⟨[], by kernel_rfl⟩

set_option maxRecDepth 100000 in
theorem contract (H : Type) (enc : TypeId × Value → H) (W : World) (base : Nat) (args : Array Value) (ds gs : List (DataW H)) (before : List MemPlace)
    (hval0 : ∀ (j : Nat) t v, Tryd.f7.params[j]? = some t → args[j]? = some v → Value.okWide Tryd.prog W .any base t v)
    (hW : DataW.Whole enc Tryd.prog Tryd.f7.params.toList Rows.joinChecksSpec.vars false W args.toList ds gs before)
    (hsz0 : (DataW.weightsEach Tryd.prog (Tryd.f7.params.toList ++ Rows.joinChecksSpec.plain.varTypes Tryd.prog) (ds ++ gs)).all (· ≤ reachBytes) = true)
    (hL : laidMetH Tryd.prog Rows.joinChecksRow.laid W) :
    Calls Tryd.prog 7 args W fun e W' => ∃ v, e = .returned v ∧ Rows.joinChecksSpec.post enc Tryd.prog Tryd.f7 false true false false W args v W' := by
  have hval := hval0
  have hW' := hW
  obtain ⟨p, q, hA0, hV, rfl, hfz, hnd⟩ := hW
  have hA : DataW.TrodAll enc Tryd.prog W 0 (fun _ => true) true Tryd.f7.params.toList args.toList ds p := hA0
  have hsz : (DataW.weightsEach Tryd.prog (Tryd.f7.params.toList ++ Rows.joinChecksSpec.plain.varTypes Tryd.prog) (ds ++ gs)).all (· ≤ reachBytes) = true := hsz0
  rw [Tryd.params7] at hA hval hsz
  obtain ⟨v0, vs0, d0, ds0, p0, q0, hargs, rfl, rfl, h0, r0⟩ := trodAll_cons hA
  obtain ⟨rfl, rfl, rfl⟩ := trodAll_nil r0
  obtain rfl : args = #[v0] := by cases args; simp_all
  obtain ⟨rfl, rfl⟩ := trodVars_none hV
  have k0 := h0
  have lt0 : ∀ x ∈ p0, x.block < W.heap.size := by obtain ⟨m, hm⟩ := k0; exact DataW.trod_lt m _ _ _ hm
  have w0 := open_case23 (hval 0 52 v0 rfl rfl) h0 (Sized.arg (j := 0) hsz rfl rfl)
  clear hA0 hval0
  refine (walk v0 W (tab_row hL) w0).mono fun e W' ⟨he, bel⟩ => ?_
  subst he
  exact ⟨_, rfl, _, _, _, [], _, [], hW', trodAll_mk1 (shut_bool Tryd.underlying4 _), (trodAll_cons_mk (Below.trod laidOut (by kernel_rfl) (of_decide_eq_true (by kernel_rfl)) k0 bel lt0) trodAll_mk0), rfl, bel.frame _, fun h => by cases h⟩

set_option maxRecDepth 100000 in
theorem lifted (os : Os) (started : os.Started) (H : Type) (enc : TypeId × Value → H) (F : Stop.Interp) :
    ReturnsInHanded {} Tryd.checked os 7 .any ((OpenSpec.ofChange Rows.joinChecksSpec).preRow enc Tryd.prog Tryd.f7 Rows.joinChecksRow.domain false Rows.joinChecksRow.laid) (((OpenSpec.ofChange Rows.joinChecksSpec).at F).post enc Tryd.prog Tryd.f7 false true false false) := by
  obtain ⟨places, hx⟩ := reads os enc
  refine returnsInHanded_of_row (C := Tryd.checked) (s := OpenSpec.ofChange Rows.joinChecksSpec) own started (by kernel_rfl) Tryd.func7
    (witness_row_atRef (enc := enc) (C := Tryd.checked) false (laidWorld os) #[.agg #[.slice none 0 0, .slice none 0 0, .slice none 0 0, .slice none 0 0, .slice none 0 0, .int .i64 0]] rfl (by kernel_rfl) (by kernel_rfl) (by kernel_rfl)
      (OpenSpec.preRow_of_cond 8 hx (by kernel_rfl) (fun k hk => by cases hk) (by kernel_rfl) (laid_met os _))) ?_
  intro W base args ds gs before hval hW _ _ hsz hL _ _
  exact contract H enc W base args ds gs before hval hW hsz hL

theorem said : Rows.JoinChecksSaid :=
  OpenClaim.holds_of_cond 7 Tryd.f7 rfl rfl rfl rfl rfl rfl rfl ⟨rfl, rfl, rfl, rfl, rfl⟩ rfl rfl rfl rfl rfl (by kernel_rfl) Tryd.func7 (by kernel_rfl)
    (of_decide_eq_true (by kernel_rfl)) (by unfold Func.isWrapper; first | (rw [if_pos (by decide +kernel)]; kernel_rfl) | (rw [if_neg (by decide +kernel)]; exact ⟨rfl, rfl⟩))
    (fun os started H enc _ F => by rw [OpenClaim.pre_eq_preRow]; exact lifted os started H enc F)

theorem plain (f : FuncId) (fn : Func) (hf : Tryd.pinned.checked.prog.funcNamed "quillpen/quillpenlaw23.JoinChecks" = some f) (hfn : Tryd.pinned.checked.prog.funcs[f]? = some fn) :
    false = Tryd.pinned.checked.prog.looks [] ∧ ∀ (j : Nat) t, fn.params[j]? = some t → Tryd.pinned.checked.prog.wantsStandIn t = false := by
  obtain rfl : f = 7 := Option.some.inj ((show Tryd.prog.funcNamed "quillpen/quillpenlaw23.JoinChecks" = some 7 by kernel_rfl).symm.trans hf) |>.symm
  obtain rfl : fn = Tryd.f7 := (Option.some.inj (Tryd.func7.symm.trans hfn)).symm
  refine ⟨by kernel_rfl, fun j t ht => ?_⟩
  rw [Tryd.params7] at ht
  have hm := Array.mem_of_getElem? ht
  have hall : (#[52] : Array TypeId).toList.all (fun t => Tryd.prog.wantsStandIn t == false) = true := by kernel_rfl
  exact eq_of_beq (List.all_eq_true.1 hall t (by simpa using hm))

theorem proved : Rows.JoinChecksCardSaid :=
  Claim7.holds_tied_plain_at .later [] _ _ _ _ said (fun _ h => by cases h) (by kernel_rfl) (fun _ h => by cases h) joinChecks_row_tie rfl ⟨rfl, rfl⟩ (by kernel_rfl) rfl plain (by kernel_rfl)
end Go.Proofs.YtgiemhooeoakmaaDoor.joinChecks
