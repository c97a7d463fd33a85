/- The first rows in order, and the first ones of rows that are alike, are what the document says. The table of UTF-8 is laid as the text lays it; the card ties it. -/
import Derived.Test.YtgiemhooeoakmaaDoorCards
import Derived.Test.YtgiemhooeoakmaaDoorTie
import Derived.SizedLaws
import Derived.ProofKit
import Derived.OpenShut
import Derived.ShutString
import Derived.ChangeOld
import Derived.Below
import Derived.Deep.DeepHandedRow
import Derived.Deep.DeepWitnessRowRef
import Derived.Test.YtgiemhooeoakmaaDoorKQ
import Derived.Test.YtgiemhooeoakmaaDoorKR
import Derived.Test.YtgiemhooeoakmaaDoorKH
import Derived.Test.YtgiemhooeoakmaaDoorKE
import Derived.Test.YtgiemhooeoakmaaDoorKS
import Derived.Test.YtgiemhooeoakmaaDoorKT
import Derived.Test.YtgiemhooeoakmaaDoorKU
namespace Go.Proofs.YtgiemhooeoakmaaDoor.orderTops
open Go.ChangeShapes Go.WideShapes Go.ChangeAt Go.RowKit
open Go.ChangeMaps (open_string shut_string)
set_option linter.unusedVariables false
set_option linter.unusedSimpArgs false

set_option maxHeartbeats 8000000 in
set_option maxRecDepth 100000 in
theorem walk (v : Value) (n : Int) (hnw : (Lit.int .i64 n).wf = true) (W : World) (hT : Tab W) (h0 : ∃ vk vl vr ks l t, v = .agg #[vk, vl, vr] ∧ RdKey W W.heap.size vk ks ∧ RdC W W.heap.size vl l ∧ RdVT W W.heap.size vr t) :
    Calls Tryd.prog 12 #[v, .int .i64 n] W fun e w' => e = .returned (.bool true) ∧ Below W.heap.size W w' := by
  refine cps fun R HR => ?_
  obtain ⟨vk, vl, vr, ks, l, t, rfl, h1, h2, h3⟩ := h0
  have g1 := h1; have g2 := h2; have g3 := h3
  obtain ⟨A1, c1, rfl, -⟩ := h1.is
  obtain ⟨A2, c2, rfl, -⟩ := h2.is
  obtain ⟨A3, c3, vs, rfl, -, -⟩ := h3.is
  clear h1 h2 h3
  obtain ⟨w0, hw0⟩ : ∃ w0, w0 = W.alloc (.cells #[.slice A1 ks.length c1, .slice A2 l.length c2, .slice A3 t.length c3] 75) := ⟨_, rfl⟩
  have bw0 : Below W.heap.size W w0 := by rw [hw0]; exact (Below.refl _ _).alloc (Nat.le_refl _) _
  have X := Box.new W 75 #[.slice A1 ks.length c1, .slice A2 l.length c2, .slice A3 t.length c3]
  rw [← hw0] at X
  obtain ⟨g, hg⟩ : ∃ g, g = W.heap.size := ⟨_, rfl⟩
  rw [← hg] at X
  have cells : ∀ w' : World, Below w0.heap.size w0 w' → w'.cell? ⟨g, 0, none⟩ = some (.slice A1 ks.length c1) ∧ w'.cell? ⟨g, 1, none⟩ = some (.slice A2 l.length c2) ∧ w'.cell? ⟨g, 2, none⟩ = some (.slice A3 t.length c3) := fun w' hb => by
    have X2 := X.below hb X.lt
    exact ⟨X2.cell 0, X2.cell 1, X2.cell 2⟩
  obtain ⟨x0, x1, x2⟩ := cells w0 (Below.refl _ _)
  have HX := Lib.hid X
  have CELLS := Lib.hid cells; have HW0 := Lib.hid hw0; have HB0 := Lib.hid bw0; have HG := Lib.hid hg
  have HT := Lib.hid hT
  clear X hw0 bw0 cells hT
  go_enter Tryd.func12, Tryd.ntmps12
  go_wp2_with fail
  rw [← HW0.out, ← hg]
  clear hg
  refine (few22_any _ _ _ ks l t _ (RdF.next g1 HB0.out) (RdF.next g2 HB0.out) (RdE.next (RdF.stays valV 4) g3 HB0.out)).mono ?_
  rintro e w1 ⟨⟨ok, rfl, ht⟩, b1⟩
  have bw1 := HB0.out.trans (b1.mono HB0.out.size)
  clear x0 x1 x2
  cases ok
  · clear ht
    go_wp2_with fail
    refine (awake22_any _ (HT.out.below bw1)).mono ?_
    rintro e w99 ⟨rfl, b99⟩
    go_wp2
    exact HR.out _ _ ⟨rfl, bw1.trans (b99.mono bw1.size)⟩
  · obtain ⟨⟨⟨hla, hca⟩, hta, hra⟩, hk⟩ := ht rfl
    have hca2 : ∀ c ∈ l, c.name.size ≤ 100000 := fun c hc => Nat.le_trans (hca c hc) (by omega)
    have hra2 : ∀ r ∈ t, r.length ≤ 100000 := fun r hr => Nat.le_trans (hra r hr).1 (by omega)
    have HCA := Lib.hid hca2; have HRA := Lib.hid hra2
    clear ht hca hra hca2 hra2
    obtain ⟨x0, x1, x2⟩ := CELLS.out w1 b1
    obtain ⟨E, hE⟩ : ∃ E, E = byE l ks t := ⟨_, rfl⟩
    obtain ⟨T1, hT1⟩ : ∃ S, S = (if byE l ks t = 0 then (sortK l ks t).take (topN n (sortK l ks t).length) else []) := ⟨_, rfl⟩
    obtain ⟨U1, hU1⟩ : ∃ S, S = (if byE l ks t = 0 then uniqF (cmpK l ks) t else []) := ⟨_, rfl⟩
    have HE := Lib.hid hE; have HT1 := Lib.hid hT1; have HU1 := Lib.hid hU1
    have hT1l : T1.length ≤ 12 := by
      rw [hT1]
      split
      · rw [List.length_take]; unfold sortK; rw [sortL_len]; omega
      · simp
    have hU1l : U1.length ≤ 12 := by
      rw [hU1]
      split
      · have := uniqF_len (cmpK l ks) t; omega
      · simp
    clear hE hT1 hU1 hnw
    go_wp2_with fail
    refine (otop_any _ _ _ n ks l t _ (RdF.next g1 bw1) (RdF.next g2 bw1) (RdE.next (RdF.stays valV 4) g3 bw1) (by omega) HCA.out (by omega) (HT.out.below bw1)).mono ?_
    rintro e w2 ⟨⟨u, rfl, hu⟩, b2⟩
    rw [← HT1.out] at hu
    rw [← HE.out]
    have b02 := b1.trans (b2.mono b1.size)
    have bw2 := HB0.out.trans (b02.mono HB0.out.size)
    have hu0 := hu
    obtain ⟨uA, uc, us, rfl, -, -⟩ := hu.is
    clear x0 x1 x2 hu
    obtain ⟨x0, x1, x2⟩ := CELLS.out w2 b02
    go_wp2_with fail
    refine (ounique_any _ _ _ ks l t _ (RdF.next g1 bw2) (RdF.next g2 bw2) (RdE.next (RdF.stays valV 4) g3 bw2) (by omega) HCA.out (by omega) (HT.out.below bw2)).mono ?_
    rintro e w3 ⟨⟨u2, rfl, hu2⟩, b3⟩
    rw [← HU1.out] at hu2
    rw [← HE.out]
    have b03 := b02.trans (b3.mono b02.size)
    have bw3 := bw2.trans (b3.mono bw2.size)
    have hu20 := hu2
    obtain ⟨u2A, u2c, u2s, rfl, -, -⟩ := hu2.is
    have hu3 := RdE.next (RdF.stays valV 4) hu0 b3
    clear x0 x1 x2 hu2 hu0
    obtain ⟨x0, x1, x2⟩ := CELLS.out w3 b03
    go_wp2_with fail
    refine (bad22_any _ _ _ ks l t _ (RdF.next g1 bw3) (RdF.next g2 bw3) (RdE.next (RdF.stays valV 4) g3 bw3) (by omega) (by omega) HCA.out).mono ?_
    rintro e w4 ⟨rfl, b4⟩
    rw [← HE.out]
    have b04 := b03.trans (b4.mono b03.size)
    have bw4 := bw3.trans (b4.mono bw3.size)
    have hu4 := RdE.next (RdF.stays valV 4) hu3 b4
    have hu24 := RdE.next (RdF.stays valV 4) hu20 b4
    clear x0 x1 x2 hu3 hu20
    obtain ⟨x0, x1, x2⟩ := CELLS.out w4 b04
    by_cases hz : E = 0
    · subst hz
      have hok := byE_ok HE.out.symm
      have hsk : T1 = (sortF (cmpK l ks) t).take (topN n (sortF (cmpK l ks) t).length) := by rw [HT1.out, if_pos HE.out.symm, (sortK_eq l ks t).1]
      have hun : U1 = uniqF (cmpK l ks) t := by rw [HU1.out, if_pos HE.out.symm]
      have hT1m : ∀ r ∈ T1, r ∈ t := fun r hr => by
        rw [HT1.out, if_pos HE.out.symm] at hr
        exact sortL_mem.1 (List.mem_of_mem_take hr)
      have hU1m : ∀ r ∈ U1, r ∈ t := fun r hr => by
        rw [hun] at hr
        have := (uniqF_rep (ord_K l ks) t t.length (Nat.le_refl _)).2 r (by rw [List.take_length]; exact hr)
        rwa [List.take_length] at this
      have hsr : ∀ r ∈ T1, r.length ≤ 100000 := fun r hr => HRA.out r (hT1m r hr)
      have hur : ∀ r ∈ U1, r.length ≤ 100000 := fun r hr => HRA.out r (hU1m r hr)
      have HKM := Lib.hid (kchk_mem hok.1); have HRL := Lib.hid hok.2; have HSR := Lib.hid hsr; have HUR := Lib.hid hur; have HSK := Lib.hid hsk; have HUN := Lib.hid hun; have HSV := Lib.hid (sameVTR T1); have HSU := Lib.hid (sameVTR U1)
      clear hok hsk hun hT1m hU1m hsr hur
      go_wp2_with fail
      refine (refs22_any _ _ _ ks l t _ (RdF.next g1 bw4) (RdF.next g2 bw4) (RdE.next (RdF.stays valV 4) g3 bw4) (by omega) (by omega) (by omega) HRA.out).mono ?_
      rintro e w5 ⟨⟨ra, rb, rc, rfl, hra5, hrb5, hrc5⟩, b5⟩
      have bw5 := bw4.trans (b5.mono bw4.size)
      have hu5 := RdE.next (RdF.stays valV 4) hu4 b5
      have hu25 := RdE.next (RdF.stays valV 4) hu24 b5
      have hra0 := hra5; have hrb0 := hrb5; have hrc0 := hrc5
      obtain ⟨raA, rac, rfl, -⟩ := hra5.is
      obtain ⟨rbA, rbc, rfl, -⟩ := hrb5.is
      obtain ⟨rcA, rcc, rcs, rfl, -, -⟩ := hrc5.is
      clear hra5 hrb5 hrc5 hu4 hu24 x0 x1 x2
      go_wp2_with fail
      refine (rsort_any _ _ _ ks l t _ hra0 hrb0 hrc0 (by omega) (by omega) HKM.out HRL.out).mono ?_
      rintro e w6 ⟨⟨q6, rfl, hq6⟩, b6⟩
      obtain ⟨S6, hS6⟩ : ∃ S, S = sortF (cmpK l ks) t := ⟨_, rfl⟩
      rw [← hS6] at hq6
      have hq60 := hq6
      obtain ⟨q6A, q6c, q6s, rfl, -, -⟩ := hq6.is
      have hcap6 := rdE_cap hq60
      have htake := RdE.take hq60 (topN_le n S6.length)
      have hT6 : S6.take (topN n S6.length) = T1 := by rw [hS6, HSK.out]
      rw [hT6] at htake
      have htn : ((max (min n (S6.length : Int)) 0).toNat) = topN n S6.length := rfl
      have HTK := Lib.hid htake; have HTN := Lib.hid htn
      have bw6 := bw5.trans (b6.mono bw5.size)
      clear hq6 hq60 hS6 hT6 htake htn
      go_wp2_with fail
      refine (refRows_any _ T1 _ (RdE.next (RdF.stays valV 4) hu5 b6) (by omega) HSR.out).mono ?_
      rintro e w7 ⟨q7, rfl, hq7, b7⟩
      have hq7r := TabY.rd rvalV_len (by omega) hq7
      obtain ⟨q7A, q7c, rfl⟩ := hq7.form
      have b67 := b6.trans (b7.mono b6.size)
      go_wp2_with fail
      refine (sameVT_any _ _ T1 T1 _ hq7r (RdE.next (RdF.stays rvalV 4) HTK.out b7)).mono ?_
      rintro e w8 ⟨rfl, b8⟩
      rw [HSV.out]
      have b68 := b67.trans (b8.mono b67.size)
      go_wp2_with fail
      refine (refRows_any _ U1 _ (RdE.next (RdF.stays valV 4) hu25 b68) (by omega) HUR.out).mono ?_
      rintro e w9 ⟨q9, rfl, hq9, b9⟩
      have hq9r := TabY.rd rvalV_len (by omega) hq9
      obtain ⟨q9A, q9c, rfl⟩ := hq9.form
      have b69 := b68.trans (b9.mono b68.size)
      go_wp2_with fail
      refine (runique_any _ _ _ ks l t _ (RdF.next hra0 b69) (RdF.next hrb0 b69) (RdE.next (RdF.stays rvalV 4) hrc0 b69) (by omega) (by omega) HKM.out HRL.out).mono ?_
      rintro e w10 ⟨⟨q10, rfl, hq10⟩, b10⟩
      rw [← HUN.out] at hq10
      have hq100 := hq10
      obtain ⟨q10A, q10c, q10s, rfl, -, -⟩ := hq10.is
      clear hq10
      have b610 := b69.trans (b10.mono b69.size)
      go_wp2_with fail
      refine (sameVT_any _ _ U1 U1 _ (RdE.next (RdF.stays rvalV 4) hq9r b10) hq100).mono ?_
      rintro e w11 ⟨rfl, b11⟩
      rw [HSU.out]
      have b611 := b610.trans (b11.mono b610.size)
      have bw11 := bw5.trans (b611.mono bw5.size)
      go_wp2_with fail
      refine (awake22_any _ (HT.out.below bw11)).mono ?_
      rintro e w99 ⟨rfl, b99⟩
      go_wp2
      exact HR.out _ _ ⟨rfl, bw11.trans (b99.mono bw11.size)⟩
    · have ht0 : T1 = [] := by rw [HT1.out, if_neg (by rw [← HE.out]; exact hz)]
      have hu0' : U1 = [] := by rw [HU1.out, if_neg (by rw [← HE.out]; exact hz)]
      have dne : ((E : Int) != 0) = true := by rw [bne_iff_ne]; omega
      subst ht0
      subst hu0'
      clear hz x0 x1 x2 hu4 hu24
      try simp only [List.length_nil]
      go_wp2_with fail
      refine (awake22_any _ (HT.out.below bw4)).mono ?_
      rintro e w99 ⟨rfl, b99⟩
      go_wp2
      exact HR.out _ _ ⟨rfl, bw4.trans (b99.mono bw4.size)⟩

theorem own : ownKnob Tryd.prog.godebug = none := by kernel_rfl
theorem laidOut : laidOutB Tryd.prog = true := by kernel_rfl
theorem reads (os : Os) {H : Type} (enc : TypeId × Value → H) : ∃ places, DataW.whole enc Tryd.prog ((laidWorld os).forCall (fun _ _ => 0) ⟨#[], #[.agg #[.slice none 0 0, .slice none 0 0, .slice none 0 0], .int .i64 0], []⟩).memory Tryd.f12.params.toList Rows.orderTopsSpec.vars false #[.agg #[.slice none 0 0, .slice none 0 0, .slice none 0 0], .int .i64 0].toList 8 = some ([.agg [.nil, .nil, .nil], .lit (.int .i64 0)], [], places) :=
  ⟨[], by kernel_rfl⟩

set_option maxRecDepth 100000 in
theorem contract (H : Type) (enc : TypeId × Value → H) (W : World) (base : Nat) (args : Array Value) (ds gs : List (DataW H)) (before : List MemPlace)
    (hval0 : ∀ (j : Nat) t v, Tryd.f12.params[j]? = some t → args[j]? = some v → Value.okWide Tryd.prog W .any base t v)
    (hW : DataW.Whole enc Tryd.prog Tryd.f12.params.toList Rows.orderTopsSpec.vars false W args.toList ds gs before)
    (hsz0 : (DataW.weightsEach Tryd.prog (Tryd.f12.params.toList ++ Rows.orderTopsSpec.plain.varTypes Tryd.prog) (ds ++ gs)).all (· ≤ reachBytes) = true)
    (hL : laidMetH Tryd.prog Rows.orderTopsRow.laid W) :
    Calls Tryd.prog 12 args W fun e W' => ∃ v, e = .returned v ∧ Rows.orderTopsSpec.post enc Tryd.prog Tryd.f12 false true false false W args v W' := by
  have hval := hval0
  have hW' := hW
  obtain ⟨p, q, hA0, hV, rfl, hfz, hnd⟩ := hW
  have hA : DataW.TrodAll enc Tryd.prog W 0 (fun _ => true) true Tryd.f12.params.toList args.toList ds p := hA0
  have hsz : (DataW.weightsEach Tryd.prog (Tryd.f12.params.toList ++ Rows.orderTopsSpec.plain.varTypes Tryd.prog) (ds ++ gs)).all (· ≤ reachBytes) = true := hsz0
  rw [Tryd.params12] at hA hval hsz
  obtain ⟨v0, vs0, d0, ds0, p0, q0, hargs, rfl, rfl, h0, r0⟩ := trodAll_cons hA
  obtain ⟨v1, vs1, d1, ds1, p1, q1, rfl, rfl, rfl, h1, r1⟩ := trodAll_cons r0
  obtain ⟨rfl, rfl, rfl⟩ := trodAll_nil r1
  obtain rfl : args = #[v0, v1] := by cases args; simp_all
  obtain ⟨rfl, rfl⟩ := trodVars_none hV
  have k0 := h0
  have lt0 : ∀ x ∈ p0, x.block < W.heap.size := by obtain ⟨m, hm⟩ := k0; exact DataW.trod_lt m _ _ _ hm
  have w0 := open_case22 (hval 0 75 v0 rfl rfl) h0 (Sized.arg (j := 0) hsz rfl rfl)
  have k1 := h1
  have lt1 : ∀ x ∈ p1, x.block < W.heap.size := by obtain ⟨m, hm⟩ := k1; exact DataW.trod_lt m _ _ _ hm
  obtain ⟨a1, rfl, _, _, w1⟩ := open_int Tryd.underlying3 (hval 1 3 v1 rfl rfl) h1
  clear hA0 hval0
  refine (walk v0 a1 w1 W (tab_row hL) w0).mono fun e W' ⟨he, bel⟩ => ?_
  subst he
  exact ⟨_, rfl, _, _, _, [], _, [], hW', trodAll_mk1 (shut_bool Tryd.underlying4 _), (trodAll_cons_mk (Below.trod laidOut (by kernel_rfl) (of_decide_eq_true (by kernel_rfl)) k0 bel lt0) (trodAll_cons_mk (Below.trod laidOut (by kernel_rfl) (of_decide_eq_true (by kernel_rfl)) k1 bel lt1) trodAll_mk0)), rfl, bel.frame _, fun h => by cases h⟩

set_option maxRecDepth 100000 in
theorem lifted (os : Os) (started : os.Started) (H : Type) (enc : TypeId × Value → H) (F : Stop.Interp) :
    ReturnsInHanded {} Tryd.checked os 12 .any ((OpenSpec.ofChange Rows.orderTopsSpec).preRow enc Tryd.prog Tryd.f12 Rows.orderTopsRow.domain false Rows.orderTopsRow.laid) (((OpenSpec.ofChange Rows.orderTopsSpec).at F).post enc Tryd.prog Tryd.f12 false true false false) := by
  obtain ⟨places, hx⟩ := reads os enc
  refine returnsInHanded_of_row (C := Tryd.checked) (s := OpenSpec.ofChange Rows.orderTopsSpec) own started (by kernel_rfl) Tryd.func12
    (witness_row_atRef (enc := enc) (C := Tryd.checked) false (laidWorld os) #[.agg #[.slice none 0 0, .slice none 0 0, .slice none 0 0], .int .i64 0] rfl (by kernel_rfl) (by kernel_rfl) (by kernel_rfl)
      (OpenSpec.preRow_of_cond 8 hx (by kernel_rfl) (fun k hk => by cases hk) (by kernel_rfl) (laid_met os _))) ?_
  intro W base args ds gs before hval hW _ _ hsz hL _ _
  exact contract H enc W base args ds gs before hval hW hsz hL

theorem said : Rows.OrderTopsSaid :=
  OpenClaim.holds_of_cond 12 Tryd.f12 rfl rfl rfl rfl rfl rfl rfl ⟨rfl, rfl, rfl, rfl, rfl⟩ rfl rfl rfl rfl rfl (by kernel_rfl) Tryd.func12 (by kernel_rfl)
    (of_decide_eq_true (by kernel_rfl)) (by unfold Func.isWrapper; first | (rw [if_pos (by decide +kernel)]; kernel_rfl) | (rw [if_neg (by decide +kernel)]; exact ⟨rfl, rfl⟩))
    (fun os started H enc _ F => by rw [OpenClaim.pre_eq_preRow]; exact lifted os started H enc F)

theorem plain (f : FuncId) (fn : Func) (hf : Tryd.pinned.checked.prog.funcNamed "quillpen/quillpenlaw22.OrderTops" = some f) (hfn : Tryd.pinned.checked.prog.funcs[f]? = some fn) :
    false = Tryd.pinned.checked.prog.looks [] ∧ ∀ (j : Nat) t, fn.params[j]? = some t → Tryd.pinned.checked.prog.wantsStandIn t = false := by
  obtain rfl : f = 12 := Option.some.inj ((show Tryd.prog.funcNamed "quillpen/quillpenlaw22.OrderTops" = some 12 by kernel_rfl).symm.trans hf) |>.symm
  obtain rfl : fn = Tryd.f12 := (Option.some.inj (Tryd.func12.symm.trans hfn)).symm
  refine ⟨by kernel_rfl, fun j t ht => ?_⟩
  rw [Tryd.params12] at ht
  have hm := Array.mem_of_getElem? ht
  have hall : (#[75, 3] : Array TypeId).toList.all (fun t => Tryd.prog.wantsStandIn t == false) = true := by kernel_rfl
  exact eq_of_beq (List.all_eq_true.1 hall t (by simpa using hm))

theorem proved : Rows.OrderTopsCardSaid :=
  Claim7.holds_tied_plain_at .later [] _ _ _ _ said (fun _ h => by cases h) (by kernel_rfl) (fun _ h => by cases h) orderTops_row_tie rfl ⟨rfl, rfl⟩ (by kernel_rfl) rfl plain (by kernel_rfl)
end Go.Proofs.YtgiemhooeoakmaaDoor.orderTops
