/- Any rows in order are what the document says, or why they can't be; sorted again nothing changes. The table of UTF-8 is laid as the text lays it; the card ties it. -/
import Derived.Test.YtgiemhooeoakmaaDoorCards
import Derived.Test.YtgiemhooeoakmaaDoorTie
import Derived.SizedLaws
import Derived.ProofKit
import Derived.OpenShut
import Derived.ShutString
import Derived.ChangeOld
import Derived.Below
import Derived.Deep.DeepHandedRow
import Derived.Deep.DeepWitnessRowRef
import Derived.Test.YtgiemhooeoakmaaDoorKQ
import Derived.Test.YtgiemhooeoakmaaDoorKR
import Derived.Test.YtgiemhooeoakmaaDoorKH
import Derived.Test.YtgiemhooeoakmaaDoorKE
import Derived.Test.YtgiemhooeoakmaaDoorKS
import Derived.Test.YtgiemhooeoakmaaDoorKT
namespace Go.Proofs.YtgiemhooeoakmaaDoor.orderSorts
open Go.ChangeShapes Go.WideShapes Go.ChangeAt Go.RowKit
open Go.ChangeMaps (open_string shut_string)
set_option linter.unusedVariables false
set_option linter.unusedSimpArgs false

set_option maxHeartbeats 8000000 in
set_option maxRecDepth 100000 in
theorem walk (v : Value) (W : World) (hT : Tab W) (h0 : ∃ vk vl vr ks l t, v = .agg #[vk, vl, vr] ∧ RdKey W W.heap.size vk ks ∧ RdC W W.heap.size vl l ∧ RdVT W W.heap.size vr t) :
    Calls Tryd.prog 10 #[v] W fun e w' => e = .returned (.bool true) ∧ Below W.heap.size W w' := by
  refine cps fun R HR => ?_
  obtain ⟨vk, vl, vr, ks, l, t, rfl, h1, h2, h3⟩ := h0
  have g1 := h1; have g2 := h2; have g3 := h3
  obtain ⟨A1, c1, rfl, -⟩ := h1.is
  obtain ⟨A2, c2, rfl, -⟩ := h2.is
  obtain ⟨A3, c3, vs, rfl, -, -⟩ := h3.is
  clear h1 h2 h3
  obtain ⟨w0, hw0⟩ : ∃ w0, w0 = W.alloc (.cells #[.slice A1 ks.length c1, .slice A2 l.length c2, .slice A3 t.length c3] 75) := ⟨_, rfl⟩
  have bw0 : Below W.heap.size W w0 := by rw [hw0]; exact (Below.refl _ _).alloc (Nat.le_refl _) _
  have X := Box.new W 75 #[.slice A1 ks.length c1, .slice A2 l.length c2, .slice A3 t.length c3]
  rw [← hw0] at X
  obtain ⟨g, hg⟩ : ∃ g, g = W.heap.size := ⟨_, rfl⟩
  rw [← hg] at X
  have cells : ∀ w' : World, Below w0.heap.size w0 w' → w'.cell? ⟨g, 0, none⟩ = some (.slice A1 ks.length c1) ∧ w'.cell? ⟨g, 1, none⟩ = some (.slice A2 l.length c2) ∧ w'.cell? ⟨g, 2, none⟩ = some (.slice A3 t.length c3) := fun w' hb => by
    have X2 := X.below hb X.lt
    exact ⟨X2.cell 0, X2.cell 1, X2.cell 2⟩
  obtain ⟨x0, x1, x2⟩ := cells w0 (Below.refl _ _)
  have HX := Lib.hid X
  have CELLS := Lib.hid cells; have HW0 := Lib.hid hw0; have HB0 := Lib.hid bw0; have HG := Lib.hid hg
  have HT := Lib.hid hT
  clear X hw0 bw0 cells hT
  go_enter Tryd.func10, Tryd.ntmps10
  go_wp2_with fail
  rw [← HW0.out, ← hg]
  clear hg
  refine (few22_any _ _ _ ks l t _ (RdF.next g1 HB0.out) (RdF.next g2 HB0.out) (RdE.next (RdF.stays valV 4) g3 HB0.out)).mono ?_
  rintro e w1 ⟨⟨ok, rfl, ht⟩, b1⟩
  have bw1 := HB0.out.trans (b1.mono HB0.out.size)
  clear x0 x1 x2
  cases ok
  · clear ht
    go_wp2_with fail
    refine (awake22_any _ (HT.out.below bw1)).mono ?_
    rintro e w99 ⟨rfl, b99⟩
    go_wp2
    exact HR.out _ _ ⟨rfl, bw1.trans (b99.mono bw1.size)⟩
  · obtain ⟨⟨⟨hla, hca⟩, hta, hra⟩, hk⟩ := ht rfl
    have hca2 : ∀ c ∈ l, c.name.size ≤ 100000 := fun c hc => Nat.le_trans (hca c hc) (by omega)
    have hra2 : ∀ r ∈ t, r.length ≤ 100000 := fun r hr => Nat.le_trans (hra r hr).1 (by omega)
    have HCA := Lib.hid hca2; have HRA := Lib.hid hra2
    clear ht hca hra hca2 hra2
    obtain ⟨x0, x1, x2⟩ := CELLS.out w1 b1
    obtain ⟨E, hE⟩ : ∃ E, E = byE l ks t := ⟨_, rfl⟩
    obtain ⟨Srt, hSrt⟩ : ∃ S, S = (if byE l ks t = 0 then sortK l ks t else []) := ⟨_, rfl⟩
    have HE := Lib.hid hE; have HSrt := Lib.hid hSrt
    clear hE hSrt
    go_wp2_with fail
    refine (osort_any _ _ _ ks l t _ (RdF.next g1 bw1) (RdF.next g2 bw1) (RdE.next (RdF.stays valV 4) g3 bw1) (by omega) HCA.out (by omega) (HT.out.below bw1)).mono ?_
    rintro e w2 ⟨⟨u, rfl, hu⟩, b2⟩
    rw [← HSrt.out] at hu
    rw [← HE.out]
    have b02 := b1.trans (b2.mono b1.size)
    have bw2 := HB0.out.trans (b02.mono HB0.out.size)
    have hu0 := hu
    obtain ⟨uA, uc, us, rfl, -, -⟩ := hu.is
    clear x0 x1 x2 hu
    obtain ⟨x0, x1, x2⟩ := CELLS.out w2 b02
    go_wp2_with fail
    refine (bad22_any _ _ _ ks l t _ (RdF.next g1 bw2) (RdF.next g2 bw2) (RdE.next (RdF.stays valV 4) g3 bw2) (by omega) (by omega) HCA.out).mono ?_
    rintro e w3 ⟨rfl, b3⟩
    rw [← HE.out]
    have b03 := b02.trans (b3.mono b02.size)
    have bw3 := bw2.trans (b3.mono bw2.size)
    clear x0 x1 x2
    obtain ⟨x0, x1, x2⟩ := CELLS.out w3 b03
    by_cases hz : E = 0
    · subst hz
      have hok := byE_ok HE.out.symm
      have hsk : Srt = sortK l ks t := by rw [HSrt.out, if_pos HE.out.symm]
      have hperm : ∀ r, r ∈ Srt ↔ r ∈ t := fun r => by rw [hsk]; exact sortL_mem
      have hsl : Srt.length ≤ 12 := by rw [hsk]; unfold sortK; rw [sortL_len]; omega
      have hsr : ∀ r ∈ Srt, r.length ≤ 100000 := fun r hr => HRA.out r ((hperm r).1 hr)
      have hsE : byE l ks Srt = 0 := by
        unfold byE
        rw [if_neg (by rw [hok.1]; simp), if_pos (fitsB_iff.2 fun r hr => hok.2 r ((hperm r).1 hr))]
      have hagain : (if byE l ks Srt = 0 then sortK l ks Srt else []) = Srt := by rw [if_pos hsE, hsk, sortK_again]
      have hsf : Srt = sortF (cmpK l ks) t := by rw [hsk, (sortK_eq l ks t).1]
      have HKM := Lib.hid (kchk_mem hok.1); have HRL := Lib.hid hok.2; have HSR := Lib.hid hsr; have HSE := Lib.hid hsE; have HAG := Lib.hid hagain; have HSF := Lib.hid hsf; have HSV := Lib.hid (sameVTR Srt)
      clear hok hsk hperm hsr hsE hagain hsf
      go_wp2_with fail
      refine (refs22_any _ _ _ ks l t _ (RdF.next g1 bw3) (RdF.next g2 bw3) (RdE.next (RdF.stays valV 4) g3 bw3) (by omega) (by omega) (by omega) HRA.out).mono ?_
      rintro e w4 ⟨⟨ra, rb, rc, rfl, hra4, hrb4, hrc4⟩, b4⟩
      have b04 := b03.trans (b4.mono b03.size)
      have bw4 := bw3.trans (b4.mono bw3.size)
      have b24 := b3.trans (b4.mono b3.size)
      clear x0 x1 x2
      obtain ⟨x0, x1, x2⟩ := CELLS.out w4 b04
      have hu4 := RdE.next (RdF.stays valV 4) hu0 b24
      have hra0 := hra4; have hrb0 := hrb4; have hrc0 := hrc4
      obtain ⟨raA, rac, rfl, -⟩ := hra4.is
      obtain ⟨rbA, rbc, rfl, -⟩ := hrb4.is
      obtain ⟨rcA, rcc, rcs, rfl, -, -⟩ := hrc4.is
      clear hra4 hrb4 hrc4
      go_wp2_with fail
      refine (osort_any _ _ _ ks l Srt _ (RdF.next g1 bw4) (RdF.next g2 bw4) hu4 (by omega) HCA.out (by omega) (HT.out.below bw4)).mono ?_
      rintro e w5 ⟨⟨u2, rfl, hu2⟩, b5⟩
      rw [HAG.out] at hu2
      rw [HSE.out]
      have bw5 := bw4.trans (b5.mono bw4.size)
      have ht5 := hu2
      have hs5 := RdE.next (RdF.stays valV 4) hu4 b5
      have hra := RdF.next hra0 b5
      have hrb := RdF.next hrb0 b5
      have hrc := RdE.next (RdF.stays rvalV 4) hrc0 b5
      obtain ⟨u2A, u2c, u2s, rfl, -, -⟩ := hu2.is
      clear hu2 hu4 hu0 hra0 hrb0 hrc0 x0 x1 x2
      go_wp2_with fail
      refine (refRows_any _ Srt _ hs5 (by omega) HSR.out).mono ?_
      rintro e w30 ⟨q30, rfl, hq30, b30⟩
      have hq30r := TabY.rd rvalV_len (by omega) hq30
      obtain ⟨q30A, q30c, rfl⟩ := hq30.form
      go_wp2_with fail
      refine (rsort_any _ _ _ ks l t _ (RdF.next hra b30) (RdF.next hrb b30) (RdE.next (RdF.stays rvalV 4) hrc b30) (by omega) (by omega) HKM.out HRL.out).mono ?_
      rintro e w31 ⟨⟨q31, rfl, hq31⟩, b31⟩
      rw [← HSF.out] at hq31
      have hq31r := hq31
      obtain ⟨q31A, q31c, q31s, rfl, -, -⟩ := hq31.is
      clear hq31
      have b531 := b30.trans (b31.mono b30.size)
      go_wp2_with fail
      refine (sameVT_any _ _ Srt Srt _ (RdE.next (RdF.stays rvalV 4) hq30r b31) hq31r).mono ?_
      rintro e w34 ⟨rfl, b34⟩
      rw [HSV.out]
      have b534 := b531.trans (b34.mono b531.size)
      go_wp2_with fail
      refine (refRows_any _ Srt _ (RdE.next (RdF.stays valV 4) hs5 b534) (by omega) HSR.out).mono ?_
      rintro e w32 ⟨q32, rfl, hq32, b32⟩
      have hq32r := TabY.rd rvalV_len (by omega) hq32
      obtain ⟨q32A, q32c, rfl⟩ := hq32.form
      have b532 := b534.trans (b32.mono b534.size)
      go_wp2_with fail
      refine (refRows_any _ Srt _ (RdE.next (RdF.stays valV 4) ht5 b532) (by omega) HSR.out).mono ?_
      rintro e w33 ⟨q33, rfl, hq33, b33⟩
      have hq33r := TabY.rd rvalV_len (by omega) hq33
      obtain ⟨q33A, q33c, rfl⟩ := hq33.form
      have b533 := b532.trans (b33.mono b532.size)
      go_wp2_with fail
      refine (sameVT_any _ _ Srt Srt _ (RdE.next (RdF.stays rvalV 4) hq32r b33) hq33r).mono ?_
      rintro e w35 ⟨rfl, b35⟩
      rw [HSV.out]
      have b535 := b533.trans (b35.mono b533.size)
      have bw35 := bw5.trans (b535.mono bw5.size)
      go_wp2_with fail
      refine (awake22_any _ (HT.out.below bw35)).mono ?_
      rintro e w99 ⟨rfl, b99⟩
      go_wp2
      exact HR.out _ _ ⟨rfl, bw35.trans (b99.mono bw35.size)⟩
    · have hsn : Srt = [] := by rw [HSrt.out, if_neg (by rw [← HE.out]; exact hz)]
      have dne : ((E : Int) != 0) = true := by rw [bne_iff_ne]; omega
      subst hsn
      clear hz x0 x1 x2 hu0
      try simp only [List.length_nil]
      go_wp2_with fail
      refine (awake22_any _ (HT.out.below bw3)).mono ?_
      rintro e w99 ⟨rfl, b99⟩
      go_wp2
      exact HR.out _ _ ⟨rfl, bw3.trans (b99.mono bw3.size)⟩

theorem own : ownKnob Tryd.prog.godebug = none := by kernel_rfl
theorem laidOut : laidOutB Tryd.prog = true := by kernel_rfl
theorem reads (os : Os) {H : Type} (enc : TypeId × Value → H) : ∃ places, DataW.whole enc Tryd.prog ((laidWorld os).forCall (fun _ _ => 0) ⟨#[], #[.agg #[.slice none 0 0, .slice none 0 0, .slice none 0 0]], []⟩).memory Tryd.f10.params.toList Rows.orderSortsSpec.vars false #[.agg #[.slice none 0 0, .slice none 0 0, .slice none 0 0]].toList 8 = some ([.agg [.nil, .nil, .nil]], [], places) :=
  ⟨[], by kernel_rfl⟩

set_option maxRecDepth 100000 in
theorem contract (H : Type) (enc : TypeId × Value → H) (W : World) (base : Nat) (args : Array Value) (ds gs : List (DataW H)) (before : List MemPlace)
    (hval0 : ∀ (j : Nat) t v, Tryd.f10.params[j]? = some t → args[j]? = some v → Value.okWide Tryd.prog W .any base t v)
    (hW : DataW.Whole enc Tryd.prog Tryd.f10.params.toList Rows.orderSortsSpec.vars false W args.toList ds gs before)
    (hsz0 : (DataW.weightsEach Tryd.prog (Tryd.f10.params.toList ++ Rows.orderSortsSpec.plain.varTypes Tryd.prog) (ds ++ gs)).all (· ≤ reachBytes) = true)
    (hL : laidMetH Tryd.prog Rows.orderSortsRow.laid W) :
    Calls Tryd.prog 10 args W fun e W' => ∃ v, e = .returned v ∧ Rows.orderSortsSpec.post enc Tryd.prog Tryd.f10 false true false false W args v W' := by
  have hval := hval0
  have hW' := hW
  obtain ⟨p, q, hA0, hV, rfl, hfz, hnd⟩ := hW
  have hA : DataW.TrodAll enc Tryd.prog W 0 (fun _ => true) true Tryd.f10.params.toList args.toList ds p := hA0
  have hsz : (DataW.weightsEach Tryd.prog (Tryd.f10.params.toList ++ Rows.orderSortsSpec.plain.varTypes Tryd.prog) (ds ++ gs)).all (· ≤ reachBytes) = true := hsz0
  rw [Tryd.params10] at hA hval hsz
  obtain ⟨v0, vs0, d0, ds0, p0, q0, hargs, rfl, rfl, h0, r0⟩ := trodAll_cons hA
  obtain ⟨rfl, rfl, rfl⟩ := trodAll_nil r0
  obtain rfl : args = #[v0] := by cases args; simp_all
  obtain ⟨rfl, rfl⟩ := trodVars_none hV
  have k0 := h0
  have lt0 : ∀ x ∈ p0, x.block < W.heap.size := by obtain ⟨m, hm⟩ := k0; exact DataW.trod_lt m _ _ _ hm
  have w0 := open_case22 (hval 0 75 v0 rfl rfl) h0 (Sized.arg (j := 0) hsz rfl rfl)
  clear hA0 hval0
  refine (walk v0 W (tab_row hL) w0).mono fun e W' ⟨he, bel⟩ => ?_
  subst he
  exact ⟨_, rfl, _, _, _, [], _, [], hW', trodAll_mk1 (shut_bool Tryd.underlying4 _), (trodAll_cons_mk (Below.trod laidOut (by kernel_rfl) (of_decide_eq_true (by kernel_rfl)) k0 bel lt0) trodAll_mk0), rfl, bel.frame _, fun h => by cases h⟩

set_option maxRecDepth 100000 in
theorem lifted (os : Os) (started : os.Started) (H : Type) (enc : TypeId × Value → H) (F : Stop.Interp) :
    ReturnsInHanded {} Tryd.checked os 10 .any ((OpenSpec.ofChange Rows.orderSortsSpec).preRow enc Tryd.prog Tryd.f10 Rows.orderSortsRow.domain false Rows.orderSortsRow.laid) (((OpenSpec.ofChange Rows.orderSortsSpec).at F).post enc Tryd.prog Tryd.f10 false true false false) := by
  obtain ⟨places, hx⟩ := reads os enc
  refine returnsInHanded_of_row (C := Tryd.checked) (s := OpenSpec.ofChange Rows.orderSortsSpec) own started (by kernel_rfl) Tryd.func10
    (witness_row_atRef (enc := enc) (C := Tryd.checked) false (laidWorld os) #[.agg #[.slice none 0 0, .slice none 0 0, .slice none 0 0]] rfl (by kernel_rfl) (by kernel_rfl) (by kernel_rfl)
      (OpenSpec.preRow_of_cond 8 hx (by kernel_rfl) (fun k hk => by cases hk) (by kernel_rfl) (laid_met os _))) ?_
  intro W base args ds gs before hval hW _ _ hsz hL _ _
  exact contract H enc W base args ds gs before hval hW hsz hL

theorem said : Rows.OrderSortsSaid :=
  OpenClaim.holds_of_cond 10 Tryd.f10 rfl rfl rfl rfl rfl rfl rfl ⟨rfl, rfl, rfl, rfl, rfl⟩ rfl rfl rfl rfl rfl (by kernel_rfl) Tryd.func10 (by kernel_rfl)
    (of_decide_eq_true (by kernel_rfl)) (by unfold Func.isWrapper; first | (rw [if_pos (by decide +kernel)]; kernel_rfl) | (rw [if_neg (by decide +kernel)]; exact ⟨rfl, rfl⟩))
    (fun os started H enc _ F => by rw [OpenClaim.pre_eq_preRow]; exact lifted os started H enc F)

theorem plain (f : FuncId) (fn : Func) (hf : Tryd.pinned.checked.prog.funcNamed "quillpen/quillpenlaw22.OrderSorts" = some f) (hfn : Tryd.pinned.checked.prog.funcs[f]? = some fn) :
    false = Tryd.pinned.checked.prog.looks [] ∧ ∀ (j : Nat) t, fn.params[j]? = some t → Tryd.pinned.checked.prog.wantsStandIn t = false := by
  obtain rfl : f = 10 := Option.some.inj ((show Tryd.prog.funcNamed "quillpen/quillpenlaw22.OrderSorts" = some 10 by kernel_rfl).symm.trans hf) |>.symm
  obtain rfl : fn = Tryd.f10 := (Option.some.inj (Tryd.func10.symm.trans hfn)).symm
  refine ⟨by kernel_rfl, fun j t ht => ?_⟩
  rw [Tryd.params10] at ht
  have hm := Array.mem_of_getElem? ht
  have hall : (#[75] : Array TypeId).toList.all (fun t => Tryd.prog.wantsStandIn t == false) = true := by kernel_rfl
  exact eq_of_beq (List.all_eq_true.1 hall t (by simpa using hm))

theorem proved : Rows.OrderSortsCardSaid :=
  Claim7.holds_tied_plain_at .later [] _ _ _ _ said (fun _ h => by cases h) (by kernel_rfl) (fun _ h => by cases h) orderSorts_row_tie rfl ⟨rfl, rfl⟩ (by kernel_rfl) rfl plain (by kernel_rfl)
end Go.Proofs.YtgiemhooeoakmaaDoor.orderSorts
