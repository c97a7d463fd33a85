/- Whether any keys are right for any columns, or which isn't, and why, is what the document says. The table of UTF-8 is laid as the text lays it; the card ties it. -/
import Derived.Test.YtgiemhooeoakmaaDoorCards
import Derived.Test.YtgiemhooeoakmaaDoorTie
import Derived.SizedLaws
import Derived.ProofKit
import Derived.OpenShut
import Derived.ShutString
import Derived.ChangeOld
import Derived.Below
import Derived.Deep.DeepHandedRow
import Derived.Deep.DeepWitnessRowRef
import Derived.Test.YtgiemhooeoakmaaDoorKQ
import Derived.Test.YtgiemhooeoakmaaDoorKR
import Derived.Test.YtgiemhooeoakmaaDoorKH
import Derived.Test.YtgiemhooeoakmaaDoorKE
namespace Go.Proofs.YtgiemhooeoakmaaDoor.orderChecks
open Go.ChangeShapes Go.WideShapes Go.ChangeAt Go.RowKit
open Go.ChangeMaps (open_string shut_string)
set_option linter.unusedVariables false
set_option linter.unusedSimpArgs false

set_option maxHeartbeats 8000000 in
set_option maxRecDepth 100000 in
theorem walk (v : Value) (W : World) (hT : Tab W) (h0 : ∃ vk vl vr ks l t, v = .agg #[vk, vl, vr] ∧ RdKey W W.heap.size vk ks ∧ RdC W W.heap.size vl l ∧ RdVT W W.heap.size vr t) :
    Calls Tryd.prog 9 #[v] W fun e w' => e = .returned (.bool true) ∧ Below W.heap.size W w' := by
  refine cps fun R HR => ?_
  obtain ⟨vk, vl, vr, ks, l, t, rfl, h1, h2, h3⟩ := h0
  have g1 := h1; have g2 := h2; have g3 := h3
  obtain ⟨A1, c1, rfl, -⟩ := h1.is
  obtain ⟨A2, c2, rfl, -⟩ := h2.is
  obtain ⟨A3, c3, vs, rfl, -, -⟩ := h3.is
  clear h1 h2 h3
  obtain ⟨w0, hw0⟩ : ∃ w0, w0 = W.alloc (.cells #[.slice A1 ks.length c1, .slice A2 l.length c2, .slice A3 t.length c3] 75) := ⟨_, rfl⟩
  have bw0 : Below W.heap.size W w0 := by rw [hw0]; exact (Below.refl _ _).alloc (Nat.le_refl _) _
  have X := Box.new W 75 #[.slice A1 ks.length c1, .slice A2 l.length c2, .slice A3 t.length c3]
  rw [← hw0] at X
  obtain ⟨g, hg⟩ : ∃ g, g = W.heap.size := ⟨_, rfl⟩
  rw [← hg] at X
  have cells : ∀ w' : World, Below w0.heap.size w0 w' → w'.cell? ⟨g, 0, none⟩ = some (.slice A1 ks.length c1) ∧ w'.cell? ⟨g, 1, none⟩ = some (.slice A2 l.length c2) ∧ w'.cell? ⟨g, 2, none⟩ = some (.slice A3 t.length c3) := fun w' hb => by
    have X2 := X.below hb X.lt
    exact ⟨X2.cell 0, X2.cell 1, X2.cell 2⟩
  obtain ⟨x0, x1, x2⟩ := cells w0 (Below.refl _ _)
  have HX := Lib.hid X
  have CELLS := Lib.hid cells; have HW0 := Lib.hid hw0; have HB0 := Lib.hid bw0; have HG := Lib.hid hg
  have HT := Lib.hid hT
  clear X hw0 bw0 cells hT
  go_enter Tryd.func9, Tryd.ntmps9
  go_wp2_with fail
  rw [← HW0.out, ← hg]
  clear hg
  refine (few22_any _ _ _ ks l t _ (RdF.next g1 HB0.out) (RdF.next g2 HB0.out) (RdE.next (RdF.stays valV 4) g3 HB0.out)).mono ?_
  rintro e w1 ⟨⟨ok, rfl, ht⟩, b1⟩
  have bw1 := HB0.out.trans (b1.mono HB0.out.size)
  clear x0 x1 x2
  cases ok
  · clear ht
    go_wp2_with fail
    refine (awake22_any _ (HT.out.below bw1)).mono ?_
    rintro e w99 ⟨rfl, b99⟩
    go_wp2
    exact HR.out _ _ ⟨rfl, bw1.trans (b99.mono bw1.size)⟩
  · obtain ⟨⟨⟨hla, hca⟩, hta, hra⟩, hk⟩ := ht rfl
    have hca2 : ∀ c ∈ l, c.name.size ≤ 100000 := fun c hc => Nat.le_trans (hca c hc) (by omega)
    have hra2 : ∀ r ∈ t, r.length ≤ 100000 := fun r hr => Nat.le_trans (hra r hr).1 (by omega)
    have HCA := Lib.hid hca2; have HRA := Lib.hid hra2
    clear ht hca hra hca2 hra2
    obtain ⟨x0, x1, x2⟩ := CELLS.out w1 b1
    obtain ⟨Y, hY⟩ : ∃ Y, Y = kchk l ks := ⟨_, rfl⟩
    have HY := Lib.hid hY
    clear hY
    go_wp2_with fail
    refine (ocheck_any _ _ ks l _ (RdF.next g1 bw1) (RdF.next g2 bw1) (by omega) HCA.out (HT.out.below bw1)).mono ?_
    rintro e w2 ⟨rfl, b2⟩
    rw [← HY.out]
    have b02 := b1.trans (b2.mono b1.size)
    have bw2 := HB0.out.trans (b02.mono HB0.out.size)
    have mk : ∀ w', Below w2.heap.size w2 w' → w'.cell? ⟨g, 0, none⟩ = some (.slice A1 ks.length c1) ∧ w'.cell? ⟨g, 1, none⟩ = some (.slice A2 l.length c2) ∧ w'.cell? ⟨g, 2, none⟩ = some (.slice A3 t.length c3) ∧ Below w2.heap.size w2 w' := fun w' hb => by
      obtain ⟨y0, y1, y2⟩ := CELLS.out w' (b02.trans (hb.mono b02.size))
      exact ⟨y0, y1, y2, hb⟩
    have MK := Lib.hid mk
    clear mk x0 x1 x2
    go_wp2
    go_region_held3 (fun w' => w'.cell? ⟨g, 0, none⟩ = some (.slice A1 ks.length c1) ∧ w'.cell? ⟨g, 1, none⟩ = some (.slice A2 l.length c2) ∧ w'.cell? ⟨g, 2, none⟩ = some (.slice A3 t.length c3) ∧ Below w2.heap.size w2 w') (first | (exact MK.out _ (Below.drew (Below.refl _ _))) | (go_split_ands; exact MK.out _ (by assumption)) | (go_split_ands; exact MK.out _ (keepB (by assumption) (by assumption))) | (go_split_ands; exact MK.out _ (Below.alloc (by assumption) (Below.size (by assumption)) _)) | go_keep) (first | (go_at_call 45; go_split_ands; refine (lawKeys_any _ ks _ (RdF.next g1 (bw2.trans (Below.mono (by assumption) bw2.size))) (by omega)).mono ?_; rintro e w10 ⟨q10, rfl, hq10, b10⟩) | (go_at_call 21; go_split_ands; refine (refCols_any _ l _ (RdF.next g2 (bw2.trans (Below.mono (by assumption) bw2.size))) (by omega)).mono ?_; rintro e w11 ⟨q11, rfl, hq11, b11⟩) | (go_at_call 44; go_split_ands; refine (rocheck_any _ _ ks l _ (RdF.next (RdF.of_own rkeyV_len (by omega) hq10) b11) (RdF.of_own rcolV_len (by omega) hq11) (by omega) (by omega) HCA.out).mono ?_; rintro e w12 ⟨rfl, b12⟩; have cb12 := keepB b12 (by assumption)))
    rw [← HY.out]
    have bw3 := bw2.trans (cb12.mono bw2.size)
    obtain ⟨Y1, Y2⟩ := Y
    go_wp2_with fail
    refine (awake22_any _ (HT.out.below bw3)).mono ?_
    rintro e w99 ⟨rfl, b99⟩
    go_wp2
    exact HR.out _ _ ⟨rfl, bw3.trans (b99.mono bw3.size)⟩

theorem own : ownKnob Tryd.prog.godebug = none := by kernel_rfl
theorem laidOut : laidOutB Tryd.prog = true := by kernel_rfl
theorem reads (os : Os) {H : Type} (enc : TypeId × Value → H) : ∃ places, DataW.whole enc Tryd.prog ((laidWorld os).forCall (fun _ _ => 0) ⟨#[], #[.agg #[.slice none 0 0, .slice none 0 0, .slice none 0 0]], []⟩).memory Tryd.f9.params.toList Rows.orderChecksSpec.vars false #[.agg #[.slice none 0 0, .slice none 0 0, .slice none 0 0]].toList 8 = some ([.agg [.nil, .nil, .nil]], [], places) :=
  ⟨[], by kernel_rfl⟩

set_option maxRecDepth 100000 in
theorem contract (H : Type) (enc : TypeId × Value → H) (W : World) (base : Nat) (args : Array Value) (ds gs : List (DataW H)) (before : List MemPlace)
    (hval0 : ∀ (j : Nat) t v, Tryd.f9.params[j]? = some t → args[j]? = some v → Value.okWide Tryd.prog W .any base t v)
    (hW : DataW.Whole enc Tryd.prog Tryd.f9.params.toList Rows.orderChecksSpec.vars false W args.toList ds gs before)
    (hsz0 : (DataW.weightsEach Tryd.prog (Tryd.f9.params.toList ++ Rows.orderChecksSpec.plain.varTypes Tryd.prog) (ds ++ gs)).all (· ≤ reachBytes) = true)
    (hL : laidMetH Tryd.prog Rows.orderChecksRow.laid W) :
    Calls Tryd.prog 9 args W fun e W' => ∃ v, e = .returned v ∧ Rows.orderChecksSpec.post enc Tryd.prog Tryd.f9 false true false false W args v W' := by
  have hval := hval0
  have hW' := hW
  obtain ⟨p, q, hA0, hV, rfl, hfz, hnd⟩ := hW
  have hA : DataW.TrodAll enc Tryd.prog W 0 (fun _ => true) true Tryd.f9.params.toList args.toList ds p := hA0
  have hsz : (DataW.weightsEach Tryd.prog (Tryd.f9.params.toList ++ Rows.orderChecksSpec.plain.varTypes Tryd.prog) (ds ++ gs)).all (· ≤ reachBytes) = true := hsz0
  rw [Tryd.params9] at hA hval hsz
  obtain ⟨v0, vs0, d0, ds0, p0, q0, hargs, rfl, rfl, h0, r0⟩ := trodAll_cons hA
  obtain ⟨rfl, rfl, rfl⟩ := trodAll_nil r0
  obtain rfl : args = #[v0] := by cases args; simp_all
  obtain ⟨rfl, rfl⟩ := trodVars_none hV
  have k0 := h0
  have lt0 : ∀ x ∈ p0, x.block < W.heap.size := by obtain ⟨m, hm⟩ := k0; exact DataW.trod_lt m _ _ _ hm
  have w0 := open_case22 (hval 0 75 v0 rfl rfl) h0 (Sized.arg (j := 0) hsz rfl rfl)
  clear hA0 hval0
  refine (walk v0 W (tab_row hL) w0).mono fun e W' ⟨he, bel⟩ => ?_
  subst he
  exact ⟨_, rfl, _, _, _, [], _, [], hW', trodAll_mk1 (shut_bool Tryd.underlying4 _), (trodAll_cons_mk (Below.trod laidOut (by kernel_rfl) (of_decide_eq_true (by kernel_rfl)) k0 bel lt0) trodAll_mk0), rfl, bel.frame _, fun h => by cases h⟩

set_option maxRecDepth 100000 in
theorem lifted (os : Os) (started : os.Started) (H : Type) (enc : TypeId × Value → H) (F : Stop.Interp) :
    ReturnsInHanded {} Tryd.checked os 9 .any ((OpenSpec.ofChange Rows.orderChecksSpec).preRow enc Tryd.prog Tryd.f9 Rows.orderChecksRow.domain false Rows.orderChecksRow.laid) (((OpenSpec.ofChange Rows.orderChecksSpec).at F).post enc Tryd.prog Tryd.f9 false true false false) := by
  obtain ⟨places, hx⟩ := reads os enc
  refine returnsInHanded_of_row (C := Tryd.checked) (s := OpenSpec.ofChange Rows.orderChecksSpec) own started (by kernel_rfl) Tryd.func9
    (witness_row_atRef (enc := enc) (C := Tryd.checked) false (laidWorld os) #[.agg #[.slice none 0 0, .slice none 0 0, .slice none 0 0]] rfl (by kernel_rfl) (by kernel_rfl) (by kernel_rfl)
      (OpenSpec.preRow_of_cond 8 hx (by kernel_rfl) (fun k hk => by cases hk) (by kernel_rfl) (laid_met os _))) ?_
  intro W base args ds gs before hval hW _ _ hsz hL _ _
  exact contract H enc W base args ds gs before hval hW hsz hL

theorem said : Rows.OrderChecksSaid :=
  OpenClaim.holds_of_cond 9 Tryd.f9 rfl rfl rfl rfl rfl rfl rfl ⟨rfl, rfl, rfl, rfl, rfl⟩ rfl rfl rfl rfl rfl (by kernel_rfl) Tryd.func9 (by kernel_rfl)
    (of_decide_eq_true (by kernel_rfl)) (by unfold Func.isWrapper; first | (rw [if_pos (by decide +kernel)]; kernel_rfl) | (rw [if_neg (by decide +kernel)]; exact ⟨rfl, rfl⟩))
    (fun os started H enc _ F => by rw [OpenClaim.pre_eq_preRow]; exact lifted os started H enc F)

theorem plain (f : FuncId) (fn : Func) (hf : Tryd.pinned.checked.prog.funcNamed "quillpen/quillpenlaw22.OrderChecks" = some f) (hfn : Tryd.pinned.checked.prog.funcs[f]? = some fn) :
    false = Tryd.pinned.checked.prog.looks [] ∧ ∀ (j : Nat) t, fn.params[j]? = some t → Tryd.pinned.checked.prog.wantsStandIn t = false := by
  obtain rfl : f = 9 := Option.some.inj ((show Tryd.prog.funcNamed "quillpen/quillpenlaw22.OrderChecks" = some 9 by kernel_rfl).symm.trans hf) |>.symm
  obtain rfl : fn = Tryd.f9 := (Option.some.inj (Tryd.func9.symm.trans hfn)).symm
  refine ⟨by kernel_rfl, fun j t ht => ?_⟩
  rw [Tryd.params9] at ht
  have hm := Array.mem_of_getElem? ht
  have hall : (#[75] : Array TypeId).toList.all (fun t => Tryd.prog.wantsStandIn t == false) = true := by kernel_rfl
  exact eq_of_beq (List.all_eq_true.1 hall t (by simpa using hm))

theorem proved : Rows.OrderChecksCardSaid :=
  Claim7.holds_tied_plain_at .later [] _ _ _ _ said (fun _ h => by cases h) (by kernel_rfl) (fun _ h => by cases h) orderChecks_row_tie rfl ⟨rfl, rfl⟩ (by kernel_rfl) rfl plain (by kernel_rfl)
end Go.Proofs.YtgiemhooeoakmaaDoor.orderChecks
