/- The fields of any record at any places, or why there are none, are what the document says. The table of UTF-8 is laid as the text lays it; the card ties it. -/
import Derived.Test.YtamhdlopchhdjaaDoorBindG
import Derived.Test.YtamhdlopchhdjaaDoorCards
import Derived.Test.YtamhdlopchhdjaaDoorTie
import Derived.SizedLaws
import Derived.ProofKit
import Derived.OpenShut
import Derived.ShutString
import Derived.ChangeOld
import Derived.Below
import Derived.Deep.DeepHandedRow
import Derived.Deep.DeepWitnessRowRef
namespace Go.Proofs.YtamhdlopchhdjaaDoor.bindPicks
open Go.ChangeShapes Go.WideShapes Go.ChangeAt Go.RowKit
open Go.ChangeMaps (open_string shut_string)
set_option linter.unusedVariables false
set_option linter.unusedSimpArgs false

set_option maxHeartbeats 2000000 in
theorem walk (v u : Value) (W : World) (hT : Tab W) (h0 : ∃ l, RdS W W.heap.size v l) (h1 : ∃ l, RdI W W.heap.size u l) :
    Calls Tryd.prog 9 #[v, u] W fun e w' => e = .returned (.bool true) ∧ Below W.heap.size W w' := by
  refine cps fun R HR => ?_
  obtain ⟨l, h0⟩ := h0
  obtain ⟨ps, h1⟩ := h1
  have h2 := h1
  obtain ⟨A, c, rfl, -⟩ := h1.is
  have hfew := h2.few
  have HT := Lib.hid hT
  clear hT h1
  go_enter Tryd.func9, Tryd.ntmps9
  go_wp2_with fail
  refine (few19_any _ l _ h0).mono ?_
  rintro e w1 ⟨⟨g, rfl, hg⟩, b1⟩
  cases g
  · clear hg
    go_wp2_with fail
    refine (awake19_any _ (HT.out.below b1)).mono ?_
    rintro e w99 ⟨rfl, b99⟩
    go_wp2
    exact HR.out _ _ ⟨rfl, b1.trans (b99.mono b1.size)⟩
  · obtain ⟨q1, q2⟩ := hg rfl
    have Q1 := Lib.hid q1; have Q2 := Lib.hid q2
    clear hg q1 q2
    by_cases hp : 20 < ps.length
    · have d : decide ((20 : Int) < ps.length) = true := decide_eq_true (by omega)
      clear hp
      go_wp2_with fail
      refine (awake19_any _ (HT.out.below b1)).mono ?_
      rintro e w99 ⟨rfl, b99⟩
      go_wp2
      exact HR.out _ _ ⟨rfl, b1.trans (b99.mono b1.size)⟩
    · have d : decide ((20 : Int) < ps.length) = false := decide_eq_false (by omega)
      obtain ⟨Y, hY⟩ : ∃ Y, Y = pickF l ps := ⟨_, rfl⟩
      have HY := Lib.hid hY
      clear hY
      go_wp2_with fail
      refine (bpick_any _ _ l ps _ (h0.next b1) (h2.next b1) (by omega)).mono ?_
      rintro e w3 ⟨o, rfl, ho3, b3⟩
      rw [← HY.out] at ho3 ⊢
      have bw3 := b1.trans (b3.mono b1.size)
      go_wp2_with fail
      refine (refPickB_any _ _ l ps _ (h0.next bw3) (h2.next bw3) (by omega)).mono ?_
      rintro e w5 ⟨o5, rfl, ho5, b5⟩
      rw [← HY.out] at ho5 ⊢
      have bw5 := bw3.trans (b5.mono bw3.size)
      obtain ⟨y1, y2⟩ := Y
      have r3 := (RdS.of_own ho3).next b5
      have r5 := RdS.of_own ho5
      have S1 := Lib.hid (show sameS y1 y1 = true from decide_eq_true rfl)
      go_wp2_with fail
      refine (same_any _ _ y1 y1 _ r3 r5).mono ?_
      rintro e w7 ⟨rfl, b7⟩
      rw [S1.out]
      have bw7 := bw5.trans (b7.mono bw5.size)
      go_wp2_with fail
      refine (awake19_any _ (HT.out.below bw7)).mono ?_
      rintro e w99 ⟨rfl, b99⟩
      go_wp2
      exact HR.out _ _ ⟨rfl, bw7.trans (b99.mono bw7.size)⟩

theorem own : ownKnob Tryd.prog.godebug = none := by kernel_rfl
theorem laidOut : laidOutB Tryd.prog = true := by kernel_rfl
theorem reads (os : Os) {H : Type} (enc : TypeId × Value → H) : ∃ places, DataW.whole enc Tryd.prog ((laidWorld os).forCall (fun _ _ => 0) ⟨#[], #[.slice none 0 0, .slice none 0 0], []⟩).memory Tryd.f9.params.toList Rows.bindPicksSpec.vars false #[.slice none 0 0, .slice none 0 0].toList 8 = some ([.nil, .nil], [], places) :=
  ⟨[], by kernel_rfl⟩

theorem contract (H : Type) (enc : TypeId × Value → H) (W : World) (base : Nat) (args : Array Value) (ds gs : List (DataW H)) (before : List MemPlace)
    (hval0 : ∀ (j : Nat) t v, Tryd.f9.params[j]? = some t → args[j]? = some v → Value.okWide Tryd.prog W .any base t v)
    (hW : DataW.Whole enc Tryd.prog Tryd.f9.params.toList Rows.bindPicksSpec.vars false W args.toList ds gs before)
    (hsz0 : (DataW.weightsEach Tryd.prog (Tryd.f9.params.toList ++ Rows.bindPicksSpec.plain.varTypes Tryd.prog) (ds ++ gs)).all (· ≤ reachBytes) = true)
    (hL : laidMetH Tryd.prog Rows.bindPicksRow.laid W) :
    Calls Tryd.prog 9 args W fun e W' => ∃ v, e = .returned v ∧ Rows.bindPicksSpec.post enc Tryd.prog Tryd.f9 false true false false W args v W' := by
  have hval : ∀ (j : Nat) t v, Tryd.f9.params[j]? = some t → args[j]? = some v → Value.okWide Tryd.prog W .any base t v := hval0
  have hW' := hW
  obtain ⟨p, q, hA0, hV, rfl, hfz, hnd⟩ := hW
  have hA : DataW.TrodAll enc Tryd.prog W 0 (fun _ => true) true Tryd.f9.params.toList args.toList ds p := hA0
  have hsz : (DataW.weightsEach Tryd.prog (Tryd.f9.params.toList ++ Rows.bindPicksSpec.plain.varTypes Tryd.prog) (ds ++ gs)).all (· ≤ reachBytes) = true := hsz0
  rw [Tryd.params9] at hA hval hsz
  obtain ⟨v0, vs0, d0, ds0, p0, q0, hargs, rfl, rfl, h0, r0⟩ := trodAll_cons hA
  obtain ⟨v1, vs1, d1, ds1, p1, q1, rfl, rfl, rfl, h1, r1⟩ := trodAll_cons r0
  obtain ⟨rfl, rfl, rfl⟩ := trodAll_nil r1
  obtain rfl : args = #[v0, v1] := by cases args; simp_all
  obtain ⟨rfl, rfl⟩ := trodVars_none hV
  have k0 := h0
  have lt0 : ∀ x ∈ p0, x.block < W.heap.size := by obtain ⟨m, hm⟩ := k0; exact DataW.trod_lt m _ _ _ hm
  have w0 := open_strsV (hval 0 22 v0 rfl rfl) h0 (Sized.arg (j := 0) hsz rfl rfl)
  have k1 := h1
  have lt1 : ∀ x ∈ p1, x.block < W.heap.size := by obtain ⟨m, hm⟩ := k1; exact DataW.trod_lt m _ _ _ hm
  have w1 := open_intsV (hval 1 37 v1 rfl rfl) h1 (Sized.arg (j := 1) hsz rfl rfl)
  clear hA0 hval0
  refine (walk v0 v1 W (tab_row hL) w0 w1).mono fun e W' ⟨he, bel⟩ => ?_
  subst he
  exact ⟨_, rfl, _, _, _, [], _, [], hW', trodAll_mk1 (shut_bool Tryd.underlying4 _), (trodAll_cons_mk (Below.trod laidOut (by kernel_rfl) (of_decide_eq_true (by kernel_rfl)) k0 bel lt0) (trodAll_cons_mk (Below.trod laidOut (by kernel_rfl) (of_decide_eq_true (by kernel_rfl)) k1 bel lt1) trodAll_mk0)), rfl, bel.frame _, fun h => by cases h⟩

set_option maxRecDepth 100000 in
theorem lifted (os : Os) (started : os.Started) (H : Type) (enc : TypeId × Value → H) (F : Stop.Interp) :
    ReturnsInHanded {} Tryd.checked os 9 .any ((OpenSpec.ofChange Rows.bindPicksSpec).preRow enc Tryd.prog Tryd.f9 Rows.bindPicksRow.domain false Rows.bindPicksRow.laid) (((OpenSpec.ofChange Rows.bindPicksSpec).at F).post enc Tryd.prog Tryd.f9 false true false false) := by
  obtain ⟨places, hx⟩ := reads os enc
  refine returnsInHanded_of_row (C := Tryd.checked) (s := OpenSpec.ofChange Rows.bindPicksSpec) own started (by kernel_rfl) Tryd.func9
    (witness_row_atRef (enc := enc) (C := Tryd.checked) false (laidWorld os) #[.slice none 0 0, .slice none 0 0] rfl (by kernel_rfl) (by kernel_rfl) (by kernel_rfl)
      (OpenSpec.preRow_of_cond 8 hx (by kernel_rfl) (fun k hk => by cases hk) (by kernel_rfl) (laid_met os _))) ?_
  intro W base args ds gs before hval hW _ _ hsz hL _ _
  exact contract H enc W base args ds gs before hval hW hsz hL

theorem said : Rows.BindPicksSaid :=
  OpenClaim.holds_of_cond 9 Tryd.f9 rfl rfl rfl rfl rfl rfl rfl ⟨rfl, rfl, rfl, rfl, rfl⟩ rfl rfl rfl rfl rfl (by kernel_rfl) Tryd.func9 (by kernel_rfl)
    (of_decide_eq_true (by kernel_rfl)) (by unfold Func.isWrapper; first | (rw [if_pos (by decide +kernel)]; kernel_rfl) | (rw [if_neg (by decide +kernel)]; exact ⟨rfl, rfl⟩))
    (fun os started H enc _ F => by rw [OpenClaim.pre_eq_preRow]; exact lifted os started H enc F)

theorem plain (f : FuncId) (fn : Func) (hf : Tryd.pinned.checked.prog.funcNamed "quillpen/quillpenlaw19.BindPicks" = some f) (hfn : Tryd.pinned.checked.prog.funcs[f]? = some fn) :
    false = Tryd.pinned.checked.prog.looks [] ∧ ∀ (j : Nat) t, fn.params[j]? = some t → Tryd.pinned.checked.prog.wantsStandIn t = false := by
  obtain rfl : f = 9 := Option.some.inj ((show Tryd.prog.funcNamed "quillpen/quillpenlaw19.BindPicks" = some 9 by kernel_rfl).symm.trans hf) |>.symm
  obtain rfl : fn = Tryd.f9 := (Option.some.inj (Tryd.func9.symm.trans hfn)).symm
  refine ⟨by kernel_rfl, fun j t ht => ?_⟩
  rw [Tryd.params9] at ht
  have hm := Array.mem_of_getElem? ht
  have hall : (#[22, 37] : Array TypeId).toList.all (fun t => Tryd.prog.wantsStandIn t == false) = true := by kernel_rfl
  exact eq_of_beq (List.all_eq_true.1 hall t (by simpa using hm))

theorem proved : Rows.BindPicksCardSaid :=
  Claim7.holds_tied_plain_at .later [] _ _ _ _ said (fun _ h => by cases h) (by kernel_rfl) (fun _ h => by cases h) bindPicks_row_tie rfl ⟨rfl, rfl⟩ (by kernel_rfl) rfl plain (by kernel_rfl)
end Go.Proofs.YtamhdlopchhdjaaDoor.bindPicks
