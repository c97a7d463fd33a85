/- The field of any name of any record is what the document says, or why there is none. The table of UTF-8 is laid as the text lays it; the card ties it. -/
import Derived.Test.YtamhdlopchhdjaaDoorHeadF
import Derived.Test.YtamhdlopchhdjaaDoorCards
import Derived.Test.YtamhdlopchhdjaaDoorTie
import Derived.SizedLaws
import Derived.ProofKit
import Derived.OpenShut
import Derived.ShutString
import Derived.ChangeOld
import Derived.Below
import Derived.Deep.DeepHandedRow
import Derived.Deep.DeepWitnessRowRef
namespace Go.Proofs.YtamhdlopchhdjaaDoor.headGets
open Go.ChangeShapes Go.WideShapes Go.ChangeAt Go.RowKit
open Go.ChangeMaps (open_string shut_string)
set_option linter.unusedVariables false
set_option linter.unusedSimpArgs false

set_option maxHeartbeats 2000000 in
theorem walk (v u : Value) (s : ByteArray) (hs0 : s.size ≤ 140737488351232) (W : World) (hT : Tab W) (h0 : ∃ l, RdS W W.heap.size v l) (h1 : ∃ l, RdS W W.heap.size u l) :
    Calls Tryd.prog 5 #[v, u, .string s] W fun e w' => e = .returned (.bool true) ∧ Below W.heap.size W w' := by
  refine cps fun R HR => ?_
  obtain ⟨l, h0⟩ := h0
  obtain ⟨r, h1⟩ := h1
  have HT := Lib.hid hT
  clear hT
  go_enter Tryd.func5, Tryd.ntmps5
  go_wp2_with fail
  refine (few15_any _ l _ h0).mono ?_
  rintro e w1 ⟨⟨g, rfl, hg⟩, b1⟩
  cases g
  · clear hg
    go_wp2_with fail
    refine (awake15_any _ (HT.out.below b1)).mono ?_
    rintro e w9 ⟨rfl, b9⟩
    go_wp2
    exact HR.out _ _ ⟨rfl, b1.trans (b9.mono b1.size)⟩
  · obtain ⟨q1, q2⟩ := hg rfl
    have Q1 := Lib.hid q1; have Q2 := Lib.hid q2
    clear hg q1 q2
    go_wp2_with fail
    refine (few15_any _ r _ (h1.next b1)).mono ?_
    rintro e w2 ⟨⟨g, rfl, hg⟩, b2⟩
    have bw2 := b1.trans (b2.mono b1.size)
    cases g
    · clear hg
      go_wp2_with fail
      refine (awake15_any _ (HT.out.below bw2)).mono ?_
      rintro e w9 ⟨rfl, b9⟩
      go_wp2
      exact HR.out _ _ ⟨rfl, bw2.trans (b9.mono bw2.size)⟩
    · clear hg
      by_cases hsz : 200 < s.size
      · have d : decide ((200 : Int) < s.size) = true := decide_eq_true (by omega)
        clear hsz
        go_wp2_with fail
        refine (awake15_any _ (HT.out.below bw2)).mono ?_
        rintro e w9 ⟨rfl, b9⟩
        go_wp2
        exact HR.out _ _ ⟨rfl, bw2.trans (b9.mono bw2.size)⟩
      · have d : decide ((200 : Int) < s.size) = false := decide_eq_false (by omega)
        have hl : ∀ x ∈ l, x.size ≤ 100000 := fun x hx => by have := le_bytesR hx; have := Q2.out; omega
        have HL := Lib.hid hl
        clear hl
        go_wp2_with fail
        refine (new_any _ l _ (h0.next bw2) (by have := Q1.out; omega) HL.out (HT.out.below bw2)).mono ?_
        rintro e w3 ⟨h, rfl, hu, hun, b3⟩
        have bw3 := bw2.trans (b3.mono bw2.size)
        obtain ⟨yn, hyn⟩ : ∃ yn, yn = (newC l).1 := ⟨_, rfl⟩
        obtain ⟨ye, hye⟩ : ∃ ye, ye = (newC l).2 := ⟨_, rfl⟩
        rw [← hyn, ← hye]
        rw [← hye] at hu hun
        clear hyn hye
        by_cases hz : ye = 0
        · subst hz
          have hh := hu rfl
          obtain ⟨gh, bh, vh, rfl, -⟩ := hh.is
          clear hu hun
          obtain ⟨Y, hY⟩ : ∃ Y, Y = getC l r s := ⟨_, rfl⟩
          have HY := Lib.hid hY
          clear hY
          have r3 := h1.next bw3
          have l3 := h0.next bw3
          have r4 := r3
          have l4 := l3
          obtain ⟨Ar, cr, rfl, -⟩ := r3.is
          obtain ⟨Al, cl, rfl, -⟩ := l3.is
          have hfr := r3.few
          have hfl := l3.few
          clear r3 l3 h0 h1
          go_wp2_with fail
          refine (hget_any _ _ l r s _ hh r4 (by omega)).mono ?_
          rintro e w4 ⟨rfl, rfl⟩
          rw [← HY.out]
          go_wp2_with fail
          refine (refAt_any _ l s _ l4).mono ?_
          rintro e w4 ⟨rfl, rfl⟩
          by_cases hin : s ∈ l
          · have hlt := atC_lt hin
            have hy := HY.out
            unfold getC at hy
            rw [if_pos hin] at hy
            rw [posF_in hin]
            obtain ⟨ct, hct⟩ : ∃ ct, ct = atC l s := ⟨_, rfl⟩
            rw [← hct] at hlt hy ⊢
            have dz : decide ((ct : Int) < 0) = false := decide_eq_false (by omega)
            clear hct hin
            by_cases hlen : r.length = l.length
            · rw [if_pos hlen] at hy
              have hltr : ct < r.length := by omega
              obtain ⟨p, c4, hv, hcp⟩ := r4.at hltr
              injection hv with hA _ hcc
              subst hA
              subst hcc
              have hx : r.getD ct ⟨#[]⟩ = r[ct] := by rw [List.getD_eq_getElem?_getD, List.getElem?_eq_getElem hltr]; rfl
              rw [hx] at hy
              obtain ⟨x, hx2⟩ : ∃ x, x = r[ct] := ⟨_, rfl⟩
              rw [← hx2] at hcp hy
              subst hy
              have d2 : ((r.length : Int) != (l.length : Int)) = false := by simp [hlen]
              have d3 : (x.toList == x.toList) = true := by rw [str_eq]; exact decide_eq_true rfl
              have hltI : (ct : Int) < r.length := by omega
              clear hx hx2 hlen
              go_wp2_with fail
              refine (awake15_any _ (HT.out.below bw3)).mono ?_
              rintro e w9 ⟨rfl, b9⟩
              go_wp2
              exact HR.out _ _ ⟨rfl, bw3.trans (b9.mono bw3.size)⟩
            · rw [if_neg hlen] at hy
              subst hy
              have d2 : ((r.length : Int) != (l.length : Int)) = true := by rw [bne_iff_ne]; omega
              clear hlen
              go_wp2_with fail
              refine (awake15_any _ (HT.out.below bw3)).mono ?_
              rintro e w9 ⟨rfl, b9⟩
              go_wp2
              exact HR.out _ _ ⟨rfl, bw3.trans (b9.mono bw3.size)⟩
          · have hy := HY.out
            unfold getC at hy
            rw [if_neg hin] at hy
            subst hy
            rw [posF_none hin]
            clear hin
            go_wp2_with fail
            refine (awake15_any _ (HT.out.below bw3)).mono ?_
            rintro e w9 ⟨rfl, b9⟩
            go_wp2
            exact HR.out _ _ ⟨rfl, bw3.trans (b9.mono bw3.size)⟩
        · have hz2 := hun hz
          subst hz2
          have d2 : ((ye : Int) != 0) = true := by rw [bne_iff_ne]; omega
          clear hu hun hz
          go_wp2_with fail
          refine (awake15_any _ (HT.out.below bw3)).mono ?_
          rintro e w9 ⟨rfl, b9⟩
          go_wp2
          exact HR.out _ _ ⟨rfl, bw3.trans (b9.mono bw3.size)⟩

theorem own : ownKnob Tryd.prog.godebug = none := by kernel_rfl
theorem laidOut : laidOutB Tryd.prog = true := by kernel_rfl
theorem reads (os : Os) {H : Type} (enc : TypeId × Value → H) : ∃ places, DataW.whole enc Tryd.prog ((laidWorld os).forCall (fun _ _ => 0) ⟨#[], #[.slice none 0 0, .slice none 0 0, .string ByteArray.empty], []⟩).memory Tryd.f5.params.toList Rows.headGetsSpec.vars false #[.slice none 0 0, .slice none 0 0, .string ByteArray.empty].toList 8 = some ([.nil, .nil, .lit (.string [])], [], places) :=
  ⟨[], by kernel_rfl⟩

theorem contract (H : Type) (enc : TypeId × Value → H) (W : World) (base : Nat) (args : Array Value) (ds gs : List (DataW H)) (before : List MemPlace)
    (hval0 : ∀ (j : Nat) t v, Tryd.f5.params[j]? = some t → args[j]? = some v → Value.okWide Tryd.prog W .any base t v)
    (hW : DataW.Whole enc Tryd.prog Tryd.f5.params.toList Rows.headGetsSpec.vars false W args.toList ds gs before)
    (hsz0 : (DataW.weightsEach Tryd.prog (Tryd.f5.params.toList ++ Rows.headGetsSpec.plain.varTypes Tryd.prog) (ds ++ gs)).all (· ≤ reachBytes) = true)
    (hL : laidMetH Tryd.prog Rows.headGetsRow.laid W) :
    Calls Tryd.prog 5 args W fun e W' => ∃ v, e = .returned v ∧ Rows.headGetsSpec.post enc Tryd.prog Tryd.f5 false true false false W args v W' := by
  have hval : ∀ (j : Nat) t v, Tryd.f5.params[j]? = some t → args[j]? = some v → Value.okWide Tryd.prog W .any base t v := hval0
  have hW' := hW
  obtain ⟨p, q, hA0, hV, rfl, hfz, hnd⟩ := hW
  have hA : DataW.TrodAll enc Tryd.prog W 0 (fun _ => true) true Tryd.f5.params.toList args.toList ds p := hA0
  have hsz : (DataW.weightsEach Tryd.prog (Tryd.f5.params.toList ++ Rows.headGetsSpec.plain.varTypes Tryd.prog) (ds ++ gs)).all (· ≤ reachBytes) = true := hsz0
  rw [Tryd.params5] at hA hval hsz
  obtain ⟨v0, vs0, d0, ds0, p0, q0, hargs, rfl, rfl, h0, r0⟩ := trodAll_cons hA
  obtain ⟨v1, vs1, d1, ds1, p1, q1, rfl, rfl, rfl, h1, r1⟩ := trodAll_cons r0
  obtain ⟨v2, vs2, d2, ds2, p2, q2, rfl, rfl, rfl, h2, r2⟩ := trodAll_cons r1
  obtain ⟨rfl, rfl, rfl⟩ := trodAll_nil r2
  obtain rfl : args = #[v0, v1, v2] := by cases args; simp_all
  obtain ⟨rfl, rfl⟩ := trodVars_none hV
  have k0 := h0
  have lt0 : ∀ x ∈ p0, x.block < W.heap.size := by obtain ⟨m, hm⟩ := k0; exact DataW.trod_lt m _ _ _ hm
  have w0 := open_strsV (hval 0 22 v0 rfl rfl) h0 (Sized.arg (j := 0) hsz rfl rfl)
  have k1 := h1
  have lt1 : ∀ x ∈ p1, x.block < W.heap.size := by obtain ⟨m, hm⟩ := k1; exact DataW.trod_lt m _ _ _ hm
  have w1 := open_strsV (hval 1 22 v1 rfl rfl) h1 (Sized.arg (j := 1) hsz rfl rfl)
  have k2 := h2
  have lt2 : ∀ x ∈ p2, x.block < W.heap.size := by obtain ⟨m, hm⟩ := k2; exact DataW.trod_lt m _ _ _ hm
  obtain ⟨a2, rfl, rfl, _, _⟩ := open_string Tryd.underlying9 (hval 2 9 v2 rfl rfl) h2
  have w2 : a2.size ≤ 140737488351232 := (Sized.arg (j := 2) hsz rfl rfl).str
  clear hA0 hval0
  refine (walk v0 v1 a2 w2 W (tab_row hL) w0 w1).mono fun e W' ⟨he, bel⟩ => ?_
  subst he
  exact ⟨_, rfl, _, _, _, [], _, [], hW', trodAll_mk1 (shut_bool Tryd.underlying4 _), (trodAll_cons_mk (Below.trod laidOut (by kernel_rfl) (of_decide_eq_true (by kernel_rfl)) k0 bel lt0) (trodAll_cons_mk (Below.trod laidOut (by kernel_rfl) (of_decide_eq_true (by kernel_rfl)) k1 bel lt1) (trodAll_cons_mk (Below.trod laidOut (by kernel_rfl) (of_decide_eq_true (by kernel_rfl)) k2 bel lt2) trodAll_mk0))), rfl, bel.frame _, fun h => by cases h⟩

set_option maxRecDepth 100000 in
theorem lifted (os : Os) (started : os.Started) (H : Type) (enc : TypeId × Value → H) (F : Stop.Interp) :
    ReturnsInHanded {} Tryd.checked os 5 .any ((OpenSpec.ofChange Rows.headGetsSpec).preRow enc Tryd.prog Tryd.f5 Rows.headGetsRow.domain false Rows.headGetsRow.laid) (((OpenSpec.ofChange Rows.headGetsSpec).at F).post enc Tryd.prog Tryd.f5 false true false false) := by
  obtain ⟨places, hx⟩ := reads os enc
  refine returnsInHanded_of_row (C := Tryd.checked) (s := OpenSpec.ofChange Rows.headGetsSpec) own started (by kernel_rfl) Tryd.func5
    (witness_row_atRef (enc := enc) (C := Tryd.checked) false (laidWorld os) #[.slice none 0 0, .slice none 0 0, .string ByteArray.empty] rfl (by kernel_rfl) (by kernel_rfl) (by kernel_rfl)
      (OpenSpec.preRow_of_cond 8 hx (by kernel_rfl) (fun k hk => by cases hk) (by kernel_rfl) (laid_met os _))) ?_
  intro W base args ds gs before hval hW _ _ hsz hL _ _
  exact contract H enc W base args ds gs before hval hW hsz hL

theorem said : Rows.HeadGetsSaid :=
  OpenClaim.holds_of_cond 5 Tryd.f5 rfl rfl rfl rfl rfl rfl rfl ⟨rfl, rfl, rfl, rfl, rfl⟩ rfl rfl rfl rfl rfl (by kernel_rfl) Tryd.func5 (by kernel_rfl)
    (of_decide_eq_true (by kernel_rfl)) (by unfold Func.isWrapper; first | (rw [if_pos (by decide +kernel)]; kernel_rfl) | (rw [if_neg (by decide +kernel)]; exact ⟨rfl, rfl⟩))
    (fun os started H enc _ F => by rw [OpenClaim.pre_eq_preRow]; exact lifted os started H enc F)

theorem plain (f : FuncId) (fn : Func) (hf : Tryd.pinned.checked.prog.funcNamed "quillpen/quillpenlaw15.HeadGets" = some f) (hfn : Tryd.pinned.checked.prog.funcs[f]? = some fn) :
    false = Tryd.pinned.checked.prog.looks [] ∧ ∀ (j : Nat) t, fn.params[j]? = some t → Tryd.pinned.checked.prog.wantsStandIn t = false := by
  obtain rfl : f = 5 := Option.some.inj ((show Tryd.prog.funcNamed "quillpen/quillpenlaw15.HeadGets" = some 5 by kernel_rfl).symm.trans hf) |>.symm
  obtain rfl : fn = Tryd.f5 := (Option.some.inj (Tryd.func5.symm.trans hfn)).symm
  refine ⟨by kernel_rfl, fun j t ht => ?_⟩
  rw [Tryd.params5] at ht
  have hm := Array.mem_of_getElem? ht
  have hall : (#[22, 22, 9] : Array TypeId).toList.all (fun t => Tryd.prog.wantsStandIn t == false) = true := by kernel_rfl
  exact eq_of_beq (List.all_eq_true.1 hall t (by simpa using hm))

theorem proved : Rows.HeadGetsCardSaid :=
  Claim7.holds_tied_plain_at .later [] _ _ _ _ said (fun _ h => by cases h) (by kernel_rfl) (fun _ h => by cases h) headGets_row_tie rfl ⟨rfl, rfl⟩ (by kernel_rfl) rfl plain (by kernel_rfl)
end Go.Proofs.YtamhdlopchhdjaaDoor.headGets
