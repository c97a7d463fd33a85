/- Names that bind columns exactly bind them in whatever order, and these bind some, at the same places. The table of UTF-8 is laid as the text lays it; the card ties it. -/
import Derived.Test.YtamhdlopchhdjaaDoorBindD
import Derived.Test.YtamhdlopchhdjaaDoorCards
import Derived.Test.YtamhdlopchhdjaaDoorTie
import Derived.SizedLaws
import Derived.ProofKit
import Derived.OpenShut
import Derived.ShutString
import Derived.ChangeOld
import Derived.Below
import Derived.Deep.DeepHandedRow
import Derived.Deep.DeepWitnessRowRef
namespace Go.Proofs.YtamhdlopchhdjaaDoor.bindModes
open Go.ChangeShapes Go.WideShapes Go.ChangeAt Go.RowKit
open Go.ChangeMaps (open_string shut_string)
set_option linter.unusedVariables false
set_option linter.unusedSimpArgs false

theorem numsAny {names : Row} {l : List Col} (h : allB names 1 0 (namesC l) = true) (m : Int) (hm : m ≠ 1) : allB names m 0 (namesC l) = true := by
  have key : ∀ (cn : Row) (j : Nat), allB names 1 j cn = true → allB names m j cn = true := by
    intro cn
    induction cn with
    | nil => exact fun _ _ => rfl
    | cons a r ih =>
      intro j h
      rw [allB, Bool.and_eq_true] at h ⊢
      refine ⟨?_, ih _ h.2⟩
      have := h.1
      unfold okB at this ⊢
      rw [Bool.and_eq_true] at this ⊢
      exact ⟨this.1, by rw [decide_eq_false hm]; rfl⟩
  exact key _ _ h
theorem bind_steps (names : Row) (l : List Col) (a b : Int) (ha : 1 ≤ a ∧ a ≤ 3) (hb : 1 ≤ b ∧ b ≤ 3) (h : (bindF names l a).2.2 = 0) (hab : allB names a 0 (namesC l) = true → allB names b 0 (namesC l) = true) (h3 : a = 3 → b = 3) : bindF names l b = bindF names l a := by
  unfold bindF at h ⊢
  rw [if_neg (by omega)] at h ⊢
  rw [if_neg (show ¬ (a < 1 ∨ 3 < a) by omega)]
  by_cases h1 : (chkC l).2 ≠ 0
  · rw [if_pos h1, if_pos h1]
  · rw [if_neg h1] at h ⊢
    rw [if_neg h1]
    by_cases h2 : (newC names).2 ≠ 0
    · rw [if_pos h2, if_pos h2]
    · rw [if_neg h2] at h ⊢
      rw [if_neg h2]
      by_cases h4 : allB names a 0 (namesC l) = false
      · rw [if_pos h4] at h
        cases h
      · rw [if_neg h4] at h ⊢
        have h5 := hab (by simpa using h4)
        rw [if_neg (by rw [h5]; simp)]
        by_cases h6 : a ≠ 3 ∧ allIn (namesC l) names = false
        · rw [if_pos h6] at h
          cases h
        · rw [if_neg h6]
          rw [if_neg]
          intro h7
          exact h6 ⟨fun e => h7.1 (h3 e), h7.2⟩
set_option maxHeartbeats 4000000 in
theorem walk (v u : Value) (W : World) (hT : Tab W) (h0 : ∃ l, RdS W W.heap.size v l) (h1 : ∃ l, RdC W W.heap.size u l) :
    Calls Tryd.prog 8 #[v, u] W fun e w' => e = .returned (.bool true) ∧ Below W.heap.size W w' := by
  refine cps fun R HR => ?_
  obtain ⟨l, h0⟩ := h0
  obtain ⟨cs, h1⟩ := h1
  have HT := Lib.hid hT
  clear hT
  go_enter Tryd.func8, Tryd.ntmps8
  go_wp2_with fail
  refine (few19_any _ l _ h0).mono ?_
  rintro e w1 ⟨⟨g, rfl, hg⟩, b1⟩
  cases g
  · clear hg
    go_wp2_with fail
    refine (awake19_any _ (HT.out.below b1)).mono ?_
    rintro e w99 ⟨rfl, b99⟩
    go_wp2
    exact HR.out _ _ ⟨rfl, b1.trans (b99.mono b1.size)⟩
  · obtain ⟨q1, q2⟩ := hg rfl
    have Q1 := Lib.hid q1; have Q2 := Lib.hid q2
    clear hg q1 q2
    go_wp2_with fail
    refine (columns19_any _ cs _ (RdF.next h1 b1)).mono ?_
    rintro e w2 ⟨⟨g, rfl, hg⟩, b2⟩
    have bw2 := b1.trans (b2.mono b1.size)
    cases g
    · clear hg
      go_wp2_with fail
      refine (awake19_any _ (HT.out.below bw2)).mono ?_
      rintro e w99 ⟨rfl, b99⟩
      go_wp2
      exact HR.out _ _ ⟨rfl, bw2.trans (b99.mono bw2.size)⟩
    · obtain ⟨q1, q2⟩ := hg rfl
      have P1 := Lib.hid q1; have P2 := Lib.hid q2
      clear hg q1 q2
      have hl : ∀ x ∈ l, x.size ≤ 100000 := fun x hx => by have := le_bytesR hx; have := Q2.out; omega
      have hc : ∀ x ∈ cs, x.name.size ≤ 100000 := fun x hx => by
        have : x.name.size ≤ bytesR (namesC cs) := le_bytesR (List.mem_map_of_mem hx)
        have := P2.out
        omega
      have HL := Lib.hid hl; have HC := Lib.hid hc
      clear hl hc
      have s12 := bind_steps l cs 1 2 (by omega) (by omega)
      have s23 := bind_steps l cs 2 3 (by omega) (by omega)
      have t12 : (bindF l cs 1).2.2 = 0 → bindF l cs 2 = bindF l cs 1 := fun h => s12 h (fun h' => numsAny h' 2 (by omega)) (by omega)
      have t23 : (bindF l cs 2).2.2 = 0 → bindF l cs 3 = bindF l cs 2 := fun h => s23 h (fun h' => by
        have key : ∀ (cn : Row) (j : Nat), allB l 2 j cn = true → allB l 3 j cn = true := by
          intro cn
          induction cn with
          | nil => exact fun _ _ => rfl
          | cons a r ih =>
            intro j h
            rw [allB, Bool.and_eq_true] at h ⊢
            refine ⟨?_, ih _ h.2⟩
            have := h.1
            unfold okB at this ⊢
            rw [Bool.and_eq_true] at this ⊢
            exact ⟨this.1, rfl⟩
        exact key _ _ h') (by omega)
      obtain ⟨Y1, hY1⟩ : ∃ Y, Y = bindF l cs 1 := ⟨_, rfl⟩
      obtain ⟨Y2, hY2⟩ : ∃ Y, Y = bindF l cs 2 := ⟨_, rfl⟩
      obtain ⟨Y3, hY3⟩ : ∃ Y, Y = bindF l cs 3 := ⟨_, rfl⟩
      rw [← hY1, ← hY2] at t12
      rw [← hY2, ← hY3] at t23
      have H1 := Lib.hid hY1; have H2 := Lib.hid hY2; have H3 := Lib.hid hY3; have T12 := Lib.hid t12; have T23 := Lib.hid t23
      clear hY1 hY2 hY3 t12 t23 s12 s23
      have hn : l.length ≤ 100000 := by have := Q1.out; omega
      have hcn : cs.length ≤ 100000 := by have := P1.out; omega
      go_wp2_with fail
      refine (bind_any _ _ l cs 1 _ (h0.next bw2) (RdF.next h1 bw2) hn hcn HL.out HC.out (HT.out.below bw2)).mono ?_
      rintro e w3 ⟨o, rfl, ho3, b3⟩
      rw [← H1.out] at ho3 ⊢
      have bw3 := bw2.trans (b3.mono bw2.size)
      go_wp2_with fail
      refine (bind_any _ _ l cs 2 _ (h0.next bw3) (RdF.next h1 bw3) hn hcn HL.out HC.out (HT.out.below bw3)).mono ?_
      rintro e w4 ⟨o4, rfl, ho4, b4⟩
      rw [← H2.out] at ho4 ⊢
      have bw4 := bw3.trans (b4.mono bw3.size)
      go_wp2_with fail
      refine (bind_any _ _ l cs 3 _ (h0.next bw4) (RdF.next h1 bw4) hn hcn HL.out HC.out (HT.out.below bw4)).mono ?_
      rintro e w5 ⟨o5, rfl, ho5, b5⟩
      rw [← H3.out] at ho5 ⊢
      have bw5 := bw4.trans (b5.mono bw4.size)
      have r3 := ((RdI.of_own ho3).next b4).next b5
      have r4 := (RdI.of_own ho4).next b5
      have r5 := RdI.of_own ho5
      have T5 := Lib.hid (HT.out.below bw5)
      clear ho3 ho4 ho5 H1 H2 H3
      obtain ⟨a1, a2, a3⟩ := Y1
      obtain ⟨c1, c2, c3⟩ := Y2
      obtain ⟨e1, e2, e3⟩ := Y3
      by_cases ha : a3 = 0
      · have h12 := T12.out ha
        injection h12 with h12 h13
        injection h13 with h13 h14
        subst ha h12 h13 h14
        have h23 := T23.out rfl
        injection h23 with h23 h24
        injection h24 with h24 h25
        subst h23 h24 h25
        have S1 := Lib.hid (show sameI e1 e1 = true from decide_eq_true rfl)
        clear T12 T23
        go_wp2_with fail
        refine (sameI_any _ _ e1 e1 _ r3 r4).mono ?_
        rintro e w7 ⟨rfl, b7⟩
        rw [S1.out]
        have bw7 := bw5.trans (b7.mono bw5.size)
        go_wp2_with fail
        refine (sameI_any _ _ e1 e1 _ (r4.next b7) (r5.next b7)).mono ?_
        rintro e w8 ⟨rfl, b8⟩
        rw [S1.out]
        have bw8 := bw7.trans (b8.mono bw7.size)
        go_wp2_with fail
        refine (awake19_any _ (HT.out.below bw8)).mono ?_
        rintro e w99 ⟨rfl, b99⟩
        go_wp2
        exact HR.out _ _ ⟨rfl, bw8.trans (b99.mono bw8.size)⟩
      · have da : ((a3 : Int) == 0) = false := by rw [beq_eq_false_iff_ne]; omega
        by_cases hc : c3 = 0
        · have h23 := T23.out hc
          injection h23 with h23 h24
          injection h24 with h24 h25
          subst hc h23 h24 h25
          have S1 := Lib.hid (show sameI e1 e1 = true from decide_eq_true rfl)
          clear T12 T23 ha
          go_wp2_with fail
          refine (sameI_any _ _ e1 e1 _ r4 r5).mono ?_
          rintro e w8 ⟨rfl, b8⟩
          rw [S1.out]
          have bw8 := bw5.trans (b8.mono bw5.size)
          go_wp2_with fail
          refine (awake19_any _ (HT.out.below bw8)).mono ?_
          rintro e w99 ⟨rfl, b99⟩
          go_wp2
          exact HR.out _ _ ⟨rfl, bw8.trans (b99.mono bw8.size)⟩
        · have dc : ((c3 : Int) == 0) = false := by rw [beq_eq_false_iff_ne]; omega
          clear T12 T23 ha hc
          go_wp2_with fail
          refine (awake19_any _ (HT.out.below bw5)).mono ?_
          rintro e w99 ⟨rfl, b99⟩
          go_wp2
          exact HR.out _ _ ⟨rfl, bw5.trans (b99.mono bw5.size)⟩

theorem own : ownKnob Tryd.prog.godebug = none := by kernel_rfl
theorem laidOut : laidOutB Tryd.prog = true := by kernel_rfl
theorem reads (os : Os) {H : Type} (enc : TypeId × Value → H) : ∃ places, DataW.whole enc Tryd.prog ((laidWorld os).forCall (fun _ _ => 0) ⟨#[], #[.slice none 0 0, .slice none 0 0], []⟩).memory Tryd.f8.params.toList Rows.bindModesSpec.vars false #[.slice none 0 0, .slice none 0 0].toList 8 = some ([.nil, .nil], [], places) :=
  ⟨[], by kernel_rfl⟩

theorem contract (H : Type) (enc : TypeId × Value → H) (W : World) (base : Nat) (args : Array Value) (ds gs : List (DataW H)) (before : List MemPlace)
    (hval0 : ∀ (j : Nat) t v, Tryd.f8.params[j]? = some t → args[j]? = some v → Value.okWide Tryd.prog W .any base t v)
    (hW : DataW.Whole enc Tryd.prog Tryd.f8.params.toList Rows.bindModesSpec.vars false W args.toList ds gs before)
    (hsz0 : (DataW.weightsEach Tryd.prog (Tryd.f8.params.toList ++ Rows.bindModesSpec.plain.varTypes Tryd.prog) (ds ++ gs)).all (· ≤ reachBytes) = true)
    (hL : laidMetH Tryd.prog Rows.bindModesRow.laid W) :
    Calls Tryd.prog 8 args W fun e W' => ∃ v, e = .returned v ∧ Rows.bindModesSpec.post enc Tryd.prog Tryd.f8 false true false false W args v W' := by
  have hval : ∀ (j : Nat) t v, Tryd.f8.params[j]? = some t → args[j]? = some v → Value.okWide Tryd.prog W .any base t v := hval0
  have hW' := hW
  obtain ⟨p, q, hA0, hV, rfl, hfz, hnd⟩ := hW
  have hA : DataW.TrodAll enc Tryd.prog W 0 (fun _ => true) true Tryd.f8.params.toList args.toList ds p := hA0
  have hsz : (DataW.weightsEach Tryd.prog (Tryd.f8.params.toList ++ Rows.bindModesSpec.plain.varTypes Tryd.prog) (ds ++ gs)).all (· ≤ reachBytes) = true := hsz0
  rw [Tryd.params8] at hA hval hsz
  obtain ⟨v0, vs0, d0, ds0, p0, q0, hargs, rfl, rfl, h0, r0⟩ := trodAll_cons hA
  obtain ⟨v1, vs1, d1, ds1, p1, q1, rfl, rfl, rfl, h1, r1⟩ := trodAll_cons r0
  obtain ⟨rfl, rfl, rfl⟩ := trodAll_nil r1
  obtain rfl : args = #[v0, v1] := by cases args; simp_all
  obtain ⟨rfl, rfl⟩ := trodVars_none hV
  have k0 := h0
  have lt0 : ∀ x ∈ p0, x.block < W.heap.size := by obtain ⟨m, hm⟩ := k0; exact DataW.trod_lt m _ _ _ hm
  have w0 := open_strsV (hval 0 22 v0 rfl rfl) h0 (Sized.arg (j := 0) hsz rfl rfl)
  have k1 := h1
  have lt1 : ∀ x ∈ p1, x.block < W.heap.size := by obtain ⟨m, hm⟩ := k1; exact DataW.trod_lt m _ _ _ hm
  have w1 := open_cols (hval 1 49 v1 rfl rfl) h1 (Sized.arg (j := 1) hsz rfl rfl)
  clear hA0 hval0
  refine (walk v0 v1 W (tab_row hL) w0 w1).mono fun e W' ⟨he, bel⟩ => ?_
  subst he
  exact ⟨_, rfl, _, _, _, [], _, [], hW', trodAll_mk1 (shut_bool Tryd.underlying4 _), (trodAll_cons_mk (Below.trod laidOut (by kernel_rfl) (of_decide_eq_true (by kernel_rfl)) k0 bel lt0) (trodAll_cons_mk (Below.trod laidOut (by kernel_rfl) (of_decide_eq_true (by kernel_rfl)) k1 bel lt1) trodAll_mk0)), rfl, bel.frame _, fun h => by cases h⟩

set_option maxRecDepth 100000 in
theorem lifted (os : Os) (started : os.Started) (H : Type) (enc : TypeId × Value → H) (F : Stop.Interp) :
    ReturnsInHanded {} Tryd.checked os 8 .any ((OpenSpec.ofChange Rows.bindModesSpec).preRow enc Tryd.prog Tryd.f8 Rows.bindModesRow.domain false Rows.bindModesRow.laid) (((OpenSpec.ofChange Rows.bindModesSpec).at F).post enc Tryd.prog Tryd.f8 false true false false) := by
  obtain ⟨places, hx⟩ := reads os enc
  refine returnsInHanded_of_row (C := Tryd.checked) (s := OpenSpec.ofChange Rows.bindModesSpec) own started (by kernel_rfl) Tryd.func8
    (witness_row_atRef (enc := enc) (C := Tryd.checked) false (laidWorld os) #[.slice none 0 0, .slice none 0 0] rfl (by kernel_rfl) (by kernel_rfl) (by kernel_rfl)
      (OpenSpec.preRow_of_cond 8 hx (by kernel_rfl) (fun k hk => by cases hk) (by kernel_rfl) (laid_met os _))) ?_
  intro W base args ds gs before hval hW _ _ hsz hL _ _
  exact contract H enc W base args ds gs before hval hW hsz hL

theorem said : Rows.BindModesSaid :=
  OpenClaim.holds_of_cond 8 Tryd.f8 rfl rfl rfl rfl rfl rfl rfl ⟨rfl, rfl, rfl, rfl, rfl⟩ rfl rfl rfl rfl rfl (by kernel_rfl) Tryd.func8 (by kernel_rfl)
    (of_decide_eq_true (by kernel_rfl)) (by unfold Func.isWrapper; first | (rw [if_pos (by decide +kernel)]; kernel_rfl) | (rw [if_neg (by decide +kernel)]; exact ⟨rfl, rfl⟩))
    (fun os started H enc _ F => by rw [OpenClaim.pre_eq_preRow]; exact lifted os started H enc F)

theorem plain (f : FuncId) (fn : Func) (hf : Tryd.pinned.checked.prog.funcNamed "quillpen/quillpenlaw19.BindModes" = some f) (hfn : Tryd.pinned.checked.prog.funcs[f]? = some fn) :
    false = Tryd.pinned.checked.prog.looks [] ∧ ∀ (j : Nat) t, fn.params[j]? = some t → Tryd.pinned.checked.prog.wantsStandIn t = false := by
  obtain rfl : f = 8 := Option.some.inj ((show Tryd.prog.funcNamed "quillpen/quillpenlaw19.BindModes" = some 8 by kernel_rfl).symm.trans hf) |>.symm
  obtain rfl : fn = Tryd.f8 := (Option.some.inj (Tryd.func8.symm.trans hfn)).symm
  refine ⟨by kernel_rfl, fun j t ht => ?_⟩
  rw [Tryd.params8] at ht
  have hm := Array.mem_of_getElem? ht
  have hall : (#[22, 49] : Array TypeId).toList.all (fun t => Tryd.prog.wantsStandIn t == false) = true := by kernel_rfl
  exact eq_of_beq (List.all_eq_true.1 hall t (by simpa using hm))

theorem proved : Rows.BindModesCardSaid :=
  Claim7.holds_tied_plain_at .later [] _ _ _ _ said (fun _ h => by cases h) (by kernel_rfl) (fun _ h => by cases h) bindModes_row_tie rfl ⟨rfl, rfl⟩ (by kernel_rfl) rfl plain (by kernel_rfl)
end Go.Proofs.YtamhdlopchhdjaaDoor.bindModes
