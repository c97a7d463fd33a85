/- The names but one are what the document says; of them that one is none. The table of UTF-8 is laid as the text lays it; the card ties it. -/
import Derived.Test.YtamhdlopchhdjaaDoorHeadF
import Derived.Test.YtamhdlopchhdjaaDoorCards
import Derived.Test.YtamhdlopchhdjaaDoorTie
import Derived.SizedLaws
import Derived.ProofKit
import Derived.OpenShut
import Derived.ShutString
import Derived.ChangeOld
import Derived.Below
import Derived.Deep.DeepHandedRow
import Derived.Deep.DeepWitnessRowRef
namespace Go.Proofs.YtamhdlopchhdjaaDoor.headWithout
open Go.ChangeShapes Go.WideShapes Go.ChangeAt Go.RowKit
open Go.ChangeMaps (open_string shut_string)
set_option linter.unusedVariables false
set_option linter.unusedSimpArgs false

theorem posF_get : ∀ {l : Row} {s : ByteArray}, s ∈ l → ∀ j : Nat, l[(posF j l s - j).toNat]? = some s
  | a :: l, s, h, j => by
    rw [posF]
    split
    · rename_i he
      rw [Int.sub_self]
      simp [he]
    · rename_i hne
      have hm : s ∈ l := by
        rcases List.mem_cons.1 h with e | e
        · exact absurd e.symm hne
        · exact e
      have h1 := posF_get hm (j + 1)
      have h2 := posF_some hm (j + 1)
      rw [show (posF (j + 1) l s - (j : Int)).toNat = (posF (j + 1) l s - ((j + 1 : Nat) : Int)).toNat + 1 by omega, List.getElem?_cons_succ]
      exact h1
theorem not_erased {l : Row} {s : ByteArray} (hn : l.Nodup) (h : s ∈ l) : s ∉ l.eraseIdx (atC l s) := by
  intro hm
  have h1 := posF_get h 0
  rw [show (posF 0 l s - ((0 : Nat) : Int)).toNat = atC l s by unfold atC; omega] at h1
  have hlt := atC_lt h
  rw [List.mem_eraseIdx_iff_getElem] at hm
  obtain ⟨i, hi, hne, he⟩ := hm
  have hp := List.pairwise_iff_getElem.1 hn
  rw [List.getElem?_eq_getElem hlt] at h1
  injection h1 with h1
  rcases Nat.lt_or_gt_of_ne hne with hlt2 | hgt
  · exact hp i (atC l s) hi hlt hlt2 (he.trans h1.symm)
  · exact hp (atC l s) i hlt hi hgt (h1.trans he.symm)
set_option maxHeartbeats 4000000 in
set_option maxRecDepth 100000 in
theorem walk (v : Value) (s : ByteArray) (hs0 : s.size ≤ 140737488351232) (W : World) (hT : Tab W) (h0 : ∃ l, RdS W W.heap.size v l) :
    Calls Tryd.prog 6 #[v, .string s] W fun e w' => e = .returned (.bool true) ∧ Below W.heap.size W w' := by
  refine cps fun R HR => ?_
  obtain ⟨i0, hi0, hz0, hz1, hz2⟩ := info_parts str_info
  obtain ⟨l, h0⟩ := h0
  have HT := Lib.hid hT
  clear hT
  go_enter Tryd.func6, Tryd.ntmps6
  go_wp2_with fail
  refine (few15_any _ l _ h0).mono ?_
  rintro e w1 ⟨⟨g, rfl, hg⟩, b1⟩
  cases g
  · clear hg
    go_wp2_with fail
    refine (awake15_any _ (HT.out.below b1)).mono ?_
    rintro e w9 ⟨rfl, b9⟩
    go_wp2
    exact HR.out _ _ ⟨rfl, b1.trans (b9.mono b1.size)⟩
  · obtain ⟨q1, q2⟩ := hg rfl
    have Q1 := Lib.hid q1; have Q2 := Lib.hid q2
    clear hg q1 q2
    by_cases hsz : 200 < s.size
    · have d : decide ((200 : Int) < s.size) = true := decide_eq_true (by omega)
      clear hsz
      go_wp2_with fail
      refine (awake15_any _ (HT.out.below b1)).mono ?_
      rintro e w9 ⟨rfl, b9⟩
      go_wp2
      exact HR.out _ _ ⟨rfl, b1.trans (b9.mono b1.size)⟩
    · have d : decide ((200 : Int) < s.size) = false := decide_eq_false (by omega)
      have hl : ∀ x ∈ l, x.size ≤ 100000 := fun x hx => by have := le_bytesR hx; have := Q2.out; omega
      have HL := Lib.hid hl
      clear hl
      go_wp2_with fail
      refine (new_any _ l _ (h0.next b1) (by have := Q1.out; omega) HL.out (HT.out.below b1)).mono ?_
      rintro e w3 ⟨h, rfl, hu, hun, b3⟩
      have bw3 := b1.trans (b3.mono b1.size)
      obtain ⟨yn, hyn⟩ : ∃ yn, yn = (newC l).1 := ⟨_, rfl⟩
      obtain ⟨ye, hye⟩ : ∃ ye, ye = (newC l).2 := ⟨_, rfl⟩
      rw [← hyn, ← hye]
      rw [← hye] at hu hun
      clear hyn hye
      by_cases hz : ye = 0
      · subst hz
        have hh := hu rfl
        obtain ⟨gh, bh, vh, rfl, -⟩ := hh.is
        clear hu hun
        obtain ⟨Y, hY⟩ : ∃ Y, Y = woC l s := ⟨_, rfl⟩
        have HY := Lib.hid hY
        clear hY
        go_wp2_with fail
        refine (without_any _ l s _ hh (by omega) (by have := Q1.out; omega)).mono ?_
        rintro e w4 ⟨o, rfl, ho, b4⟩
        rw [← HY.out] at ho ⊢
        have bw4 := bw3.trans (b4.mono bw3.size)
        have hh4 := hh.keep b4
        have l4 := h0.next bw4
        go_wp2_with fail
        refine (refAt_any _ l s _ l4).mono ?_
        rintro e w4 ⟨rfl, rfl⟩
        by_cases hin : s ∈ l
        · have hlt := atC_lt hin
          have hno := not_erased hh.nodup hin
          have hy := HY.out
          unfold woC at hy
          rw [if_pos hin] at hy
          rw [posF_in hin]
          obtain ⟨ct, hct⟩ : ∃ ct, ct = atC l s := ⟨_, rfl⟩
          rw [← hct] at hlt hy hno ⊢
          have dz : decide ((ct : Int) < 0) = false := decide_eq_false (by omega)
          subst hy
          have HNO := Lib.hid hno
          clear hct hin hno
          have l5 := l4
          obtain ⟨A, c, rfl, hsl⟩ := l4.is
          obtain ⟨p, rfl⟩ := hsl.some_ (by omega)
          have hcap := l5.cap
          have hfew := l5.few
          have hl30 : l.length ≤ 30 := Q1.out
          have hlk : (l.take ct).length = ct := by rw [List.length_take]; omega
          have s1 : Sl w4 w4.heap.size 1 (some p) ct c (strV (l.take ct)) := by
            obtain ⟨A9, c9, e9, h9⟩ := (l5.take (k := ct) (by omega)).is
            rw [hlk] at e9 h9
            injection e9 with eA _ eC
            subst eA
            subst eC
            exact h9
          have s2 := hsl.cut (k := ct + 1) (by omega)
          have hdr : (strV l).drop ((ct + 1) * 1) = strV (l.drop (ct + 1)) := by unfold strV; rw [Nat.mul_one, List.map_drop]
          rw [hdr, Nat.mul_one] at s2
          obtain ⟨X, hX⟩ : ∃ X, (if c = ct + 1 then some p else some ⟨p.block, p.off + (ct + 1), none⟩) = X := ⟨_, rfl⟩
          rw [show (if c = ct + 1 then some p else Option.map (fun x => x.add (ct + 1)) (some p)) = X by rw [← hX]; simp only [Option.map_some, add_succ]] at s2
          have S1 := Lib.hid s1; have S2 := Lib.hid s2
          clear s1 s2 hsl hdr hlk
          have hic : ct ≤ c := by omega
          have hc0 : ¬ c = 0 := by omega
          have hwr : IntKind.i64.wrap ((ct : Int) + 1) = (ct : Int) + 1 := by rw [IntKind.wrap_i64]; omega
          have hp0 : (0 : Int) ≤ (ct : Int) + 1 := by omega
          have hp1 : (ct : Int) + 1 ≤ (l.length : Int) := by omega
          have hp2 : ((ct : Int) + 1).toNat = ct + 1 := by omega
          have hp3 : ct + 1 ≤ c := by omega
          have O1 := strV_one (l.take ct)
          have O2 := strV_one (l.drop (ct + 1))
          have HO1 := Lib.hid O1; have HO2 := Lib.hid O2
          clear O1 O2
          obtain ⟨B4, hB4⟩ : ∃ B4, B4 = w4.heap.size := ⟨_, rfl⟩
          have HB4 := Lib.hid hB4
          clear hB4
          go_wp2
          go_region_law (first | (refine step_append_Own _ rfl (.tmp 59) (.tmp 63) _ rfl B4 9 i0 _ 1 16 Tryd.underlying22 hi0 hz0 hz1 hz2 rfl (by omega) (by omega) v5 ct (strV (l.take ct)) (by simp [Act.eval, Act.put]) hown5 w4.heap.size X (l.length - (ct + 1)) (c - (ct + 1)) (strV (l.drop (ct + 1))) (by simp [Act.eval, Act.put]) (S2.out.drew.grown hg5 (Nat.le_refl _) (fun _ e => by cases e)) HO2.out (by simp only [maxLen]; omega) (by omega) (by have := hg5.size; rw [HB4.out]; exact this) ?_; intro v6 w6 hown6 hg6 hat6) | (refine step_append_Own _ rfl (.tmp 55) (.tmp 58) _ rfl B4 9 i0 _ 1 16 Tryd.underlying22 hi0 hz0 hz1 hz2 rfl (by omega) (by omega) (.slice none 0 0) 0 [] (by simp [Act.eval, Act.put]) (Own.nil_ _ _ _ _) w4.heap.size (some p) ct c (strV (l.take ct)) (by simp [Act.eval, Act.put]) S1.out.drew HO1.out (by simp only [maxLen]; omega) (by omega) (by rw [HB4.out]; exact Nat.le_refl _) ?_; intro v5 w5 hown5 hg5 hat5; simp only [Nat.zero_add, List.nil_append] at hown5))
          have hfin : strV (l.take ct) ++ strV (l.drop (ct + 1)) = strV (l.eraseIdx ct) := by rw [List.eraseIdx_eq_take_drop_succ]; unfold strV; rw [List.map_append]
          rw [hfin] at hown6
          have hb6 : Below w4.heap.size w4 w6 := below_grown (below_grown ((Below.refl _ _).drew) hg5 (fun g e => by cases e) (Nat.le_refl _)) hg6 (fun g e => by have := (hown5.lt g e).1; rw [HB4.out] at this; exact this) hg5.size
          have bw6 := bw4.trans (hb6.mono bw4.size)
          have hr6 := RdS.of_own hown6
          have ho6 := RdS.of_own (ho.below hb6 (Nat.le_refl _))
          have hh6 := hh4.keep hb6
          have N1 := Lib.hid (posF_none HNO.out 0)
          have E1 := Lib.hid (show sameS (l.eraseIdx ct) (l.eraseIdx ct) = true from decide_eq_true rfl)
          have E2 := Lib.hid (show sameS l l = true from decide_eq_true rfl)
          have l6 := l5.next hb6
          clear hfin hX hwr hp0 hp1 hp2 hp3 hown5 hg5 hat5 hown6 hg6 hat6
          go_wp2_with fail
          refine (same_any _ _ (l.eraseIdx ct) (l.eraseIdx ct) _ ho6 hr6).mono ?_
          rintro e w7 ⟨rfl, b7⟩
          rw [E1.out]
          have bw7 := bw6.trans (b7.mono bw6.size)
          go_wp2_with fail
          refine (refAt_any _ (l.eraseIdx ct) s _ (ho6.next b7)).mono ?_
          rintro e w8 ⟨rfl, rfl⟩
          rw [N1.out]
          go_wp2_with fail
          refine (names_any _ l _ (hh6.keep b7) (by omega)).mono ?_
          rintro e w9 ⟨t, rfl, ht, b9⟩
          have bw9 := bw7.trans (b9.mono bw7.size)
          go_wp2_with fail
          refine (same_any _ _ l l _ (RdS.of_own ht) ((l6.next b7).next b9)).mono ?_
          rintro e w10 ⟨rfl, b10⟩
          rw [E2.out]
          have bw10 := bw9.trans (b10.mono bw9.size)
          go_wp2_with fail
          refine (awake15_any _ (HT.out.below bw10)).mono ?_
          rintro e w11 ⟨rfl, b11⟩
          go_wp2
          exact HR.out _ _ ⟨rfl, bw10.trans (b11.mono bw10.size)⟩
        · have hy := HY.out
          unfold woC at hy
          rw [if_neg hin] at hy
          subst hy
          rw [posF_none hin]
          clear hin
          obtain ⟨oA, oc, rfl, -⟩ := ho.form
          go_wp2_with fail
          refine (awake15_any _ (HT.out.below bw4)).mono ?_
          rintro e w9 ⟨rfl, b9⟩
          go_wp2
          exact HR.out _ _ ⟨rfl, bw4.trans (b9.mono bw4.size)⟩
      · have hz2 := hun hz
        subst hz2
        have d2 : ((ye : Int) != 0) = true := by rw [bne_iff_ne]; omega
        clear hu hun hz
        go_wp2_with fail
        refine (awake15_any _ (HT.out.below bw3)).mono ?_
        rintro e w9 ⟨rfl, b9⟩
        go_wp2
        exact HR.out _ _ ⟨rfl, bw3.trans (b9.mono bw3.size)⟩

theorem own : ownKnob Tryd.prog.godebug = none := by kernel_rfl
theorem laidOut : laidOutB Tryd.prog = true := by kernel_rfl
theorem reads (os : Os) {H : Type} (enc : TypeId × Value → H) : ∃ places, DataW.whole enc Tryd.prog ((laidWorld os).forCall (fun _ _ => 0) ⟨#[], #[.slice none 0 0, .string ByteArray.empty], []⟩).memory Tryd.f6.params.toList Rows.headWithoutSpec.vars false #[.slice none 0 0, .string ByteArray.empty].toList 8 = some ([.nil, .lit (.string [])], [], places) :=
  ⟨[], by kernel_rfl⟩

theorem contract (H : Type) (enc : TypeId × Value → H) (W : World) (base : Nat) (args : Array Value) (ds gs : List (DataW H)) (before : List MemPlace)
    (hval0 : ∀ (j : Nat) t v, Tryd.f6.params[j]? = some t → args[j]? = some v → Value.okWide Tryd.prog W .any base t v)
    (hW : DataW.Whole enc Tryd.prog Tryd.f6.params.toList Rows.headWithoutSpec.vars false W args.toList ds gs before)
    (hsz0 : (DataW.weightsEach Tryd.prog (Tryd.f6.params.toList ++ Rows.headWithoutSpec.plain.varTypes Tryd.prog) (ds ++ gs)).all (· ≤ reachBytes) = true)
    (hL : laidMetH Tryd.prog Rows.headWithoutRow.laid W) :
    Calls Tryd.prog 6 args W fun e W' => ∃ v, e = .returned v ∧ Rows.headWithoutSpec.post enc Tryd.prog Tryd.f6 false true false false W args v W' := by
  have hval : ∀ (j : Nat) t v, Tryd.f6.params[j]? = some t → args[j]? = some v → Value.okWide Tryd.prog W .any base t v := hval0
  have hW' := hW
  obtain ⟨p, q, hA0, hV, rfl, hfz, hnd⟩ := hW
  have hA : DataW.TrodAll enc Tryd.prog W 0 (fun _ => true) true Tryd.f6.params.toList args.toList ds p := hA0
  have hsz : (DataW.weightsEach Tryd.prog (Tryd.f6.params.toList ++ Rows.headWithoutSpec.plain.varTypes Tryd.prog) (ds ++ gs)).all (· ≤ reachBytes) = true := hsz0
  rw [Tryd.params6] at hA hval hsz
  obtain ⟨v0, vs0, d0, ds0, p0, q0, hargs, rfl, rfl, h0, r0⟩ := trodAll_cons hA
  obtain ⟨v1, vs1, d1, ds1, p1, q1, rfl, rfl, rfl, h1, r1⟩ := trodAll_cons r0
  obtain ⟨rfl, rfl, rfl⟩ := trodAll_nil r1
  obtain rfl : args = #[v0, v1] := by cases args; simp_all
  obtain ⟨rfl, rfl⟩ := trodVars_none hV
  have k0 := h0
  have lt0 : ∀ x ∈ p0, x.block < W.heap.size := by obtain ⟨m, hm⟩ := k0; exact DataW.trod_lt m _ _ _ hm
  have w0 := open_strsV (hval 0 22 v0 rfl rfl) h0 (Sized.arg (j := 0) hsz rfl rfl)
  have k1 := h1
  have lt1 : ∀ x ∈ p1, x.block < W.heap.size := by obtain ⟨m, hm⟩ := k1; exact DataW.trod_lt m _ _ _ hm
  obtain ⟨a1, rfl, rfl, _, _⟩ := open_string Tryd.underlying9 (hval 1 9 v1 rfl rfl) h1
  have w1 : a1.size ≤ 140737488351232 := (Sized.arg (j := 1) hsz rfl rfl).str
  clear hA0 hval0
  refine (walk v0 a1 w1 W (tab_row hL) w0).mono fun e W' ⟨he, bel⟩ => ?_
  subst he
  exact ⟨_, rfl, _, _, _, [], _, [], hW', trodAll_mk1 (shut_bool Tryd.underlying4 _), (trodAll_cons_mk (Below.trod laidOut (by kernel_rfl) (of_decide_eq_true (by kernel_rfl)) k0 bel lt0) (trodAll_cons_mk (Below.trod laidOut (by kernel_rfl) (of_decide_eq_true (by kernel_rfl)) k1 bel lt1) trodAll_mk0)), rfl, bel.frame _, fun h => by cases h⟩

set_option maxRecDepth 100000 in
theorem lifted (os : Os) (started : os.Started) (H : Type) (enc : TypeId × Value → H) (F : Stop.Interp) :
    ReturnsInHanded {} Tryd.checked os 6 .any ((OpenSpec.ofChange Rows.headWithoutSpec).preRow enc Tryd.prog Tryd.f6 Rows.headWithoutRow.domain false Rows.headWithoutRow.laid) (((OpenSpec.ofChange Rows.headWithoutSpec).at F).post enc Tryd.prog Tryd.f6 false true false false) := by
  obtain ⟨places, hx⟩ := reads os enc
  refine returnsInHanded_of_row (C := Tryd.checked) (s := OpenSpec.ofChange Rows.headWithoutSpec) own started (by kernel_rfl) Tryd.func6
    (witness_row_atRef (enc := enc) (C := Tryd.checked) false (laidWorld os) #[.slice none 0 0, .string ByteArray.empty] rfl (by kernel_rfl) (by kernel_rfl) (by kernel_rfl)
      (OpenSpec.preRow_of_cond 8 hx (by kernel_rfl) (fun k hk => by cases hk) (by kernel_rfl) (laid_met os _))) ?_
  intro W base args ds gs before hval hW _ _ hsz hL _ _
  exact contract H enc W base args ds gs before hval hW hsz hL

theorem said : Rows.HeadWithoutSaid :=
  OpenClaim.holds_of_cond 6 Tryd.f6 rfl rfl rfl rfl rfl rfl rfl ⟨rfl, rfl, rfl, rfl, rfl⟩ rfl rfl rfl rfl rfl (by kernel_rfl) Tryd.func6 (by kernel_rfl)
    (of_decide_eq_true (by kernel_rfl)) (by unfold Func.isWrapper; first | (rw [if_pos (by decide +kernel)]; kernel_rfl) | (rw [if_neg (by decide +kernel)]; exact ⟨rfl, rfl⟩))
    (fun os started H enc _ F => by rw [OpenClaim.pre_eq_preRow]; exact lifted os started H enc F)

theorem plain (f : FuncId) (fn : Func) (hf : Tryd.pinned.checked.prog.funcNamed "quillpen/quillpenlaw15.HeadWithout" = some f) (hfn : Tryd.pinned.checked.prog.funcs[f]? = some fn) :
    false = Tryd.pinned.checked.prog.looks [] ∧ ∀ (j : Nat) t, fn.params[j]? = some t → Tryd.pinned.checked.prog.wantsStandIn t = false := by
  obtain rfl : f = 6 := Option.some.inj ((show Tryd.prog.funcNamed "quillpen/quillpenlaw15.HeadWithout" = some 6 by kernel_rfl).symm.trans hf) |>.symm
  obtain rfl : fn = Tryd.f6 := (Option.some.inj (Tryd.func6.symm.trans hfn)).symm
  refine ⟨by kernel_rfl, fun j t ht => ?_⟩
  rw [Tryd.params6] at ht
  have hm := Array.mem_of_getElem? ht
  have hall : (#[22, 9] : Array TypeId).toList.all (fun t => Tryd.prog.wantsStandIn t == false) = true := by kernel_rfl
  exact eq_of_beq (List.all_eq_true.1 hall t (by simpa using hm))

theorem proved : Rows.HeadWithoutCardSaid :=
  Claim7.holds_tied_plain_at .later [] _ _ _ _ said (fun _ h => by cases h) (by kernel_rfl) (fun _ h => by cases h) headWithout_row_tie rfl ⟨rfl, rfl⟩ (by kernel_rfl) rfl plain (by kernel_rfl)
end Go.Proofs.YtamhdlopchhdjaaDoor.headWithout
