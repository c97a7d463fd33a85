/- What comes out of any two tables, joined, is what the document says, or why nothing does. The table of UTF-8 is laid as the text lays it; the card ties it. -/
import Derived.Test.YtgiemhooeoakmaaDoorCards
import Derived.Test.YtgiemhooeoakmaaDoorTie
import Derived.SizedLaws
import Derived.ProofKit
import Derived.OpenShut
import Derived.ShutString
import Derived.ChangeOld
import Derived.Below
import Derived.Deep.DeepHandedRow
import Derived.Deep.DeepWitnessRowRef
import Derived.Test.YtgiemhooeoakmaaDoorKL
import Derived.Test.YtgiemhooeoakmaaDoorKN
import Derived.Test.YtgiemhooeoakmaaDoorKM
import Derived.Test.YtgiemhooeoakmaaDoorKP
import Derived.Test.YtgiemhooeoakmaaDoorKH
import Derived.Test.YtgiemhooeoakmaaDoorKE
namespace Go.Proofs.YtgiemhooeoakmaaDoor.joinJoins
open Go.ChangeShapes Go.WideShapes Go.ChangeAt Go.RowKit
open Go.ChangeMaps (open_string shut_string)
set_option linter.unusedVariables false
set_option linter.unusedSimpArgs false

set_option maxHeartbeats 8000000 in
set_option maxRecDepth 100000 in
theorem walk (v : Value) (W : World) (hT : Tab W) (h0 : ∃ v1 u1 v2 u2 z la ta lb tb on, ∃ kind : Int, v = .agg #[v1, u1, v2, u2, z, .int .i64 kind] ∧ RdC W W.heap.size v1 la ∧ RdVT W W.heap.size u1 ta ∧ RdC W W.heap.size v2 lb ∧ RdVT W W.heap.size u2 tb ∧ RdOn W W.heap.size z on) :
    Calls Tryd.prog 8 #[v] W fun e w' => e = .returned (.bool true) ∧ Below W.heap.size W w' := by
  refine cps fun R HR => ?_
  obtain ⟨v1, u1, v2, u2, z, la, ta, lb, tb, on, kind, rfl, h1, h2, h3, h4, hu⟩ := h0
  have g1 := h1; have g2 := h2; have g3 := h3; have g4 := h4; have hu0 := hu
  obtain ⟨A1, c1, rfl, -⟩ := h1.is
  obtain ⟨A2, c2, vs, rfl, -, -⟩ := h2.is
  obtain ⟨A3, c3, rfl, -⟩ := h3.is
  obtain ⟨A4, c4, vs', rfl, -, -⟩ := h4.is
  obtain ⟨A5, c5, rfl, -⟩ := hu.is
  clear h1 h2 h3 h4 hu
  obtain ⟨w0, hw0⟩ : ∃ w0, w0 = W.alloc (.cells #[.slice A1 la.length c1, .slice A2 ta.length c2, .slice A3 lb.length c3, .slice A4 tb.length c4, .slice A5 on.length c5, .int .i64 kind] 52) := ⟨_, rfl⟩
  have bw0 : Below W.heap.size W w0 := by rw [hw0]; exact (Below.refl _ _).alloc (Nat.le_refl _) _
  have X := Box.new W 52 #[.slice A1 la.length c1, .slice A2 ta.length c2, .slice A3 lb.length c3, .slice A4 tb.length c4, .slice A5 on.length c5, .int .i64 kind]
  rw [← hw0] at X
  obtain ⟨g, hg⟩ : ∃ g, g = W.heap.size := ⟨_, rfl⟩
  rw [← hg] at X
  have cells : ∀ w' : World, Below w0.heap.size w0 w' → w'.cell? ⟨g, 0, none⟩ = some (.slice A1 la.length c1) ∧ w'.cell? ⟨g, 1, none⟩ = some (.slice A2 ta.length c2) ∧ w'.cell? ⟨g, 2, none⟩ = some (.slice A3 lb.length c3) ∧ w'.cell? ⟨g, 3, none⟩ = some (.slice A4 tb.length c4) ∧ w'.cell? ⟨g, 4, none⟩ = some (.slice A5 on.length c5) ∧ w'.cell? ⟨g, 5, none⟩ = some (.int .i64 kind) := fun w' hb => by
    have X2 := X.below hb X.lt
    exact ⟨X2.cell 0, X2.cell 1, X2.cell 2, X2.cell 3, X2.cell 4, X2.cell 5⟩
  obtain ⟨x0, x1, x2, x3, x4, x5⟩ := cells w0 (Below.refl _ _)
  have HX := Lib.hid X
  have CELLS := Lib.hid cells; have HW0 := Lib.hid hw0; have HB0 := Lib.hid bw0; have HG := Lib.hid hg
  have HT := Lib.hid hT
  clear X hw0 bw0 cells hT
  go_enter Tryd.func8, Tryd.ntmps8
  go_wp2_with fail
  rw [← HW0.out, ← hg]
  clear hg
  refine (fits23_any _ _ _ _ _ kind la lb ta tb on _ (RdF.next g1 HB0.out) (RdE.next (RdF.stays valV 4) g2 HB0.out) (RdF.next g3 HB0.out) (RdE.next (RdF.stays valV 4) g4 HB0.out) (RdF.next hu0 HB0.out)).mono ?_
  rintro e w1 ⟨⟨t, rfl, ht⟩, b1⟩
  have bw1 := HB0.out.trans (b1.mono HB0.out.size)
  clear x0 x1 x2 x3 x4 x5
  cases t
  · clear ht
    go_wp2_with fail
    refine (awake23_any _ (HT.out.below bw1)).mono ?_
    rintro e w99 ⟨rfl, b99⟩
    go_wp2
    exact HR.out _ _ ⟨rfl, bw1.trans (b99.mono bw1.size)⟩
  · obtain ⟨⟨⟨hla, hca⟩, hta, hra⟩, ⟨⟨hlb, hcb⟩, htb, hrb⟩, hk⟩ := ht rfl
    have hca2 : ∀ c ∈ la, c.name.size ≤ 100000 := fun c hc => Nat.le_trans (hca c hc) (by omega)
    have hcb2 : ∀ c ∈ lb, c.name.size ≤ 100000 := fun c hc => Nat.le_trans (hcb c hc) (by omega)
    have hra2 : ∀ r ∈ ta, r.length ≤ 100000 := fun r hr => Nat.le_trans (hra r hr).1 (by omega)
    have hrb2 : ∀ r ∈ tb, r.length ≤ 100000 := fun r hr => Nat.le_trans (hrb r hr).1 (by omega)
    have HCA := Lib.hid hca2; have HCB := Lib.hid hcb2; have HRA := Lib.hid hra2; have HRB := Lib.hid hrb2
    clear ht hca hcb hra hrb hca2 hcb2 hra2 hrb2
    obtain ⟨x0, x1, x2, x3, x4, x5⟩ := CELLS.out w1 b1
    obtain ⟨E, hE⟩ : ∃ E, E = joinE la lb ta tb on kind := ⟨_, rfl⟩
    have HE := Lib.hid hE
    clear hE
    go_wp2_with fail
    refine (join_any _ _ _ _ _ la lb ta tb on kind _ (RdF.next g1 bw1) (RdE.next (RdF.stays valV 4) g2 bw1) (RdF.next g3 bw1) (RdE.next (RdF.stays valV 4) g4 bw1) (RdF.next hu0 bw1) (by omega) (by omega) (by omega) (by omega) (by omega) HCA.out HCB.out (HT.out.below bw1)).mono ?_
    rintro e w2 ⟨⟨p, r, rfl, hp, hr⟩, b2⟩
    rw [← HE.out] at hp hr
    rw [← HE.out]
    have b02 := b1.trans (b2.mono b1.size)
    have bw2 := HB0.out.trans (b02.mono HB0.out.size)
    obtain ⟨D, hD⟩ : ∃ D, D = (if E = 0 then colsJ la lb on kind else []) := ⟨_, rfl⟩
    obtain ⟨RR, hRR⟩ : ∃ RR, RR = (if E = 0 then rowsJ la lb ta tb on kind else []) := ⟨_, rfl⟩
    rw [← hD] at hp
    rw [← hRR] at hr
    have HD := Lib.hid hD; have HRD0 := Lib.hid hRR
    clear hD hRR
    have hp0 := hp
    have hr0 := hr
    obtain ⟨pA, pc, rfl, -⟩ := hp.is
    obtain ⟨rA, rc, rvs, rfl, -, -⟩ := hr.is
    obtain ⟨w3, hw3⟩ : ∃ w3, w3 = w2.alloc (.cells #[.slice pA D.length pc, .slice rA RR.length rc] 25) := ⟨_, rfl⟩
    have b3 : Below w2.heap.size w2 w3 := by rw [hw3]; exact (Below.refl _ _).alloc (Nat.le_refl _) _
    have X3 := Box.new w2 25 #[.slice pA D.length pc, .slice rA RR.length rc]
    obtain ⟨gt, hgt⟩ : ∃ gt, gt = w2.heap.size := ⟨_, rfl⟩
    rw [← hw3, ← hgt] at X3
    have b03 := b02.trans (b3.mono b02.size)
    have bw3 := bw2.trans (b3.mono bw2.size)
    have hp3 := RdF.next hp0 b3
    have hr3 := RdE.next (RdF.stays valV 4) hr0 b3
    clear x0 x1 x2 x3 x4 x5 hp hr hp0 hr0
    obtain ⟨x0, x1, x2, x3, x4, x5⟩ := CELLS.out w3 b03
    rw [hw3] at x0 x1 x2 x3 x4 x5
    have HW3 := Lib.hid hw3
    clear hw3
    go_wp2_with fail
    rw [← HW3.out, ← hgt]
    clear hgt
    refine (wrong_any _ _ _ _ _ kind la lb ta tb on _ (RdF.next g1 bw3) (RdE.next (RdF.stays valV 4) g2 bw3) (RdF.next g3 bw3) (RdE.next (RdF.stays valV 4) g4 bw3) (RdF.next hu0 bw3) (by omega) (by omega) (by omega) (by omega) (by omega) HCA.out HCB.out).mono ?_
    rintro e w4 ⟨rfl, b4⟩
    rw [← HE.out]
    have b04 := b03.trans (b4.mono b03.size)
    have bw4 := bw3.trans (b4.mono bw3.size)
    have X4 := X3.below b4 X3.lt
    clear x0 x1 x2 x3 x4 x5
    obtain ⟨x0, x1, x2, x3, x4, x5⟩ := CELLS.out w4 b04
    have t0 := X4.cell 0
    have t1 := X4.cell 1
    simp at t0 t1
    by_cases hz : E = 0
    · subst hz
      have hk := HE.out.symm
      have hjc : (jchk la lb on kind).2 = 0 := joinE_ok hk
      have hk1 := (jchk_pos hjc).1
      have hk4 := (jchk_pos hjc).2
      have hRD := HRD0.out
      have hDD := HD.out
      rw [if_pos rfl] at hRD hDD
      have hDl : D.length ≤ 24 := by rw [hDD]; have := colsJ_len la lb on kind; omega
      have hRl : RR.length ≤ 1000 := by
        rw [hRD]
        have h1 := rowsJ_le la lb ta tb on kind
        have h2 : ta.length * (tb.length + 1) ≤ 12 * 13 := Nat.mul_le_mul (by omega) (by omega)
        omega
      have hrr : ∀ r ∈ RR, r.length ≤ 100000 := by rw [hRD]; exact rowsJ_short (fun r hr => joinE_rows hk r hr) (by omega) (by omega)
      have HRR := Lib.hid hrr
      clear hrr
      have HJC := Lib.hid hjc; have HIN := Lib.hid (And.intro (jchk_mem hjc) (joinE_fit hk))
      have HRD := Lib.hid hRD; have HDD := Lib.hid hDD; have HSC := Lib.hid (sameC_self D); have HSV := Lib.hid (sameVTR RR)
      clear hk hjc hRD hDD
      go_wp2_with fail
      refine (jColumns_any _ _ _ la lb on kind _ (RdF.next g1 bw4) (RdF.next g3 bw4) (RdF.next hu0 bw4) (by omega) (by omega) (by omega) HCA.out HCB.out (HT.out.below bw4)).mono ?_
      rintro e w5 ⟨⟨o, rfl, ho⟩, b5⟩
      rw [HJC.out] at ho
      rw [if_pos rfl, ← HDD.out] at ho
      rw [HJC.out]
      have ho0 := ho
      obtain ⟨oA, oc, rfl, -⟩ := ho.is
      have b05 := b04.trans (b5.mono b04.size)
      have bw5 := bw4.trans (b5.mono bw4.size)
      have b35 := b4.trans (b5.mono b4.size)
      have hp4 := RdF.next hp3 b35
      have hr4 := RdE.next (RdF.stays valV 4) hr3 b35
      have X5 := X4.below b5 X4.lt
      have mk : ∀ w', Below w5.heap.size w5 w' → w'.cell? ⟨gt, 0, none⟩ = some (.slice pA D.length pc) ∧ w'.cell? ⟨gt, 1, none⟩ = some (.slice rA RR.length rc) ∧ w'.cell? ⟨g, 0, none⟩ = some (.slice A1 la.length c1) ∧ w'.cell? ⟨g, 1, none⟩ = some (.slice A2 ta.length c2) ∧ w'.cell? ⟨g, 2, none⟩ = some (.slice A3 lb.length c3) ∧ w'.cell? ⟨g, 3, none⟩ = some (.slice A4 tb.length c4) ∧ w'.cell? ⟨g, 4, none⟩ = some (.slice A5 on.length c5) ∧ w'.cell? ⟨g, 5, none⟩ = some (.int .i64 kind) ∧ Below w5.heap.size w5 w' := fun w' hb => by
        obtain ⟨y0, y1, y2, y3, y4, y5⟩ := CELLS.out w' (b05.trans (hb.mono b05.size))
        have X6 := X5.below hb X5.lt
        exact ⟨X6.cell 0, X6.cell 1, y0, y1, y2, y3, y4, y5, hb⟩
      have MK := Lib.hid mk
      clear mk X3 X4 X5 x0 x1 x2 x3 x4 x5 t0 t1 ho
      go_wp2
      go_region_held3 (fun w' => w'.cell? ⟨gt, 0, none⟩ = some (.slice pA D.length pc) ∧ w'.cell? ⟨gt, 1, none⟩ = some (.slice rA RR.length rc) ∧ w'.cell? ⟨g, 0, none⟩ = some (.slice A1 la.length c1) ∧ w'.cell? ⟨g, 1, none⟩ = some (.slice A2 ta.length c2) ∧ w'.cell? ⟨g, 2, none⟩ = some (.slice A3 lb.length c3) ∧ w'.cell? ⟨g, 3, none⟩ = some (.slice A4 tb.length c4) ∧ w'.cell? ⟨g, 4, none⟩ = some (.slice A5 on.length c5) ∧ w'.cell? ⟨g, 5, none⟩ = some (.int .i64 kind) ∧ Below w5.heap.size w5 w') (first | (exact MK.out _ (Below.drew (Below.refl _ _))) | (go_split_ands; exact MK.out _ (by assumption)) | (go_split_ands; exact MK.out _ (keepB (by assumption) (by assumption))) | (go_split_ands; exact MK.out _ (Below.alloc (by assumption) (Below.size (by assumption)) _)) | go_keep) (first | (have second := firstMark; go_at_call 21; go_split_ands; refine (refCols_any _ D _ (RdF.next ho0 (by assumption)) (by omega)).mono ?_; rintro e w41 ⟨q41, rfl, hq41, b41⟩) | (go_at_call 21; go_split_ands; refine (refCols_any _ D _ (RdF.next hp4 (by assumption)) (by omega)).mono ?_; rintro e w40 ⟨q40, rfl, hq40, b40⟩; have firstMark : True := trivial) | (go_at_call 20; go_split_ands; refine (refSameC_any _ _ D D _ (RdF.next (RdF.of_own rcolV_len (by omega) hq40) b41) (RdF.of_own rcolV_len (by omega) hq41)).mono ?_; rintro e w42 ⟨rfl, b42⟩; rw [HSC.out]; have cb42 := keepB b42 (by assumption)) | (go_at_call 30; go_split_ands; refine (refRows_any _ RR _ (RdE.next (RdF.stays valV 4) hr4 (by assumption)) (by omega) HRR.out).mono ?_; rintro e w43 ⟨q43, rfl, hq43, b43⟩) | (have second2 := firstMark2; go_at_call 18; go_split_ands; refine (refTab_any _ _ lb tb _ (RdF.next g3 (bw5.trans (Below.mono (by assumption) bw5.size))) (RdE.next (RdF.stays valV 4) g4 (bw5.trans (Below.mono (by assumption) bw5.size))) (by omega) (by omega) HRB.out).mono ?_; rintro e w45 ⟨⟨oB, pB, rfl, hoB, hpB⟩, b45⟩) | (go_at_call 18; go_split_ands; refine (refTab_any _ _ la ta _ (RdF.next g1 (bw5.trans (Below.mono (by assumption) bw5.size))) (RdE.next (RdF.stays valV 4) g2 (bw5.trans (Below.mono (by assumption) bw5.size))) (by omega) (by omega) HRA.out).mono ?_; rintro e w44 ⟨⟨oA, pA, rfl, hoA, hpA⟩, b44⟩; have firstMark2 : True := trivial) | (go_at_call 37; go_split_ands; refine (lawOn_any _ on _ (RdF.next hu0 (bw5.trans (Below.mono (by assumption) bw5.size))) (by omega)).mono ?_; rintro e w46 ⟨q46, rfl, hq46, b46⟩) | (go_at_call 40; go_split_ands; refine (rrows_any _ _ _ _ _ la lb ta tb on kind _ (RdF.next (RdF.next hoA b45) b46) (RdE.next (RdF.stays rvalV 4) (RdE.next (RdF.stays rvalV 4) hpA b45) b46) (RdF.next hoB b46) (RdE.next (RdF.stays rvalV 4) hpB b46) (RdF.of_own onV_len (by omega) hq46) (by omega) (by omega) (by omega) (by omega) HIN.out.1 HIN.out.2.1 HIN.out.2.2 hk1 hk4).mono ?_; rintro e w47 ⟨q47, rfl, hq47, b47⟩; rw [← HRD.out] at hq47) | (go_at_call 29; go_split_ands; refine (sameVT_any _ _ RR RR _ (RdE.next (RdF.stays rvalV 4) (RdE.next (RdF.stays rvalV 4) (RdE.next (RdF.stays rvalV 4) (RdE.next (RdF.stays rvalV 4) (TabY.rd rvalV_len (by omega) hq43) b44) b45) b46) b47) (TabY.rd rvalV_len (by omega) hq47)).mono ?_; rintro e w48 ⟨rfl, b48⟩; rw [HSV.out]; have cb48 := keepB b48 (by assumption)) | (go_at_call 26; go_split_ands; refine (awake23_any _ (HT.out.below (bw5.trans (Below.mono (by assumption) bw5.size)))).mono ?_; rintro e w49 ⟨rfl, b49⟩; have cb49 := keepB b49 (by assumption)))
      have bw30 := bw5.trans (cb49.mono bw5.size)
      go_wp2
      exact HR.out _ _ ⟨rfl, bw30⟩
    · have hRD := HRD0.out
      have hDD := HD.out
      rw [if_neg hz] at hRD hDD
      subst hRD
      subst hDD
      have dne : ((E : Int) != 0) = true := by rw [bne_iff_ne]; omega
      simp only [List.length_nil] at t0 t1
      clear hp3 hr3 X3 X4
      go_wp2_with fail
      refine (awake23_any _ (HT.out.below bw4)).mono ?_
      rintro e w99 ⟨rfl, b99⟩
      go_wp2
      exact HR.out _ _ ⟨rfl, bw4.trans (b99.mono bw4.size)⟩

theorem own : ownKnob Tryd.prog.godebug = none := by kernel_rfl
theorem laidOut : laidOutB Tryd.prog = true := by kernel_rfl
theorem reads (os : Os) {H : Type} (enc : TypeId × Value → H) : ∃ places, DataW.whole enc Tryd.prog ((laidWorld os).forCall (fun _ _ => 0) ⟨#[], #[.agg #[.slice none 0 0, .slice none 0 0, .slice none 0 0, .slice none 0 0, .slice none 0 0, .int .i64 0]], []⟩).memory Tryd.f8.params.toList Rows.joinJoinsSpec.vars false #[.agg #[.slice none 0 0, .slice none 0 0, .slice none 0 0, .slice none 0 0, .slice none 0 0, .int .i64 0]].toList 8 = some ([.agg [.agg [.nil, .nil], .agg [.nil, .nil], .nil, .lit (.int .i64 0)]], [], places) :=
  ⟨[], by kernel_rfl⟩

set_option maxRecDepth 100000 in
theorem contract (H : Type) (enc : TypeId × Value → H) (W : World) (base : Nat) (args : Array Value) (ds gs : List (DataW H)) (before : List MemPlace)
    (hval0 : ∀ (j : Nat) t v, Tryd.f8.params[j]? = some t → args[j]? = some v → Value.okWide Tryd.prog W .any base t v)
    (hW : DataW.Whole enc Tryd.prog Tryd.f8.params.toList Rows.joinJoinsSpec.vars false W args.toList ds gs before)
    (hsz0 : (DataW.weightsEach Tryd.prog (Tryd.f8.params.toList ++ Rows.joinJoinsSpec.plain.varTypes Tryd.prog) (ds ++ gs)).all (· ≤ reachBytes) = true)
    (hL : laidMetH Tryd.prog Rows.joinJoinsRow.laid W) :
    Calls Tryd.prog 8 args W fun e W' => ∃ v, e = .returned v ∧ Rows.joinJoinsSpec.post enc Tryd.prog Tryd.f8 false true false false W args v W' := by
  have hval := hval0
  have hW' := hW
  obtain ⟨p, q, hA0, hV, rfl, hfz, hnd⟩ := hW
  have hA : DataW.TrodAll enc Tryd.prog W 0 (fun _ => true) true Tryd.f8.params.toList args.toList ds p := hA0
  have hsz : (DataW.weightsEach Tryd.prog (Tryd.f8.params.toList ++ Rows.joinJoinsSpec.plain.varTypes Tryd.prog) (ds ++ gs)).all (· ≤ reachBytes) = true := hsz0
  rw [Tryd.params8] at hA hval hsz
  obtain ⟨v0, vs0, d0, ds0, p0, q0, hargs, rfl, rfl, h0, r0⟩ := trodAll_cons hA
  obtain ⟨rfl, rfl, rfl⟩ := trodAll_nil r0
  obtain rfl : args = #[v0] := by cases args; simp_all
  obtain ⟨rfl, rfl⟩ := trodVars_none hV
  have k0 := h0
  have lt0 : ∀ x ∈ p0, x.block < W.heap.size := by obtain ⟨m, hm⟩ := k0; exact DataW.trod_lt m _ _ _ hm
  have w0 := open_case23 (hval 0 52 v0 rfl rfl) h0 (Sized.arg (j := 0) hsz rfl rfl)
  clear hA0 hval0
  refine (walk v0 W (tab_row hL) w0).mono fun e W' ⟨he, bel⟩ => ?_
  subst he
  exact ⟨_, rfl, _, _, _, [], _, [], hW', trodAll_mk1 (shut_bool Tryd.underlying4 _), (trodAll_cons_mk (Below.trod laidOut (by kernel_rfl) (of_decide_eq_true (by kernel_rfl)) k0 bel lt0) trodAll_mk0), rfl, bel.frame _, fun h => by cases h⟩

set_option maxRecDepth 100000 in
theorem lifted (os : Os) (started : os.Started) (H : Type) (enc : TypeId × Value → H) (F : Stop.Interp) :
    ReturnsInHanded {} Tryd.checked os 8 .any ((OpenSpec.ofChange Rows.joinJoinsSpec).preRow enc Tryd.prog Tryd.f8 Rows.joinJoinsRow.domain false Rows.joinJoinsRow.laid) (((OpenSpec.ofChange Rows.joinJoinsSpec).at F).post enc Tryd.prog Tryd.f8 false true false false) := by
  obtain ⟨places, hx⟩ := reads os enc
  refine returnsInHanded_of_row (C := Tryd.checked) (s := OpenSpec.ofChange Rows.joinJoinsSpec) own started (by kernel_rfl) Tryd.func8
    (witness_row_atRef (enc := enc) (C := Tryd.checked) false (laidWorld os) #[.agg #[.slice none 0 0, .slice none 0 0, .slice none 0 0, .slice none 0 0, .slice none 0 0, .int .i64 0]] rfl (by kernel_rfl) (by kernel_rfl) (by kernel_rfl)
      (OpenSpec.preRow_of_cond 8 hx (by kernel_rfl) (fun k hk => by cases hk) (by kernel_rfl) (laid_met os _))) ?_
  intro W base args ds gs before hval hW _ _ hsz hL _ _
  exact contract H enc W base args ds gs before hval hW hsz hL

theorem said : Rows.JoinJoinsSaid :=
  OpenClaim.holds_of_cond 8 Tryd.f8 rfl rfl rfl rfl rfl rfl rfl ⟨rfl, rfl, rfl, rfl, rfl⟩ rfl rfl rfl rfl rfl (by kernel_rfl) Tryd.func8 (by kernel_rfl)
    (of_decide_eq_true (by kernel_rfl)) (by unfold Func.isWrapper; first | (rw [if_pos (by decide +kernel)]; kernel_rfl) | (rw [if_neg (by decide +kernel)]; exact ⟨rfl, rfl⟩))
    (fun os started H enc _ F => by rw [OpenClaim.pre_eq_preRow]; exact lifted os started H enc F)

theorem plain (f : FuncId) (fn : Func) (hf : Tryd.pinned.checked.prog.funcNamed "quillpen/quillpenlaw23.JoinJoins" = some f) (hfn : Tryd.pinned.checked.prog.funcs[f]? = some fn) :
    false = Tryd.pinned.checked.prog.looks [] ∧ ∀ (j : Nat) t, fn.params[j]? = some t → Tryd.pinned.checked.prog.wantsStandIn t = false := by
  obtain rfl : f = 8 := Option.some.inj ((show Tryd.prog.funcNamed "quillpen/quillpenlaw23.JoinJoins" = some 8 by kernel_rfl).symm.trans hf) |>.symm
  obtain rfl : fn = Tryd.f8 := (Option.some.inj (Tryd.func8.symm.trans hfn)).symm
  refine ⟨by kernel_rfl, fun j t ht => ?_⟩
  rw [Tryd.params8] at ht
  have hm := Array.mem_of_getElem? ht
  have hall : (#[52] : Array TypeId).toList.all (fun t => Tryd.prog.wantsStandIn t == false) = true := by kernel_rfl
  exact eq_of_beq (List.all_eq_true.1 hall t (by simpa using hm))

theorem proved : Rows.JoinJoinsCardSaid :=
  Claim7.holds_tied_plain_at .later [] _ _ _ _ said (fun _ h => by cases h) (by kernel_rfl) (fun _ h => by cases h) joinJoins_row_tie rfl ⟨rfl, rfl⟩ (by kernel_rfl) rfl plain (by kernel_rfl)
end Go.Proofs.YtgiemhooeoakmaaDoor.joinJoins
