/- The changes from any table to another one are what the document says, or why there are none. The table of UTF-8 is laid as the text lays it; the card ties it. -/
import Derived.Test.YtgiemhooeoakmaaDoorCards
import Derived.Test.YtgiemhooeoakmaaDoorTie
import Derived.SizedLaws
import Derived.ProofKit
import Derived.OpenShut
import Derived.ShutString
import Derived.ChangeOld
import Derived.Below
import Derived.Deep.DeepHandedRow
import Derived.Deep.DeepWitnessRowRef
import Derived.Test.YtgiemhooeoakmaaDoorKH
import Derived.Test.YtgiemhooeoakmaaDoorKF
import Derived.Test.YtgiemhooeoakmaaDoorKE
namespace Go.Proofs.YtgiemhooeoakmaaDoor.diffTells
open Go.ChangeShapes Go.WideShapes Go.ChangeAt Go.RowKit
open Go.ChangeMaps (open_string shut_string)
set_option linter.unusedVariables false
set_option linter.unusedSimpArgs false

set_option maxHeartbeats 8000000 in
set_option maxRecDepth 100000 in
theorem walk (v : Value) (W : World) (hT : Tab W) (h0 : ∃ v1 u1 v2 u2 z la ta lb tb keys, v = .agg #[v1, u1, v2, u2, z] ∧ RdC W W.heap.size v1 la ∧ RdVT W W.heap.size u1 ta ∧ RdC W W.heap.size v2 lb ∧ RdVT W W.heap.size u2 tb ∧ RdS W W.heap.size z keys) :
    Calls Tryd.prog 4 #[v] W fun e w' => e = .returned (.bool true) ∧ Below W.heap.size W w' := by
  refine cps fun R HR => ?_
  obtain ⟨v1, u1, v2, u2, z, la, ta, lb, tb, keys, rfl, h1, h2, h3, h4, hu⟩ := h0
  have g1 := h1; have g2 := h2; have g3 := h3; have g4 := h4; have hu0 := hu
  obtain ⟨A1, c1, rfl, -⟩ := h1.is
  obtain ⟨A2, c2, vs, rfl, -, -⟩ := h2.is
  obtain ⟨A3, c3, rfl, -⟩ := h3.is
  obtain ⟨A4, c4, vs', rfl, -, -⟩ := h4.is
  obtain ⟨A5, c5, rfl, -⟩ := hu.is
  clear h1 h2 h3 h4 hu
  obtain ⟨w0, hw0⟩ : ∃ w0, w0 = W.alloc (.cells #[.slice A1 la.length c1, .slice A2 ta.length c2, .slice A3 lb.length c3, .slice A4 tb.length c4, .slice A5 keys.length c5] 28) := ⟨_, rfl⟩
  have bw0 : Below W.heap.size W w0 := by rw [hw0]; exact (Below.refl _ _).alloc (Nat.le_refl _) _
  have X := Box.new W 28 #[.slice A1 la.length c1, .slice A2 ta.length c2, .slice A3 lb.length c3, .slice A4 tb.length c4, .slice A5 keys.length c5]
  rw [← hw0] at X
  obtain ⟨g, hg⟩ : ∃ g, g = W.heap.size := ⟨_, rfl⟩
  rw [← hg] at X
  have cells : ∀ w' : World, Below w0.heap.size w0 w' → w'.cell? ⟨g, 0, none⟩ = some (.slice A1 la.length c1) ∧ w'.cell? ⟨g, 1, none⟩ = some (.slice A2 ta.length c2) ∧ w'.cell? ⟨g, 2, none⟩ = some (.slice A3 lb.length c3) ∧ w'.cell? ⟨g, 3, none⟩ = some (.slice A4 tb.length c4) ∧ w'.cell? ⟨g, 4, none⟩ = some (.slice A5 keys.length c5) := fun w' hb => by
    have X2 := X.below hb X.lt
    exact ⟨X2.cell 0, X2.cell 1, X2.cell 2, X2.cell 3, X2.cell 4⟩
  obtain ⟨x0, x1, x2, x3, x4⟩ := cells w0 (Below.refl _ _)
  have CELLS := Lib.hid cells; have HW0 := Lib.hid hw0; have HB0 := Lib.hid bw0; have HT := Lib.hid hT; have HG := Lib.hid hg
  clear X hw0 bw0 cells hT
  go_enter Tryd.func4, Tryd.ntmps4
  go_wp2_with fail
  rw [← HW0.out, ← hg]
  clear hg
  refine (fits25_any _ _ _ _ _ la lb ta tb keys _ (RdF.next g1 HB0.out) (RdE.next (RdF.stays valV 4) g2 HB0.out) (RdF.next g3 HB0.out) (RdE.next (RdF.stays valV 4) g4 HB0.out) (hu0.next HB0.out)).mono ?_
  rintro e w1 ⟨⟨t, rfl, ht⟩, b1⟩
  have bw1 := HB0.out.trans (b1.mono HB0.out.size)
  clear x0 x1 x2 x3 x4
  cases t
  · clear ht
    go_wp2_with fail
    refine (awake25_any _ (HT.out.below bw1)).mono ?_
    rintro e w99 ⟨rfl, b99⟩
    go_wp2
    exact HR.out _ _ ⟨rfl, bw1.trans (b99.mono bw1.size)⟩
  · obtain ⟨hks, ⟨⟨hla, hca⟩, hta, hra⟩, ⟨⟨hlb, hcb⟩, htb, hrb⟩, hk⟩ := ht rfl
    have hca2 : ∀ c ∈ la, c.name.size ≤ 100000 := fun c hc => Nat.le_trans (hca c hc) (by omega)
    have hcb2 : ∀ c ∈ lb, c.name.size ≤ 100000 := fun c hc => Nat.le_trans (hcb c hc) (by omega)
    have hra2 : ∀ r ∈ ta, r.length ≤ 100000 := fun r hr => Nat.le_trans (hra r hr).1 (by omega)
    have hrb2 : ∀ r ∈ tb, r.length ≤ 100000 := fun r hr => Nat.le_trans (hrb r hr).1 (by omega)
    have HCA := Lib.hid hca2; have HCB := Lib.hid hcb2; have HRA := Lib.hid hra2; have HRB := Lib.hid hrb2
    clear ht hks hca hcb hra hrb hca2 hcb2 hra2 hrb2
    obtain ⟨x0, x1, x2, x3, x4⟩ := CELLS.out w1 b1
    obtain ⟨E, hE⟩ : ∃ E, E = diffE la lb keys ta tb := ⟨_, rfl⟩
    obtain ⟨D, hD⟩ : ∃ D, D = diffL la lb keys ta tb := ⟨_, rfl⟩
    have HE := Lib.hid hE; have HD := Lib.hid hD
    clear hE hD
    go_wp2_with fail
    refine (ddiff_any _ _ _ _ _ la lb ta tb keys _ (RdF.next g1 bw1) (RdE.next (RdF.stays valV 4) g2 bw1) (RdF.next g3 bw1) (RdE.next (RdF.stays valV 4) g4 bw1) (hu0.next bw1) (by omega) (by omega) (by omega) (by omega) (by omega) HCA.out HCB.out (HT.out.below bw1)).mono ?_
    rintro e w2 ⟨⟨o2, rfl, ho2⟩, b2⟩
    rw [← HE.out]
    rw [← HD.out] at ho2
    have b02 := b1.trans (b2.mono b1.size)
    have bw2 := HB0.out.trans (b02.mono HB0.out.size)
    clear x0 x1 x2 x3 x4
    obtain ⟨p1, hp1⟩ : ∃ p1, p1 = dchk la keys ta := ⟨_, rfl⟩
    have HP1 := Lib.hid hp1
    clear hp1
    have mk : ∀ w', Below w2.heap.size w2 w' → w'.cell? ⟨g, 0, none⟩ = some (.slice A1 la.length c1) ∧ w'.cell? ⟨g, 1, none⟩ = some (.slice A2 ta.length c2) ∧ w'.cell? ⟨g, 2, none⟩ = some (.slice A3 lb.length c3) ∧ w'.cell? ⟨g, 3, none⟩ = some (.slice A4 tb.length c4) ∧ w'.cell? ⟨g, 4, none⟩ = some (.slice A5 keys.length c5) ∧ Below w2.heap.size w2 w' := fun w' hb => by
      obtain ⟨y0, y1, y2, y3, y4⟩ := CELLS.out w' (b02.trans (hb.mono b02.size))
      exact ⟨y0, y1, y2, y3, y4, hb⟩
    have MK := Lib.hid mk
    clear mk
    go_wp2
    go_region_held3 (fun w' => w'.cell? ⟨g, 0, none⟩ = some (.slice A1 la.length c1) ∧ w'.cell? ⟨g, 1, none⟩ = some (.slice A2 ta.length c2) ∧ w'.cell? ⟨g, 2, none⟩ = some (.slice A3 lb.length c3) ∧ w'.cell? ⟨g, 3, none⟩ = some (.slice A4 tb.length c4) ∧ w'.cell? ⟨g, 4, none⟩ = some (.slice A5 keys.length c5) ∧ Below w2.heap.size w2 w') (first | (exact MK.out _ (Below.drew (Below.refl _ _))) | (go_split_ands; exact MK.out _ (by assumption)) | (go_split_ands; exact MK.out _ (keepB (by assumption) (by assumption))) | (go_split_ands; exact MK.out _ (Below.alloc (by assumption) (Below.size (by assumption)) _)) | go_keep) (first | (go_at_call 18; go_split_ands; refine (refTab_any _ _ la ta _ (RdF.next g1 (bw2.trans (Below.mono (by assumption) bw2.size))) (RdE.next (RdF.stays valV 4) g2 (bw2.trans (Below.mono (by assumption) bw2.size))) (by omega) (by omega) HRA.out).mono ?_; rintro e w3 ⟨⟨o, p, rfl, ho, hp⟩, b3⟩) | (go_at_call 17; go_split_ands; refine (rcheck_any _ _ _ la ta keys _ ho hp (hu0.next (bw2.trans (Below.mono (by assumption) bw2.size))) (by omega) (by omega) (by omega) HCA.out).mono ?_; rintro e w4 ⟨rfl, b4⟩; have cb4 := keepB b4 (by assumption)))
    rw [← HP1.out]
    have bw4 := bw2.trans (cb4.mono bw2.size)
    have b04 := b02.trans (cb4.mono b02.size)
    obtain ⟨p1a, p1b⟩ := p1
    by_cases hz1 : p1b = 0
    · subst hz1
      have hz := HP1.out.symm
      obtain ⟨p2, hp2⟩ : ∃ p2, p2 = dchk lb keys tb := ⟨_, rfl⟩
      have HP2 := Lib.hid hp2
      clear hp2
      have mk : ∀ w', Below w4.heap.size w4 w' → w'.cell? ⟨g, 0, none⟩ = some (.slice A1 la.length c1) ∧ w'.cell? ⟨g, 1, none⟩ = some (.slice A2 ta.length c2) ∧ w'.cell? ⟨g, 2, none⟩ = some (.slice A3 lb.length c3) ∧ w'.cell? ⟨g, 3, none⟩ = some (.slice A4 tb.length c4) ∧ w'.cell? ⟨g, 4, none⟩ = some (.slice A5 keys.length c5) ∧ Below w4.heap.size w4 w' := fun w' hb => by
        obtain ⟨y0, y1, y2, y3, y4⟩ := CELLS.out w' (b04.trans (hb.mono b04.size))
        exact ⟨y0, y1, y2, y3, y4, hb⟩
      have MK := Lib.hid mk
      clear mk
      go_wp2
      go_region_held3 (fun w' => w'.cell? ⟨g, 0, none⟩ = some (.slice A1 la.length c1) ∧ w'.cell? ⟨g, 1, none⟩ = some (.slice A2 ta.length c2) ∧ w'.cell? ⟨g, 2, none⟩ = some (.slice A3 lb.length c3) ∧ w'.cell? ⟨g, 3, none⟩ = some (.slice A4 tb.length c4) ∧ w'.cell? ⟨g, 4, none⟩ = some (.slice A5 keys.length c5) ∧ Below w4.heap.size w4 w') (first | (exact MK.out _ (Below.drew (Below.refl _ _))) | (go_split_ands; exact MK.out _ (by assumption)) | (go_split_ands; exact MK.out _ (keepB (by assumption) (by assumption))) | (go_split_ands; exact MK.out _ (Below.alloc (by assumption) (Below.size (by assumption)) _)) | go_keep) (first | (go_at_call 18; go_split_ands; refine (refTab_any _ _ lb tb _ (RdF.next g3 (bw4.trans (Below.mono (by assumption) bw4.size))) (RdE.next (RdF.stays valV 4) g4 (bw4.trans (Below.mono (by assumption) bw4.size))) (by omega) (by omega) HRB.out).mono ?_; rintro e w5 ⟨⟨o, p, rfl, ho, hp⟩, b5⟩) | (go_at_call 17; go_split_ands; refine (rcheck_any _ _ _ lb tb keys _ ho hp (hu0.next (bw4.trans (Below.mono (by assumption) bw4.size))) (by omega) (by omega) (by omega) HCB.out).mono ?_; rintro e w6 ⟨rfl, b6⟩; have cb6 := keepB b6 (by assumption)))
      rw [← HP2.out]
      have bw6 := bw4.trans (cb6.mono bw4.size)
      have b06 := b04.trans (cb6.mono b04.size)
      have b26 := cb4.trans (cb6.mono cb4.size)
      obtain ⟨p2a, p2b⟩ := p2
      obtain ⟨ts, hts⟩ : ∃ ts, ts = sameC la lb := ⟨_, rfl⟩
      have HTS := Lib.hid hts
      clear hts
      have mk : ∀ w', Below w6.heap.size w6 w' → w'.cell? ⟨g, 0, none⟩ = some (.slice A1 la.length c1) ∧ w'.cell? ⟨g, 1, none⟩ = some (.slice A2 ta.length c2) ∧ w'.cell? ⟨g, 2, none⟩ = some (.slice A3 lb.length c3) ∧ w'.cell? ⟨g, 3, none⟩ = some (.slice A4 tb.length c4) ∧ w'.cell? ⟨g, 4, none⟩ = some (.slice A5 keys.length c5) ∧ Below w6.heap.size w6 w' := fun w' hb => by
        obtain ⟨y0, y1, y2, y3, y4⟩ := CELLS.out w' (b06.trans (hb.mono b06.size))
        exact ⟨y0, y1, y2, y3, y4, hb⟩
      have MK := Lib.hid mk
      clear mk
      go_wp2
      go_region_held3 (fun w' => w'.cell? ⟨g, 0, none⟩ = some (.slice A1 la.length c1) ∧ w'.cell? ⟨g, 1, none⟩ = some (.slice A2 ta.length c2) ∧ w'.cell? ⟨g, 2, none⟩ = some (.slice A3 lb.length c3) ∧ w'.cell? ⟨g, 3, none⟩ = some (.slice A4 tb.length c4) ∧ w'.cell? ⟨g, 4, none⟩ = some (.slice A5 keys.length c5) ∧ Below w6.heap.size w6 w') (first | (exact MK.out _ (Below.drew (Below.refl _ _))) | (go_split_ands; exact MK.out _ (by assumption)) | (go_split_ands; exact MK.out _ (keepB (by assumption) (by assumption))) | (go_split_ands; exact MK.out _ (Below.alloc (by assumption) (Below.size (by assumption)) _)) | go_keep) (first | (have second := firstMark; go_at_call 21; go_split_ands; refine (refCols_any _ lb _ (RdF.next g3 (bw6.trans (Below.mono (by assumption) bw6.size))) (by omega)).mono ?_; rintro e w13 ⟨oc2, rfl, hoc2, b13⟩) | (go_at_call 21; go_split_ands; refine (refCols_any _ la _ (RdF.next g1 (bw6.trans (Below.mono (by assumption) bw6.size))) (by omega)).mono ?_; rintro e w12 ⟨oc1, rfl, hoc1, b12⟩; have firstMark : True := trivial) | (go_at_call 20; go_split_ands; refine (refSameC_any _ _ la lb _ (RdF.next (RdF.of_own rcolV_len (by omega) hoc1) b13) (RdF.of_own rcolV_len (by omega) hoc2)).mono ?_; rintro e w14 ⟨rfl, b14⟩; have cb14 := keepB b14 (by assumption)))
      rw [← HTS.out]
      have bw14 := bw6.trans (cb14.mono bw6.size)
      have b014 := b06.trans (cb14.mono b06.size)
      have b214 := b26.trans (cb14.mono b26.size)
      cases ts
      · have he : E = 21 := by rw [HE.out]; unfold diffE; rw [if_pos HTS.out.symm]
        subst he
        obtain ⟨dA, dc, rfl⟩ := ho2.form
        have hlen : D = [] := by rw [HD.out]; exact diffL_no (by rw [← HE.out]; omega)
        subst hlen
        go_wp2_with fail
        refine (awake25_any _ (HT.out.below bw14)).mono ?_
        rintro e w99 ⟨rfl, b99⟩
        go_wp2
        exact HR.out _ _ ⟨rfl, bw14.trans (b99.mono bw14.size)⟩
      · by_cases hz2 : p2b = 0
        · subst hz2
          have he : E = 0 := by rw [HE.out]; unfold diffE; rw [if_neg (by rw [← HTS.out]; simp), ← HP1.out, ← HP2.out]; rfl
          subst he
          have HDL := Lib.hid (show D.length ≤ ta.length + tb.length by rw [HD.out]; exact diffL_len _ _ _ _ _)
          have HDR := Lib.hid (show ∀ c ∈ D, c.old.length ≤ 100000 ∧ c.new.length ≤ 100000 by rw [HD.out]; exact diffL_short HRA.out HRB.out)
          have HIN := Lib.hid (tells_fits HE.out.symm)
          have HDD := Lib.hid (show sameCh D (rdiffF (numsF (namesC la) keys) ta tb) = true by rw [HD.out, diffL_zero HE.out.symm]; exact decide_eq_true rfl)
          obtain ⟨dA, dc, rfl⟩ := ho2.form
          have mk : ∀ w', Below w14.heap.size w14 w' → w'.cell? ⟨g, 0, none⟩ = some (.slice A1 la.length c1) ∧ w'.cell? ⟨g, 1, none⟩ = some (.slice A2 ta.length c2) ∧ w'.cell? ⟨g, 2, none⟩ = some (.slice A3 lb.length c3) ∧ w'.cell? ⟨g, 3, none⟩ = some (.slice A4 tb.length c4) ∧ w'.cell? ⟨g, 4, none⟩ = some (.slice A5 keys.length c5) ∧ Below w14.heap.size w14 w' := fun w' hb => by
            obtain ⟨y0, y1, y2, y3, y4⟩ := CELLS.out w' (b014.trans (hb.mono b014.size))
            exact ⟨y0, y1, y2, y3, y4, hb⟩
          have MK := Lib.hid mk
          clear mk
          go_wp2
          go_region_held3 (fun w' => w'.cell? ⟨g, 0, none⟩ = some (.slice A1 la.length c1) ∧ w'.cell? ⟨g, 1, none⟩ = some (.slice A2 ta.length c2) ∧ w'.cell? ⟨g, 2, none⟩ = some (.slice A3 lb.length c3) ∧ w'.cell? ⟨g, 3, none⟩ = some (.slice A4 tb.length c4) ∧ w'.cell? ⟨g, 4, none⟩ = some (.slice A5 keys.length c5) ∧ Below w14.heap.size w14 w') (first | (exact MK.out _ (Below.drew (Below.refl _ _))) | (go_split_ands; exact MK.out _ (by assumption)) | (go_split_ands; exact MK.out _ (keepB (by assumption) (by assumption))) | (go_split_ands; exact MK.out _ (Below.alloc (by assumption) (Below.size (by assumption)) _)) | go_keep) (first | (go_at_call 23; go_split_ands; refine (ref25_any _ D _ (ho2.next (b214.trans (Below.mono (by assumption) b214.size))) (by have := HDL.out; omega) HDR.out).mono ?_; rintro e w20 ⟨⟨od, rfl, hod⟩, b20⟩) | (have second := firstMark; go_at_call 18; go_split_ands; refine (refTab_any _ _ lb tb _ (RdF.next g3 (bw14.trans (Below.mono (by assumption) bw14.size))) (RdE.next (RdF.stays valV 4) g4 (bw14.trans (Below.mono (by assumption) bw14.size))) (by omega) (by omega) HRB.out).mono ?_; rintro e w22 ⟨⟨oB, pB, rfl, hoB, hpB⟩, b22⟩) | (go_at_call 18; go_split_ands; refine (refTab_any _ _ la ta _ (RdF.next g1 (bw14.trans (Below.mono (by assumption) bw14.size))) (RdE.next (RdF.stays valV 4) g2 (bw14.trans (Below.mono (by assumption) bw14.size))) (by omega) (by omega) HRA.out).mono ?_; rintro e w21 ⟨⟨oA, pA, rfl, hoA, hpA⟩, b21⟩; have firstMark : True := trivial) | (go_at_call 24; go_split_ands; refine (rdiff_any _ _ _ _ _ la lb ta tb keys _ (RdF.next hoA b22) (RdE.next (RdF.stays rvalV 4) hpA b22) hoB hpB (hu0.next (bw14.trans (Below.mono (by assumption) bw14.size))) (by omega) (by omega) (by omega) HIN.out.1 HIN.out.2.1 HIN.out.2.2).mono ?_; rintro e w23 ⟨⟨odd, rfl, hodd⟩, b23⟩) | (go_at_call 22; go_split_ands; refine (sameCh_any _ _ D (rdiffF (numsF (namesC la) keys) ta tb) _ (((hod.next b21).next b22).next b23) hodd).mono ?_; rintro e w24 ⟨rfl, b24⟩; rw [HDD.out]) | (go_at_call 15; go_split_ands; refine (awake25_any _ (HT.out.below (bw14.trans (Below.mono (by assumption) bw14.size)))).mono ?_; rintro e w25 ⟨rfl, b25⟩; have cb25 := keepB b25 (by assumption)))
          go_wp2
          exact HR.out _ _ ⟨rfl, bw14.trans (cb25.mono bw14.size)⟩
        · have he : E = p2b := by rw [HE.out]; unfold diffE; rw [if_neg (by rw [← HTS.out]; simp), ← HP1.out, ← HP2.out]; rfl
          subst he
          have dne : ((E : Int) != 0) = true := by rw [bne_iff_ne]; omega
          obtain ⟨dA, dc, rfl⟩ := ho2.form
          have hlen : D = [] := by rw [HD.out]; exact diffL_no (by rw [← HE.out]; omega)
          subst hlen
          go_wp2_with fail
          refine (awake25_any _ (HT.out.below bw14)).mono ?_
          rintro e w99 ⟨rfl, b99⟩
          go_wp2
          exact HR.out _ _ ⟨rfl, bw14.trans (b99.mono bw14.size)⟩
    · have dne : ((p1b : Int) == 0) = false := by rw [beq_eq_false_iff_ne]; omega
      obtain ⟨ts, hts⟩ : ∃ ts, ts = sameC la lb := ⟨_, rfl⟩
      have HTS := Lib.hid hts
      clear hts
      have mk : ∀ w', Below w4.heap.size w4 w' → w'.cell? ⟨g, 0, none⟩ = some (.slice A1 la.length c1) ∧ w'.cell? ⟨g, 1, none⟩ = some (.slice A2 ta.length c2) ∧ w'.cell? ⟨g, 2, none⟩ = some (.slice A3 lb.length c3) ∧ w'.cell? ⟨g, 3, none⟩ = some (.slice A4 tb.length c4) ∧ w'.cell? ⟨g, 4, none⟩ = some (.slice A5 keys.length c5) ∧ Below w4.heap.size w4 w' := fun w' hb => by
        obtain ⟨y0, y1, y2, y3, y4⟩ := CELLS.out w' (b04.trans (hb.mono b04.size))
        exact ⟨y0, y1, y2, y3, y4, hb⟩
      have MK := Lib.hid mk
      clear mk
      go_wp2
      go_region_held3 (fun w' => w'.cell? ⟨g, 0, none⟩ = some (.slice A1 la.length c1) ∧ w'.cell? ⟨g, 1, none⟩ = some (.slice A2 ta.length c2) ∧ w'.cell? ⟨g, 2, none⟩ = some (.slice A3 lb.length c3) ∧ w'.cell? ⟨g, 3, none⟩ = some (.slice A4 tb.length c4) ∧ w'.cell? ⟨g, 4, none⟩ = some (.slice A5 keys.length c5) ∧ Below w4.heap.size w4 w') (first | (exact MK.out _ (Below.drew (Below.refl _ _))) | (go_split_ands; exact MK.out _ (by assumption)) | (go_split_ands; exact MK.out _ (keepB (by assumption) (by assumption))) | (go_split_ands; exact MK.out _ (Below.alloc (by assumption) (Below.size (by assumption)) _)) | go_keep) (first | (have second := firstMark; go_at_call 21; go_split_ands; refine (refCols_any _ lb _ (RdF.next g3 (bw4.trans (Below.mono (by assumption) bw4.size))) (by omega)).mono ?_; rintro e w13 ⟨oc2, rfl, hoc2, b13⟩) | (go_at_call 21; go_split_ands; refine (refCols_any _ la _ (RdF.next g1 (bw4.trans (Below.mono (by assumption) bw4.size))) (by omega)).mono ?_; rintro e w12 ⟨oc1, rfl, hoc1, b12⟩; have firstMark : True := trivial) | (go_at_call 20; go_split_ands; refine (refSameC_any _ _ la lb _ (RdF.next (RdF.of_own rcolV_len (by omega) hoc1) b13) (RdF.of_own rcolV_len (by omega) hoc2)).mono ?_; rintro e w14 ⟨rfl, b14⟩; have cb14 := keepB b14 (by assumption)))
      rw [← HTS.out]
      have bw14 := bw4.trans (cb14.mono bw4.size)
      have b014 := b04.trans (cb14.mono b04.size)
      have b214 := cb4.trans (cb14.mono cb4.size)
      cases ts
      · have he : E = 21 := by rw [HE.out]; unfold diffE; rw [if_pos HTS.out.symm]
        subst he
        obtain ⟨dA, dc, rfl⟩ := ho2.form
        have hlen : D = [] := by rw [HD.out]; exact diffL_no (by rw [← HE.out]; omega)
        subst hlen
        go_wp2_with fail
        refine (awake25_any _ (HT.out.below bw14)).mono ?_
        rintro e w99 ⟨rfl, b99⟩
        go_wp2
        exact HR.out _ _ ⟨rfl, bw14.trans (b99.mono bw14.size)⟩
      · have he : E = p1b := by rw [HE.out]; unfold diffE; rw [if_neg (by rw [← HTS.out]; simp), ← HP1.out, if_pos hz1]
        subst he
        have dne2 : ((E : Int) != 0) = true := by rw [bne_iff_ne]; omega
        obtain ⟨dA, dc, rfl⟩ := ho2.form
        have hlen : D = [] := by rw [HD.out]; exact diffL_no (by rw [← HE.out]; omega)
        subst hlen
        go_wp2_with fail
        refine (awake25_any _ (HT.out.below bw14)).mono ?_
        rintro e w99 ⟨rfl, b99⟩
        go_wp2
        exact HR.out _ _ ⟨rfl, bw14.trans (b99.mono bw14.size)⟩

theorem own : ownKnob Tryd.prog.godebug = none := by kernel_rfl
theorem laidOut : laidOutB Tryd.prog = true := by kernel_rfl
theorem reads (os : Os) {H : Type} (enc : TypeId × Value → H) : ∃ places, DataW.whole enc Tryd.prog ((laidWorld os).forCall (fun _ _ => 0) ⟨#[], #[.agg #[.slice none 0 0, .slice none 0 0, .slice none 0 0, .slice none 0 0, .slice none 0 0]], []⟩).memory Tryd.f4.params.toList Rows.diffTellsSpec.vars false #[.agg #[.slice none 0 0, .slice none 0 0, .slice none 0 0, .slice none 0 0, .slice none 0 0]].toList 8 = some ([.agg [.agg [.nil, .nil], .agg [.nil, .nil], .nil]], [], places) :=
  ⟨[], by kernel_rfl⟩

set_option maxRecDepth 100000 in
theorem contract (H : Type) (enc : TypeId × Value → H) (W : World) (base : Nat) (args : Array Value) (ds gs : List (DataW H)) (before : List MemPlace)
    (hval0 : ∀ (j : Nat) t v, Tryd.f4.params[j]? = some t → args[j]? = some v → Value.okWide Tryd.prog W .any base t v)
    (hW : DataW.Whole enc Tryd.prog Tryd.f4.params.toList Rows.diffTellsSpec.vars false W args.toList ds gs before)
    (hsz0 : (DataW.weightsEach Tryd.prog (Tryd.f4.params.toList ++ Rows.diffTellsSpec.plain.varTypes Tryd.prog) (ds ++ gs)).all (· ≤ reachBytes) = true)
    (hL : laidMetH Tryd.prog Rows.diffTellsRow.laid W) :
    Calls Tryd.prog 4 args W fun e W' => ∃ v, e = .returned v ∧ Rows.diffTellsSpec.post enc Tryd.prog Tryd.f4 false true false false W args v W' := by
  have hval := hval0
  have hW' := hW
  obtain ⟨p, q, hA0, hV, rfl, hfz, hnd⟩ := hW
  have hA : DataW.TrodAll enc Tryd.prog W 0 (fun _ => true) true Tryd.f4.params.toList args.toList ds p := hA0
  have hsz : (DataW.weightsEach Tryd.prog (Tryd.f4.params.toList ++ Rows.diffTellsSpec.plain.varTypes Tryd.prog) (ds ++ gs)).all (· ≤ reachBytes) = true := hsz0
  rw [Tryd.params4] at hA hval hsz
  obtain ⟨v0, vs0, d0, ds0, p0, q0, hargs, rfl, rfl, h0, r0⟩ := trodAll_cons hA
  obtain ⟨rfl, rfl, rfl⟩ := trodAll_nil r0
  obtain rfl : args = #[v0] := by cases args; simp_all
  obtain ⟨rfl, rfl⟩ := trodVars_none hV
  have k0 := h0
  have lt0 : ∀ x ∈ p0, x.block < W.heap.size := by obtain ⟨m, hm⟩ := k0; exact DataW.trod_lt m _ _ _ hm
  have w0 := open_case25 (hval 0 28 v0 rfl rfl) h0 (Sized.arg (j := 0) hsz rfl rfl)
  clear hA0 hval0
  refine (walk v0 W (tab_row hL) w0).mono fun e W' ⟨he, bel⟩ => ?_
  subst he
  exact ⟨_, rfl, _, _, _, [], _, [], hW', trodAll_mk1 (shut_bool Tryd.underlying4 _), (trodAll_cons_mk (Below.trod laidOut (by kernel_rfl) (of_decide_eq_true (by kernel_rfl)) k0 bel lt0) trodAll_mk0), rfl, bel.frame _, fun h => by cases h⟩

set_option maxRecDepth 100000 in
theorem lifted (os : Os) (started : os.Started) (H : Type) (enc : TypeId × Value → H) (F : Stop.Interp) :
    ReturnsInHanded {} Tryd.checked os 4 .any ((OpenSpec.ofChange Rows.diffTellsSpec).preRow enc Tryd.prog Tryd.f4 Rows.diffTellsRow.domain false Rows.diffTellsRow.laid) (((OpenSpec.ofChange Rows.diffTellsSpec).at F).post enc Tryd.prog Tryd.f4 false true false false) := by
  obtain ⟨places, hx⟩ := reads os enc
  refine returnsInHanded_of_row (C := Tryd.checked) (s := OpenSpec.ofChange Rows.diffTellsSpec) own started (by kernel_rfl) Tryd.func4
    (witness_row_atRef (enc := enc) (C := Tryd.checked) false (laidWorld os) #[.agg #[.slice none 0 0, .slice none 0 0, .slice none 0 0, .slice none 0 0, .slice none 0 0]] rfl (by kernel_rfl) (by kernel_rfl) (by kernel_rfl)
      (OpenSpec.preRow_of_cond 8 hx (by kernel_rfl) (fun k hk => by cases hk) (by kernel_rfl) (laid_met os _))) ?_
  intro W base args ds gs before hval hW _ _ hsz hL _ _
  exact contract H enc W base args ds gs before hval hW hsz hL

theorem said : Rows.DiffTellsSaid :=
  OpenClaim.holds_of_cond 4 Tryd.f4 rfl rfl rfl rfl rfl rfl rfl ⟨rfl, rfl, rfl, rfl, rfl⟩ rfl rfl rfl rfl rfl (by kernel_rfl) Tryd.func4 (by kernel_rfl)
    (of_decide_eq_true (by kernel_rfl)) (by unfold Func.isWrapper; first | (rw [if_pos (by decide +kernel)]; kernel_rfl) | (rw [if_neg (by decide +kernel)]; exact ⟨rfl, rfl⟩))
    (fun os started H enc _ F => by rw [OpenClaim.pre_eq_preRow]; exact lifted os started H enc F)

theorem plain (f : FuncId) (fn : Func) (hf : Tryd.pinned.checked.prog.funcNamed "quillpen/quillpenlaw25.DiffTells" = some f) (hfn : Tryd.pinned.checked.prog.funcs[f]? = some fn) :
    false = Tryd.pinned.checked.prog.looks [] ∧ ∀ (j : Nat) t, fn.params[j]? = some t → Tryd.pinned.checked.prog.wantsStandIn t = false := by
  obtain rfl : f = 4 := Option.some.inj ((show Tryd.prog.funcNamed "quillpen/quillpenlaw25.DiffTells" = some 4 by kernel_rfl).symm.trans hf) |>.symm
  obtain rfl : fn = Tryd.f4 := (Option.some.inj (Tryd.func4.symm.trans hfn)).symm
  refine ⟨by kernel_rfl, fun j t ht => ?_⟩
  rw [Tryd.params4] at ht
  have hm := Array.mem_of_getElem? ht
  have hall : (#[28] : Array TypeId).toList.all (fun t => Tryd.prog.wantsStandIn t == false) = true := by kernel_rfl
  exact eq_of_beq (List.all_eq_true.1 hall t (by simpa using hm))

theorem proved : Rows.DiffTellsCardSaid :=
  Claim7.holds_tied_plain_at .later [] _ _ _ _ said (fun _ h => by cases h) (by kernel_rfl) (fun _ h => by cases h) diffTells_row_tie rfl ⟨rfl, rfl⟩ (by kernel_rfl) rfl plain (by kernel_rfl)
end Go.Proofs.YtgiemhooeoakmaaDoor.diffTells
