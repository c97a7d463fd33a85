/- Which of any two rows is ahead is what the document says; turned round it is turned round. The table of UTF-8 is laid as the text lays it; the card ties it. -/
import Derived.Test.YtgiemhooeoakmaaDoorCards
import Derived.Test.YtgiemhooeoakmaaDoorTie
import Derived.SizedLaws
import Derived.ProofKit
import Derived.OpenShut
import Derived.ShutString
import Derived.ChangeOld
import Derived.Below
import Derived.Deep.DeepHandedRow
import Derived.Deep.DeepWitnessRowRef
import Derived.Test.YtgiemhooeoakmaaDoorKQ
import Derived.Test.YtgiemhooeoakmaaDoorKR
import Derived.Test.YtgiemhooeoakmaaDoorKH
import Derived.Test.YtgiemhooeoakmaaDoorKE
import Derived.Test.YtgiemhooeoakmaaDoorKS
namespace Go.Proofs.YtgiemhooeoakmaaDoor.orderCompares
open Go.ChangeShapes Go.WideShapes Go.ChangeAt Go.RowKit
open Go.ChangeMaps (open_string shut_string)
set_option linter.unusedVariables false
set_option linter.unusedSimpArgs false

set_option maxHeartbeats 8000000 in
set_option maxRecDepth 100000 in
theorem walk (v : Value) (W : World) (hT : Tab W) (h0 : ∃ vk vl vr ks l t, v = .agg #[vk, vl, vr] ∧ RdKey W W.heap.size vk ks ∧ RdC W W.heap.size vl l ∧ RdVT W W.heap.size vr t) :
    Calls Tryd.prog 11 #[v] W fun e w' => e = .returned (.bool true) ∧ Below W.heap.size W w' := by
  refine cps fun R HR => ?_
  obtain ⟨vk, vl, vr, ks, l, t, rfl, h1, h2, h3⟩ := h0
  have g1 := h1; have g2 := h2; have g3 := h3
  obtain ⟨A1, c1, rfl, -⟩ := h1.is
  obtain ⟨A2, c2, rfl, -⟩ := h2.is
  obtain ⟨A3, c3, vs, rfl, -, -⟩ := h3.is
  clear h1 h2 h3
  obtain ⟨w0, hw0⟩ : ∃ w0, w0 = W.alloc (.cells #[.slice A1 ks.length c1, .slice A2 l.length c2, .slice A3 t.length c3] 75) := ⟨_, rfl⟩
  have bw0 : Below W.heap.size W w0 := by rw [hw0]; exact (Below.refl _ _).alloc (Nat.le_refl _) _
  have X := Box.new W 75 #[.slice A1 ks.length c1, .slice A2 l.length c2, .slice A3 t.length c3]
  rw [← hw0] at X
  obtain ⟨g, hg⟩ : ∃ g, g = W.heap.size := ⟨_, rfl⟩
  rw [← hg] at X
  have cells : ∀ w' : World, Below w0.heap.size w0 w' → w'.cell? ⟨g, 0, none⟩ = some (.slice A1 ks.length c1) ∧ w'.cell? ⟨g, 1, none⟩ = some (.slice A2 l.length c2) ∧ w'.cell? ⟨g, 2, none⟩ = some (.slice A3 t.length c3) := fun w' hb => by
    have X2 := X.below hb X.lt
    exact ⟨X2.cell 0, X2.cell 1, X2.cell 2⟩
  obtain ⟨x0, x1, x2⟩ := cells w0 (Below.refl _ _)
  have HX := Lib.hid X
  have CELLS := Lib.hid cells; have HW0 := Lib.hid hw0; have HB0 := Lib.hid bw0; have HG := Lib.hid hg
  have HT := Lib.hid hT
  clear X hw0 bw0 cells hT
  go_enter Tryd.func11, Tryd.ntmps11
  go_wp2_with fail
  rw [← HW0.out, ← hg]
  clear hg
  refine (few22_any _ _ _ ks l t _ (RdF.next g1 HB0.out) (RdF.next g2 HB0.out) (RdE.next (RdF.stays valV 4) g3 HB0.out)).mono ?_
  rintro e w1 ⟨⟨ok, rfl, ht⟩, b1⟩
  have bw1 := HB0.out.trans (b1.mono HB0.out.size)
  clear x0 x1 x2
  cases ok
  · clear ht
    go_wp2_with fail
    refine (awake22_any _ (HT.out.below bw1)).mono ?_
    rintro e w99 ⟨rfl, b99⟩
    go_wp2
    exact HR.out _ _ ⟨rfl, bw1.trans (b99.mono bw1.size)⟩
  · obtain ⟨⟨⟨hla, hca⟩, hta, hra⟩, hk⟩ := ht rfl
    have hca2 : ∀ c ∈ l, c.name.size ≤ 100000 := fun c hc => Nat.le_trans (hca c hc) (by omega)
    have hra2 : ∀ r ∈ t, r.length ≤ 100000 := fun r hr => Nat.le_trans (hra r hr).1 (by omega)
    have HCA := Lib.hid hca2; have HRA := Lib.hid hra2
    clear ht hca hra hca2 hra2
    obtain ⟨x0, x1, x2⟩ := CELLS.out w1 b1
    by_cases h2 : t.length < 2
    · have d2 : decide ((t.length : Int) < 2) = true := decide_eq_true (by omega)
      go_wp2_with fail
      refine (awake22_any _ (HT.out.below bw1)).mono ?_
      rintro e w99 ⟨rfl, b99⟩
      go_wp2
      exact HR.out _ _ ⟨rfl, bw1.trans (b99.mono bw1.size)⟩
    · have d2 : decide ((t.length : Int) < 2) = false := decide_eq_false (by omega)
      obtain ⟨x, y, hxy⟩ : ∃ x y, t.take 2 = [x, y] := by
        match t, h2 with
        | x :: y :: r, _ => exact ⟨x, y, rfl⟩
        | [_], h => exact absurd (by simp) h
        | [], h => exact absurd (by simp) h
      have hrow := RdE.take g3 (k := 2) (by omega)
      rw [hxy] at hrow
      have hcap : t.length ≤ c3 := by
        obtain ⟨A', c', vs', q1, q2, -⟩ := g3.is
        injection q1 with _ _ q3
        subst q3
        exact q2.cap
      have hin : ∀ r ∈ [x, y], r ∈ t := fun r hr => List.mem_of_mem_take (by rw [hxy]; exact hr)
      obtain ⟨pr, dr, v0, hv, k0, rx⟩ := hrow.at (k := 0) (by simp)
      injection hv with hAA hln hcc
      clear hln
      subst hAA
      subst hcc
      obtain ⟨pr', dr', v1, hv, k1, ry⟩ := hrow.at (k := 1) (by simp)
      injection hv with hAA hln hcc
      clear hln
      injection hAA with hAA
      subst hAA
      subst hcc
      simp only [List.getElem_cons_zero, List.getElem_cons_succ] at rx ry
      have rx0 := rx
      have ry0 := ry
      obtain ⟨xA, xc, rfl, -⟩ := rx0.is
      obtain ⟨yA, yc, rfl, -⟩ := ry0.is
      clear rx0 ry0
      have HX1 := (HX.out.below b1 HX.out.lt).put 2 (.slice (some pr) 2 c3)
      have y2 := (HX.out.below b1 HX.out.lt).frozen 2
      simp at HX1
      obtain ⟨w2, hw2⟩ : ∃ w2, w2 = w1.setCell ⟨g, 2, none⟩ (.slice (some pr) 2 c3) := ⟨_, rfl⟩
      rw [← hw2] at HX1
      have bw2 : Below W.heap.size W w2 := by rw [hw2]; exact bw1.setCell (by rw [HG.out]; exact Nat.le_refl _) _
      have mk : ∀ w', Below w2.heap.size w2 w' → w'.cell? pr = some (.slice xA x.length xc) ∧ w'.cell? ⟨pr.block, pr.off + 1, none⟩ = some (.slice yA y.length yc) ∧ w'.cell? ⟨g, 0, none⟩ = some (.slice A1 ks.length c1) ∧ w'.cell? ⟨g, 1, none⟩ = some (.slice A2 l.length c2) ∧ w'.cell? ⟨g, 2, none⟩ = some (.slice (some pr) 2 c3) ∧ Below w2.heap.size w2 w' := fun w' hb => by
        have X2 := HX1.below hb HX1.lt
        have bb := bw2.trans (hb.mono bw2.size)
        have c0 := (bb.cell (World.block_lt_of_cell? W _ k0)).trans k0
        have c1' := (bb.cell (World.block_lt_of_cell? W _ k1)).trans k1
        simp [Addr.add] at c0 c1'
        exact ⟨by simpa using c0, by simpa using c1', X2.cell 0, X2.cell 1, X2.cell 2, hb⟩
      have MK := Lib.hid mk; have HW2 := Lib.hid hw2; have HROW := Lib.hid hrow; have HIN := Lib.hid hin
      have hi1 : (2 : Int) ≤ c3 := by omega
      have hi2 : (2 : Int) ≤ t.length := by omega
      have hi3 : 2 ≤ c3 := by omega
      clear HX1 mk hw2 hrow hin hxy k0 k1
      obtain ⟨E, hE⟩ : ∃ E, E = byE l ks [x, y] := ⟨_, rfl⟩
      have hE2 : E = byE l ks [y, x] := by rw [byE_two]; exact hE
      obtain ⟨N, hN⟩ : ∃ N : Int, N = if byE l ks [x, y] = 0 then cmpK l ks x y else 0 := ⟨_, rfl⟩
      have hN2 : -N = if byE l ks [y, x] = 0 then cmpK l ks y x else 0 := by
        rw [hN, ← hE, ← hE2, cmpK_turn l x y ks]
        split <;> simp
      obtain ⟨M, hM⟩ : ∃ M, M = -N := ⟨_, rfl⟩
      rw [← hM] at hN2
      have HEN := Lib.hid hE; have HEM := Lib.hid hE2; have HN := Lib.hid hN; have HM := Lib.hid hN2; have HMN := Lib.hid hM
      clear hE hE2 hN hN2 hM
      go_wp2
      rw [← HW2.out]
      go_region_held3 (fun w' => w'.cell? pr = some (.slice xA x.length xc) ∧ w'.cell? ⟨pr.block, pr.off + 1, none⟩ = some (.slice yA y.length yc) ∧ w'.cell? ⟨g, 0, none⟩ = some (.slice A1 ks.length c1) ∧ w'.cell? ⟨g, 1, none⟩ = some (.slice A2 l.length c2) ∧ w'.cell? ⟨g, 2, none⟩ = some (.slice (some pr) 2 c3) ∧ Below w2.heap.size w2 w') (first | (exact MK.out _ (Below.drew (Below.refl _ _))) | (go_split_ands; exact MK.out _ (by assumption)) | (go_split_ands; exact MK.out _ (keepB (by assumption) (by assumption))) | (go_split_ands; exact MK.out _ (Below.alloc (by assumption) (Below.size (by assumption)) _)) | go_keep) (first | (go_at_call 50; go_split_ands; refine (ocompare_any _ _ _ _ ks l x y _ (RdF.next g1 (bw2.trans (Below.mono (by assumption) bw2.size))) (RdF.next g2 (bw2.trans (Below.mono (by assumption) bw2.size))) (RdF.next rx (bw2.trans (Below.mono (by assumption) bw2.size))) (RdF.next ry (bw2.trans (Below.mono (by assumption) bw2.size))) (by omega) HCA.out (HT.out.below (bw2.trans (Below.mono (by assumption) bw2.size)))).mono ?_; rintro e w20 ⟨rfl, b20⟩; rw [← HN.out, ← HEN.out]; have cb20 : Below w2.heap.size w2 w20 := keepB b20 (by assumption)))
      have bw20 := bw2.trans (cb20.mono bw2.size)
      have MK2 := Lib.hid (fun (w' : World) (hb : Below w20.heap.size w20 w') => MK.out w' (cb20.trans (hb.mono cb20.size)))
      have mk3 : ∀ w', Below w20.heap.size w20 w' → w'.cell? pr = some (.slice xA x.length xc) ∧ w'.cell? ⟨pr.block, pr.off + 1, none⟩ = some (.slice yA y.length yc) ∧ w'.cell? ⟨g, 0, none⟩ = some (.slice A1 ks.length c1) ∧ w'.cell? ⟨g, 1, none⟩ = some (.slice A2 l.length c2) ∧ w'.cell? ⟨g, 2, none⟩ = some (.slice (some pr) 2 c3) ∧ Below w20.heap.size w20 w' := fun w' hb => by
        obtain ⟨y0, y1, y2, y3, y4, -⟩ := MK2.out w' hb
        exact ⟨y0, y1, y2, y3, y4, hb⟩
      have MK0 := Lib.hid MK.out
      clear MK MK2
      have MK := Lib.hid mk3
      clear mk3 x0 x1 x2 y2
      go_wp2
      go_region_held3 (fun w' => w'.cell? pr = some (.slice xA x.length xc) ∧ w'.cell? ⟨pr.block, pr.off + 1, none⟩ = some (.slice yA y.length yc) ∧ w'.cell? ⟨g, 0, none⟩ = some (.slice A1 ks.length c1) ∧ w'.cell? ⟨g, 1, none⟩ = some (.slice A2 l.length c2) ∧ w'.cell? ⟨g, 2, none⟩ = some (.slice (some pr) 2 c3) ∧ Below w20.heap.size w20 w') (first | (exact MK.out _ (Below.drew (Below.refl _ _))) | (go_split_ands; exact MK.out _ (by assumption)) | (go_split_ands; exact MK.out _ (keepB (by assumption) (by assumption))) | (go_split_ands; exact MK.out _ (Below.alloc (by assumption) (Below.size (by assumption)) _)) | go_keep) (first | (go_at_call 50; go_split_ands; refine (ocompare_any _ _ _ _ ks l y x _ (RdF.next g1 (bw20.trans (Below.mono (by assumption) bw20.size))) (RdF.next g2 (bw20.trans (Below.mono (by assumption) bw20.size))) (RdF.next ry (bw20.trans (Below.mono (by assumption) bw20.size))) (RdF.next rx (bw20.trans (Below.mono (by assumption) bw20.size))) (by omega) HCA.out (HT.out.below (bw20.trans (Below.mono (by assumption) bw20.size)))).mono ?_; rintro e w21 ⟨rfl, b21⟩; rw [← HM.out, ← HEM.out]; have cb21 : Below w20.heap.size w20 w21 := keepB b21 (by assumption)))
      have bw21 := bw20.trans (cb21.mono bw20.size)
      obtain ⟨-, -, x0, x1, x2, -⟩ := MK.out w21 cb21
      have hrow21 := RdE.next (RdF.stays valV 4) HROW.out bw21
      go_wp2_with fail
      refine (bad22_any _ _ _ ks l [x, y] _ (RdF.next g1 bw21) (RdF.next g2 bw21) hrow21 (by omega) (by omega) HCA.out).mono ?_
      rintro e w22 ⟨rfl, b22⟩
      rw [← HEN.out]
      have bw22 := bw21.trans (b22.mono bw21.size)
      obtain ⟨-, -, x0', x1', x2', -⟩ := MK.out w22 (cb21.trans (b22.mono cb21.size))
      clear x0 x1 x2
      by_cases hz : E = 0
      · subst hz
        have hok := byE_ok HEN.out.symm
        have hkm := kchk_mem hok.1
        have hxl := hok.2 x (by simp)
        have hyl := hok.2 y (by simp)
        have hNK : N = cmpK l ks x y := by rw [HN.out, if_pos HEN.out.symm]
        have HKM := Lib.hid hkm; have HXL := Lib.hid hxl; have HYL := Lib.hid hyl; have HNK := Lib.hid hNK
        have hNs : N = -1 ∨ N = 0 ∨ N = 1 := by rw [hNK]; exact cmpK_small l x y ks
        have HNS := Lib.hid hNs
        clear hok hkm hxl hyl hNK hNs hrow21
        go_wp2_with fail
        refine (refs22_any _ _ _ ks l [x, y] _ (RdF.next g1 bw22) (RdF.next g2 bw22) (RdE.next (RdF.stays valV 4) HROW.out bw22) (by omega) (by omega) (by simp) (fun r hr => HRA.out r (HIN.out r hr))).mono ?_
        rintro e w23 ⟨⟨ra, rb, rc, rfl, hra, hrb, hrc⟩, b23⟩
        have bw23 := bw22.trans (b23.mono bw22.size)
        have hra0 := hra
        have hrb0 := hrb
        obtain ⟨raA, rac, rfl, -⟩ := hra.is
        obtain ⟨rbA, rbc, rfl, -⟩ := hrb.is
        obtain ⟨pc, dc, v0, rfl, k0, sx⟩ := hrc.at (k := 0) (by simp)
        obtain ⟨pc', dc', v1, hv, k1, sy⟩ := hrc.at (k := 1) (by simp)
        injection hv with hAA hln hcc
        clear hln
        injection hAA with hAA
        subst hAA
        subst hcc
        simp only [List.getElem_cons_zero, List.getElem_cons_succ] at sx sy
        have sx0 := sx
        have sy0 := sy
        obtain ⟨uA, uc, rfl, -⟩ := sx0.is
        obtain ⟨vA, vc, rfl, -⟩ := sy0.is
        simp [Addr.add] at k0 k1
        have mk4 : ∀ w', Below w23.heap.size w23 w' → w'.cell? pc = some (.slice uA x.length uc) ∧ w'.cell? ⟨pc.block, pc.off + 1, none⟩ = some (.slice vA y.length vc) ∧ Below w23.heap.size w23 w' := fun w' hb =>
          ⟨(hb.cell (World.block_lt_of_cell? w23 _ k0)).trans k0, (hb.cell (World.block_lt_of_cell? w23 _ k1)).trans k1, hb⟩
        clear MK
        have MK := Lib.hid mk4
        clear mk4 k0 k1 sx0 sy0 hra hrb hrc x0' x1' x2'
        simp only [List.length_cons, List.length_nil]
        rcases HNS.out with hn | hn | hn
        · have hm1 : M = 1 := by rw [HMN.out, hn]; try rfl
          have HNV := Lib.hid (hn.symm.trans HNK.out)
          subst hn
          subst hm1
          have iw1 : IntKind.i64.wrap 1 = 1 := by decide
          have iw2 : IntKind.i64.wrap (-1) = -1 := by decide
          have iw3 : IntKind.i64.wrap 0 = 0 := by decide
          go_wp2
          go_region_held3 (fun w' => w'.cell? pc = some (.slice uA x.length uc) ∧ w'.cell? ⟨pc.block, pc.off + 1, none⟩ = some (.slice vA y.length vc) ∧ Below w23.heap.size w23 w') (first | (exact MK.out _ (Below.drew (Below.refl _ _))) | (go_split_ands; exact MK.out _ (by assumption)) | (go_split_ands; exact MK.out _ (keepB (by assumption) (by assumption))) | (go_split_ands; exact MK.out _ (Below.alloc (by assumption) (Below.size (by assumption)) _)) | go_keep) (first | (go_at_call 51; go_split_ands; refine (rcompare_any _ _ _ _ ks l x y _ (RdF.next hra0 (by assumption)) (RdF.next hrb0 (by assumption)) (RdF.next sx (by assumption)) (RdF.next sy (by assumption)) (by omega) HKM.out HXL.out HYL.out).mono ?_; rintro e w30 ⟨rfl, b30⟩; rw [← HNV.out]; have cb30 := keepB b30 (by assumption)) | (go_at_call 42; go_split_ands; refine (awake22_any _ (HT.out.below (bw23.trans (Below.mono (by assumption) bw23.size)))).mono ?_; rintro e w31 ⟨rfl, b31⟩; have cb31 := keepB b31 (by assumption)))
          have bw31 := bw23.trans (cb31.mono bw23.size)
          go_wp2
          exact HR.out _ _ ⟨rfl, bw31⟩
        · have hm1 : M = 0 := by rw [HMN.out, hn]; try rfl
          have HNV := Lib.hid (hn.symm.trans HNK.out)
          subst hn
          subst hm1
          have iw1 : IntKind.i64.wrap 1 = 1 := by decide
          have iw2 : IntKind.i64.wrap (-1) = -1 := by decide
          have iw3 : IntKind.i64.wrap 0 = 0 := by decide
          go_wp2
          go_region_held3 (fun w' => w'.cell? pc = some (.slice uA x.length uc) ∧ w'.cell? ⟨pc.block, pc.off + 1, none⟩ = some (.slice vA y.length vc) ∧ Below w23.heap.size w23 w') (first | (exact MK.out _ (Below.drew (Below.refl _ _))) | (go_split_ands; exact MK.out _ (by assumption)) | (go_split_ands; exact MK.out _ (keepB (by assumption) (by assumption))) | (go_split_ands; exact MK.out _ (Below.alloc (by assumption) (Below.size (by assumption)) _)) | go_keep) (first | (go_at_call 51; go_split_ands; refine (rcompare_any _ _ _ _ ks l x y _ (RdF.next hra0 (by assumption)) (RdF.next hrb0 (by assumption)) (RdF.next sx (by assumption)) (RdF.next sy (by assumption)) (by omega) HKM.out HXL.out HYL.out).mono ?_; rintro e w30 ⟨rfl, b30⟩; rw [← HNV.out]; have cb30 := keepB b30 (by assumption)) | (go_at_call 42; go_split_ands; refine (awake22_any _ (HT.out.below (bw23.trans (Below.mono (by assumption) bw23.size)))).mono ?_; rintro e w31 ⟨rfl, b31⟩; have cb31 := keepB b31 (by assumption)))
          have bw31 := bw23.trans (cb31.mono bw23.size)
          go_wp2
          exact HR.out _ _ ⟨rfl, bw31⟩
        · have hm1 : M = -1 := by rw [HMN.out, hn]; try rfl
          have HNV := Lib.hid (hn.symm.trans HNK.out)
          subst hn
          subst hm1
          have iw1 : IntKind.i64.wrap 1 = 1 := by decide
          have iw2 : IntKind.i64.wrap (-1) = -1 := by decide
          have iw3 : IntKind.i64.wrap 0 = 0 := by decide
          go_wp2
          go_region_held3 (fun w' => w'.cell? pc = some (.slice uA x.length uc) ∧ w'.cell? ⟨pc.block, pc.off + 1, none⟩ = some (.slice vA y.length vc) ∧ Below w23.heap.size w23 w') (first | (exact MK.out _ (Below.drew (Below.refl _ _))) | (go_split_ands; exact MK.out _ (by assumption)) | (go_split_ands; exact MK.out _ (keepB (by assumption) (by assumption))) | (go_split_ands; exact MK.out _ (Below.alloc (by assumption) (Below.size (by assumption)) _)) | go_keep) (first | (go_at_call 51; go_split_ands; refine (rcompare_any _ _ _ _ ks l x y _ (RdF.next hra0 (by assumption)) (RdF.next hrb0 (by assumption)) (RdF.next sx (by assumption)) (RdF.next sy (by assumption)) (by omega) HKM.out HXL.out HYL.out).mono ?_; rintro e w30 ⟨rfl, b30⟩; rw [← HNV.out]; have cb30 := keepB b30 (by assumption)) | (go_at_call 42; go_split_ands; refine (awake22_any _ (HT.out.below (bw23.trans (Below.mono (by assumption) bw23.size)))).mono ?_; rintro e w31 ⟨rfl, b31⟩; have cb31 := keepB b31 (by assumption)))
          have bw31 := bw23.trans (cb31.mono bw23.size)
          go_wp2
          exact HR.out _ _ ⟨rfl, bw31⟩
      · have hn0 : N = 0 := by rw [HN.out, if_neg (by rw [← HEN.out]; exact hz)]
        have hm0 : M = 0 := by rw [HMN.out, hn0]; rfl
        have dne : ((E : Int) != 0) = true := by rw [bne_iff_ne]; omega
        subst hn0
        subst hm0
        clear hz x0' x1' x2' hrow21
        go_wp2_with fail
        refine (awake22_any _ (HT.out.below bw22)).mono ?_
        rintro e w99 ⟨rfl, b99⟩
        go_wp2
        exact HR.out _ _ ⟨rfl, bw22.trans (b99.mono bw22.size)⟩

theorem own : ownKnob Tryd.prog.godebug = none := by kernel_rfl
theorem laidOut : laidOutB Tryd.prog = true := by kernel_rfl
theorem reads (os : Os) {H : Type} (enc : TypeId × Value → H) : ∃ places, DataW.whole enc Tryd.prog ((laidWorld os).forCall (fun _ _ => 0) ⟨#[], #[.agg #[.slice none 0 0, .slice none 0 0, .slice none 0 0]], []⟩).memory Tryd.f11.params.toList Rows.orderComparesSpec.vars false #[.agg #[.slice none 0 0, .slice none 0 0, .slice none 0 0]].toList 8 = some ([.agg [.nil, .nil, .nil]], [], places) :=
  ⟨[], by kernel_rfl⟩

set_option maxRecDepth 100000 in
theorem contract (H : Type) (enc : TypeId × Value → H) (W : World) (base : Nat) (args : Array Value) (ds gs : List (DataW H)) (before : List MemPlace)
    (hval0 : ∀ (j : Nat) t v, Tryd.f11.params[j]? = some t → args[j]? = some v → Value.okWide Tryd.prog W .any base t v)
    (hW : DataW.Whole enc Tryd.prog Tryd.f11.params.toList Rows.orderComparesSpec.vars false W args.toList ds gs before)
    (hsz0 : (DataW.weightsEach Tryd.prog (Tryd.f11.params.toList ++ Rows.orderComparesSpec.plain.varTypes Tryd.prog) (ds ++ gs)).all (· ≤ reachBytes) = true)
    (hL : laidMetH Tryd.prog Rows.orderComparesRow.laid W) :
    Calls Tryd.prog 11 args W fun e W' => ∃ v, e = .returned v ∧ Rows.orderComparesSpec.post enc Tryd.prog Tryd.f11 false true false false W args v W' := by
  have hval := hval0
  have hW' := hW
  obtain ⟨p, q, hA0, hV, rfl, hfz, hnd⟩ := hW
  have hA : DataW.TrodAll enc Tryd.prog W 0 (fun _ => true) true Tryd.f11.params.toList args.toList ds p := hA0
  have hsz : (DataW.weightsEach Tryd.prog (Tryd.f11.params.toList ++ Rows.orderComparesSpec.plain.varTypes Tryd.prog) (ds ++ gs)).all (· ≤ reachBytes) = true := hsz0
  rw [Tryd.params11] at hA hval hsz
  obtain ⟨v0, vs0, d0, ds0, p0, q0, hargs, rfl, rfl, h0, r0⟩ := trodAll_cons hA
  obtain ⟨rfl, rfl, rfl⟩ := trodAll_nil r0
  obtain rfl : args = #[v0] := by cases args; simp_all
  obtain ⟨rfl, rfl⟩ := trodVars_none hV
  have k0 := h0
  have lt0 : ∀ x ∈ p0, x.block < W.heap.size := by obtain ⟨m, hm⟩ := k0; exact DataW.trod_lt m _ _ _ hm
  have w0 := open_case22 (hval 0 75 v0 rfl rfl) h0 (Sized.arg (j := 0) hsz rfl rfl)
  clear hA0 hval0
  refine (walk v0 W (tab_row hL) w0).mono fun e W' ⟨he, bel⟩ => ?_
  subst he
  exact ⟨_, rfl, _, _, _, [], _, [], hW', trodAll_mk1 (shut_bool Tryd.underlying4 _), (trodAll_cons_mk (Below.trod laidOut (by kernel_rfl) (of_decide_eq_true (by kernel_rfl)) k0 bel lt0) trodAll_mk0), rfl, bel.frame _, fun h => by cases h⟩

set_option maxRecDepth 100000 in
theorem lifted (os : Os) (started : os.Started) (H : Type) (enc : TypeId × Value → H) (F : Stop.Interp) :
    ReturnsInHanded {} Tryd.checked os 11 .any ((OpenSpec.ofChange Rows.orderComparesSpec).preRow enc Tryd.prog Tryd.f11 Rows.orderComparesRow.domain false Rows.orderComparesRow.laid) (((OpenSpec.ofChange Rows.orderComparesSpec).at F).post enc Tryd.prog Tryd.f11 false true false false) := by
  obtain ⟨places, hx⟩ := reads os enc
  refine returnsInHanded_of_row (C := Tryd.checked) (s := OpenSpec.ofChange Rows.orderComparesSpec) own started (by kernel_rfl) Tryd.func11
    (witness_row_atRef (enc := enc) (C := Tryd.checked) false (laidWorld os) #[.agg #[.slice none 0 0, .slice none 0 0, .slice none 0 0]] rfl (by kernel_rfl) (by kernel_rfl) (by kernel_rfl)
      (OpenSpec.preRow_of_cond 8 hx (by kernel_rfl) (fun k hk => by cases hk) (by kernel_rfl) (laid_met os _))) ?_
  intro W base args ds gs before hval hW _ _ hsz hL _ _
  exact contract H enc W base args ds gs before hval hW hsz hL

theorem said : Rows.OrderComparesSaid :=
  OpenClaim.holds_of_cond 11 Tryd.f11 rfl rfl rfl rfl rfl rfl rfl ⟨rfl, rfl, rfl, rfl, rfl⟩ rfl rfl rfl rfl rfl (by kernel_rfl) Tryd.func11 (by kernel_rfl)
    (of_decide_eq_true (by kernel_rfl)) (by unfold Func.isWrapper; first | (rw [if_pos (by decide +kernel)]; kernel_rfl) | (rw [if_neg (by decide +kernel)]; exact ⟨rfl, rfl⟩))
    (fun os started H enc _ F => by rw [OpenClaim.pre_eq_preRow]; exact lifted os started H enc F)

theorem plain (f : FuncId) (fn : Func) (hf : Tryd.pinned.checked.prog.funcNamed "quillpen/quillpenlaw22.OrderCompares" = some f) (hfn : Tryd.pinned.checked.prog.funcs[f]? = some fn) :
    false = Tryd.pinned.checked.prog.looks [] ∧ ∀ (j : Nat) t, fn.params[j]? = some t → Tryd.pinned.checked.prog.wantsStandIn t = false := by
  obtain rfl : f = 11 := Option.some.inj ((show Tryd.prog.funcNamed "quillpen/quillpenlaw22.OrderCompares" = some 11 by kernel_rfl).symm.trans hf) |>.symm
  obtain rfl : fn = Tryd.f11 := (Option.some.inj (Tryd.func11.symm.trans hfn)).symm
  refine ⟨by kernel_rfl, fun j t ht => ?_⟩
  rw [Tryd.params11] at ht
  have hm := Array.mem_of_getElem? ht
  have hall : (#[75] : Array TypeId).toList.all (fun t => Tryd.prog.wantsStandIn t == false) = true := by kernel_rfl
  exact eq_of_beq (List.all_eq_true.1 hall t (by simpa using hm))

theorem proved : Rows.OrderComparesCardSaid :=
  Claim7.holds_tied_plain_at .later [] _ _ _ _ said (fun _ h => by cases h) (by kernel_rfl) (fun _ h => by cases h) orderCompares_row_tie rfl ⟨rfl, rfl⟩ (by kernel_rfl) rfl plain (by kernel_rfl)
end Go.Proofs.YtgiemhooeoakmaaDoor.orderCompares
