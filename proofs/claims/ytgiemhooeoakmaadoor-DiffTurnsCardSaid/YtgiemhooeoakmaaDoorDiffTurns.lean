/- The changes back are the changes, turned, but for their order; there are none from a table to itself; without any both have the same rows. The table of UTF-8 is laid as the text lays it; the card ties it. -/
import Derived.Test.YtgiemhooeoakmaaDoorCards
import Derived.Test.YtgiemhooeoakmaaDoorTie
import Derived.SizedLaws
import Derived.ProofKit
import Derived.OpenShut
import Derived.ShutString
import Derived.ChangeOld
import Derived.Below
import Derived.Deep.DeepHandedRow
import Derived.Deep.DeepWitnessRowRef
import Derived.Test.YtgiemhooeoakmaaDoorKH
import Derived.Test.YtgiemhooeoakmaaDoorKF
import Derived.Test.YtgiemhooeoakmaaDoorKE
namespace Go.Proofs.YtgiemhooeoakmaaDoor.diffTurns
open Go.ChangeShapes Go.WideShapes Go.ChangeAt Go.RowKit
open Go.ChangeMaps (open_string shut_string)
set_option linter.unusedVariables false
set_option linter.unusedSimpArgs false

set_option maxHeartbeats 8000000 in
set_option maxRecDepth 100000 in
theorem walk (v : Value) (W : World) (hT : Tab W) (h0 : ∃ v1 u1 v2 u2 z la ta lb tb keys, v = .agg #[v1, u1, v2, u2, z] ∧ RdC W W.heap.size v1 la ∧ RdVT W W.heap.size u1 ta ∧ RdC W W.heap.size v2 lb ∧ RdVT W W.heap.size u2 tb ∧ RdS W W.heap.size z keys) :
    Calls Tryd.prog 6 #[v] W fun e w' => e = .returned (.bool true) ∧ Below W.heap.size W w' := by
  refine cps fun R HR => ?_
  obtain ⟨v1, u1, v2, u2, z, la, ta, lb, tb, keys, rfl, h1, h2, h3, h4, hu⟩ := h0
  have g1 := h1; have g2 := h2; have g3 := h3; have g4 := h4; have hu0 := hu
  obtain ⟨A1, c1, rfl, -⟩ := h1.is
  obtain ⟨A2, c2, vs, rfl, -, -⟩ := h2.is
  obtain ⟨A3, c3, rfl, -⟩ := h3.is
  obtain ⟨A4, c4, vs', rfl, -, -⟩ := h4.is
  obtain ⟨A5, c5, rfl, -⟩ := hu.is
  clear h1 h2 h3 h4 hu
  obtain ⟨w0, hw0⟩ : ∃ w0, w0 = W.alloc (.cells #[.slice A1 la.length c1, .slice A2 ta.length c2, .slice A3 lb.length c3, .slice A4 tb.length c4, .slice A5 keys.length c5] 28) := ⟨_, rfl⟩
  have bw0 : Below W.heap.size W w0 := by rw [hw0]; exact (Below.refl _ _).alloc (Nat.le_refl _) _
  have X := Box.new W 28 #[.slice A1 la.length c1, .slice A2 ta.length c2, .slice A3 lb.length c3, .slice A4 tb.length c4, .slice A5 keys.length c5]
  rw [← hw0] at X
  obtain ⟨g, hg⟩ : ∃ g, g = W.heap.size := ⟨_, rfl⟩
  rw [← hg] at X
  have cells : ∀ w' : World, Below w0.heap.size w0 w' → w'.cell? ⟨g, 0, none⟩ = some (.slice A1 la.length c1) ∧ w'.cell? ⟨g, 1, none⟩ = some (.slice A2 ta.length c2) ∧ w'.cell? ⟨g, 2, none⟩ = some (.slice A3 lb.length c3) ∧ w'.cell? ⟨g, 3, none⟩ = some (.slice A4 tb.length c4) ∧ w'.cell? ⟨g, 4, none⟩ = some (.slice A5 keys.length c5) := fun w' hb => by
    have X2 := X.below hb X.lt
    exact ⟨X2.cell 0, X2.cell 1, X2.cell 2, X2.cell 3, X2.cell 4⟩
  obtain ⟨x0, x1, x2, x3, x4⟩ := cells w0 (Below.refl _ _)
  have CELLS := Lib.hid cells; have HW0 := Lib.hid hw0; have HB0 := Lib.hid bw0; have HT := Lib.hid hT; have HG := Lib.hid hg
  clear X hw0 bw0 cells hT
  go_enter Tryd.func6, Tryd.ntmps6
  go_wp2_with fail
  rw [← HW0.out, ← hg]
  clear hg
  refine (fits25_any _ _ _ _ _ la lb ta tb keys _ (RdF.next g1 HB0.out) (RdE.next (RdF.stays valV 4) g2 HB0.out) (RdF.next g3 HB0.out) (RdE.next (RdF.stays valV 4) g4 HB0.out) (hu0.next HB0.out)).mono ?_
  rintro e w1 ⟨⟨t, rfl, ht⟩, b1⟩
  have bw1 := HB0.out.trans (b1.mono HB0.out.size)
  clear x0 x1 x2 x3 x4
  cases t
  · clear ht
    go_wp2_with fail
    refine (awake25_any _ (HT.out.below bw1)).mono ?_
    rintro e w99 ⟨rfl, b99⟩
    go_wp2
    exact HR.out _ _ ⟨rfl, bw1.trans (b99.mono bw1.size)⟩
  · obtain ⟨hks, ⟨⟨hla, hca⟩, hta, hra⟩, ⟨⟨hlb, hcb⟩, htb, hrb⟩, hk⟩ := ht rfl
    have hca2 : ∀ c ∈ la, c.name.size ≤ 100000 := fun c hc => Nat.le_trans (hca c hc) (by omega)
    have hcb2 : ∀ c ∈ lb, c.name.size ≤ 100000 := fun c hc => Nat.le_trans (hcb c hc) (by omega)
    have hra2 : ∀ r ∈ ta, r.length ≤ 100000 := fun r hr => Nat.le_trans (hra r hr).1 (by omega)
    have hrb2 : ∀ r ∈ tb, r.length ≤ 100000 := fun r hr => Nat.le_trans (hrb r hr).1 (by omega)
    have HCA := Lib.hid hca2; have HCB := Lib.hid hcb2; have HRA := Lib.hid hra2; have HRB := Lib.hid hrb2
    clear ht hks hca hcb hra hrb hca2 hcb2 hra2 hrb2
    obtain ⟨x0, x1, x2, x3, x4⟩ := CELLS.out w1 b1
    obtain ⟨E, hE⟩ : ∃ E, E = diffE la lb keys ta tb := ⟨_, rfl⟩
    obtain ⟨D, hD⟩ : ∃ D, D = diffL la lb keys ta tb := ⟨_, rfl⟩
    have HE := Lib.hid hE; have HD := Lib.hid hD
    clear hE hD
    go_wp2_with fail
    refine (ddiff_any _ _ _ _ _ la lb ta tb keys _ (RdF.next g1 bw1) (RdE.next (RdF.stays valV 4) g2 bw1) (RdF.next g3 bw1) (RdE.next (RdF.stays valV 4) g4 bw1) (hu0.next bw1) (by omega) (by omega) (by omega) (by omega) (by omega) HCA.out HCB.out (HT.out.below bw1)).mono ?_
    rintro e w2 ⟨⟨o2, rfl, ho2⟩, b2⟩
    rw [← HE.out]
    rw [← HD.out] at ho2
    have b02 := b1.trans (b2.mono b1.size)
    have bw2 := HB0.out.trans (b02.mono HB0.out.size)
    clear x0 x1 x2 x3 x4
    obtain ⟨x0, x1, x2, x3, x4⟩ := CELLS.out w2 b02
    by_cases hz : E = 0
    · subst hz
      have he := HE.out.symm
      obtain ⟨D2, hD2⟩ : ∃ D2, D2 = diffL lb la keys tb ta := ⟨_, rfl⟩
      have HDL := Lib.hid (show D.length ≤ ta.length + tb.length by rw [HD.out]; exact diffL_len _ _ _ _ _)
      have HDR := Lib.hid (show ∀ c ∈ D, c.old.length ≤ 100000 ∧ c.new.length ≤ 100000 by rw [HD.out]; exact diffL_short HRA.out HRB.out)
      have HD2L := Lib.hid (show D2.length ≤ tb.length + ta.length by rw [hD2]; exact diffL_len _ _ _ _ _)
      have HD2R := Lib.hid (show ∀ c ∈ D2, c.old.length ≤ 100000 ∧ c.new.length ≤ 100000 by rw [hD2]; exact diffL_short HRB.out HRA.out)
      have HTR := Lib.hid (turnF_short HDR.out)
      have htl : (turnF D).length = D2.length := by rw [HD.out, hD2]; exact turns_len he
      have hti : withinB (turnF D) D2 = true := withinB_true (by rw [HD.out, hD2]; exact turns_in he)
      have HET := Lib.hid (diffE_turn he); have HSELF := Lib.hid (diffL_self he); have HNS := Lib.hid (fun h => none_same he (HD.out.symm.trans h))
      have HTL := Lib.hid htl; have HTI := Lib.hid hti; have HD2 := Lib.hid hD2
      clear he htl hti hD2
      have ho2c := ho2
      obtain ⟨dA, dc, rfl⟩ := ho2.form
      go_wp2_with fail
      refine (ddiff_any _ _ _ _ _ lb la tb ta keys _ (RdF.next g3 bw2) (RdE.next (RdF.stays valV 4) g4 bw2) (RdF.next g1 bw2) (RdE.next (RdF.stays valV 4) g2 bw2) (hu0.next bw2) (by omega) (by omega) (by omega) (by omega) (by omega) HCB.out HCA.out (HT.out.below bw2)).mono ?_
      rintro e w3 ⟨⟨o3, rfl, ho3⟩, b3⟩
      rw [HET.out.1]
      rw [← HD2.out] at ho3
      have b03 := b02.trans (b3.mono b02.size)
      have bw3 := bw2.trans (b3.mono bw2.size)
      have ho23 := ho2c.next b3
      clear x0 x1 x2 x3 x4
      obtain ⟨x0, x1, x2, x3, x4⟩ := CELLS.out w3 b03
      have ho3c := ho3
      obtain ⟨eA, ec, rfl⟩ := ho3.form
      go_wp2_with fail
      refine (ddiff_any _ _ _ _ _ la la ta ta keys _ (RdF.next g1 bw3) (RdE.next (RdF.stays valV 4) g2 bw3) (RdF.next g1 bw3) (RdE.next (RdF.stays valV 4) g2 bw3) (hu0.next bw3) (by omega) (by omega) (by omega) (by omega) (by omega) HCA.out HCA.out (HT.out.below bw3)).mono ?_
      rintro e w4 ⟨⟨o4, rfl, ho4⟩, b4⟩
      rw [HET.out.2]
      rw [HSELF.out] at ho4
      have b04 := b03.trans (b4.mono b03.size)
      have bw4 := bw3.trans (b4.mono bw3.size)
      have ho24 := ho23.next b4
      have ho34 := ho3c.next b4
      obtain ⟨sA, sc, rfl⟩ := ho4.form
      clear x0 x1 x2 x3 x4
      obtain ⟨x0, x1, x2, x3, x4⟩ := CELLS.out w4 b04
      go_wp2_with fail
      refine (dturn_any _ D _ ho24 (by have := HDL.out; omega)).mono ?_
      rintro e w5 ⟨⟨o5, rfl, ho5⟩, b5⟩
      have b05 := b04.trans (b5.mono b04.size)
      have bw5 := bw4.trans (b5.mono bw4.size)
      clear x0 x1 x2 x3 x4
      obtain ⟨x0, x1, x2, x3, x4⟩ := CELLS.out w5 b05
      have htl2 : (turnF D).length ≤ 100000 := by rw [turnF_len]; have := HDL.out; omega
      go_wp2_with fail
      refine (ref25_any _ (turnF D) _ ho5 htl2 HTR.out).mono ?_
      rintro e w6 ⟨⟨o6, rfl, ho6⟩, b6⟩
      have b06 := b05.trans (b6.mono b05.size)
      have bw6 := bw5.trans (b6.mono bw5.size)
      clear x0 x1 x2 x3 x4
      obtain ⟨x0, x1, x2, x3, x4⟩ := CELLS.out w6 b06
      have ho6c := ho6
      obtain ⟨fA, fc, rfl⟩ := ho6.form
      have ho36 := (ho34.next b5).next b6
      have dl : (((turnF D).length : Int) != (D2.length : Int)) = false := by rw [HTL.out]; simp
      clear htl2
      go_wp2_with fail
      refine (ref25_any _ D2 _ ho36 (by have := HD2L.out; omega) HD2R.out).mono ?_
      rintro e w7 ⟨⟨o7, rfl, ho7⟩, b7⟩
      have b07 := b06.trans (b7.mono b06.size)
      have bw7 := bw6.trans (b7.mono bw6.size)
      clear x0 x1 x2 x3 x4
      obtain ⟨x0, x1, x2, x3, x4⟩ := CELLS.out w7 b07
      go_wp2_with fail
      refine (within_any _ _ (turnF D) D2 _ (ho6c.next b7) ho7).mono ?_
      rintro e w8 ⟨rfl, b8⟩
      rw [HTI.out]
      have b08 := b07.trans (b8.mono b07.size)
      have bw8 := bw7.trans (b8.mono bw7.size)
      clear x0 x1 x2 x3 x4
      obtain ⟨x0, x1, x2, x3, x4⟩ := CELLS.out w8 b08
      by_cases hd0 : D = []
      · obtain ⟨hsub, hlen⟩ := HNS.out hd0
        subst hd0
        have HSUB := Lib.hid hsub; have HLEN := Lib.hid hlen
        clear hsub hlen
        go_wp2
        obtain ⟨w9, rfl⟩ : ∃ w9 : World, w9 = w8 := ⟨_, rfl⟩
        go_wp2
        go_loopw [87] (fun i wr => ∃ k : Nat, k ≤ ta.length ∧ i = .int .i64 k ∧ Below w9.heap.size w9 wr) (fun i _ => ta.length - (intOf i).toNat)
        case atStart => exact ⟨0, Nat.zero_le _, rfl, Below.refl _ _⟩
        case round =>
          obtain ⟨k, hk2, rfl, hB⟩ := hrel
          obtain ⟨wq, rfl⟩ : ∃ wq : World, wq = wr := ⟨_, rfl⟩
          have b0q := b08.trans (hB.mono b08.size)
          have bwq := bw8.trans (hB.mono bw8.size)
          clear x0 x1 x2 x3 x4
          obtain ⟨x0, x1, x2, x3, x4⟩ := CELLS.out wq b0q
          by_cases hlt : k < ta.length
          · obtain ⟨p, c6, vr, hv, hcrw, hrdw⟩ := g2.at hlt
            have hcr := (bwq.cell (World.block_lt_of_cell? W _ hcrw)).trans hcrw
            injection hv with hAA hln hcc
            subst hAA
            subst hcc
            clear hln hcrw
            have hrl := HRA.out _ (List.getElem_mem hlt)
            have hrin := HSUB.out _ (List.getElem_mem hlt)
            obtain ⟨r, hr⟩ : ∃ r, r = ta[k] := ⟨_, rfl⟩
            rw [← hr] at hrdw hrl hrin
            clear hr
            have HRIN := Lib.hid hrin
            have dk : decide ((k : Int) < ta.length) = true := decide_eq_true (by omega)
            have hrd0 := hrdw
            obtain ⟨rA, rc, rfl, -⟩ := hrdw.is
            clear hrdw hrin
            go_wp2
            go_loopw [12, 95] (fun f i wr => ∃ m : Nat, m ≤ tb.length ∧ i = .int .i64 m ∧ f = .bool ((tb.take m).any (sameV r)) ∧ Below wq.heap.size wq wr) (fun _ i _ => tb.length - (intOf i).toNat)
            case atStart => exact ⟨0, Nat.zero_le _, rfl, rfl, Below.refl _ _⟩
            case round =>
              obtain ⟨m, hm, rfl, rfl, hB3⟩ := hrel
              have b0m := b0q.trans (hB3.mono b0q.size)
              have bwm := bwq.trans (hB3.mono bwq.size)
              obtain ⟨fb, hfb⟩ : ∃ fb, fb = (tb.take m).any (sameV r) := ⟨_, rfl⟩
              rw [← hfb]
              have HFB := Lib.hid hfb
              clear hfb x0 x1 x2 x3 x4
              obtain ⟨x0, x1, x2, x3, x4⟩ := CELLS.out wr b0m
              by_cases hltm : m < tb.length
              · obtain ⟨p4, c8, vx, hv4, hcxw, hxdw⟩ := g4.at hltm
                have hcx := (bwm.cell (World.block_lt_of_cell? W _ hcxw)).trans hcxw
                injection hv4 with hAA hln hcc
                subst hAA
                subst hcc
                clear hln hcxw
                have hs3 := any_take (sameV r) tb hltm
                have hxl := HRB.out _ (List.getElem_mem hltm)
                obtain ⟨x, hx⟩ : ∃ x, x = tb[m] := ⟨_, rfl⟩
                rw [← hx] at hxdw hs3 hxl
                have S3 := Lib.hid hs3
                clear hx hs3
                have hxd0 := hxdw
                obtain ⟨xA, xc, rfl, -⟩ := hxdw.is
                clear hxdw
                have dm : decide ((m : Int) < tb.length) = true := decide_eq_true (by omega)
                cases fb
                · go_wp2_with fail
                  refine (refRow_any _ r _ (RdF.next hrd0 bwm) hrl).mono ?_
                  rintro e w12 ⟨u1, rfl, hou1, b12⟩
                  go_wp2_with fail
                  refine (refRow_any _ x _ (RdF.next hxd0 (bwm.trans (b12.mono bwm.size))) hxl).mono ?_
                  rintro e w13 ⟨u2, rfl, hou2, b13⟩
                  go_wp2_with fail
                  refine (sameV_any _ _ r x _ (RdF.next (RdF.of_own rvalV_len (by omega) hou1) b13) (RdF.of_own rvalV_len (by omega) hou2)).mono ?_
                  rintro e w14 ⟨rfl, b14⟩
                  have hn : (tb.take (m + 1)).any (sameV r) = sameV r x := by rw [S3.out, ← HFB.out]; rfl
                  have HNN := Lib.hid hn
                  clear hn
                  go_wp2
                  exact ⟨⟨m + 1, by omega, by go_num, by rw [HNN.out], ((hB3.trans (b12.mono hB3.size)).trans (b13.mono (hB3.trans (b12.mono hB3.size)).size)).trans (b14.mono ((hB3.trans (b12.mono hB3.size)).trans (b13.mono (hB3.trans (b12.mono hB3.size)).size)).size)⟩, by simp [intOf]; omega⟩
                · have hn : (tb.take (m + 1)).any (sameV r) = true := by rw [S3.out, ← HFB.out]; rfl
                  have HNN := Lib.hid hn
                  clear hn
                  go_wp2
                  exact ⟨⟨m + 1, by omega, by go_num, by rw [HNN.out], hB3⟩, by simp [intOf]; omega⟩
              · have hfx : fb = true := by
                  rw [HFB.out, List.take_of_length_le (by omega)]
                  exact List.any_eq_true.2 ⟨r, HRIN.out, sameVR r⟩
                subst hfx
                go_wp2
                exact ⟨⟨k + 1, by omega, by go_num, hB.trans (hB3.mono hB.size)⟩, by simp [intOf]; omega⟩
          · have hl2 : ((ta.length : Int) == tb.length) = true := by rw [HLEN.out]; simp
            have HL2 := Lib.hid hl2
            obtain ⟨n2, hn2⟩ : ∃ n2, n2 = tb.length := ⟨_, rfl⟩
            clear hl2 hn2 n2
            have dl2 : ((ta.length : Int) == tb.length) = true := HL2.out
            go_wp2_with fail
            refine (awake25_any _ (HT.out.below bwq)).mono ?_
            rintro e w99 ⟨rfl, b99⟩
            go_wp2
            exact HR.out _ _ ⟨rfl, bwq.trans (b99.mono bwq.size)⟩
      · have hpos : 0 < D.length := List.length_pos_iff.2 hd0
        have dne : ((D.length : Int) == 0) = false := by rw [beq_eq_false_iff_ne]; omega
        clear hd0
        go_wp2_with fail
        refine (awake25_any _ (HT.out.below bw8)).mono ?_
        rintro e w99 ⟨rfl, b99⟩
        go_wp2
        exact HR.out _ _ ⟨rfl, bw8.trans (b99.mono bw8.size)⟩
    · have dne : ((E : Int) != 0) = true := by rw [bne_iff_ne]; omega
      clear hz
      go_wp2_with fail
      refine (awake25_any _ (HT.out.below bw2)).mono ?_
      rintro e w99 ⟨rfl, b99⟩
      go_wp2
      exact HR.out _ _ ⟨rfl, bw2.trans (b99.mono bw2.size)⟩

theorem own : ownKnob Tryd.prog.godebug = none := by kernel_rfl
theorem laidOut : laidOutB Tryd.prog = true := by kernel_rfl
theorem reads (os : Os) {H : Type} (enc : TypeId × Value → H) : ∃ places, DataW.whole enc Tryd.prog ((laidWorld os).forCall (fun _ _ => 0) ⟨#[], #[.agg #[.slice none 0 0, .slice none 0 0, .slice none 0 0, .slice none 0 0, .slice none 0 0]], []⟩).memory Tryd.f6.params.toList Rows.diffTurnsSpec.vars false #[.agg #[.slice none 0 0, .slice none 0 0, .slice none 0 0, .slice none 0 0, .slice none 0 0]].toList 8 = some ([.agg [.agg [.nil, .nil], .agg [.nil, .nil], .nil]], [], places) :=
  ⟨[], by kernel_rfl⟩

set_option maxRecDepth 100000 in
theorem contract (H : Type) (enc : TypeId × Value → H) (W : World) (base : Nat) (args : Array Value) (ds gs : List (DataW H)) (before : List MemPlace)
    (hval0 : ∀ (j : Nat) t v, Tryd.f6.params[j]? = some t → args[j]? = some v → Value.okWide Tryd.prog W .any base t v)
    (hW : DataW.Whole enc Tryd.prog Tryd.f6.params.toList Rows.diffTurnsSpec.vars false W args.toList ds gs before)
    (hsz0 : (DataW.weightsEach Tryd.prog (Tryd.f6.params.toList ++ Rows.diffTurnsSpec.plain.varTypes Tryd.prog) (ds ++ gs)).all (· ≤ reachBytes) = true)
    (hL : laidMetH Tryd.prog Rows.diffTurnsRow.laid W) :
    Calls Tryd.prog 6 args W fun e W' => ∃ v, e = .returned v ∧ Rows.diffTurnsSpec.post enc Tryd.prog Tryd.f6 false true false false W args v W' := by
  have hval := hval0
  have hW' := hW
  obtain ⟨p, q, hA0, hV, rfl, hfz, hnd⟩ := hW
  have hA : DataW.TrodAll enc Tryd.prog W 0 (fun _ => true) true Tryd.f6.params.toList args.toList ds p := hA0
  have hsz : (DataW.weightsEach Tryd.prog (Tryd.f6.params.toList ++ Rows.diffTurnsSpec.plain.varTypes Tryd.prog) (ds ++ gs)).all (· ≤ reachBytes) = true := hsz0
  rw [Tryd.params6] at hA hval hsz
  obtain ⟨v0, vs0, d0, ds0, p0, q0, hargs, rfl, rfl, h0, r0⟩ := trodAll_cons hA
  obtain ⟨rfl, rfl, rfl⟩ := trodAll_nil r0
  obtain rfl : args = #[v0] := by cases args; simp_all
  obtain ⟨rfl, rfl⟩ := trodVars_none hV
  have k0 := h0
  have lt0 : ∀ x ∈ p0, x.block < W.heap.size := by obtain ⟨m, hm⟩ := k0; exact DataW.trod_lt m _ _ _ hm
  have w0 := open_case25 (hval 0 28 v0 rfl rfl) h0 (Sized.arg (j := 0) hsz rfl rfl)
  clear hA0 hval0
  refine (walk v0 W (tab_row hL) w0).mono fun e W' ⟨he, bel⟩ => ?_
  subst he
  exact ⟨_, rfl, _, _, _, [], _, [], hW', trodAll_mk1 (shut_bool Tryd.underlying4 _), (trodAll_cons_mk (Below.trod laidOut (by kernel_rfl) (of_decide_eq_true (by kernel_rfl)) k0 bel lt0) trodAll_mk0), rfl, bel.frame _, fun h => by cases h⟩

set_option maxRecDepth 100000 in
theorem lifted (os : Os) (started : os.Started) (H : Type) (enc : TypeId × Value → H) (F : Stop.Interp) :
    ReturnsInHanded {} Tryd.checked os 6 .any ((OpenSpec.ofChange Rows.diffTurnsSpec).preRow enc Tryd.prog Tryd.f6 Rows.diffTurnsRow.domain false Rows.diffTurnsRow.laid) (((OpenSpec.ofChange Rows.diffTurnsSpec).at F).post enc Tryd.prog Tryd.f6 false true false false) := by
  obtain ⟨places, hx⟩ := reads os enc
  refine returnsInHanded_of_row (C := Tryd.checked) (s := OpenSpec.ofChange Rows.diffTurnsSpec) own started (by kernel_rfl) Tryd.func6
    (witness_row_atRef (enc := enc) (C := Tryd.checked) false (laidWorld os) #[.agg #[.slice none 0 0, .slice none 0 0, .slice none 0 0, .slice none 0 0, .slice none 0 0]] rfl (by kernel_rfl) (by kernel_rfl) (by kernel_rfl)
      (OpenSpec.preRow_of_cond 8 hx (by kernel_rfl) (fun k hk => by cases hk) (by kernel_rfl) (laid_met os _))) ?_
  intro W base args ds gs before hval hW _ _ hsz hL _ _
  exact contract H enc W base args ds gs before hval hW hsz hL

theorem said : Rows.DiffTurnsSaid :=
  OpenClaim.holds_of_cond 6 Tryd.f6 rfl rfl rfl rfl rfl rfl rfl ⟨rfl, rfl, rfl, rfl, rfl⟩ rfl rfl rfl rfl rfl (by kernel_rfl) Tryd.func6 (by kernel_rfl)
    (of_decide_eq_true (by kernel_rfl)) (by unfold Func.isWrapper; first | (rw [if_pos (by decide +kernel)]; kernel_rfl) | (rw [if_neg (by decide +kernel)]; exact ⟨rfl, rfl⟩))
    (fun os started H enc _ F => by rw [OpenClaim.pre_eq_preRow]; exact lifted os started H enc F)

theorem plain (f : FuncId) (fn : Func) (hf : Tryd.pinned.checked.prog.funcNamed "quillpen/quillpenlaw25.DiffTurns" = some f) (hfn : Tryd.pinned.checked.prog.funcs[f]? = some fn) :
    false = Tryd.pinned.checked.prog.looks [] ∧ ∀ (j : Nat) t, fn.params[j]? = some t → Tryd.pinned.checked.prog.wantsStandIn t = false := by
  obtain rfl : f = 6 := Option.some.inj ((show Tryd.prog.funcNamed "quillpen/quillpenlaw25.DiffTurns" = some 6 by kernel_rfl).symm.trans hf) |>.symm
  obtain rfl : fn = Tryd.f6 := (Option.some.inj (Tryd.func6.symm.trans hfn)).symm
  refine ⟨by kernel_rfl, fun j t ht => ?_⟩
  rw [Tryd.params6] at ht
  have hm := Array.mem_of_getElem? ht
  have hall : (#[28] : Array TypeId).toList.all (fun t => Tryd.prog.wantsStandIn t == false) = true := by kernel_rfl
  exact eq_of_beq (List.all_eq_true.1 hall t (by simpa using hm))

theorem proved : Rows.DiffTurnsCardSaid :=
  Claim7.holds_tied_plain_at .later [] _ _ _ _ said (fun _ h => by cases h) (by kernel_rfl) (fun _ h => by cases h) diffTurns_row_tie rfl ⟨rfl, rfl⟩ (by kernel_rfl) rfl plain (by kernel_rfl)
end Go.Proofs.YtgiemhooeoakmaaDoor.diffTurns
