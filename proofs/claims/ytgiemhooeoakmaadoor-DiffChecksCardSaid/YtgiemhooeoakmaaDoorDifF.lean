/- Layer 25, the reference: Check. -/
import Derived.Test.YtgiemhooeoakmaaDoorDifE
namespace Go.Proofs.YtgiemhooeoakmaaDoor
open Go.RowKit Go.ChangeShapes Go.WideShapes
set_option linter.unusedVariables false
set_option linter.unusedSimpArgs false

theorem any_take {α : Type} (p : α → Bool) (l : List α) {k : Nat} (hk : k < l.length) : (l.take (k + 1)).any p = ((l.take k).any p || p l[k]) := by
  rw [List.take_succ_eq_append_getElem hk, List.any_append, List.any_cons, List.any_nil, Bool.or_false]
theorem any_take_le {α : Type} (p : α → Bool) (l : List α) {k : Nat} (hk : k < l.length) (h : p l[k] = true) : l.any p = true := by
  rw [List.any_eq_true]
  exact ⟨l[k], List.getElem_mem hk, h⟩
theorem numsF_get (L keys : Row) {k : Nat} (hk : k < keys.length) : ∃ h, (numsF L keys)[k]'h = (atC L keys[k] : Int) := by
  unfold numsF
  exact ⟨by rw [List.length_map]; exact hk, by rw [List.getElem_map]⟩
theorem dchk_no {l : List Col} {keys : Row} {t : VTab} (h : (chkC l).2 ≠ 0) : dchk l keys t = (0, (chkC l).2) := by
  unfold dchk plC
  rw [if_pos h, if_pos (by simpa using h)]
theorem dchk_nil {l : List Col} {t : VTab} (h : (chkC l).2 = 0) : dchk l [] t = (0, 13) := by
  have hp : plC l [] = (0, 13) := by unfold plC; rw [if_neg (by simp [h]), if_pos rfl]
  unfold dchk
  rw [hp, if_pos (by simp)]
theorem dchk_go {l : List Col} {keys : Row} {t : VTab} (h : (chkC l).2 = 0) (hn : keys ≠ []) : dchk l keys t = if (plF (namesC l) 0 [] keys).2 ≠ 0 then plF (namesC l) 0 [] keys else rowF l.length (numsF (namesC l) keys) t 0 t := by
  have hp : plC l keys = plF (namesC l) 0 [] keys := by unfold plC; rw [if_neg (by simp [h]), if_neg hn]
  unfold dchk
  rw [hp]
set_option maxHeartbeats 8000000 in
set_option maxRecDepth 100000 in
theorem rcheck_any (v u z : Value) (l : List Col) (t : VTab) (keys : Row) (w : World) (h : RdRC w w.heap.size v l) (h2 : RdRVT w w.heap.size u t) (hu : RdS w w.heap.size z keys) (hl : l.length ≤ 100000) (ht : t.length ≤ 100000) (hk : keys.length ≤ 100000) (hc : ∀ c ∈ l, c.name.size ≤ 100000) :
    Calls Tryd.prog 17 #[.agg #[v, u], z] w fun e w' => e = .returned (.tuple #[.int .i64 (dchk l keys t).1, .int .i64 (dchk l keys t).2]) ∧ Below w.heap.size w w' := by
  refine cps fun R HR => ?_
  have h0 := h
  have g0 := h2
  have hu0 := hu
  obtain ⟨A1, c1, rfl, -⟩ := h.is
  obtain ⟨A, c, vs, rfl, -, -⟩ := h2.is
  obtain ⟨A3, c3, rfl, -⟩ := hu.is
  have hfl := RdF.few h0
  have hft := g0.few
  have hfk := hu0.few
  have hkc3 : keys.length ≤ c3 := hu0.cap
  have htc : t.length ≤ c := g0.cap
  clear h h2 hu
  obtain ⟨Y, hY⟩ : ∃ Y, Y = dchk l keys t := ⟨_, rfl⟩
  rw [← hY] at HR
  obtain ⟨w0, hw0⟩ : ∃ w0, w0 = w.alloc (.cells #[.slice A1 l.length c1, .slice A t.length c] 39) := ⟨_, rfl⟩
  have bw0 : Below w.heap.size w w0 := by rw [hw0]; exact (Below.refl _ _).alloc (Nat.le_refl _) _
  have X := Box.new w 39 #[.slice A1 l.length c1, .slice A t.length c]
  rw [← hw0] at X
  have cells : ∀ w' : World, Below w0.heap.size w0 w' → w'.cell? ⟨w.heap.size, 0, none⟩ = some (.slice A1 l.length c1) ∧ w'.cell? ⟨w.heap.size, 1, none⟩ = some (.slice A t.length c) := fun w' hb => by
    have X2 := X.below hb X.lt
    exact ⟨X2.cell 0, X2.cell 1⟩
  obtain ⟨cn, hcn⟩ : ∃ cn, cn = chkC l := ⟨_, rfl⟩
  have CELLS := Lib.hid cells; have HW0 := Lib.hid hw0; have HB0 := Lib.hid bw0; have HY := Lib.hid hY; have HCN := Lib.hid hcn; have HC := Lib.hid hc
  clear X hw0 bw0 hY hcn hc cells
  go_enter Tryd.func17, Tryd.ntmps17
  go_wp2_with fail
  rw [← HW0.out]
  refine (refCheck_any _ l _ (RdF.next h0 HB0.out) hl HC.out).mono ?_
  rintro e w1 ⟨rfl, b1⟩
  rw [← HCN.out]
  obtain ⟨cp, ce⟩ := cn
  have bw1 := HB0.out.trans (b1.mono HB0.out.size)
  obtain ⟨x0, x1⟩ := CELLS.out w1 b1
  by_cases hce : ce = 0
  · subst hce
    have hy := HY.out
    have hc0 : (chkC l).2 = 0 := by rw [← HCN.out]
    by_cases hn : keys = []
    · subst hn
      rw [dchk_nil hc0] at hy
      subst hy
      clear hc0
      go_wp2
      exact HR.out _ _ ⟨rfl, bw1⟩
    · have hpos : 0 < keys.length := List.length_pos_iff.2 hn
      have d : ((keys.length : Int) == 0) = false := by rw [beq_eq_false_iff_ne]; omega
      rw [dchk_go hc0 hn] at hy
      clear hc0
      obtain ⟨L, hL⟩ : ∃ L, L = namesC l := ⟨_, rfl⟩
      have hLl : L.length = l.length := by rw [hL, namesC_len]
      rw [← hL] at hy
      have HL := Lib.hid hL; have HY2 := Lib.hid hy; have HLL := Lib.hid hLl
      clear hn hL hy hLl
      go_wp2
      go_loopw [30] (fun i wr => ∃ k : Nat, k ≤ keys.length ∧ i = .int .i64 k ∧ plF L k (keys.take k) (keys.drop k) = plF L 0 [] keys ∧ allIn L (keys.take k) = true ∧ Below w1.heap.size w1 wr) (fun i _ => keys.length - (intOf i).toNat)
      case atStart => exact ⟨0, Nat.zero_le _, rfl, rfl, rfl, Below.refl _ _⟩
      case round =>
        obtain ⟨k, hk2, rfl, hN, hA, hB⟩ := hrel
        have HN := Lib.hid hN; have HA := Lib.hid hA
        have bwr := bw1.trans (hB.mono bw1.size)
        have b0r := b1.trans (hB.mono b1.size)
        clear hN hA x0 x1
        obtain ⟨x0, x1⟩ := CELLS.out wr b0r
        by_cases hlt : k < keys.length
        · obtain ⟨p, c4, hv, hc⟩ := (hu0.below bwr).at hlt
          injection hv with hA hln hcc
          subst hA
          subst hcc
          clear hln
          have hs1 : keys.take (k + 1) = keys.take k ++ [keys[k]] := List.take_succ_eq_append_getElem hlt
          have hs2 : keys.drop k = keys[k] :: keys.drop (k + 1) := List.drop_eq_getElem_cons hlt
          have hs4 := allIn_snoc L keys hlt
          obtain ⟨x, hx⟩ : ∃ x, x = keys[k] := ⟨_, rfl⟩
          rw [← hx] at hc hs1 hs2 hs4
          have S1 := Lib.hid hs1; have S2 := Lib.hid hs2; have S4 := Lib.hid hs4
          clear hx hs1 hs2 hs4
          have dk : decide ((k : Int) < keys.length) = true := decide_eq_true (by omega)
          have hkc : k ≤ c3 := by omega
          go_wp2_with fail
          refine (refNames_any _ l _ (RdF.next h0 bwr) hl).mono ?_
          rintro e w2 ⟨o, rfl, ho, b2⟩
          rw [← HL.out] at ho
          have hro := RdS.of_own ho
          obtain ⟨oA, oc, rfl, -⟩ := hro.is
          have hB2 := hB.trans (b2.mono hB.size)
          have bw2 := bwr.trans (b2.mono bwr.size)
          clear ho
          go_wp2_with fail
          refine (refAt_any _ L x _ hro).mono ?_
          rintro e w3 ⟨rfl, rfl⟩
          clear hro
          by_cases hin : x ∈ L
          · have h0p := posF_some hin 0
            have hpm : ¬ posF 0 L x < 0 := by omega
            have hpn : 0 ≤ posF 0 L x := by omega
            have HIN := Lib.hid hin
            clear h0p hin
            go_wp2_with fail
            refine (refAt_any _ (keys.take k) x _ ((hu0.below bw2).take hk2)).mono ?_
            rintro e w3 ⟨rfl, rfl⟩
            by_cases hsn : x ∈ keys.take k
            · have h1p := posF_some hsn 0
              have hqm : ¬ posF 0 (keys.take k) x < 0 := by omega
              have hqn : 0 ≤ posF 0 (keys.take k) x := by omega
              have hp := HN.out
              rw [S2.out, plF, if_pos HIN.out, if_pos hsn] at hp
              have hy := HY2.out
              rw [← hp, if_pos (by simp)] at hy
              subst hy
              clear h1p hsn hp
              go_wp2
              exact HR.out _ _ ⟨rfl, bw2⟩
            · have hqe := posF_none hsn 0
              have hqm : posF 0 (keys.take k) x < 0 := by omega
              have hqn : ¬ 0 ≤ posF 0 (keys.take k) x := by omega
              have hn2 : plF L (k + 1) (keys.take (k + 1)) (keys.drop (k + 1)) = plF L 0 [] keys := by
                have h := HN.out
                rw [S2.out, plF, if_pos HIN.out, if_neg hsn, ← S1.out] at h
                exact h
              have ha2 : allIn L (keys.take (k + 1)) = true := by rw [S4.out, HA.out, decide_eq_true HIN.out]; rfl
              have N2 := Lib.hid hn2; have A2 := Lib.hid ha2
              clear hqe hsn hn2 ha2
              go_wp2
              exact ⟨⟨k + 1, by omega, by go_num, N2.out, A2.out, hB2⟩, by simp [intOf]; omega⟩
          · have hpe := posF_none hin 0
            have hpm : posF 0 L x < 0 := by omega
            have hpn : ¬ 0 ≤ posF 0 L x := by omega
            have hp := HN.out
            rw [S2.out, plF, if_neg hin] at hp
            have hy := HY2.out
            rw [← hp, if_pos (by simp)] at hy
            subst hy
            clear hpe hin hp
            go_wp2
            exact HR.out _ _ ⟨rfl, bw2⟩
        · obtain rfl : k = keys.length := by omega
          have hp := HN.out
          rw [List.drop_length, plF] at hp
          have hy := HY2.out
          rw [← hp, if_neg (by simp)] at hy
          have hall := HA.out
          rw [List.take_length] at hall
          have hin : ∀ s ∈ keys, s ∈ L := fun s hs => allIn_mem hall hs
          have HY3 := Lib.hid hy; have HIN := Lib.hid hin
          obtain ⟨w4, rfl⟩ : ∃ w4 : World, w4 = wr := ⟨_, rfl⟩
          clear hp hy hall hin hlt
          obtain ⟨ps, hps⟩ : ∃ ps, ps = numsF L keys := ⟨_, rfl⟩
          have HPS := Lib.hid hps
          have hy3 := HY3.out
          rw [← hps] at hy3
          have HY4 := Lib.hid hy3
          clear hps hy3
          go_wp2
          go_loopw [53] (fun i wr => ∃ k : Nat, k ≤ t.length ∧ i = .int .i64 k ∧ rowF l.length ps t k (t.drop k) = Y ∧ (∀ x ∈ t.take k, x.length = l.length) ∧ Below w4.heap.size w4 wr) (fun i _ => t.length - (intOf i).toNat)
          case atStart => exact ⟨0, Nat.zero_le _, rfl, HY4.out.symm, (fun x hx => by simp at hx), Below.refl _ _⟩
          case round =>
            obtain ⟨k, hk3, rfl, hN, hA, hBr⟩ := hrel
            have HN2 := Lib.hid hN; have HA2 := Lib.hid hA
            have bwr2 := bwr.trans (hBr.mono bwr.size)
            have b0r2 := b0r.trans (hBr.mono b0r.size)
            clear hN hA x0 x1
            obtain ⟨x0, x1⟩ := CELLS.out wr b0r2
            by_cases hlt : k < t.length
            · have dk : decide ((k : Int) < t.length) = true := decide_eq_true (by omega)
              obtain ⟨p, c4, vr, hv, hcr, hrd⟩ := (RdE.next (RdF.stays rvalV 4) g0 bwr2).at hlt
              injection hv with hAA hln hcc
              subst hAA
              subst hcc
              clear hln
              have hs2 : t.drop k = t[k] :: t.drop (k + 1) := List.drop_eq_getElem_cons hlt
              have hs1 : t.take (k + 1) = t.take k ++ [t[k]] := List.take_succ_eq_append_getElem hlt
              obtain ⟨r, hr⟩ : ∃ r, r = t[k] := ⟨_, rfl⟩
              rw [← hr] at hrd hs2 hs1
              have S1 := Lib.hid hs1; have S2 := Lib.hid hs2
              clear hr hs1 hs2
              have hrd0 := hrd
              obtain ⟨rA, rc, rfl, -⟩ := hrd.is
              have hfr := RdF.few hrd0
              clear hrd
              by_cases hrl : r.length = l.length
              · have dne : ((r.length : Int) != l.length) = false := by rw [hrl]; simp
                have HRL := Lib.hid hrl
                clear hrl
                obtain ⟨w5, rfl⟩ : ∃ w5 : World, w5 = wr := ⟨_, rfl⟩
                go_wp2
                go_loopw [67] (fun j ws => ∃ m : Nat, m ≤ keys.length ∧ j = .int .i64 m ∧ (numsF L (keys.take m)).any (nullP r) = false ∧ Below w5.heap.size w5 ws) (fun j _ => keys.length - (intOf j).toNat)
                case atStart => exact ⟨0, Nat.zero_le _, rfl, rfl, Below.refl _ _⟩
                case round =>
                  obtain ⟨m, hm, rfl, hM, hBm⟩ := hrel
                  have HM := Lib.hid hM
                  clear hM
                  have bwm := bwr2.trans (hBm.mono bwr2.size)
                  have b0m := b0r2.trans (hBm.mono b0r2.size)
                  clear x0 x1
                  obtain ⟨x0, x1⟩ := CELLS.out wr b0m
                  by_cases hlm : m < keys.length
                  · obtain ⟨p2, c5, hv2, hc2⟩ := (hu0.below bwm).at hlm
                    injection hv2 with hA2 hln2 hcc2
                    subst hA2
                    subst hcc2
                    clear hln2
                    have hmem := HIN.out _ (List.getElem_mem hlm)
                    have hs3 := numsF_snoc L keys hlm
                    have hct := atC_lt hmem
                    have hpi := posF_in hmem
                    rw [HLL.out] at hct
                    obtain ⟨s, hs⟩ : ∃ s, s = keys[m] := ⟨_, rfl⟩
                    rw [← hs] at hc2 hmem hs3 hct hpi
                    obtain ⟨ct, hctd⟩ : ∃ ct, ct = atC L s := ⟨_, rfl⟩
                    rw [← hctd] at hs3 hct hpi
                    have S3 := Lib.hid hs3; have HPI := Lib.hid hpi
                    clear hs hs3 hpi hctd hmem
                    have dm : decide ((m : Int) < keys.length) = true := decide_eq_true (by omega)
                    go_wp2_with fail
                    refine (refNames_any _ l _ (RdF.next h0 bwm) hl).mono ?_
                    rintro e w6 ⟨o, rfl, ho, b6⟩
                    rw [← HL.out] at ho
                    have hro := RdS.of_own ho
                    obtain ⟨oA, oc, rfl, -⟩ := hro.is
                    have hBm2 := hBm.trans (b6.mono hBm.size)
                    have bwm2 := bwm.trans (b6.mono bwm.size)
                    clear ho
                    have hcr2 : ct < r.length := by rw [HRL.out]; exact hct
                    obtain ⟨b', c7, hv3, r0, -, -, -⟩ := RdRV.at (RdF.next hrd0 hBm2) hcr2
                    injection hv3 with hA3 hln3 hcc3
                    subst hA3
                    subst hcc3
                    clear hln3
                    have hu : nullP r (ct : Int) = decide (r[ct].kind = 0) := by unfold nullP; rw [Int.toNat_natCast, getD_at hcr2]
                    obtain ⟨rk, hrk⟩ : ∃ y, y = r[ct].kind := ⟨_, rfl⟩
                    rw [← hrk] at hu r0
                    have icr : (ct : Int) < r.length := by omega
                    have HU := Lib.hid hu
                    clear hrk hu
                    go_wp2_with fail
                    refine (refAt_any _ L s _ hro).mono ?_
                    rintro e w7 ⟨rfl, rfl⟩
                    rw [HPI.out]
                    clear hro
                    by_cases e0 : rk = 0
                    · have d1 : (rk == 0) = true := by rw [beq_iff_eq]; exact e0
                      have hbad : ps.any (nullP r) = true := by
                        rw [HPS.out, List.any_eq_true]
                        refine ⟨(ct : Int), ?_, by rw [HU.out, decide_eq_true e0]⟩
                        have hm2 : (ct : Int) ∈ numsF L (keys.take (m + 1)) := by rw [S3.out]; simp
                        unfold numsF at hm2 ⊢
                        obtain ⟨s2, hs2, he⟩ := List.mem_map.1 hm2
                        exact List.mem_map.2 ⟨s2, List.mem_of_mem_take hs2, he⟩
                      have hy := HN2.out
                      rw [S2.out, rowF, if_neg (by simpa using HRL.out), if_pos hbad] at hy
                      subst hy
                      clear e0 hbad
                      go_wp2
                      exact HR.out _ _ ⟨rfl, bwm2⟩
                    · have d1 : (rk == 0) = false := by rw [beq_eq_false_iff_ne]; exact e0
                      have hm2 : (numsF L (keys.take (m + 1))).any (nullP r) = false := by
                        rw [S3.out, List.any_append, HM.out, List.any_cons, HU.out, decide_eq_false e0]
                        rfl
                      have M2 := Lib.hid hm2
                      clear e0 hm2
                      go_wp2
                      exact ⟨⟨m + 1, by omega, by go_num, M2.out, hBm2⟩, by simp [intOf]; omega⟩
                  · obtain rfl : m = keys.length := by omega
                    have hnn : ps.any (nullP r) = false := by rw [HPS.out, ← HM.out, List.take_length]
                    have HNN := Lib.hid hnn
                    have hkc : k ≤ c := by omega
                    obtain ⟨w6, rfl⟩ : ∃ w6 : World, w6 = wr := ⟨_, rfl⟩
                    clear hnn hlm
                    go_wp2
                    go_loopw [88] (fun j ws => ∃ m : Nat, m ≤ k ∧ j = .int .i64 m ∧ (t.take m).any (alikeP ps r) = false ∧ Below w6.heap.size w6 ws) (fun j _ => k - (intOf j).toNat)
                    case atStart => exact ⟨0, Nat.zero_le _, rfl, rfl, Below.refl _ _⟩
                    case round =>
                      obtain ⟨m, hm3, rfl, hM, hBn⟩ := hrel
                      have HM2 := Lib.hid hM
                      clear hM
                      have bwn := bwm.trans (hBn.mono bwm.size)
                      have b0n := b0m.trans (hBn.mono b0m.size)
                      have hBn5 := hBm.trans (hBn.mono hBm.size)
                      clear x0 x1
                      obtain ⟨x0, x1⟩ := CELLS.out wr b0n
                      by_cases hlm : m < k
                      · have dm : decide ((m : Int) < k) = true := decide_eq_true (by omega)
                        have hmt : m < t.length := by omega
                        obtain ⟨p2, c5, vx, hv2, hcx, hxd⟩ := (RdE.next (RdF.stays rvalV 4) g0 bwn).at hmt
                        injection hv2 with hA2 hln2 hcc2
                        injection hA2 with hA2
                        subst hA2
                        subst hcc2
                        clear hln2
                        have hxl : (t[m]).length = l.length := HA2.out _ (by rw [List.mem_take_iff_getElem]; exact ⟨m, by omega, rfl⟩)
                        have hs3 := any_take (alikeP ps r) t hmt
                        have hs4 : alikeP ps r t[m] = true → (t.take k).any (alikeP ps r) = true := fun hh => by
                          rw [List.any_eq_true]
                          exact ⟨t[m], by rw [List.mem_take_iff_getElem]; exact ⟨m, by omega, rfl⟩, hh⟩
                        obtain ⟨x, hx⟩ : ∃ x, x = t[m] := ⟨_, rfl⟩
                        rw [← hx] at hxd hxl hs3 hs4
                        have S3 := Lib.hid hs3; have S4 := Lib.hid hs4; have HXL := Lib.hid hxl
                        clear hx hs3 hs4 hxl
                        have hxd0 := hxd
                        obtain ⟨xA, xc, rfl, -⟩ := hxd.is
                        clear hxd
                        go_wp2_with fail
                        refine (refAlike_any _ _ _ _ l keys x r _ (RdF.next h0 bwn) (hu0.next bwn) hxd0 (RdF.next hrd0 hBn5) hl (by rw [← HL.out]; exact HIN.out) HXL.out HRL.out).mono ?_
                        rintro e w7 ⟨rfl, b7⟩
                        rw [← HL.out, ← HPS.out]
                        have hBn7 := hBn.trans (b7.mono hBn.size)
                        have bwn7 := bwn.trans (b7.mono bwn.size)
                        obtain ⟨tl, htl⟩ : ∃ tl, tl = alikeP ps r x := ⟨_, rfl⟩
                        rw [← htl]
                        have HTL := Lib.hid htl
                        clear htl
                        cases tl
                        · have hm2 : (t.take (m + 1)).any (alikeP ps r) = false := by rw [S3.out, HM2.out, ← HTL.out]; rfl
                          have M2 := Lib.hid hm2
                          clear hm2
                          go_wp2
                          exact ⟨⟨m + 1, by omega, by go_num, M2.out, hBn7⟩, by simp [intOf]; omega⟩
                        · have hy := HN2.out
                          rw [S2.out, rowF, if_neg (by simpa using HRL.out), if_neg (by rw [HNN.out]; simp), if_pos (S4.out HTL.out.symm)] at hy
                          subst hy
                          go_wp2
                          exact HR.out _ _ ⟨rfl, bwn7⟩
                      · obtain rfl : m = k := by omega
                        have hn3 : rowF l.length ps t (m + 1) (t.drop (m + 1)) = Y := by
                          have hy := HN2.out
                          rw [S2.out, rowF, if_neg (by simpa using HRL.out), if_neg (by rw [HNN.out]; simp), if_neg (by rw [HM2.out]; simp)] at hy
                          exact hy
                        have ha3 : ∀ x ∈ t.take (m + 1), x.length = l.length := by
                          rw [S1.out]
                          intro x hx
                          rcases List.mem_append.1 hx with hx | hx
                          · exact HA2.out x hx
                          · rw [List.mem_singleton.1 hx]; exact HRL.out
                        have N3 := Lib.hid hn3; have A3' := Lib.hid ha3
                        have hBf := hBr.trans (hBn5.mono hBr.size)
                        clear hn3 ha3 hlm
                        go_wp2
                        exact ⟨⟨m + 1, by omega, by go_num, N3.out, A3'.out, hBf⟩, by simp [intOf]; omega⟩
              · have dne : ((r.length : Int) != l.length) = true := by rw [bne_iff_ne]; omega
                have hy := HN2.out
                rw [S2.out, rowF, if_pos hrl] at hy
                subst hy
                go_wp2
                exact HR.out _ _ ⟨rfl, bwr2⟩
            · obtain rfl : k = t.length := by omega
              have hy := HN2.out
              rw [List.drop_length, rowF] at hy
              subst hy
              go_wp2
              exact HR.out _ _ ⟨rfl, bwr2⟩
  · have hy := HY.out
    rw [dchk_no (by rw [← HCN.out]; exact hce), ← HCN.out] at hy
    subst hy
    have dc : ((ce : Int) != 0) = true := by rw [bne_iff_ne]; omega
    go_wp2
    exact HR.out _ _ ⟨rfl, bw1⟩
end Go.Proofs.YtgiemhooeoakmaaDoor
