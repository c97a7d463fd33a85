/- Layer 13, the reference: Fits. -/
import Derived.Test.YtamhdlopchhdjaaTabX
namespace Go.Proofs.Ytamhdlopchhdjaa
open Go.RowKit Go.ChangeShapes Go.WideShapes
set_option linter.unusedVariables false
set_option linter.unusedSimpArgs false

theorem boolI_true : boolI true = 1 := rfl
theorem boolI_false : boolI false = 0 := rfl
set_option maxHeartbeats 4000000 in
theorem refFits_any (L F Rc : Int) (U : Bool) (v : Value) (t : Tbl) (w : World) (h : RdT w w.heap.size v t) :
    Calls Try.prog 26 #[.agg #[.int .i64 L, .int .i64 F, .int .i64 Rc, .int .i64 (boolI U)], v] w fun e w' => e = .returned (.tuple #[.int .i64 (fitT L F Rc U (t.headD []).length 0 t).1, .int .i64 (fitT L F Rc U (t.headD []).length 0 t).2.1, .int .i64 (fitT L F Rc U (t.headD []).length 0 t).2.2]) ∧ Below w.heap.size w w' := by
  refine cps fun R HR => ?_
  have X := Box.new w 50 #[.int .i64 L, .int .i64 F, .int .i64 Rc, .int .i64 (boolI U)]
  have bel := below_alloc1 w (.cells #[.int .i64 L, .int .i64 F, .int .i64 Rc, .int .i64 (boolI U)] 50)
  have h2 := h
  obtain ⟨A, c, vs, rfl, -, -⟩ := h.is
  have hfew := h2.few
  clear h
  obtain ⟨Y, hY⟩ : ∃ Y, Y = fitT L F Rc U (t.headD []).length 0 t := ⟨_, rfl⟩
  rw [← hY] at HR
  have HYY := Lib.hid hY; clear hY
  have ht1 := h2.next bel
  obtain ⟨ub, hub⟩ : ∃ ub, ub = boolI U := ⟨_, rfl⟩
  rw [← hub] at X bel ht1 ⊢
  have HUB := Lib.hid hub; clear hub
  obtain ⟨w1, hw1⟩ : ∃ w1, w1 = w.alloc (.cells #[.int .i64 L, .int .i64 F, .int .i64 Rc, .int .i64 ub] 50) := ⟨_, rfl⟩
  go_enter Try.func26, Try.ntmps26
  go_wp2
  rw [← hw1] at X bel ht1 ⊢
  clear hw1
  go_loopw [13] (fun i wr => ∃ k : Nat, k ≤ t.length ∧ i = .int .i64 k ∧ fitT L F Rc U (t.headD []).length k (t.drop k) = Y ∧ Below w1.heap.size w1 wr) (fun i _ => t.length - (intOf i).toNat)
  case atStart => exact ⟨0, Nat.zero_le _, rfl, HYY.out.symm, Below.refl _ _⟩
  case round =>
    obtain ⟨k, hk, rfl, hN, hB⟩ := hrel
    have HN := Lib.hid hN; clear hN
    by_cases hlt : k < t.length
    · obtain ⟨w3, rfl⟩ : ∃ w3 : World, w3 = wr := ⟨_, rfl⟩
      obtain ⟨p, c3, u, hv, hcA, hu⟩ := ht1.at hlt
      injection hv with hA _ hcc
      subst hA
      subst hcc
      obtain ⟨p', c3', u', hv', hcB, hu'⟩ := ht1.at (k := 0) (by omega)
      injection hv' with hA _ hcc
      injection hA with hA
      subst hA
      clear hcc
      have hadd : p.add 0 = p := by simp [Addr.add]
      rw [hadd] at hcB
      have hhead : t[0] = t.headD [] := by
        cases t with
        | nil => simp at hlt
        | cons x r => rfl
      have hd : t.drop k = t[k] :: t.drop (k + 1) := List.drop_eq_getElem_cons hlt
      obtain ⟨x, hx⟩ : ∃ x, x = t[k] := ⟨_, rfl⟩
      rw [← hx] at hu hd
      rw [hhead] at hu'
      obtain ⟨x0, hx0⟩ : ∃ x0, x0 = t.headD [] := ⟨_, rfl⟩
      rw [← hx0] at hu'
      obtain ⟨A3, c5, rfl, -⟩ := hu'.is
      have hx0f := hu'.few
      have hu0 := hu
      obtain ⟨A4, c6, rfl, -⟩ := hu.is
      have hxf := hu0.few
      have hfit : fitT L F Rc U (t.headD []).length k (t.drop k) = if (fitR L F Rc U k x x0.length).2 = 0 then fitT L F Rc U (t.headD []).length (k + 1) (t.drop (k + 1)) else (k, (fitR L F Rc U k x x0.length).1, (fitR L F Rc U k x x0.length).2) := by
        rw [hd, fitT, hx0]
      have HFIT := Lib.hid hfit
      clear hx hd hhead hx0 hu' hu hfit
      have hpa := World.block_lt_of_cell? w1 _ hcA
      have hpb := World.block_lt_of_cell? w1 _ hcB
      have hcw : ∀ v : World, Below w1.heap.size w1 v → v.cell? (p.add k) = some (.slice A4 x.length c6) ∧ v.cell? p = some (.slice A3 x0.length c5) := fun v hv => ⟨by rw [hv.cell (p := p.add k) hpa]; exact hcA, by rw [hv.cell (p := p) hpb]; exact hcB⟩
      have hc := (hcw w3 hB).1
      have HCW := Lib.hid hcw
      clear hcA hcB hcw
      have dk : decide ((k : Int) < t.length) = true := decide_eq_true (by omega)
      have h00 : 0 < t.length := by omega
      have X2 := X.below hB X.lt
      have k0 : w3.cell? ⟨w.heap.size, 0, none⟩ = some (.int .i64 L) := X2.cell 0
      have k1 : w3.cell? ⟨w.heap.size, 1, none⟩ = some (.int .i64 F) := X2.cell 1
      have k2 : w3.cell? ⟨w.heap.size, 2, none⟩ = some (.int .i64 Rc) := X2.cell 2
      have k3 : w3.cell? ⟨w.heap.size, 3, none⟩ = some (.int .i64 ub) := X2.cell 3
      by_cases q1 : Rc ≤ k
      · have hn := HN.out
        rw [HFIT.out, fitR, if_pos q1, if_neg (by omega)] at hn
        subst hn
        have d1 : decide (Rc ≤ (k : Int)) = true := decide_eq_true q1
        clear q1
        go_wp2
        refine bodyPost_ret (v := .tuple #[.int .i64 k, .int .i64 0, .int .i64 (9 : Nat)]) (by simp [results, Try.results26, go_sem]) rfl (HR.out _ _ ⟨rfl, bel.trans (hB.mono bel.size)⟩)
      have d1 : decide (Rc ≤ (k : Int)) = false := decide_eq_false q1
      by_cases q2 : F < x.length
      · have hn := HN.out
        rw [HFIT.out, fitR, if_neg q1, if_pos q2, if_neg (by omega)] at hn
        subst hn
        have d2 : decide (F < (x.length : Int)) = true := decide_eq_true q2
        clear q1 q2
        go_wp2
        go_quiet (fail)
        go_wp2
        refine bodyPost_ret (v := .tuple #[.int .i64 k, .int .i64 F, .int .i64 (8 : Nat)]) (by simp [results, Try.results26, go_sem]) rfl (HR.out _ _ ⟨rfl, below_drewN (bel.trans (hB.mono bel.size)) _⟩)
      have d2 : decide (F < (x.length : Int)) = false := decide_eq_false q2
      have hfr : fitR L F Rc U k x x0.length = if 0 ≤ idxF L 0 x then (idxF L 0 x, 7) else if U = true ∧ x.length ≠ x0.length then (0, 10) else (0, 0) := by
        rw [fitR, if_neg q1, if_neg q2]
      have HFR := Lib.hid hfr
      clear hfr q1 q2
      go_wp2
      go_loopw [33] (fun j wr => ∃ m : Nat, m ≤ x.length ∧ j = .int .i64 m ∧ idxF L m (x.drop m) = idxF L 0 x ∧ Below w1.heap.size w1 wr) (fun j _ => x.length - (intOf j).toNat)
      case atStart => exact ⟨0, Nat.zero_le _, rfl, rfl, hB⟩
      case round =>
        obtain ⟨m, hm, rfl, hI, hB2⟩ := hrel
        have HI := Lib.hid hI; clear hI
        have X3 := X.below hB2 X.lt
        clear k0 k1 k2 k3 hc
        have k0 : wr.cell? ⟨w.heap.size, 0, none⟩ = some (.int .i64 L) := X3.cell 0
        have k3 : wr.cell? ⟨w.heap.size, 3, none⟩ = some (.int .i64 ub) := X3.cell 3
        by_cases hlt2 : m < x.length
        · obtain ⟨p3, c7, hv3, hc3⟩ := (hu0.next hB2).at hlt2
          injection hv3 with hA _ hcc
          subst hA
          subst hcc
          have hd3 : x.drop m = x[m] :: x.drop (m + 1) := List.drop_eq_getElem_cons hlt2
          obtain ⟨s, hs⟩ : ∃ s, s = x[m] := ⟨_, rfl⟩
          rw [← hs] at hc3 hd3
          clear hs
          have dm : decide ((m : Int) < x.length) = true := decide_eq_true (by omega)
          by_cases hq : L < s.size
          · have hn := HN.out
            have hi := HI.out
            rw [hd3, idxF, if_pos hq] at hi
            have hfr := HFR.out
            rw [← hi, if_pos (show (0 : Int) ≤ (m : Int) by omega)] at hfr
            rw [HFIT.out, hfr, if_neg (show ¬ (7 : Nat) = 0 by omega)] at hn
            subst hn
            have d3 : decide (L < (s.size : Int)) = true := decide_eq_true hq
            clear hq hi hd3 hfr
            go_wp2
            refine bodyPost_ret (v := .tuple #[.int .i64 k, .int .i64 m, .int .i64 (7 : Nat)]) (by simp [results, Try.results26, go_sem]) rfl (HR.out _ _ ⟨rfl, bel.trans (hB2.mono bel.size)⟩)
          · have hi : idxF L (m + 1) (x.drop (m + 1)) = idxF L 0 x := by rw [← HI.out, hd3, idxF, if_neg hq]
            have HI2 := Lib.hid hi
            have d3 : decide (L < (s.size : Int)) = false := decide_eq_false hq
            clear hq hi hd3
            go_wp2
            exact ⟨⟨m + 1, by omega, by go_num, HI2.out, hB2⟩, by simp [intOf]; omega⟩
        · have hi := HI.out
          rw [List.drop_of_length_le (by omega), idxF] at hi
          have hq0 := (HCW.out wr hB2).2
          have hfr := HFR.out
          rw [← hi, if_neg (by omega)] at hfr
          have hub := HUB.out
          clear hi
          cases U with
          | false =>
            rw [boolI_false] at hub
            subst hub
            rw [if_neg (by simp)] at hfr
            have hn : fitT L F Rc false (t.headD []).length (k + 1) (t.drop (k + 1)) = Y := by rw [← HN.out, HFIT.out, hfr, if_pos rfl]
            have HNN := Lib.hid hn
            clear hn hfr
            go_wp2
            exact ⟨⟨k + 1, by omega, by go_num, HNN.out, hB2⟩, by simp [intOf]; omega⟩
          | true =>
            rw [boolI_true] at hub
            subst hub
            by_cases q4 : x.length = x0.length
            · rw [if_neg (by simp [q4])] at hfr
              have hn : fitT L F Rc true (t.headD []).length (k + 1) (t.drop (k + 1)) = Y := by rw [← HN.out, HFIT.out, hfr, if_pos rfl]
              have HNN := Lib.hid hn
              have d4 : ((x.length : Int) != (x0.length : Int)) = false := by simp [q4]
              clear hn hfr q4
              go_wp2
              exact ⟨⟨k + 1, by omega, by go_num, HNN.out, hB2⟩, by simp [intOf]; omega⟩
            · rw [if_pos ⟨rfl, q4⟩] at hfr
              have hn := HN.out
              rw [HFIT.out, hfr, if_neg (by omega)] at hn
              subst hn
              have d4 : ((x.length : Int) != (x0.length : Int)) = true := by rw [bne_iff_ne]; omega
              clear q4 hfr
              go_wp2
              refine bodyPost_ret (v := .tuple #[.int .i64 k, .int .i64 0, .int .i64 (10 : Nat)]) (by simp [results, Try.results26, go_sem]) rfl (HR.out _ _ ⟨rfl, bel.trans (hB2.mono bel.size)⟩)
    · have hn : Y = (0, 0, 0) := by
        rw [← HN.out, List.drop_of_length_le (by omega), fitT]
      subst hn
      go_wp2
      refine bodyPost_ret (v := .tuple #[.int .i64 0, .int .i64 0, .int .i64 (0 : Nat)]) (by simp [results, Try.results26, go_sem]) rfl (HR.out _ _ ⟨rfl, bel.trans (hB.mono bel.size)⟩)
end Go.Proofs.Ytamhdlopchhdjaa
