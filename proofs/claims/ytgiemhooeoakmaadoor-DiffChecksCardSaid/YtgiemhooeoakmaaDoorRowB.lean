/- Layer 20, the reference: are two rows, two tables alike? -/
import Derived.Test.YtgiemhooeoakmaaDoorRowA
import Derived.Laws.StructEq
namespace Go.Proofs.YtgiemhooeoakmaaDoor
open Go.RowKit Go.ChangeShapes Go.WideShapes
set_option linter.unusedVariables false
set_option linter.unusedSimpArgs false

def sameV (a b : VRow) : Bool := decide (a = b)
def sameVT (a b : VTab) : Bool := decide (a = b)
theorem sameVR (a : VRow) : sameV a a = true := decide_eq_true rfl
theorem sameVTR (a : VTab) : sameVT a a = true := decide_eq_true rfl
set_option maxHeartbeats 2000000 in
theorem sameV_any (v1 v2 : Value) (a b : VRow) (w : World) (h1 : RdRV w w.heap.size v1 a) (h2 : RdRV w w.heap.size v2 b) :
    Calls Tryd.prog 33 #[v1, v2] w fun e w' => e = .returned (.bool (sameV a b)) ∧ Below w.heap.size w w' := by
  refine cps fun R HR => ?_
  have g1 := h1; have g2 := h2
  obtain ⟨A, c, rfl, -⟩ := h1.is
  obtain ⟨A', c', rfl, -⟩ := h2.is
  have hf1 := RdF.few g1
  have hf2 := RdF.few g2
  clear h1 h2
  go_enter Tryd.func33, Tryd.ntmps33
  by_cases hl : a.length = b.length
  · have d : ((a.length : Int) != (b.length : Int)) = false := by simp [hl]
    have HL := Lib.hid hl
    go_wp2
    go_loopw [13] (fun i wr => ∃ k : Nat, k ≤ a.length ∧ i = .int .i64 k ∧ a.take k = b.take k ∧ Below w.heap.size w wr) (fun i _ => a.length - (intOf i).toNat)
    case atStart => exact ⟨0, Nat.zero_le _, rfl, rfl, Below.refl _ _⟩
    case round =>
      obtain ⟨k, hk, rfl, hN, hB⟩ := hrel
      have HN := Lib.hid hN; clear hN
      by_cases hlt : k < a.length
      · have hltb : k < b.length := by omega
        obtain ⟨p, c3, hv, q0, q1, q2, q3⟩ := RdRV.at (g1.below hB) hlt
        injection hv with hA _ hcc
        subst hA
        subst hcc
        obtain ⟨p', c4, hv', r0, r1, r2, r3⟩ := RdRV.at (g2.below hB) hltb
        injection hv' with hA _ hcc
        subst hA
        subst hcc
        have hs1 : a.take (k + 1) = a.take k ++ [a[k]] := List.take_succ_eq_append_getElem hlt
        have hs2 : b.take (k + 1) = b.take k ++ [b[k]] := List.take_succ_eq_append_getElem hltb
        obtain ⟨x, hx⟩ : ∃ x, x = a[k] := ⟨_, rfl⟩
        obtain ⟨y, hy⟩ : ∃ y, y = b[k] := ⟨_, rfl⟩
        rw [← hx] at q0 q1 q2 q3 hs1
        rw [← hy] at r0 r1 r2 r3 hs2
        obtain ⟨xk, xs, xn, xb⟩ := x
        obtain ⟨yk, ys, yn, yb⟩ := y
        have S1 := Lib.hid hs1; have S2 := Lib.hid hs2
        clear hx hy hs1 hs2 hl
        have dk : decide ((k : Int) < a.length) = true := decide_eq_true (by omega)
        have hltI : (k : Int) < b.length := by omega
        have hne : (⟨xk, xs, xn, xb⟩ : Val) ≠ ⟨yk, ys, yn, yb⟩ → sameV a b = false := fun hne => by
          unfold sameV
          rw [decide_eq_false_iff_not]
          intro hab
          have h1 := S1.out
          have h2 := S2.out
          rw [hab, h2] at h1
          have h3 := HN.out
          rw [hab] at h3
          exact hne (by simpa using h1.symm)
        have HNE := Lib.hid hne
        clear hne
        by_cases e0 : xk = yk
        · by_cases e1 : xs = ys
          · by_cases e2 : xn = yn
            · by_cases e3 : xb = yb
              · subst e0 e1 e2 e3
                have HNN := Lib.hid (show a.take (k + 1) = b.take (k + 1) by rw [S1.out, S2.out, HN.out])
                go_wp2
                go_quiet (fail)
                go_wp2
                exact ⟨⟨k + 1, by omega, by go_num, HNN.out, below_drewN hB _⟩, by simp [intOf]; omega⟩
              · subst e0 e1 e2
                have HNO := Lib.hid (HNE.out (fun h => by injection h with _ _ _ h; exact e3 h))
                have d4 : (nullI xb == nullI yb) = false := by rw [beq_eq_false_iff_ne]; exact fun h => e3 (nullI_inj h)
                clear e3
                go_wp2
                go_quiet (fail)
                go_wp2
                exact HR.out _ _ ⟨by rw [HNO.out]; try rfl, below_drewN hB _⟩
            · subst e0 e1
              have HNO := Lib.hid (HNE.out (fun h => by injection h with _ _ h _; exact e2 h))
              have d3 : (xn == yn) = false := by rw [beq_eq_false_iff_ne]; exact e2
              clear e2
              go_wp2
              go_quiet (fail)
              go_wp2
              exact HR.out _ _ ⟨by rw [HNO.out]; try rfl, below_drewN hB _⟩
          · subst e0
            have HNO := Lib.hid (HNE.out (fun h => by injection h with _ h _ _; exact e1 h))
            have d2 : (xs.toList == ys.toList) = false := by rw [str_eq]; exact decide_eq_false e1
            clear e1
            go_wp2
            go_quiet (fail)
            go_wp2
            exact HR.out _ _ ⟨by rw [HNO.out]; try rfl, below_drewN hB _⟩
        · have HNO := Lib.hid (HNE.out (fun h => by injection h with h _ _ _; exact e0 h))
          have d1 : (xk == yk) = false := by rw [beq_eq_false_iff_ne]; exact e0
          clear e0
          go_wp2
          go_quiet (fail)
          go_wp2
          exact HR.out _ _ ⟨by rw [HNO.out]; try rfl, below_drewN hB _⟩
      · have HY := Lib.hid (show sameV a b = true by
          unfold sameV
          rw [decide_eq_true_iff]
          have := HN.out
          rw [List.take_of_length_le (by omega), List.take_of_length_le (by omega)] at this
          exact this)
        go_wp2
        exact HR.out _ _ ⟨by rw [HY.out]; try rfl, hB⟩
  · have HNO := Lib.hid (show sameV a b = false by
      unfold sameV
      rw [decide_eq_false_iff_not]
      rintro rfl
      exact hl rfl)
    have d : ((a.length : Int) != (b.length : Int)) = true := by rw [bne_iff_ne]; omega
    clear hl
    go_wp2
    exact HR.out _ _ ⟨by rw [HNO.out]; try rfl, Below.refl _ _⟩
set_option maxHeartbeats 1000000 in
theorem sameVT_any (v1 v2 : Value) (a b : VTab) (w : World) (h1 : RdRVT w w.heap.size v1 a) (h2 : RdRVT w w.heap.size v2 b) :
    Calls Tryd.prog 29 #[v1, v2] w fun e w' => e = .returned (.bool (sameVT a b)) ∧ Below w.heap.size w w' := by
  refine cps fun R HR => ?_
  have g1 := h1; have g2 := h2
  obtain ⟨A, c, vs, rfl, -, -⟩ := h1.is
  obtain ⟨A', c', vs', rfl, -, -⟩ := h2.is
  have hf1 := h1.few
  have hf2 := h2.few
  go_enter Tryd.func29, Tryd.ntmps29
  by_cases hl : a.length = b.length
  · have d : ((a.length : Int) != (b.length : Int)) = false := by simp [hl]
    go_wp2
    go_loopw [13] (fun i wr => ∃ k : Nat, k ≤ a.length ∧ i = .int .i64 k ∧ a.take k = b.take k ∧ Below w.heap.size w wr) (fun i _ => a.length - (intOf i).toNat)
    case atStart => exact ⟨0, Nat.zero_le _, rfl, rfl, Below.refl _ _⟩
    case round =>
      obtain ⟨k, hk, rfl, hN, hB⟩ := hrel
      have HN := Lib.hid hN; clear hN
      by_cases hlt : k < a.length
      · have hltb : k < b.length := by omega
        obtain ⟨p, c3, u, hv, hc, hu⟩ := (RdE.next (RdF.stays rvalV 4) g1 hB).at hlt
        injection hv with hA _ hcc
        subst hA
        subst hcc
        obtain ⟨p', c4, u', hv', hc', hu'⟩ := (RdE.next (RdF.stays rvalV 4) g2 hB).at hltb
        injection hv' with hA _ hcc
        subst hA
        subst hcc
        have hs1 : a.take (k + 1) = a.take k ++ [a[k]] := List.take_succ_eq_append_getElem hlt
        have hs2 : b.take (k + 1) = b.take k ++ [b[k]] := List.take_succ_eq_append_getElem hltb
        obtain ⟨x, hx⟩ : ∃ x, x = a[k] := ⟨_, rfl⟩
        obtain ⟨y, hy⟩ : ∃ y, y = b[k] := ⟨_, rfl⟩
        rw [← hx] at hu hs1
        rw [← hy] at hu' hs2
        have S1 := Lib.hid hs1; have S2 := Lib.hid hs2; have HL := Lib.hid hl
        clear hx hy hs1 hs2 hl h1 h2
        have dk : decide ((k : Int) < a.length) = true := decide_eq_true (by omega)
        have hltI : (k : Int) < b.length := by omega
        have k0 := cell_regrown hc
        have k1 := cell_regrown hc'
        obtain ⟨s, hs⟩ : ∃ s, s = sameV x y := ⟨_, rfl⟩
        have gS : ∀ dn os, Calls Tryd.prog 33 #[u, u'] (Go.Sort.grow (redrawn wr dn) os) fun e w'' => e = .returned (.bool s) ∧ ∃ p : Regrown, w'' = Go.Sort.grow (redrawn wr p.d) p.os := fun dn os => Calls.regrown_of (by
          rw [hs]
          exact sameV_any u u' x y _ (hu.next (below_regrown wr dn os)) (hu'.next (below_regrown wr dn os)))
        have HS := Lib.hid hs; clear hs
        go_wp2
        refine wp_region_quiet_below (by kernel_rfl) (by kernel_rfl) ?_
        repeat (go_big_quiet_step ((go_at_call 33; with_reducible exact gS _ _)))
        refine wpQuiet_nil ?_
        intro w9 hw9
        have bel2 : Below w.heap.size w w9 := by obtain ⟨p, rfl⟩ := hw9; exact hB.trans ((below_regrown _ p.d p.os).mono hB.size)
        clear hw9 gS k0 k1
        cases s with
        | true =>
          have HNN := Lib.hid (show a.take (k + 1) = b.take (k + 1) by rw [S1.out, S2.out, HN.out, of_decide_eq_true HS.out.symm])
          go_wp2
          exact ⟨⟨k + 1, by omega, by go_num, HNN.out, bel2⟩, by simp [intOf]; omega⟩
        | false =>
          have HNO := Lib.hid (show sameVT a b = false by
            unfold sameVT
            rw [decide_eq_false_iff_not]
            intro hab
            have h1 := S1.out
            have h2 := S2.out
            rw [hab, h2] at h1
            have h3 := HN.out
            rw [hab] at h3
            exact of_decide_eq_false HS.out.symm (by simpa using h1.symm))
          go_wp2
          exact HR.out _ _ ⟨by rw [HNO.out]; try rfl, bel2⟩
      · have HY := Lib.hid (show sameVT a b = true by
          unfold sameVT
          rw [decide_eq_true_iff]
          have := HN.out
          rw [List.take_of_length_le (by omega), List.take_of_length_le (by omega)] at this
          exact this)
        go_wp2
        exact HR.out _ _ ⟨by rw [HY.out]; try rfl, hB⟩
  · have HNO := Lib.hid (show sameVT a b = false by
      unfold sameVT
      rw [decide_eq_false_iff_not]
      rintro rfl
      exact hl rfl)
    have d : ((a.length : Int) != (b.length : Int)) = true := by rw [bne_iff_ne]; omega
    clear hl
    go_wp2
    exact HR.out _ _ ⟨by rw [HNO.out]; try rfl, Below.refl _ _⟩
end Go.Proofs.YtgiemhooeoakmaaDoor
