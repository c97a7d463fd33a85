/- Layer 25, the reference: alike. -/
import Derived.Test.YtgiemhooeoakmaaDoorDifD
import Derived.Test.YtgiemhooeoakmaaDoorRowB
import Derived.Test.YtgiemhooeoakmaaDoorSchB
namespace Go.Proofs.YtgiemhooeoakmaaDoor
open Go.RowKit Go.ChangeShapes Go.WideShapes
set_option linter.unusedVariables false
set_option linter.unusedSimpArgs false

set_option maxHeartbeats 4000000 in
theorem refAlike_any (v z va vb : Value) (l : List Col) (keys : Row) (x r : VRow) (w : World) (h : RdRC w w.heap.size v l) (hz : RdS w w.heap.size z keys) (ha : RdRV w w.heap.size va x) (hb : RdRV w w.heap.size vb r) (hl : l.length ≤ 100000) (hin : ∀ k ∈ keys, k ∈ namesC l) (hx : x.length = l.length) (hr : r.length = l.length) :
    Calls Tryd.prog 66 #[v, z, va, vb] w fun e w' => e = .returned (.bool (alikeP (numsF (namesC l) keys) r x)) ∧ Below w.heap.size w w' := by
  refine cps fun R HR => ?_
  have h0 := h
  have hz0 := hz
  have ha0 := ha
  have hb0 := hb
  obtain ⟨A1, c1, rfl, -⟩ := h.is
  obtain ⟨A, c, rfl, -⟩ := hz.is
  obtain ⟨A3, c3, rfl, -⟩ := ha.is
  obtain ⟨A4, c4, rfl, -⟩ := hb.is
  have hfx := RdF.few ha0
  have hfr := RdF.few hb0
  have hfk := hz0.few
  obtain ⟨Y, hY⟩ : ∃ Y, Y = (numsF (namesC l) keys).any (unP x r) := ⟨_, rfl⟩
  have hal : alikeP (numsF (namesC l) keys) r x = !Y := by rw [hY]; rfl
  rw [hal] at HR
  have HY := Lib.hid hY; have HIN := Lib.hid hin; have HXL := Lib.hid hx; have HRL := Lib.hid hr
  clear h hz ha hb hY hal hin hx hr
  go_enter Tryd.func66, Tryd.ntmps66
  go_wp2
  go_loopw [14] (fun i wr => ∃ k : Nat, k ≤ keys.length ∧ i = .int .i64 k ∧ (numsF (namesC l) (keys.take k)).any (unP x r) = false ∧ Below w.heap.size w wr) (fun i _ => keys.length - (intOf i).toNat)
  case atStart => exact ⟨0, Nat.zero_le _, rfl, rfl, Below.refl _ _⟩
  case round =>
    obtain ⟨k, hk, rfl, hN, hB⟩ := hrel
    have HN := Lib.hid hN
    clear hN
    by_cases hlt : k < keys.length
    · obtain ⟨p, c5, hv, hc⟩ := (hz0.below hB).at hlt
      injection hv with hA hln hcc
      subst hA
      subst hcc
      clear hln
      have hmem := HIN.out _ (List.getElem_mem hlt)
      have hs3 := numsF_snoc (namesC l) keys hlt
      have hct := atC_lt hmem
      have hpi := posF_in hmem
      rw [namesC_len] at hct
      obtain ⟨s, hs⟩ : ∃ s, s = keys[k] := ⟨_, rfl⟩
      rw [← hs] at hc hmem hs3 hct hpi
      obtain ⟨ct, hctd⟩ : ∃ ct, ct = atC (namesC l) s := ⟨_, rfl⟩
      rw [← hctd] at hs3 hct hpi
      have S3 := Lib.hid hs3; have HPI := Lib.hid hpi
      clear hs hs3 hpi hctd hmem
      have dk : decide ((k : Int) < keys.length) = true := decide_eq_true (by omega)
      go_wp2_with fail
      refine (refNames_any _ l _ (RdF.next h0 hB) hl).mono ?_
      rintro e w2 ⟨o, rfl, ho, b2⟩
      have hro := RdS.of_own ho
      obtain ⟨oA, oc, rfl, -⟩ := hro.is
      have hB2 := hB.trans (b2.mono hB.size)
      have hcx : ct < x.length := by rw [HXL.out]; exact hct
      have hcr : ct < r.length := by rw [HRL.out]; exact hct
      obtain ⟨a', c6, hv1, q0, q1, q2, q3⟩ := RdRV.at (ha0.below hB2) hcx
      injection hv1 with hA hln hcc
      subst hA
      subst hcc
      clear hln
      obtain ⟨b', c7, hv2, r0, r1, r2, r3⟩ := RdRV.at (hb0.below hB2) hcr
      injection hv2 with hA hln hcc
      subst hA
      subst hcc
      clear hln
      have hu : unP x r (ct : Int) = !decide (x[ct] = r[ct]) := by unfold unP; rw [Int.toNat_natCast, getD_at hcx, getD_at hcr]
      obtain ⟨xx, hxx⟩ : ∃ y, y = x[ct] := ⟨_, rfl⟩
      obtain ⟨rr, hrr⟩ : ∃ y, y = r[ct] := ⟨_, rfl⟩
      rw [← hxx, ← hrr] at hu
      rw [← hxx] at q0 q1 q2 q3
      rw [← hrr] at r0 r1 r2 r3
      have icx : (ct : Int) < x.length := by omega
      have icr : (ct : Int) < r.length := by omega
      have HU := Lib.hid hu
      clear hxx hrr hu
      obtain ⟨xk, xs, xn, xb⟩ := xx
      obtain ⟨rk, rs, rn, rb⟩ := rr
      go_wp2_with fail
      refine (refAt_any _ (namesC l) s _ hro).mono ?_
      rintro e w3 ⟨rfl, rfl⟩
      rw [HPI.out]
      clear hro ho
      have hbad : (⟨xk, xs, xn, xb⟩ : Val) ≠ ⟨rk, rs, rn, rb⟩ → Y = true := fun hne => by
        rw [HY.out, List.any_eq_true]
        refine ⟨(ct : Int), ?_, by rw [HU.out, decide_eq_false hne]; rfl⟩
        have hm : (ct : Int) ∈ numsF (namesC l) (keys.take (k + 1)) := by rw [S3.out]; simp
        unfold numsF at hm ⊢
        obtain ⟨s2, hs2, he⟩ := List.mem_map.1 hm
        exact List.mem_map.2 ⟨s2, List.mem_of_mem_take hs2, he⟩
      have HBAD := Lib.hid hbad
      clear hbad
      by_cases e0 : xk = rk
      · by_cases e1 : xs = rs
        · by_cases e2 : xn = rn
          · by_cases e3 : xb = rb
            · subst e0 e1 e2 e3
              have hn2 : (numsF (namesC l) (keys.take (k + 1))).any (unP x r) = false := by
                rw [S3.out, List.any_append, HN.out, List.any_cons, HU.out, decide_eq_true rfl]
                rfl
              have HNN := Lib.hid hn2
              clear hn2
              go_wp2
              go_quiet (fail)
              go_wp2
              exact ⟨⟨k + 1, by omega, by go_num, HNN.out, below_drewN hB2 _⟩, by simp [intOf]; omega⟩
            · have hy := HBAD.out (fun h => by injection h with _ _ _ h; exact e3 h)
              subst e0 e1 e2 hy
              have d4 : (nullI xb == nullI rb) = false := by rw [beq_eq_false_iff_ne]; exact fun h => e3 (nullI_inj h)
              clear e3
              go_wp2
              go_quiet (fail)
              go_wp2
              exact HR.out _ _ ⟨rfl, below_drewN hB2 _⟩
          · have hy := HBAD.out (fun h => by injection h with _ _ h _; exact e2 h)
            subst e0 e1 hy
            have d3 : (xn == rn) = false := by rw [beq_eq_false_iff_ne]; exact e2
            clear e2
            go_wp2
            go_quiet (fail)
            go_wp2
            exact HR.out _ _ ⟨rfl, below_drewN hB2 _⟩
        · have hy := HBAD.out (fun h => by injection h with _ h _ _; exact e1 h)
          subst e0 hy
          have d2 : (xs.toList == rs.toList) = false := by rw [str_eq]; exact decide_eq_false e1
          clear e1
          go_wp2
          go_quiet (fail)
          go_wp2
          exact HR.out _ _ ⟨rfl, below_drewN hB2 _⟩
      · have hy := HBAD.out (fun h => by injection h with h _ _ _; exact e0 h)
        subst hy
        have d1 : (xk == rk) = false := by rw [beq_eq_false_iff_ne]; exact e0
        clear e0
        go_wp2
        go_quiet (fail)
        go_wp2
        exact HR.out _ _ ⟨rfl, below_drewN hB2 _⟩
    · obtain rfl : k = keys.length := by omega
      have hy : Y = false := by rw [HY.out, ← HN.out, List.take_length]
      subst hy
      go_wp2
      exact HR.out _ _ ⟨rfl, hB⟩
end Go.Proofs.YtgiemhooeoakmaaDoor
