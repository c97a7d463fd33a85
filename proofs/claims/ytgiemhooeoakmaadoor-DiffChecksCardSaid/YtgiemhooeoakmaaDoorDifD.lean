/- Layer 25: diff.Check. -/
import Derived.Test.YtgiemhooeoakmaaDoorDifC
namespace Go.Proofs.YtgiemhooeoakmaaDoor
open Go.RowKit Go.ChangeShapes Go.WideShapes
set_option linter.unusedVariables false
set_option linter.unusedSimpArgs false

/-- The first row that may not be, so many being behind; the error's number. -/
def rowF (n : Nat) (ps : List Int) (t : VTab) : Nat → VTab → Nat × Nat
  | j, [] => (j, 0)
  | j, r :: rest => if r.length ≠ n then (j, 10) else if ps.any (nullP r) then (j, 20) else if (t.take j).any (alikeP ps r) then (j, 15) else rowF n ps t (j + 1) rest
def dchk (l : List Col) (keys : Row) (t : VTab) : Nat × Nat := if (plC l keys).2 ≠ 0 then plC l keys else rowF l.length (numsF (namesC l) keys) t 0 t
theorem plC_keys {l : List Col} {keys : Row} (h : (plC l keys).2 = 0) : ∀ p ∈ numsF (namesC l) keys, 0 ≤ p ∧ p < l.length := by
  unfold plC at h
  split at h
  · rename_i h1; exact absurd h h1
  · split at h
    · cases h
    · have hk := (plF_len _ _ _ _ h).2
      intro p hp
      obtain ⟨s, hs, rfl⟩ := List.mem_map.1 hp
      have := atC_lt (hk s hs)
      rw [namesC_len] at this
      omega
theorem findP_ge (ps : List Int) (r : VRow) (t : VTab) : decide (0 ≤ findP ps r t) = t.any (alikeP ps r) := idxP_any _ _ _
theorem numsF_len (names keys : Row) : (numsF names keys).length = keys.length := by unfold numsF; rw [List.length_map]
set_option maxHeartbeats 4000000 in
theorem dcheck_any (v u z : Value) (l : List Col) (t : VTab) (keys : Row) (w : World) (h : RdC w w.heap.size v l) (h2 : RdVT w w.heap.size u t) (hu : RdS w w.heap.size z keys) (hl : l.length ≤ 100000) (ht : t.length ≤ 100000) (hk : keys.length ≤ 100000) (hc : ∀ c ∈ l, c.name.size ≤ 100000) (hT : Tab w) :
    Calls Tryd.prog 16 #[.agg #[v, u], z] w fun e w' => e = .returned (.tuple #[.int .i64 (dchk l keys t).1, .int .i64 (dchk l keys t).2]) ∧ Below w.heap.size w w' := by
  refine cps fun R HR => ?_
  have h0 := h
  have g0 := h2
  have hu0 := hu
  obtain ⟨A1, c1, rfl, -⟩ := h.is
  obtain ⟨A, c, vs, rfl, -, -⟩ := h2.is
  obtain ⟨A3, c3, rfl, -⟩ := hu.is
  have hfl := RdF.few h0
  have hft := g0.few
  have hfk := hu0.few
  clear h h2 hu
  obtain ⟨Y, hY⟩ : ∃ Y, Y = dchk l keys t := ⟨_, rfl⟩
  rw [← hY] at HR
  unfold dchk at hY
  obtain ⟨P, hP⟩ : ∃ P, P = plC l keys := ⟨_, rfl⟩
  have hO : plO l keys = if P.2 = 0 then numsF (namesC l) keys else [] := by rw [hP]; rfl
  have hps := fun (h : P.2 = 0) => plC_keys (l := l) (keys := keys) (by rw [← hP]; exact h)
  rw [← hP] at hY
  obtain ⟨w0, hw0⟩ : ∃ w0, w0 = w.alloc (.cells #[.slice A1 l.length c1, .slice A t.length c] 25) := ⟨_, rfl⟩
  have bw0 : Below w.heap.size w w0 := by rw [hw0]; exact (Below.refl _ _).alloc (Nat.le_refl _) _
  have X := Box.new w 25 #[.slice A1 l.length c1, .slice A t.length c]
  rw [← hw0] at X
  have HX := Lib.hid X; have HW0 := Lib.hid hw0; have HB0 := Lib.hid bw0; have HY := Lib.hid hY; have HP := Lib.hid hP; have HO := Lib.hid hO; have HPS := Lib.hid hps
  have HC := Lib.hid hc; have HT := Lib.hid hT
  clear X hw0 bw0 hY hP hO hps hc hT
  go_enter Tryd.func16, Tryd.ntmps16
  go_wp2_with fail
  rw [← HW0.out]
  refine (places_any _ _ l keys _ (RdF.next h0 HB0.out) (hu0.next HB0.out) hl hk HC.out (HT.out.below HB0.out)).mono ?_
  rintro e w1 ⟨o, rfl, ho, b1⟩
  rw [← HP.out]
  rw [HO.out] at ho
  have bw1 := HB0.out.trans (b1.mono HB0.out.size)
  obtain ⟨P1, P2⟩ := P
  by_cases hp2 : P2 = 0
  · subst hp2
    rw [if_pos rfl] at ho
    have hPS := HPS.out rfl
    have hy := HY.out
    rw [if_neg (by simp)] at hy
    obtain ⟨ps, hpsd⟩ : ∃ ps, ps = numsF (namesC l) keys := ⟨_, rfl⟩
    have hpl : ps.length = keys.length := by rw [hpsd, numsF_len]
    rw [← hpsd] at ho hPS hy
    have hri := RdI.of_own ho
    obtain ⟨oA, oc, rfl, -⟩ := hri.is
    have HRI := Lib.hid hri; have HPP := Lib.hid hPS; have HY2 := Lib.hid hy; have HPL := Lib.hid hpl
    have X1 := HX.out.below b1 HX.out.lt
    have x0 := X1.cell 0
    have x1 := X1.cell 1
    simp at x0 x1
    have HX1 := Lib.hid X1
    have hx1lt := X1.lt
    clear hri hPS hy ho hpsd hpl X1
    go_wp2
    go_loopw [26] (fun i wr => ∃ k : Nat, k ≤ t.length ∧ i = .int .i64 k ∧ rowF l.length ps t k (t.drop k) = Y ∧ (∀ x ∈ t.take k, x.length = l.length) ∧ Below w1.heap.size w1 wr) (fun i _ => t.length - (intOf i).toNat)
    case atStart => exact ⟨0, Nat.zero_le _, rfl, HY2.out.symm, (fun x hx => by simp at hx), Below.refl _ _⟩
    case round =>
      obtain ⟨k, hk2, rfl, hN, hA, hBr⟩ := hrel
      have HN := Lib.hid hN; have HA := Lib.hid hA
      have bwr := bw1.trans (hBr.mono bw1.size)
      clear hN hA
      have X2 := HX1.out.below hBr HX1.out.lt
      have x2 := X2.cell 0
      have x3 := X2.cell 1
      simp at x2 x3
      have hgr : w.heap.size < wr.heap.size := X2.lt
      have HX2 := Lib.hid X2
      clear X2 x0 x1
      by_cases hlt : k < t.length
      · have dk : decide ((k : Int) < t.length) = true := decide_eq_true (by omega)
        obtain ⟨p, c4, vr, hv, hcr, hrd⟩ := (RdE.next (RdF.stays valV 4) g0 bwr).at hlt
        injection hv with hAA hln hcc
        subst hAA
        subst hcc
        clear hln
        have hs2 : t.drop k = t[k] :: t.drop (k + 1) := List.drop_eq_getElem_cons hlt
        have hs1 : t.take (k + 1) = t.take k ++ [t[k]] := List.take_succ_eq_append_getElem hlt
        obtain ⟨r, hr⟩ : ∃ r, r = t[k] := ⟨_, rfl⟩
        rw [← hr] at hrd hs2 hs1
        have S1 := Lib.hid hs1; have S2 := Lib.hid hs2
        clear hr hs1 hs2
        have hrd0 := hrd
        obtain ⟨rA, rc, rfl, -⟩ := hrd.is
        have hfr := RdF.few hrd0
        clear hrd
        have hgs : wr.heap.size < (wr.alloc (.cells #[.slice rA r.length rc] 61)).heap.size := by simp
        have Q := Box.new wr 61 #[.slice rA r.length rc]
        have bq : Below wr.heap.size wr (wr.alloc (.cells #[.slice rA r.length rc] 61)) := (Below.refl _ _).alloc (Nat.le_refl _) _
        obtain ⟨wq, hwq⟩ : ∃ wq, wq = wr.alloc (.cells #[.slice rA r.length rc] 61) := ⟨_, rfl⟩
        rw [← hwq] at Q bq
        have HWQ := Lib.hid hwq; have HQ := Lib.hid Q; have HBQ := Lib.hid bq
        clear hwq Q bq hgs
        by_cases hrl : r.length = l.length
        · have dne : ((r.length : Int) != l.length) = false := by rw [hrl]; simp
          have HRL := Lib.hid hrl
          clear hrl
          go_wp2_with fail
          rw [← HWQ.out]
          have bq0 := hBr.trans (HBQ.out.mono hBr.size)
          refine (anyNull_any _ _ ps (nullP r) _ ((HRI.out.next hBr).next HBQ.out) (fun x hx wk hbk => null1_any _ _ r x wk ((HQ.out.below hbk HQ.out.lt).cell 0) (RdF.next (RdF.next hrd0 HBQ.out) hbk) (HPP.out x hx).1 (by rw [HRL.out]; exact (HPP.out x hx).2))).mono ?_
          rintro e w3 ⟨rfl, b3⟩
          obtain ⟨tn, htn⟩ : ∃ tn, tn = ps.any (nullP r) := ⟨_, rfl⟩
          rw [← htn]
          have HTN := Lib.hid htn
          clear htn
          have bq3 := HBQ.out.trans (b3.mono HBQ.out.size)
          have bw3 := hBr.trans (bq3.mono hBr.size)
          have bww3 := bwr.trans (bq3.mono bwr.size)
          cases tn
          · have X3 := HX2.out.below bq3 HX2.out.lt
            have y0 := X3.cell 0
            have y1 := X3.cell 1
            have y2 := (HQ.out.below b3 HQ.out.lt).cell 0
            simp at y0 y1 y2
            have k0 := cell_regrown y1
            have k1 := cell_regrown y2
            obtain ⟨fp, hfp⟩ : ∃ fp, fp = findP ps r (t.take k) := ⟨_, rfl⟩
            have hany := findP_ge ps r (t.take k)
            rw [← hfp] at hany
            have gF : ∀ dn os, Calls Tryd.prog 62 #[.slice (some p) k c, .slice rA r.length rc, .slice oA ps.length oc] (Go.Sort.grow (redrawn w3 dn) os) fun e w'' => e = .returned (.int .i64 fp) ∧ ∃ q : Regrown, w'' = Go.Sort.grow (redrawn w3 q.d) q.os := fun dn os => Calls.regrown_of (by
              have br := below_regrown w3 dn os
              rw [hfp]
              exact dfind_any _ _ _ (t.take k) r ps _ (RdE.next (RdF.stays valV 4) (RdE.take (RdE.next (RdF.stays valV 4) g0 bww3) hk2) br) (RdF.next (RdF.next (RdF.next hrd0 HBQ.out) b3) br) ((HRI.out.next bw3).next br) (fun x hx q hq => ⟨(HPP.out q hq).1, by rw [HA.out x hx]; exact (HPP.out q hq).2, by rw [HRL.out]; exact (HPP.out q hq).2⟩))
            have HFP := Lib.hid hfp; have HANY := Lib.hid hany
            have hcap : t.length ≤ c := g0.cap
            have hkc : k ≤ c := by omega
            clear hfp hany X3 y0 y1 y2 x2 x3
            go_wp2
            refine wp_region_quiet_below (by kernel_rfl) (by kernel_rfl) ?_
            repeat (go_big_quiet_step ((go_at_call 62; with_reducible exact gF _ _)))
            refine wpQuiet_nil ?_
            intro w9 hw9
            have bel : Below w3.heap.size w3 w9 := by obtain ⟨q, rfl⟩ := hw9; exact below_regrown _ q.d q.os
            clear hw9 gF k0 k1
            have bw9 := bw3.trans (bel.mono bw3.size)
            have bww9 := bww3.trans (bel.mono bww3.size)
            by_cases hf0 : 0 ≤ fp
            · have hy := HN.out
              have hh := HANY.out
              rw [decide_eq_true hf0] at hh
              rw [S2.out, rowF, if_neg (by simpa using HRL.out), ← HTN.out, if_neg (by simp), if_pos hh.symm] at hy
              subst hy
              have hf1 : ¬ fp < 0 := by omega
              clear hh
              go_wp2
              exact HR.out _ _ ⟨rfl, bww9⟩
            · have hn2 : rowF l.length ps t (k + 1) (t.drop (k + 1)) = Y := by
                have hy := HN.out
                have hh := HANY.out
                rw [decide_eq_false hf0] at hh
                rw [S2.out, rowF, if_neg (by simpa using HRL.out), ← HTN.out, if_neg (by simp), if_neg (by rw [← hh]; simp)] at hy
                exact hy
              have ha2 : ∀ x ∈ t.take (k + 1), x.length = l.length := by
                rw [S1.out]
                intro x hx
                rcases List.mem_append.1 hx with hx | hx
                · exact HA.out x hx
                · rw [List.mem_singleton.1 hx]; exact HRL.out
              have N2 := Lib.hid hn2; have A2 := Lib.hid ha2
              have hf1 : fp < 0 := by omega
              clear hn2 ha2
              go_wp2
              exact ⟨⟨k + 1, by omega, by go_num, N2.out, A2.out, bw9⟩, by simp [intOf]; omega⟩
          · have hy := HN.out
            rw [S2.out, rowF, if_neg (by simpa using HRL.out), ← HTN.out, if_pos rfl] at hy
            subst hy
            go_wp2
            exact HR.out _ _ ⟨rfl, bww3⟩
        · have dne : ((r.length : Int) != l.length) = true := by rw [bne_iff_ne]; omega
          have hy := HN.out
          rw [S2.out, rowF, if_pos hrl] at hy
          subst hy
          go_wp2
          exact HR.out _ _ ⟨rfl, bwr.alloc bwr.size _⟩
      · obtain rfl : k = t.length := by omega
        have hy := HN.out
        rw [List.drop_length, rowF] at hy
        subst hy
        go_wp2
        exact HR.out _ _ ⟨rfl, bwr⟩
  · have hy := HY.out
    rw [if_pos hp2] at hy
    subst hy
    have dc : ((P2 : Int) != 0) = true := by rw [bne_iff_ne]; omega
    go_wp2
    exact HR.out _ _ ⟨rfl, bw1⟩
end Go.Proofs.YtgiemhooeoakmaaDoor
