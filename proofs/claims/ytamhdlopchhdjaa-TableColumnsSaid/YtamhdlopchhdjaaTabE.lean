/- Layer 13: Column. -/
import Derived.Test.YtamhdlopchhdjaaTabD
namespace Go.Proofs.Ytamhdlopchhdjaa
open Go.RowKit Go.ChangeShapes Go.WideShapes
set_option linter.unusedVariables false
set_option linter.unusedSimpArgs false

/-- Has each record a field of a number? -/
def hasF (t : Tbl) (n : Nat) : Bool := t.all fun r => decide (n < r.length)
def colF (t : Tbl) (n : Nat) : Row := t.map fun r => r.getD n ⟨#[]⟩
theorem colF_take (t : Tbl) (n : Nat) {k : Nat} (hk : k < t.length) : colF (t.take (k + 1)) n = colF (t.take k) n ++ [t[k].getD n ⟨#[]⟩] := by
  unfold colF
  rw [List.take_succ_eq_append_getElem hk, List.map_append]
  rfl
theorem colF_len (t : Tbl) (n : Nat) : (colF t n).length = t.length := by simp [colF]
/-- What Column tells: the error's number, the fields. -/
def colC (t : Tbl) (n : Int) : Nat × Row := if n < 0 then (22, []) else if hasF t n.toNat then (0, colF t n.toNat) else (10, [])
set_option maxHeartbeats 1000000 in
theorem column_any (v : Value) (t : Tbl) (n : Int) (w : World) (h : RdT w w.heap.size v t) (hn : (Lit.int .i64 n).wf = true) (hb : t.length ≤ 100000) :
    Calls Try.prog 17 #[v, .int .i64 n] w fun e w' => ∃ u, e = .returned (.tuple #[u, .int .i64 (colC t n).1]) ∧ Own w' w.heap.size 9 1 u (colC t n).2.length (strV (colC t n).2) ∧ Below w.heap.size w w' := by
  refine cps fun R HR => ?_
  obtain ⟨i0, hi0, hz0, hz1, hz2⟩ := info_parts str_info
  have h0 := h
  obtain ⟨A, c, vs, rfl, -, -⟩ := h.is
  go_enter Try.func17, Try.ntmps17
  by_cases hneg : n < 0
  · have hc : colC t n = (22, []) := by unfold colC; rw [if_pos hneg]
    have HC := Lib.hid hc; clear hc
    have d : decide (n < 0) = true := decide_eq_true hneg
    clear hneg
    go_wp2
    exact HR.out _ _ ⟨_, by rw [HC.out]; rfl, by rw [HC.out]; exact Own.nil_ _ _ _ _, Below.refl _ _⟩
  · have hcc : colC t n = if hasF t n.toNat then (0, colF t n.toNat) else (10, []) := by unfold colC; rw [if_neg hneg]
    obtain ⟨n, rfl⟩ := Int.eq_ofNat_of_zero_le (a := n) (by omega)
    rw [Int.toNat_natCast] at hcc
    have HCC := Lib.hid hcc; clear hcc
    have d : decide ((n : Int) < 0) = false := decide_eq_false (by omega)
    clear hneg hn
    go_wp2
    go_loopw [6, 13] (fun o i wr => ∃ k : Nat, k ≤ t.length ∧ i = .int .i64 k ∧ hasF (t.take k) n = true ∧ Own wr w.heap.size 9 1 o k (strV (colF (t.take k) n)) ∧ Below w.heap.size w wr) (fun _ i _ => t.length - (intOf i).toNat)
    case atStart => exact ⟨0, Nat.zero_le _, rfl, rfl, Own.nil_ _ _ _ _, Below.refl _ _⟩
    case round =>
      obtain ⟨k, hk, rfl, hH, hO, hB⟩ := hrel
      have HH := Lib.hid hH; clear hH
      by_cases hlt : k < t.length
      · obtain ⟨p, c3, u, hv, hc, hu⟩ := (h0.next hB).at hlt
        injection hv with hA _ hcc
        subst hA
        subst hcc
        have hs1 := colF_take t n hlt
        have hs2 : hasF (t.take (k + 1)) n = (hasF (t.take k) n && decide (n < t[k].length)) := by
          unfold hasF
          rw [List.take_succ_eq_append_getElem hlt, List.all_append]
          simp
        have hs3 : hasF t n = true → n < t[k].length := fun hh => by
          have := List.all_eq_true.1 hh t[k] (List.getElem_mem hlt)
          simpa using this
        obtain ⟨x, hx⟩ : ∃ x, x = t[k] := ⟨_, rfl⟩
        rw [← hx] at hu hs1 hs2 hs3
        have S1 := Lib.hid hs1; have S2 := Lib.hid hs2; have S3 := Lib.hid hs3
        clear hx hs1 hs2 hs3 h
        have dk : decide ((k : Int) < t.length) = true := decide_eq_true (by omega)
        have hu0 := hu
        obtain ⟨A2, c2, rfl, -⟩ := hu.is
        have hxf := hu0.few
        clear hu
        by_cases hnl : n < x.length
        · obtain ⟨p2, c4, hv2, hc2⟩ := hu0.at hnl
          injection hv2 with hA2 _ hcc2
          subst hA2
          subst hcc2
          have hcx : x.getD n ⟨#[]⟩ = x[n] := by rw [List.getD_eq_getElem?_getD, List.getElem?_eq_getElem hnl]; rfl
          obtain ⟨s, hs⟩ : ∃ s, s = x[n] := ⟨_, rfl⟩
          rw [← hs] at hc2 hcx
          have HX := Lib.hid hcx
          clear hs hcx
          have d2 : decide ((x.length : Int) ≤ (n : Int)) = false := decide_eq_false (by omega)
          have hnI : (n : Int) < x.length := by omega
          go_wp2_with (at_builtin; refine wpList_push rfl _ _ _ rfl w.heap.size 9 i0 _ 16 Try.underlying33 hi0 hz0 hz1 hz2 rfl (by omega) u6 k _ (.string s) rfl hO rfl rfl (by omega) hB.size ?_; intro v1 w1 hown1 hg1 hat1)
          have hh2 : hasF (t.take (k + 1)) n = true := by rw [S2.out, HH.out, decide_eq_true hnl]; rfl
          have ho2 : Own w1 w.heap.size 9 1 v1 (k + 1) (strV (colF (t.take (k + 1)) n)) := by rw [S1.out, strV_snoc, HX.out]; exact hown1
          have hb2 : Below w.heap.size w w1 := below_grown hB hg1 (fun g hg => (hO.lt g hg).1) hB.size
          exact ⟨⟨k + 1, by omega, by go_num, hh2, ho2, hb2⟩, by simp [intOf]; omega⟩
        · have hc : colC t n = (10, []) := by
            rw [HCC.out, if_neg]
            intro hh
            exact hnl (S3.out hh)
          have HC := Lib.hid hc; clear hc
          have d2 : x.length ≤ n := by omega
          clear hnl
          go_wp2
          exact HR.out _ _ ⟨_, by rw [HC.out]; rfl, by rw [HC.out]; exact Own.nil_ _ _ _ _, hB⟩
      · obtain rfl : k = t.length := by omega
        have hc : colC t n = (0, colF t n) := by
          have := HH.out
          rw [List.take_length] at this
          rw [HCC.out, if_pos this]
        have HC := Lib.hid hc; clear hc
        rw [List.take_length] at hO
        clear hlt
        go_wp2
        exact HR.out _ _ ⟨_, by rw [HC.out]; rfl, by rw [HC.out]; simp only [colF_len]; exact hO, hB⟩

/-- A table turned: its first so many columns. -/
def colsF (t : Tbl) (m : Nat) : Tbl := (List.range m).map (colF t)
theorem colsF_succ (t : Tbl) (m : Nat) : colsF t (m + 1) = colsF t m ++ [colF t m] := by simp [colsF, List.range_succ]
theorem even_has {t : Tbl} (he : evenF t = true) {n : Nat} (hn : n < mostF t) : hasF t n = true := by
  unfold evenF at he
  unfold hasF
  rw [List.all_eq_true] at he ⊢
  intro r hr
  obtain ⟨m1, m2, m3⟩ := most_ge_fold t 0
  have hm : mostF t = t.foldl (fun m x => max m x.length) 0 := rfl
  have h1 := he r hr
  rw [beq_iff_eq] at h1
  rw [decide_eq_true_iff]
  rcases m3 with m3 | ⟨x, hx, m3⟩
  · omega
  · have h2 := he x hx
    rw [beq_iff_eq] at h2
    omega
def turnT (t : Tbl) : Tbl := if evenF t then colsF t (mostF t) else []
def turnE (t : Tbl) : Nat := if evenF t then 0 else 10
set_option maxHeartbeats 1000000 in
theorem turn_any (v : Value) (t : Tbl) (w : World) (h : RdT w w.heap.size v t) (hb : t.length ≤ 100000) (hm : mostF t ≤ 100000) :
    Calls Try.prog 14 #[v] w fun e w' => ∃ u, e = .returned (.tuple #[u, .int .i64 (turnE t)]) ∧ TabOut w' w.heap.size u (turnT t) ∧ Below w.heap.size w w' := by
  refine cps fun R HR => ?_
  obtain ⟨i0, hi0, hz0, hz1, hz2⟩ := info_parts row_info
  go_enter Try.func14, Try.ntmps14
  go_wp2_with fail
  refine (widths_any v t _ h).mono ?_
  rintro e w1 ⟨rfl, rfl⟩
  have hei := even_iff t
  cases he : evenF t
  · rw [he] at hei
    have d : ((leastF t : Int) != (mostF t : Int)) = true := by rw [bne, hei]; rfl
    have H1 := Lib.hid (show turnT t = [] by unfold turnT; rw [he]; rfl)
    have H2 := Lib.hid (show turnE t = 10 by unfold turnE; rw [he]; rfl)
    clear hei he
    go_wp2
    exact HR.out _ _ ⟨_, by rw [H2.out]; rfl, by rw [H1.out]; exact TabOut.none_ _ _, Below.refl _ _⟩
  · rw [he] at hei
    have d : ((leastF t : Int) != (mostF t : Int)) = false := by rw [bne, hei]; rfl
    have H1 := Lib.hid (show turnT t = colsF t (mostF t) by unfold turnT; rw [he]; rfl)
    have H2 := Lib.hid (show turnE t = 0 by unfold turnE; rw [he]; rfl)
    have HE := Lib.hid he
    clear hei he
    obtain ⟨M, hM⟩ : ∃ M, M = mostF t := ⟨_, rfl⟩
    rw [← hM] at hm d ⊢
    have HM := Lib.hid hM; clear hM
    go_wp2

    go_loopw [6, 19] (fun o i wr => ∃ k : Nat, k ≤ M ∧ i = .int .i64 k ∧ TabOut wr w1.heap.size o (colsF t k) ∧ Below w1.heap.size w1 wr) (fun _ i _ => M - (intOf i).toNat)
    case atStart => exact ⟨0, Nat.zero_le _, rfl, TabOut.none_ _ _, Below.refl _ _⟩
    case round =>
      obtain ⟨k, hk, rfl, hO, hB⟩ := hrel
      by_cases hlt : k < M
      · have dk : decide ((k : Int) < M) = true := decide_eq_true (by omega)
        have hcc : colC t k = (0, colF t k) := by
          unfold colC
          rw [if_neg (by omega), Int.toNat_natCast, if_pos (even_has HE.out (by rw [← HM.out]; exact hlt))]
        have HC := Lib.hid hcc; clear hcc
        go_wp2_with fail
        refine (column_any v t k _ (h.next hB) (by simp [Lit.wf, IntKind.min, IntKind.max, IntKind.signed, IntKind.bits]; omega) hb).mono ?_
        rintro e w2 ⟨u, rfl, hown, b2⟩
        rw [HC.out] at hown ⊢
        simp only at hown ⊢
        have hO2 := hO.keep b2
        have hu : RdA w2 u6.ownBlock u (colF t k) := RdA.of_own hown (fun g hg => (hO.lt g hg).2)
        have hb2 := hB.trans (b2.mono hB.size)
        obtain ⟨vs2, ho3, he3⟩ := hO2.is
        have hkl : (colsF t k).length = k := by simp [colsF]
        rw [hkl] at ho3
        have hu0 := hu
        obtain ⟨uA, uc, rfl, -, -⟩ := hu.is
        go_wp2_with (at_builtin; refine wpList_push rfl _ _ _ rfl w1.heap.size 33 i0 _ 24 Try.underlying22 hi0 hz0 hz1 hz2 rfl (by omega) u6 k _ (.slice uA (colF t k).length uc) rfl ho3 rfl rfl (by omega) hb2.size ?_; intro v3 w3 hown3 hg3 hat3)
        have hn := TabOut.push (t := colsF t k) (by rw [hkl]; exact hown3) he3 hu0 hg3 hat3
        rw [← colsF_succ] at hn
        exact ⟨⟨k + 1, by omega, by go_num, hn, below_grown hb2 hg3 (fun g hg => (hO.lt g hg).1) hb2.size⟩, by simp [intOf]; omega⟩
      · obtain rfl : k = M := by omega
        clear hlt
        go_wp2
        exact HR.out _ _ ⟨_, by rw [H2.out]; rfl, by rw [H1.out, ← HM.out]; exact hO, hB⟩
end Go.Proofs.Ytamhdlopchhdjaa
