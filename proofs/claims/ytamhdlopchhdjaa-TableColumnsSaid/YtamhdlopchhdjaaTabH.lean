/- Layer 13, the reference: Column, Turn; what turning twice makes. -/
import Derived.Test.YtamhdlopchhdjaaTabG
namespace Go.Proofs.Ytamhdlopchhdjaa
open Go.RowKit Go.ChangeShapes Go.WideShapes
set_option linter.unusedVariables false
set_option linter.unusedSimpArgs false

set_option maxHeartbeats 1000000 in
theorem refColumn_any (v : Value) (t : Tbl) (n : Nat) (w : World) (h : RdT w w.heap.size v t) (hH : hasF t n = true) (hb : t.length ≤ 100000) :
    Calls Try.prog 20 #[v, .int .i64 n] w fun e w' => ∃ u, e = .returned u ∧ Own w' w.heap.size 9 1 u t.length (strV (colF t n)) ∧ Below w.heap.size w w' := by
  refine cps fun R HR => ?_
  obtain ⟨i0, hi0, hz0, hz1, hz2⟩ := info_parts str_info
  have h0 := h
  obtain ⟨A, c, vs, rfl, -, -⟩ := h.is
  have HH := Lib.hid hH; clear hH
  go_enter Try.func20, Try.ntmps20
  go_wp2
  go_loopw [5, 10] (fun o i wr => ∃ k : Nat, k ≤ t.length ∧ i = .int .i64 k ∧ Own wr w.heap.size 9 1 o k (strV (colF (t.take k) n)) ∧ Below w.heap.size w wr) (fun _ i _ => t.length - (intOf i).toNat)
  case atStart => exact ⟨0, Nat.zero_le _, rfl, Own.nil_ _ _ _ _, Below.refl _ _⟩
  case round =>
    obtain ⟨k, hk, rfl, hO, hB⟩ := hrel
    by_cases hlt : k < t.length
    · obtain ⟨p, c3, u, hv, hc, hu⟩ := (h0.next hB).at hlt
      injection hv with hA _ hcc
      subst hA
      subst hcc
      have hs1 := colF_take t n hlt
      have hnl : n < t[k].length := by
        have := List.all_eq_true.1 HH.out t[k] (List.getElem_mem hlt)
        simpa using this
      obtain ⟨x, hx⟩ : ∃ x, x = t[k] := ⟨_, rfl⟩
      rw [← hx] at hu hs1 hnl
      have S1 := Lib.hid hs1
      clear hx hs1 h
      have dk : decide ((k : Int) < t.length) = true := decide_eq_true (by omega)
      have hu0 := hu
      obtain ⟨A2, c2, rfl, -⟩ := hu.is
      have hxf := hu0.few
      clear hu
      obtain ⟨p2, c4, hv2, hc2⟩ := hu0.at hnl
      injection hv2 with hA2 _ hcc2
      subst hA2
      subst hcc2
      have hcx : x.getD n ⟨#[]⟩ = x[n] := by rw [List.getD_eq_getElem?_getD, List.getElem?_eq_getElem hnl]; rfl
      obtain ⟨s, hs⟩ : ∃ s, s = x[n] := ⟨_, rfl⟩
      rw [← hs] at hc2 hcx
      have HX := Lib.hid hcx
      clear hs hcx
      have hnI : (n : Int) < x.length := by omega
      go_wp2_with (at_builtin; refine wpList_push rfl _ _ _ rfl w.heap.size 9 i0 _ 16 Try.underlying33 hi0 hz0 hz1 hz2 rfl (by omega) u5 k _ (.string s) rfl hO rfl rfl (by omega) hB.size ?_; intro v1 w1 hown1 hg1 hat1)
      have ho2 : Own w1 w.heap.size 9 1 v1 (k + 1) (strV (colF (t.take (k + 1)) n)) := by rw [S1.out, strV_snoc, HX.out]; exact hown1
      have hb2 : Below w.heap.size w w1 := below_grown hB hg1 (fun g hg => (hO.lt g hg).1) hB.size
      exact ⟨⟨k + 1, by omega, by go_num, ho2, hb2⟩, by simp [intOf]; omega⟩
    · obtain rfl : k = t.length := by omega
      rw [List.take_length] at hO
      clear hlt
      go_wp2
      exact HR.out _ _ ⟨_, rfl, hO, hB⟩

theorem even_most {t : Tbl} (he : evenF t = true) (hne : t ≠ []) : mostF t = (t.headD []).length := by
  unfold evenF at he
  rw [List.all_eq_true] at he
  obtain ⟨m1, m2, m3⟩ := most_ge_fold t 0
  have hm : mostF t = t.foldl (fun m x => max m x.length) 0 := rfl
  rw [← hm] at m1 m2 m3
  cases t with
  | nil => exact absurd rfl hne
  | cons a r =>
    have h1 := m2 a (by simp)
    show mostF (a :: r) = a.length
    rcases m3 with m3 | ⟨x, hx, m3⟩
    · omega
    · have h2 := he x hx
      rw [beq_iff_eq] at h2
      rw [m3]
      exact h2
set_option maxHeartbeats 1000000 in
theorem refTurn_any (v : Value) (t : Tbl) (w : World) (h : RdT w w.heap.size v t) (he : evenF t = true) (hb : t.length ≤ 100000) (hm : mostF t ≤ 100000) :
    Calls Try.prog 16 #[v] w fun e w' => ∃ u, e = .returned u ∧ TabOut w' w.heap.size u (turnT t) ∧ Below w.heap.size w w' := by
  refine cps fun R HR => ?_
  obtain ⟨i0, hi0, hz0, hz1, hz2⟩ := info_parts row_info
  have h0 := h
  obtain ⟨A, c, vs, rfl, -, -⟩ := h.is
  clear h
  have H1 := Lib.hid (show turnT t = colsF t (mostF t) by unfold turnT; rw [he]; rfl)
  go_enter Try.func16, Try.ntmps16
  by_cases hz : t = []
  · subst hz
    have H2 := Lib.hid (show turnT [] = [] by rfl)
    clear H1 he hm hb
    go_wp2
    exact HR.out _ _ ⟨_, rfl, by rw [H2.out]; exact TabOut.none_ _ _, Below.refl _ _⟩
  · have hM := even_most he hz
    have hlen : 0 < t.length := List.length_pos_iff.2 hz
    have hdl : ((t.length : Int) == 0) = false := by rw [beq_eq_false_iff_ne]; omega
    obtain ⟨p, c3, u, hv, hc, hu⟩ := h0.at hlen
    injection hv with hA _ hcc
    subst hA
    subst hcc
    have hhead : t[0].length = mostF t := by
      rw [hM]
      cases t with
      | nil => exact absurd rfl hz
      | cons a r => rfl
    obtain ⟨M, hMM⟩ : ∃ M, M = mostF t := ⟨_, rfl⟩
    rw [← hMM] at hm hhead
    obtain ⟨A2, c2, rfl, -⟩ := hu.is
    rw [hhead] at hc
    have hadd : p.add 0 = p := by simp [Addr.add]
    rw [hadd] at hc
    have hpl : p.block < w.heap.size := World.block_lt_of_cell? w _ hc
    have HE := Lib.hid he; have HM := Lib.hid hMM
    clear hu he hMM hM hz hhead
    go_wp2
    go_loopw [3, 4] (fun o i wr => ∃ k : Nat, k ≤ M ∧ i = .int .i64 k ∧ TabOut wr w.heap.size o (colsF t k) ∧ Below w.heap.size w wr) (fun _ i _ => M - (intOf i).toNat)
    case atStart => exact ⟨0, Nat.zero_le _, rfl, TabOut.none_ _ _, Below.refl _ _⟩
    case round =>
      obtain ⟨k, hk, rfl, hO, hB⟩ := hrel
      have hc' : wr.cell? p = some (.slice A2 M c2) := by rw [hB.cell (p := p) hpl]; exact hc
      by_cases hlt : k < M
      · have dk : decide ((k : Int) < M) = true := decide_eq_true (by omega)
        go_wp2_with fail
        refine (refColumn_any _ t k _ (h0.next hB) (even_has HE.out (by rw [← HM.out]; exact hlt)) hb).mono ?_
        rintro e w2 ⟨u, rfl, hown, b2⟩
        have hO2 := hO.keep b2
        have hu : RdA w2 u3.ownBlock u (colF t k) := RdA.of_own hown (fun g hg => (hO.lt g hg).2)
        have hb2 := hB.trans (b2.mono hB.size)
        obtain ⟨vs2, ho3, he3⟩ := hO2.is
        have hkl : (colsF t k).length = k := by simp [colsF]
        rw [hkl] at ho3
        have hu0 := hu
        obtain ⟨uA, uc, rfl, -, -⟩ := hu.is
        go_wp2_with (at_builtin; refine wpList_push rfl _ _ _ rfl w.heap.size 33 i0 _ 24 Try.underlying22 hi0 hz0 hz1 hz2 rfl (by omega) u3 k _ (.slice uA (colF t k).length uc) rfl ho3 rfl rfl (by omega) hb2.size ?_; intro v3 w3 hown3 hg3 hat3)
        have hn := TabOut.push (t := colsF t k) (by rw [hkl]; exact hown3) he3 hu0 hg3 hat3
        rw [← colsF_succ] at hn
        exact ⟨⟨k + 1, by omega, by go_num, hn, below_grown hb2 hg3 (fun g hg => (hO.lt g hg).1) hb2.size⟩, by simp [intOf]; omega⟩
      · obtain rfl : k = M := by omega
        clear hlt
        go_wp2
        exact HR.out _ _ ⟨_, rfl, by rw [H1.out, ← HM.out]; exact hO, hB⟩

theorem le_sum : ∀ {l : List Nat} {x : Nat}, x ∈ l → x ≤ l.sum
  | a :: l, x, h => by
    rw [List.sum_cons]
    rcases List.mem_cons.1 h with rfl | h
    · omega
    · have := le_sum h; omega
theorem most_le_tot (t : Tbl) : mostF t ≤ tot List.length t := by
  obtain ⟨m1, m2, m3⟩ := most_ge_fold t 0
  have hm : mostF t = t.foldl (fun m x => max m x.length) 0 := rfl
  rw [← hm] at m1 m2 m3
  rcases m3 with m3 | ⟨x, hx, m3⟩
  · omega
  · rw [m3]
    unfold tot
    exact le_sum (List.mem_map_of_mem hx)
/-- An even table with fields, turned: even, as many fields a record as there were records; turned again what it was. -/
theorem turn_twice {t : Tbl} (he : evenF t = true) (hm : 0 < mostF t) : evenF (turnT t) = true ∧ mostF (turnT t) = t.length ∧ turnT (turnT t) = t := by
  have h1 : turnT t = colsF t (mostF t) := by unfold turnT; rw [he]; rfl
  have hall : ∀ r ∈ turnT t, r.length = t.length := by
    rw [h1]
    intro r hr
    unfold colsF at hr
    obtain ⟨n, -, rfl⟩ := List.mem_map.1 hr
    exact colF_len t n
  have hne : turnT t ≠ [] := by
    intro hh
    have h2 : (turnT t).length = mostF t := by rw [h1]; simp [colsF]
    rw [hh] at h2
    simp at h2
    omega
  have hhd : (turnT t).headD [] ∈ turnT t := by
    cases hh : turnT t with
    | nil => exact absurd hh hne
    | cons a r => simp
  have he2 : evenF (turnT t) = true := by
    unfold evenF
    rw [List.all_eq_true]
    intro r hr
    rw [beq_iff_eq, hall r hr, hall _ hhd]
  have hm2 : mostF (turnT t) = t.length := by rw [even_most he2 hne, hall _ hhd]
  refine ⟨he2, hm2, ?_⟩
  have h3 : turnT (turnT t) = colsF (turnT t) (mostF (turnT t)) := by
    conv => lhs; rw [turnT]
    rw [he2]
    rfl
  rw [h3, hm2]
  have hev : ∀ r ∈ t, r.length = mostF t := fun r hr => by
    have hz : t ≠ [] := by rintro rfl; cases hr
    have := List.all_eq_true.1 he r hr
    rw [beq_iff_eq] at this
    rw [this, even_most he hz]
  apply List.ext_getElem (by simp [colsF])
  intro k hk1 hk2
  have e1 : (colsF (turnT t) t.length)[k] = colF (turnT t) k := by simp [colsF]
  rw [e1, h1]
  apply List.ext_getElem (by rw [colF_len, hev _ (List.getElem_mem hk2)]; simp [colsF])
  intro j hj1 hj2
  have e2 : (colF (colsF t (mostF t)) k)[j] = (colF t j).getD k ⟨#[]⟩ := by simp [colsF, colF]
  rw [e2, List.getD_eq_getElem?_getD]
  unfold colF
  rw [List.getElem?_map, List.getElem?_eq_getElem hk2]
  simp only [Option.map_some, Option.getD_some]
  rw [List.getD_eq_getElem?_getD, List.getElem?_eq_getElem hj2]
  rfl
end Go.Proofs.Ytamhdlopchhdjaa
