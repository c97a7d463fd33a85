/- Layer 15: the reference's At, New; a head's Names, Len, At, Bind, Get; the reference's Bind. -/
import Derived.Test.YtamhdlopchhdjaaDoorHeadB
import Derived.Test.YtamhdlopchhdjaaDoorUtfM
import Derived.Test.YtamhdlopchhdjaaDoorIntQ
namespace Go.Proofs.YtamhdlopchhdjaaDoor
open Go.RowKit Go.ChangeShapes Go.WideShapes
set_option linter.unusedVariables false
set_option linter.unusedSimpArgs false

theorem refAt_any (v : Value) (l : Row) (s : ByteArray) (w : World) {B : Nat} (h : RdS w B v l) :
    Calls Tryd.prog 18 #[v, .string s] w fun e w' => e = .returned (.int .i64 (posF 0 l s)) ∧ w' = w := by
  refine cps fun R HR => ?_
  have h0 := h
  obtain ⟨A, c, rfl, -⟩ := h.is
  have hfew := h.few
  clear h
  go_enter Tryd.func18, Tryd.ntmps18
  go_wp2
  go_loopw [9] (fun i wr => ∃ k : Nat, k ≤ l.length ∧ i = .int .i64 k ∧ posF k (l.drop k) s = posF 0 l s ∧ wr = w) (fun i _ => l.length - (intOf i).toNat)
  case atStart => exact ⟨0, Nat.zero_le _, rfl, rfl, rfl⟩
  case round =>
    obtain ⟨k, hk, rfl, hN, rfl⟩ := hrel
    have HN := Lib.hid hN; clear hN
    by_cases hlt : k < l.length
    · obtain ⟨p, c3, hv, hcp⟩ := h0.at hlt
      injection hv with hA _ hcc
      subst hA
      subst hcc
      have hd : l.drop k = l[k] :: l.drop (k + 1) := List.drop_eq_getElem_cons hlt
      obtain ⟨x, hx⟩ : ∃ x, x = l[k] := ⟨_, rfl⟩
      rw [← hx] at hcp hd
      clear hx
      have dk : decide ((k : Int) < l.length) = true := decide_eq_true (by omega)
      by_cases hb : x = s
      · have HV := Lib.hid (show posF 0 l s = k by rw [← HN.out, hd, posF, if_pos hb])
        have d : (x.toList == s.toList) = true := by rw [str_eq]; exact decide_eq_true hb
        clear hd hb
        go_wp2
        exact HR.out _ _ ⟨by rw [HV.out], rfl⟩
      · have HV := Lib.hid (show posF (k + 1) (l.drop (k + 1)) s = posF 0 l s by rw [← HN.out, hd, posF, if_neg hb])
        have d : (x.toList == s.toList) = false := by rw [str_eq]; exact decide_eq_false hb
        clear hd hb
        go_wp2
        exact ⟨⟨k + 1, by omega, by go_num, HV.out, trivial⟩, by simp [intOf]; omega⟩
    · have hd : l.drop k = [] := List.drop_of_length_le (by omega)
      have HV := Lib.hid (show posF 0 l s = -1 by rw [← HN.out, hd, posF])
      clear hd
      go_wp2
      exact HR.out _ _ ⟨by rw [HV.out]; rfl, rfl⟩
theorem RdS.cap {w : World} {B c : Nat} {A : Option Addr} {n : Nat} {l : Row} (h : RdS w B (.slice A n c) l) : l.length ≤ c := by
  obtain ⟨A', c', h1, h2⟩ := h.is
  injection h1 with _ _ hc
  subst hc
  exact h2.cap
theorem posF_ge (l : Row) (s : ByteArray) : decide (0 ≤ posF 0 l s) = decide (s ∈ l) := by
  by_cases h : s ∈ l
  · have := posF_some h 0
    rw [decide_eq_true h, decide_eq_true (by omega)]
  · rw [posF_none h, decide_eq_false h]
    rfl
theorem posF_lt (l : Row) (s : ByteArray) : decide (posF 0 l s < 0) = !decide (s ∈ l) := by
  by_cases h : s ∈ l
  · have := posF_some h 0
    rw [decide_eq_true h, decide_eq_false (by omega)]
    rfl
  · rw [posF_none h, decide_eq_false h]
    rfl
set_option maxHeartbeats 1000000 in
theorem refNew_any (v : Value) (names : Row) (w : World) (h : RdS w w.heap.size v names) (hs : ∀ s ∈ names, s.size ≤ 100000) :
    Calls Tryd.prog 14 #[v] w fun e w' => e = .returned (.tuple #[.int .i64 (newC names).1, .int .i64 (newC names).2]) ∧ Below w.heap.size w w' := by
  refine cps fun R HR => ?_
  have h0 := h
  obtain ⟨A, c, rfl, -⟩ := h.is
  have hfew := h.few
  clear h
  obtain ⟨Y, hY⟩ : ∃ Y, Y = newC names := ⟨_, rfl⟩
  rw [← hY] at HR
  unfold newC at hY
  have HY := Lib.hid hY; have HS := Lib.hid hs
  clear hY hs
  go_enter Tryd.func14, Tryd.ntmps14
  by_cases hn : names = []
  · subst hn
    have hy2 := HY.out
    rw [if_pos rfl] at hy2
    subst hy2
    go_wp2
    exact HR.out _ _ ⟨rfl, Below.refl _ _⟩
  · have hpos : 0 < names.length := List.length_pos_iff.2 hn
    have d : ((names.length : Int) == 0) = false := by rw [beq_eq_false_iff_ne]; omega
    have HY2 := Lib.hid (show Y = newF 0 [] names by rw [HY.out, if_neg hn])
    clear HY hn
    go_wp2
    go_loopw [11] (fun i wr => ∃ k : Nat, k ≤ names.length ∧ i = .int .i64 k ∧ newF k (names.take k) (names.drop k) = Y ∧ Below w.heap.size w wr) (fun i _ => names.length - (intOf i).toNat)
    case atStart => exact ⟨0, Nat.zero_le _, rfl, HY2.out.symm, Below.refl _ _⟩
    case round =>
      obtain ⟨k, hk, rfl, hN, hB⟩ := hrel
      have HN := Lib.hid hN
      clear hN
      by_cases hlt : k < names.length
      · obtain ⟨p, c3, hv, hc⟩ := (h0.below hB).at hlt
        injection hv with hA _ hcc
        subst hA
        subst hcc
        have hs1 : names.take (k + 1) = names.take k ++ [names[k]] := List.take_succ_eq_append_getElem hlt
        have hs2 : names.drop k = names[k] :: names.drop (k + 1) := List.drop_eq_getElem_cons hlt
        have hs4 : names[k].size ≤ 100000 := HS.out _ (List.getElem_mem hlt)
        obtain ⟨x, hx⟩ : ∃ x, x = names[k] := ⟨_, rfl⟩
        rw [← hx] at hc hs1 hs2 hs4
        have S1 := Lib.hid hs1; have S2 := Lib.hid hs2
        clear hx hs1 hs2
        have dk : decide ((k : Int) < names.length) = true := decide_eq_true (by omega)
        have hwl := whole_len x.data.toList
        have hxl : x.data.toList.length = x.size := by rw [Array.length_toList]; rfl
        rw [hxl] at hwl
        obtain ⟨wl, hwl2⟩ : ∃ wl, wl = wholeR x.data.toList := ⟨_, rfl⟩
        have hval := valid_law x.data.toList
        rw [hxl] at hval
        rw [← hwl2] at hval hwl
        have HVAL := Lib.hid hval; have HWL := Lib.hid hwl2
        clear hval hwl2 hxl
        go_wp2_with fail
        refine (whole_any x _ (by unfold maxLen; omega)).mono ?_
        rintro e w2 ⟨rfl, b2⟩
        rw [← HWL.out]
        have hB2 := hB.trans (b2.mono hB.size)
        have hw2 : w.heap.size ≤ wr.heap.size := hB.size
        by_cases hlw : wl < x.size
        · have hy2 := HN.out
          rw [S2.out, newF, if_pos (by rw [HVAL.out]; exact decide_eq_false (by omega))] at hy2
          subst hy2
          have d2 : decide (wl < x.size) = true := decide_eq_true hlw
          have d3 : decide ((wl : Int) < x.size) = true := decide_eq_true (by omega)
          clear hlw
          go_wp2
          exact HR.out _ _ ⟨rfl, hB2⟩
        · have hge : ((wl : Int) < x.size) = False := by simp; omega
          have d2 : decide (wl < x.size) = false := decide_eq_false hlw
          have d3 : decide ((wl : Int) < x.size) = false := decide_eq_false (by omega)
          have HLW := Lib.hid hlw
          have hcap := h0.cap
          have hkc : k ≤ c := by omega
          have hc0 : ¬ c = 0 := by omega
          clear hlw hge
          go_wp2_with fail
          refine (refAt_any _ (names.take k) x _ ((h0.next hB2).take (by omega))).mono ?_
          rintro e w3 ⟨rfl, rfl⟩
          have dge := posF_ge (names.take k) x
          by_cases hin : x ∈ names.take k
          · have hy2 := HN.out
            rw [S2.out, newF, if_neg (by rw [HVAL.out, decide_eq_true (by have := HLW.out; omega)]; simp), if_pos hin] at hy2
            subst hy2
            rw [decide_eq_true hin] at dge
            clear hin
            go_wp2
            exact HR.out _ _ ⟨rfl, hB2⟩
          · have hn1 : newF (k + 1) (names.take (k + 1)) (names.drop (k + 1)) = Y := by
              have h := HN.out
              rw [S2.out, newF, if_neg (by rw [HVAL.out, decide_eq_true (by have := HLW.out; omega)]; simp), if_neg hin, ← S1.out] at h
              exact h
            have N1 := Lib.hid hn1
            rw [decide_eq_false hin] at dge
            clear hn1 hin
            go_wp2
            exact ⟨⟨k + 1, by omega, by go_num, N1.out, hB2⟩, by simp [intOf]; omega⟩
      · obtain rfl : k = names.length := by omega
        have hy2 := HN.out
        rw [List.drop_length, newF] at hy2
        subst hy2
        clear hlt
        go_wp2
        exact HR.out _ _ ⟨rfl, hB⟩
end Go.Proofs.YtamhdlopchhdjaaDoor
