/- Layer 13, the reference: Pick. -/
import Derived.Test.YtamhdlopchhdjaaTabJ
namespace Go.Proofs.Ytamhdlopchhdjaa
open Go.RowKit Go.ChangeShapes Go.WideShapes
set_option linter.unusedVariables false
set_option linter.unusedSimpArgs false

set_option maxHeartbeats 2000000 in
theorem refPick_any (v u : Value) (t : Tbl) (ps : List Int) (w : World) (h : RdT w w.heap.size v t) (hp : RdI w w.heap.size u ps) (hb : t.length ≤ 100000) (hpl : ps.length ≤ 100000) :
    Calls Try.prog 22 #[v, u] w fun e w' => ∃ o, e = .returned (.tuple #[o, .int .i64 (pickC ps t).2.1, .int .i64 (pickC ps t).2.2]) ∧ TabOut w' w.heap.size o (pickC ps t).1 ∧ Below w.heap.size w w' := by
  refine cps fun R HR => ?_
  obtain ⟨i0, hi0, hz0, hz1, hz2⟩ := info_parts str_info
  obtain ⟨i1, hi1, hy0, hy1, hy2⟩ := info_parts row_info
  have h0 := h
  have hp0 := hp
  obtain ⟨A, c, vs, rfl, -, -⟩ := h.is
  obtain ⟨A', c', rfl, -⟩ := hp.is
  have hfew := h0.few
  clear h hp
  obtain ⟨Y, hY⟩ : ∃ Y, Y = pickC ps t := ⟨_, rfl⟩
  rw [← hY] at HR
  unfold pickC at hY
  have HY := Lib.hid hY
  clear hY
  go_enter Try.func22, Try.ntmps22
  go_wp2
  go_loopw [17] (fun i wr => ∃ k : Nat, k ≤ ps.length ∧ i = .int .i64 k ∧ negF (ps.take k) = false ∧ wr = w) (fun i _ => ps.length - (intOf i).toNat)
  case atStart => exact ⟨0, Nat.zero_le _, rfl, rfl, rfl⟩
  case round =>
    obtain ⟨k, hk, rfl, hN, rfl⟩ := hrel
    obtain ⟨w1, rfl⟩ : ∃ w1 : World, w1 = wr := ⟨_, rfl⟩
    have HN := Lib.hid hN; clear hN
    by_cases hlt : k < ps.length
    · obtain ⟨p3, c7, hv3, hc3⟩ := hp0.at hlt
      injection hv3 with hA _ hcc
      subst hA
      subst hcc
      have hs2 : negF (ps.take (k + 1)) = (negF (ps.take k) || decide (ps[k] < 0)) := by
        unfold negF
        rw [List.take_succ_eq_append_getElem hlt, List.any_append]
        simp
      have hs3 : ps[k] < 0 → negF ps = true := fun hh => by
        unfold negF
        rw [List.any_eq_true]
        exact ⟨ps[k], List.getElem_mem hlt, decide_eq_true hh⟩
      obtain ⟨q, hq⟩ : ∃ q, q = ps[k] := ⟨_, rfl⟩
      rw [← hq] at hc3 hs2 hs3
      have S2 := Lib.hid hs2; have S3 := Lib.hid hs3
      clear hq hs2 hs3
      have dk : decide ((k : Int) < ps.length) = true := decide_eq_true (by omega)
      by_cases hneg : q < 0
      · have hy := HY.out
        rw [S3.out hneg, if_pos rfl] at hy
        subst hy
        have d : decide (q < 0) = true := decide_eq_true hneg
        clear hneg
        go_wp2
        refine bodyPost_ret (v := .tuple #[.slice none 0 0, .int .i64 0, .int .i64 (22 : Nat)]) (by simp [results, Try.results22, go_sem]) rfl (HR.out _ _ ⟨_, rfl, TabOut.none_ _ _, Below.refl _ _⟩)
      · have HV := Lib.hid (show negF (ps.take (k + 1)) = false by rw [S2.out, HN.out, decide_eq_false hneg]; rfl)
        have d : decide (q < 0) = false := decide_eq_false hneg
        clear hneg
        go_wp2
        exact ⟨⟨k + 1, by omega, by go_num, HV.out, trivial⟩, by simp [intOf]; omega⟩
    · obtain rfl : k = ps.length := by omega
      have hn : negF ps = false := by have := HN.out; rw [List.take_length] at this; exact this
      clear hlt
      go_wp2
      have HY2 := Lib.hid (show Y = if allOk ps t then (t.map (pickRow ps), (t.length : Int), 0) else ([], idxB ps 0 t, 10) by rw [HY.out, hn]; rfl)
      have HNEG := Lib.hid hn
      clear hn HY
      go_loopw [9, 26] (fun o i wr => ∃ k : Nat, k ≤ t.length ∧ i = .int .i64 k ∧ allOk ps (t.take k) = true ∧ idxB ps k (t.drop k) = idxB ps 0 t ∧ TabOut wr w1.heap.size o ((t.take k).map (pickRow ps)) ∧ Below w1.heap.size w1 wr) (fun _ i _ => t.length - (intOf i).toNat)
      case atStart => exact ⟨0, Nat.zero_le _, rfl, rfl, rfl, TabOut.none_ _ _, Below.refl _ _⟩
      case round =>
        obtain ⟨k, hk, rfl, hA, hI, hO, hB⟩ := hrel
        have HA := Lib.hid hA; have HI := Lib.hid hI
        clear hA hI
        by_cases hlt : k < t.length
        · obtain ⟨w3, rfl⟩ : ∃ w3 : World, w3 = wr := ⟨_, rfl⟩
          obtain ⟨p, c3, x9, hv, hc, hu⟩ := (h0.next hB).at hlt
          injection hv with hA _ hcc
          subst hA
          subst hcc
          have hd : t.drop k = t[k] :: t.drop (k + 1) := List.drop_eq_getElem_cons hlt
          have ht1 : t.take (k + 1) = t.take k ++ [t[k]] := List.take_succ_eq_append_getElem hlt
          have hmem : allOk ps t = true → okRow ps t[k] = true := fun hh => List.all_eq_true.1 hh t[k] (List.getElem_mem hlt)
          obtain ⟨x, hx⟩ : ∃ x, x = t[k] := ⟨_, rfl⟩
          rw [← hx] at hu hd ht1 hmem
          have HD := Lib.hid hd; have HT := Lib.hid ht1; have HM := Lib.hid hmem
          clear hx hd ht1 hmem
          have hu0 := hu
          obtain ⟨A2, c2, rfl, -⟩ := hu.is
          have hxf := hu0.few
          clear hu
          have dk : decide ((k : Int) < t.length) = true := decide_eq_true (by omega)
          obtain ⟨tb, rfl⟩ : ∃ tb : Value, tb = u9 := ⟨_, rfl⟩
          go_wp2
          go_loopw [12, 33] (fun r j wr => ∃ m : Nat, m ≤ ps.length ∧ j = .int .i64 m ∧ okRow (ps.take m) x = true ∧ Own wr w3.heap.size 9 1 r m (strV (pickRow (ps.take m) x)) ∧ Below w3.heap.size w3 wr) (fun _ j _ => ps.length - (intOf j).toNat)
          case atStart => exact ⟨0, Nat.zero_le _, rfl, rfl, Own.nil_ _ _ _ _, Below.refl _ _⟩
          case round =>
            obtain ⟨m, hm, rfl, hK, hR, hB3⟩ := hrel
            have HK := Lib.hid hK; clear hK
            by_cases hlt2 : m < ps.length
            · obtain ⟨p3, c7, hv3, hc3⟩ := (hp0.next (hB.trans (hB3.mono hB.size))).at hlt2
              injection hv3 with hA _ hcc
              subst hA
              subst hcc
              have hk1 : okRow (ps.take (m + 1)) x = (okRow (ps.take m) x && decide (ps[m] < x.length)) := by
                unfold okRow
                rw [List.take_succ_eq_append_getElem hlt2, List.all_append]
                simp
              have hr1 := pickRow_take ps x hlt2
              have hq0 : 0 ≤ ps[m] := by
                have hh := HNEG.out
                unfold negF at hh
                rw [List.any_eq_false] at hh
                have := hh ps[m] (List.getElem_mem hlt2)
                simpa using this
              have hbad : okRow ps x = true → ps[m] < x.length := fun hh => by
                have := List.all_eq_true.1 hh ps[m] (List.getElem_mem hlt2)
                simpa using this
              obtain ⟨n, hn⟩ := Int.eq_ofNat_of_zero_le hq0
              rw [hn] at hc3 hk1 hr1 hbad
              rw [Int.toNat_natCast] at hr1
              have K1 := Lib.hid hk1; have R1 := Lib.hid hr1; have BAD := Lib.hid hbad
              clear hn hq0 hk1 hr1 hbad
              have dm : decide ((m : Int) < ps.length) = true := decide_eq_true (by omega)
              by_cases hnl : n < x.length
              · obtain ⟨p2, c4, hv2, hc2⟩ := (hu0.next hB3).at hnl
                injection hv2 with hA2 _ hcc2
                subst hA2
                subst hcc2
                have hcx : x.getD n ⟨#[]⟩ = x[n] := by rw [List.getD_eq_getElem?_getD, List.getElem?_eq_getElem hnl]; rfl
                obtain ⟨s, hs⟩ : ∃ s, s = x[n] := ⟨_, rfl⟩
                rw [← hs] at hc2 hcx
                have HX := Lib.hid hcx
                have HN1 := Lib.hid hnl
                clear hs hcx
                have hnI : (n : Int) < x.length := by omega
                go_wp2_with (at_builtin; refine wpList_push rfl _ _ _ rfl w3.heap.size 9 i0 _ 16 Try.underlying33 hi0 hz0 hz1 hz2 rfl (by omega) u12 m _ (.string s) rfl hR rfl rfl (by omega) hB3.size ?_; intro v5 w5 hown5 hg5 hat5)
                have ho2 : Own w5 w3.heap.size 9 1 v5 (m + 1) (strV (pickRow (ps.take (m + 1)) x)) := by rw [R1.out, strV_snoc, HX.out]; exact hown5
                have hk2 : okRow (ps.take (m + 1)) x = true := by rw [K1.out, HK.out, decide_eq_true (by have := HN1.out; omega)]; rfl
                have hb2 : Below w3.heap.size w3 w5 := below_grown hB3 hg5 (fun g hg => (hR.lt g hg).1) hB3.size
                exact ⟨⟨m + 1, by omega, by go_num, hk2, ho2, hb2⟩, by simp [intOf]; omega⟩
              · have hno : allOk ps t = false := by
                  rw [Bool.eq_false_iff]
                  intro hh
                  have := BAD.out (HM.out hh)
                  omega
                have hnr : okRow ps x = false := by
                  rw [Bool.eq_false_iff]
                  intro hh
                  have := BAD.out hh
                  omega
                have hy := HY2.out
                rw [hno, if_neg (by simp), ← HI.out, HD.out, idxB, if_neg (by rw [hnr]; simp)] at hy
                subst hy
                have d : x.length ≤ n := by omega
                have hb9 := hB.trans (hB3.mono hB.size)
                clear hno hnr
                go_wp2
                refine bodyPost_ret (v := .tuple #[.slice none 0 0, .int .i64 k, .int .i64 (10 : Nat)]) (by simp [results, Try.results22, go_sem]) rfl (HR.out _ _ ⟨_, rfl, TabOut.none_ _ _, hb9⟩)
            · obtain rfl : m = ps.length := by omega
              have hok : okRow ps x = true := by have := HK.out; rw [List.take_length] at this; exact this
              rw [List.take_length] at hR
              have ha2 : allOk ps (t.take (k + 1)) = true := by
                unfold allOk
                rw [HT.out, List.all_append]
                have := HA.out
                unfold allOk at this
                rw [this]
                simp [hok]
              have hi2 : idxB ps (k + 1) (t.drop (k + 1)) = idxB ps 0 t := by rw [← HI.out, HD.out, idxB, if_pos hok]
              have hm2 : (t.take (k + 1)).map (pickRow ps) = (t.take k).map (pickRow ps) ++ [pickRow ps x] := by rw [HT.out, List.map_append]; rfl
              have A2' := Lib.hid ha2; have I2 := Lib.hid hi2; have M2 := Lib.hid hm2
              clear ha2 hi2 hm2 hok hlt2
              have hb9 := hB.trans (hB3.mono hB.size)
              have hO2 := hO.keep hB3
              obtain ⟨vs2, ho3, he3⟩ := hO2.is
              have hkl : ((t.take k).map (pickRow ps)).length = k := by rw [List.length_map, List.length_take]; omega
              rw [hkl] at ho3
              have hrow : RdA wr tb.ownBlock u12 (pickRow ps x) := RdA.of_own hR (fun g hg => (hO.lt g hg).2)
              have hrow0 := hrow
              obtain ⟨rA, rc, rfl, -, -⟩ := hrow.is
              have dm : ¬ ps.length < ps.length := by omega
              go_wp2_with (at_builtin; refine wpList_push rfl _ _ _ rfl w1.heap.size 33 i1 _ 24 Try.underlying22 hi1 hy0 hy1 hy2 rfl (by omega) tb k _ (.slice rA (pickRow ps x).length rc) rfl ho3 rfl rfl (by omega) hb9.size ?_; intro v6 w6 hown6 hg6 hat6)
              have hn := TabOut.push (t := (t.take k).map (pickRow ps)) (by rw [hkl]; exact hown6) he3 hrow0 hg6 hat6
              rw [← M2.out] at hn
              exact ⟨⟨k + 1, by omega, by go_num, A2'.out, I2.out, hn, below_grown hb9 hg6 (fun g hg => (hO.lt g hg).1) hb9.size⟩, by simp [intOf]; omega⟩
        · obtain rfl : k = t.length := by omega
          have hall : allOk ps t = true := by have := HA.out; rw [List.take_length] at this; exact this
          have hy := HY2.out
          rw [hall, if_pos rfl] at hy
          subst hy
          rw [List.take_length] at hO
          clear hlt hall
          go_wp2
          refine bodyPost_ret (v := .tuple #[u9, .int .i64 t.length, .int .i64 (0 : Nat)]) (by simp [results, Try.results22, go_sem]) rfl (HR.out _ _ ⟨_, rfl, hO, hB⟩)
end Go.Proofs.Ytamhdlopchhdjaa
