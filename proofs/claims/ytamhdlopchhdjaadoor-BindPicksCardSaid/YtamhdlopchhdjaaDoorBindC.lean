/- Layer 19, the reference: Bind; the document's example. -/
import Derived.Test.YtamhdlopchhdjaaDoorBindB
import Derived.Test.YtamhdlopchhdjaaDoorHeadF
namespace Go.Proofs.YtamhdlopchhdjaaDoor
open Go.RowKit Go.ChangeShapes Go.WideShapes
set_option linter.unusedVariables false
set_option linter.unusedSimpArgs false

set_option maxHeartbeats 4000000 in
set_option maxRecDepth 100000 in
theorem refBindC_any (v u : Value) (names : Row) (l : List Col) (mode : Int) (w : World) (h : RdS w w.heap.size v names) (hu : RdRC w w.heap.size u l) (hn : names.length ≤ 100000) (hl : l.length ≤ 100000)
    (hs : ∀ s ∈ names, s.size ≤ 100000) (hc : ∀ c ∈ l, c.name.size ≤ 100000) :
    Calls Tryd.prog 29 #[v, u, .int .i64 mode] w fun e w' => ∃ o, e = .returned (.tuple #[o, .int .i64 (bindF names l mode).2.1, .int .i64 (bindF names l mode).2.2]) ∧ Own w' w.heap.size 3 1 o (bindF names l mode).1.length (intV (bindF names l mode).1) ∧ Below w.heap.size w w' := by
  refine cps fun R HR => ?_
  obtain ⟨i0, hi0, hz0, hz1, hz2⟩ := info_parts int_info
  obtain ⟨Y, hY⟩ : ∃ Y, Y = bindF names l mode := ⟨_, rfl⟩
  rw [← hY] at HR
  unfold bindF at hY
  have HY := Lib.hid hY; have HS := Lib.hid hs; have HC := Lib.hid hc
  clear hY hs hc
  have h0 := h
  have hu0 := hu
  obtain ⟨A, c, rfl, -⟩ := h.is
  obtain ⟨A2, c2, rfl, -⟩ := hu.is
  have hfn := h0.few
  have hfl := RdF.few hu0
  clear h hu
  go_enter Tryd.func29, Tryd.ntmps29
  by_cases hm : mode < 1 ∨ 3 < mode
  · have hy := HY.out
    rw [if_pos hm] at hy
    subst hy
    rcases hm with hm | hm
    · have d1 : decide (mode < 1) = true := decide_eq_true hm
      clear hm
      go_wp2
      refine bodyPost_ret (v := .tuple #[.slice none 0 0, .int .i64 (0 : Nat), .int .i64 (22 : Nat)]) (by simp [results, Tryd.results29, go_sem]) rfl (HR.out _ _ ⟨_, rfl, Own.nil_ _ _ _ _, Below.refl _ _⟩)
    · have d1 : decide (mode < 1) = false := decide_eq_false (by omega)
      have d2 : decide (3 < mode) = true := decide_eq_true hm
      clear hm
      go_wp2
      refine bodyPost_ret (v := .tuple #[.slice none 0 0, .int .i64 (0 : Nat), .int .i64 (22 : Nat)]) (by simp [results, Tryd.results29, go_sem]) rfl (HR.out _ _ ⟨_, rfl, Own.nil_ _ _ _ _, Below.refl _ _⟩)
  · have d1 : decide (mode < 1) = false := decide_eq_false (by omega)
    have d2 : decide (3 < mode) = false := decide_eq_false (by omega)
    have hy2 := HY.out
    rw [if_neg hm] at hy2
    have HY2 := Lib.hid hy2
    clear HY hy2 hm
    obtain ⟨cn, hcn⟩ : ∃ cn, cn = chkC l := ⟨_, rfl⟩
    have HCN := Lib.hid hcn
    clear hcn
    go_wp2_with fail
    refine (refCheck_any _ l _ hu0 hl HC.out).mono ?_
    rintro e w1 ⟨rfl, b1⟩
    rw [← HCN.out]
    obtain ⟨cp, ce⟩ := cn
    by_cases hce : ce = 0
    · subst hce
      have hy3 := HY2.out
      rw [← HCN.out, if_neg (by simp)] at hy3
      have HY3 := Lib.hid hy3
      clear HY2 hy3
      obtain ⟨nn, hnn⟩ : ∃ nn, nn = newC names := ⟨_, rfl⟩
      have HNN := Lib.hid hnn
      clear hnn
      go_wp2_with fail
      refine (refNew_any _ names _ (h0.next b1) HS.out).mono ?_
      rintro e w2 ⟨rfl, b2⟩
      rw [← HNN.out]
      have bw2 := b1.trans (b2.mono b1.size)
      obtain ⟨np, ne⟩ := nn
      by_cases hne : ne = 0
      · subst hne
        have hy4 := HY3.out
        rw [← HNN.out, if_neg (by simp)] at hy4
        have HY4 := Lib.hid hy4
        clear HY3 hy4
        obtain ⟨L, hL⟩ : ∃ L, L = namesC l := ⟨_, rfl⟩
        have hLl : L.length = l.length := by rw [hL, namesC_len]
        rw [← hL] at HY4
        have HL := Lib.hid hL; have HLL := Lib.hid hLl
        clear hL hLl
        go_wp2
        go_loopw [13, 45] (fun o i wr => ∃ k : Nat, k ≤ l.length ∧ i = .int .i64 k ∧ allB names mode 0 (L.take k) = true ∧ badB names mode k (L.drop k) = badB names mode 0 L ∧ Own wr w2.heap.size 3 1 o k (intV (numsF names (L.take k))) ∧ Below w2.heap.size w2 wr) (fun _ i _ => l.length - (intOf i).toNat)
        case atStart => exact ⟨0, Nat.zero_le _, rfl, rfl, rfl, Own.nil_ _ _ _ _, Below.refl _ _⟩
        case round =>
          obtain ⟨k, hk, rfl, hA, hI, hO, hB⟩ := hrel
          have HA := Lib.hid hA; have HI := Lib.hid hI
          clear hA hI
          by_cases hlt : k < l.length
          · obtain ⟨a, c3, hv, q0, q1, q2⟩ := RdRC.at ((RdF.next hu0 bw2).below hB) hlt
            injection hv with hA _ hcc
            subst hA
            subst hcc
            have hltL : k < L.length := by rw [HLL.out]; exact hlt
            have hs0 : l[k].name = L[k] := by
              have := HL.out
              subst this
              exact (namesC_get hltL hlt).symm
            have hs1 : L.take (k + 1) = L.take k ++ [L[k]] := List.take_succ_eq_append_getElem hltL
            have hs2 : L.drop k = L[k] :: L.drop (k + 1) := List.drop_eq_getElem_cons hltL
            have hs3 := numsF_snoc names L hltL
            have hs4 : l[k].name.size ≤ 100000 := HC.out _ (List.getElem_mem hlt)
            have hs5 : allB names mode 0 L = true → okB names mode k L[k] = true := fun hh => by
              have := allB_ok names mode L 0 hh k hltL
              rw [Nat.zero_add] at this
              exact this
            obtain ⟨x, hx⟩ : ∃ x, x = l[k] := ⟨_, rfl⟩
            rw [← hx] at q0 q1 q2 hs0 hs4
            rw [← hs0] at hs1 hs2 hs3 hs5
            obtain ⟨xn, xk, xu⟩ := x
            have S1 := Lib.hid hs1; have S2 := Lib.hid hs2; have S3 := Lib.hid hs3; have S5 := Lib.hid hs5
            clear hx hs0 hs1 hs2 hs3 hs5
            have dk : decide ((k : Int) < l.length) = true := decide_eq_true (by omega)
            have hOw := hO.below ((Below.refl wr.heap.size wr).alloc (Nat.le_refl _) (.cells #[.string xn, .int .i64 xk, .int .i64 (nullI xu)] 80)) (Nat.le_refl _)
            have hBw := hB.alloc hB.size (.cells #[.string xn, .int .i64 xk, .int .i64 (nullI xu)] 80)
            obtain ⟨tw, htw⟩ : ∃ tw, tw = decide (xn ∈ names) := ⟨_, rfl⟩
            obtain ⟨ct, hct⟩ : ∃ ct, ct = atC names xn := ⟨_, rfl⟩
            have HTW := Lib.hid htw; have HCT := Lib.hid hct
            clear htw hct
            have hcase : (tw = true ∧ posF 0 names xn = (ct : Int)) ∨ (tw = false ∧ posF 0 names xn = -1) := by
              by_cases hin : xn ∈ names
              · left
                exact ⟨by rw [HTW.out, decide_eq_true hin], by rw [HCT.out, posF_in hin]⟩
              · right
                exact ⟨by rw [HTW.out, decide_eq_false hin], posF_none hin 0⟩
            have HCASE := Lib.hid hcase
            clear hcase
            go_wp2_with fail
            refine (refAt_any _ names xn _ ((h0.below bw2).below (hBw.mono bw2.size))).mono ?_
            rintro e w4 ⟨rfl, rfl⟩
            obtain ⟨ok, hok⟩ : ∃ ok, ok = okB names mode k xn := ⟨_, rfl⟩
            have HOK := Lib.hid hok
            unfold okB at hok
            rw [← HTW.out, ← HCT.out] at hok
            have dct : decide ((ct : Int) < 0) = false := decide_eq_false (by omega)
            cases tw
            · have hpos : posF 0 names xn = -1 := by
                rcases HCASE.out with h | h
                · cases h.1
                · exact h.2
              rw [hpos]
              clear hpos
              have hno : ok = false := by rw [hok]; rfl
              have hall : allB names mode 0 L = false := by
                rw [Bool.eq_false_iff]
                intro hh
                have := S5.out hh
                rw [← HOK.out, hno] at this
                cases this
              have hy := HY4.out
              rw [hall, if_pos rfl, ← HI.out, S2.out, badB, ← HOK.out, hno, if_neg (by simp)] at hy
              subst hy
              clear hno hall hok
              go_wp2
              refine bodyPost_ret (v := .tuple #[.slice none 0 0, .int .i64 k, .int .i64 (16 : Nat)]) (by simp [results, Tryd.results29, go_sem]) rfl (HR.out _ _ ⟨_, rfl, Own.nil_ _ _ _ _, bw2.trans (hBw.mono bw2.size)⟩)
            · have hpos : posF 0 names xn = (ct : Int) := by
                rcases HCASE.out with h | h
                · exact h.2
                · cases h.1
              rw [hpos]
              clear hpos
              by_cases hm1 : mode = 1 ∧ ct ≠ k
              · have hno : ok = false := by rw [hok, decide_eq_true hm1.1, decide_eq_false hm1.2]; rfl
                have hall : allB names mode 0 L = false := by
                  rw [Bool.eq_false_iff]
                  intro hh
                  have := S5.out hh
                  rw [← HOK.out, hno] at this
                  cases this
                have hy := HY4.out
                rw [hall, if_pos rfl, ← HI.out, S2.out, badB, ← HOK.out, hno, if_neg (by simp)] at hy
                subst hy
                obtain ⟨rfl, hm2⟩ := hm1
                have dm : ((ct : Int) != (k : Int)) = true := by rw [bne_iff_ne]; omega
                clear hno hall hok hm2
                go_wp2
                refine bodyPost_ret (v := .tuple #[.slice none 0 0, .int .i64 k, .int .i64 (16 : Nat)]) (by simp [results, Tryd.results29, go_sem]) rfl (HR.out _ _ ⟨_, rfl, Own.nil_ _ _ _ _, bw2.trans (hBw.mono bw2.size)⟩)
              · have hyes : ok = true := by
                  rw [hok]
                  by_cases h1 : mode = 1
                  · rw [decide_eq_true h1, decide_eq_true (show ct = k by omega)]; rfl
                  · rw [decide_eq_false h1]; rfl
                have ha2 : allB names mode 0 (L.take (k + 1)) = true := by
                  have hlk : (L.take k).length = k := by rw [List.length_take]; omega
                  rw [S1.out, allB_snoc, HA.out, hlk, Nat.zero_add, ← HOK.out, hyes]; rfl
                have hi2 : badB names mode (k + 1) (L.drop (k + 1)) = badB names mode 0 L := by rw [← HI.out, S2.out, badB, ← HOK.out, hyes, if_pos rfl]
                have A2 := Lib.hid ha2; have I2 := Lib.hid hi2
                clear ha2 hi2 hyes hok
                by_cases h1 : mode = 1
                · subst h1
                  have hck : ct = k := by omega
                  have dm : ((ct : Int) != (k : Int)) = false := by simp [hck]
                  clear hm1 hck
                  go_wp2_with (at_builtin; refine wpList_push rfl _ _ _ rfl w2.heap.size 3 i0 _ 8 Tryd.underlying37 hi0 hz0 hz1 hz2 rfl (by omega) u13 k _ (.int .i64 ct) rfl hOw (by simp [Act.eval]) rfl (by omega) hBw.size ?_; intro v5 w5 hown5 hg5 hat5)
                  exact ⟨⟨k + 1, by omega, by go_num, A2.out, I2.out, by rw [S3.out, intV_snoc, ← HCT.out]; exact hown5, below_grown hBw hg5 (fun g hg => (hO.lt g hg).1) hBw.size⟩, by simp [intOf]; omega⟩
                · have dm : (mode == 1) = false := by rw [beq_eq_false_iff_ne]; exact h1
                  clear hm1 h1
                  go_wp2_with (at_builtin; refine wpList_push rfl _ _ _ rfl w2.heap.size 3 i0 _ 8 Tryd.underlying37 hi0 hz0 hz1 hz2 rfl (by omega) u13 k _ (.int .i64 ct) rfl hOw (by simp [Act.eval]) rfl (by omega) hBw.size ?_; intro v5 w5 hown5 hg5 hat5)
                  exact ⟨⟨k + 1, by omega, by go_num, A2.out, I2.out, by rw [S3.out, intV_snoc, ← HCT.out]; exact hown5, below_grown hBw hg5 (fun g hg => (hO.lt g hg).1) hBw.size⟩, by simp [intOf]; omega⟩
          · obtain rfl : k = l.length := by omega
            have hall := HA.out
            have hLt : L.take l.length = L := by rw [← HLL.out, List.take_length]
            rw [hLt] at hall hO
            have hy5 := HY4.out
            rw [hall, if_neg (by simp)] at hy5
            have HY5 := Lib.hid hy5; have HALL := Lib.hid hall
            have hnl : (numsF names L).length = l.length := by unfold numsF; rw [List.length_map, HLL.out]
            have HNL := Lib.hid hnl
            obtain ⟨oA, oc, rfl, -⟩ := hO.form
            clear hlt hall hy5 hLt hnl
            by_cases h3 : mode = 3
            · subst h3
              have hy := HY5.out
              rw [if_neg (by simp)] at hy
              subst hy
              go_wp2
              refine bodyPost_ret (v := .tuple #[.slice oA l.length oc, .int .i64 l.length, .int .i64 (0 : Nat)]) (by simp [results, Tryd.results29, go_sem]) rfl (HR.out _ _ ⟨_, rfl, by rw [HNL.out]; exact hO.mono bw2.size, bw2.trans (hB.mono bw2.size)⟩)
            · have dm : decide (mode < 3) = true := decide_eq_true (by have := of_decide_eq_false d2; omega)
              have hr := RdI.of_own hO
              have H3 := Lib.hid h3
              clear h3
              obtain ⟨w4, rfl⟩ : ∃ w4 : World, w4 = wr := ⟨_, rfl⟩
              go_wp2
              go_loopw [75] (fun i wr => ∃ k : Nat, k ≤ names.length ∧ i = .int .i64 k ∧ allIn L (names.take k) = true ∧ misF L k (names.drop k) = misF L 0 names ∧ Below w4.heap.size w4 wr) (fun i _ => names.length - (intOf i).toNat)
              case atStart => exact ⟨0, Nat.zero_le _, rfl, rfl, rfl, Below.refl _ _⟩
              case round =>
                obtain ⟨k, hk, rfl, hA, hI, hB5⟩ := hrel
                have HA := Lib.hid hA; have HI := Lib.hid hI
                clear hA hI
                have bw4 := bw2.trans (hB.mono bw2.size)
                have bwr := bw4.trans (hB5.mono bw4.size)
                by_cases hlt : k < names.length
                · obtain ⟨p, c4, hv, hc⟩ := (h0.below bwr).at hlt
                  injection hv with hA _ hcc
                  subst hA
                  subst hcc
                  have hs1 := allIn_snoc L names hlt
                  have hs2 : names.drop k = names[k] :: names.drop (k + 1) := List.drop_eq_getElem_cons hlt
                  have hs5 : allIn L names = true → names[k] ∈ L := fun hh => allIn_mem hh (List.getElem_mem hlt)
                  obtain ⟨x, hx⟩ : ∃ x, x = names[k] := ⟨_, rfl⟩
                  rw [← hx] at hs1 hs2 hs5 hc
                  have S1 := Lib.hid hs1; have S2 := Lib.hid hs2; have S5 := Lib.hid hs5
                  clear hx hs1 hs2 hs5
                  have dk : decide ((k : Int) < names.length) = true := decide_eq_true (by omega)
                  go_wp2_with fail
                  refine (refNames_any _ l _ (RdF.next hu0 bwr) hl).mono ?_
                  rintro e w5 ⟨o5, rfl, ho5, b5⟩
                  have bw5 := hB5.trans (b5.mono hB5.size)
                  have bwf := bwr.trans (b5.mono bwr.size)
                  rw [← HL.out] at ho5
                  go_wp2_with fail
                  refine (refAt_any _ L x _ (RdS.of_own ho5)).mono ?_
                  rintro e w6 ⟨rfl, rfl⟩
                  by_cases hin : x ∈ L
                  · have ha2 : allIn L (names.take (k + 1)) = true := by rw [S1.out, HA.out, decide_eq_true hin]; rfl
                    have hi2 : misF L (k + 1) (names.drop (k + 1)) = misF L 0 names := by rw [← HI.out, S2.out, misF, if_pos hin]
                    have A2 := Lib.hid ha2; have I2 := Lib.hid hi2
                    rw [posF_in hin]
                    obtain ⟨cx, hcx⟩ : ∃ cx, cx = atC L x := ⟨_, rfl⟩
                    rw [← hcx]
                    have dcx : decide ((cx : Int) < 0) = false := decide_eq_false (by omega)
                    clear ha2 hi2 hcx hin ho5
                    go_wp2
                    exact ⟨⟨k + 1, by omega, by go_num, A2.out, I2.out, bw5⟩, by simp [intOf]; omega⟩
                  · have hno : allIn L names = false := by
                      rw [Bool.eq_false_iff]
                      intro hh
                      exact hin (S5.out hh)
                    have hy := HY5.out
                    rw [if_pos ⟨H3.out, hno⟩, ← HI.out, S2.out, misF, if_neg hin] at hy
                    subst hy
                    rw [posF_none hin]
                    clear hno hin ho5
                    go_wp2
                    refine bodyPost_ret (v := .tuple #[.slice none 0 0, .int .i64 k, .int .i64 (10 : Nat)]) (by simp [results, Tryd.results29, go_sem]) rfl (HR.out _ _ ⟨_, rfl, Own.nil_ _ _ _ _, bwf⟩)
                · obtain rfl : k = names.length := by omega
                  have hall := HA.out
                  rw [List.take_length] at hall
                  have hy := HY5.out
                  rw [if_neg (fun h => by rw [hall] at h; cases h.2)] at hy
                  subst hy
                  have hO5 := hO.below hB5 (Nat.le_refl _)
                  clear hlt hall
                  go_wp2
                  refine bodyPost_ret (v := .tuple #[.slice oA l.length oc, .int .i64 l.length, .int .i64 (0 : Nat)]) (by simp [results, Tryd.results29, go_sem]) rfl (HR.out _ _ ⟨_, rfl, by rw [HNL.out]; exact hO5.mono bw2.size, bwr⟩)
      · have hy := HY3.out
        rw [← HNN.out, if_pos hne] at hy
        subst hy
        have dc : ((ne : Int) != 0) = true := by rw [bne_iff_ne]; omega
        clear hne
        go_wp2
        refine bodyPost_ret (v := .tuple #[.slice none 0 0, .int .i64 np, .int .i64 ne]) (by simp [results, Tryd.results29, go_sem]) rfl (HR.out _ _ ⟨_, rfl, Own.nil_ _ _ _ _, bw2⟩)
    · have hy := HY2.out
      rw [← HCN.out, if_pos hce] at hy
      subst hy
      have dc : ((ce : Int) != 0) = true := by rw [bne_iff_ne]; omega
      clear hce
      go_wp2
      refine bodyPost_ret (v := .tuple #[.slice none 0 0, .int .i64 cp, .int .i64 ce]) (by simp [results, Tryd.results29, go_sem]) rfl (HR.out _ _ ⟨_, rfl, Own.nil_ _ _ _ _, b1⟩)
end Go.Proofs.YtamhdlopchhdjaaDoor
